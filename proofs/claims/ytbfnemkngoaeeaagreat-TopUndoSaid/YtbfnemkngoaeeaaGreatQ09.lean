/- Proved here: The project that a tape gives is valid. -/
import Derived.Test.YtbfnemkngoaeeaaGreatQ08
set_option linter.unusedSimpArgs false
set_option linter.unusedVariables false
set_option linter.unnecessarySimpa false
namespace Go.Proofs.YtbfnemkngoaeeaaGreat
open Go.RowKit
set_option maxRecDepth 4000
structure SrcIn (m s:Int) (x:SourceR):Prop where
 m1:x.kind=1 → ∃ i:Nat,(i:Int)<m∧x.name=cX ⟨#[109]⟩ i
 s2:x.kind=2 → ∃ i:Nat,(i:Int)<s∧x.name=cX ⟨#[115]⟩ i
theorem aLz (m s:Int):SrcIn m s zSource:=⟨fun h=>absurd h (by decide),fun h=>absurd h (by decide)⟩
theorem qG (L:List Int) (k:Nat) (m s:Int) (hm:m≤9) (hs:s≤9):SrcIn m s (bG L k m s).1:=by
 unfold bG;split
 ·exact aLz m s
 ·split
  ·rename_i h1;simp only [Bool.and_eq_true,decide_eq_true_eq] at h1;have:=aD (L:=L) (k:=k+5) (n:=s) (by omega);exact ⟨fun h=>(by simp at h),fun _=>⟨(aB L (k+5) s).toNat,by omega,by simp only;rw [Int.toNat_of_nonneg this.1]⟩⟩
  ·split
   ·rename_i h1;have:=aD (L:=L) (k:=k+5) (n:=m) (by omega);exact ⟨fun _=>⟨(aB L (k+5) m).toNat,by omega,by simp only;rw [Int.toNat_of_nonneg this.1]⟩,fun h=>(by simp at h)⟩
   ·exact aLz m s
structure VidOk (m s:Int) (c:ClipR):Prop where
 a:SrcIn m s c.a
 b:SrcIn m s c.b
 sil:mZ c=true
theorem Rx (L:List Int) (k:Nat) (m s:Int) (hm:m≤9) (hs:s≤9):VidOk m s (bQ L k m s).1:=by
 have h1:=qG L (k+2) m s hm hs;have h2:=qG L (bG L (k+2) m s).2 m s hm hs;have z:=aLz m s;unfold bQ;simp only;split
 ·exact ⟨z,z,rfl⟩
 ·split
  ·split<;>exact ⟨h1,h2,rfl⟩
  ·split
   ·exact ⟨h1,h2,rfl⟩
   ·split<;>exact ⟨h1,z,rfl⟩
theorem aKs {m s:Int} {c:ClipR} (h:VidOk m s c) (n:Int):VidOk m s (eZ c n):=⟨⟨h.a.m1,h.a.s2⟩,h.b,h.sil⟩
theorem aAn (L:List Int) (k:Nat) (m s:Int) (hm:m≤9) (hs:s≤9):∀ c∈(dK L k m s).1,VidOk m s c:=by
 have h1:=Rx L k m s hm hs;unfold dK;split
 ·split
  ·intro c hc;simp only [List.mem_cons,List.not_mem_nil,or_false] at hc;rcases hc with rfl | rfl
   ·exact h1
   ·exact aKs h1 _
  ·intro c hc;simp only [List.mem_cons,List.not_mem_nil,or_false] at hc;rw [hc];exact h1
 ·intro c hc;simp only [List.mem_cons,List.not_mem_nil,or_false] at hc;rw [hc];exact h1
theorem Fh (L:List Int) (m s:Int) (hm:m≤9) (hs:s≤9):∀ (n k:Nat), ∀ c∈(jK L m s n k).1,VidOk m s c
 | 0,k=>fun c hc=>by simp [jK] at hc
 | n+1,k=>fun c hc=>by
  simp only [jK] at hc;rcases List.mem_append.1 hc with hc | hc
  ·exact aAn L k m s hm hs c hc
  ·exact Fh L m s hm hs n _ c hc
structure SndOk (m s ch:Int) (c:ClipR):Prop where
 a:SrcIn m s c.a
 b:SrcIn m s c.b
 ok:aN c=true
 aud:Cv ch c=true
 l9:c.len≤9
theorem uF {x:SourceR} (h:aY x=true):aY (fW x)=true:=by
 unfold aY at h ⊢;rw [Bool.or_eq_true] at h ⊢;rcases h with h | h
 ·refine .inl ?_;unfold SourceR.isZ SourceR.eqb at h ⊢;simp only [Bool.and_eq_true] at h ⊢;exact ⟨h.1,rfl⟩
 ·exact .inr h
theorem Nn {m s:Int} {x:SourceR} (h:SrcIn m s x):SrcIn m s (fW x):=⟨h.m1,h.s2⟩
theorem Ap (i:Nat) : 0≤sGains.getD i 0∧sGains.getD i 0≤65536:=by
 rcases i with _ | _ | _ | _ | _ | _ | i<;>simp [sGains]
theorem snd0 {m s ch len:Int} (hl : 1≤len∧len≤9):SndOk m s ch ⟨len,0,zSource,zSource,0,0,0,⟨#[]⟩,0,[]⟩:=by
 have ez:zSource.isZ=true:=Ez;refine ⟨aLz m s,aLz m s,?_,rfl,hl.2⟩;unfold aN pR;simp only [Uc,decide_eq_true hl.1,decide_eq_true (by omega:len≤2147483647),Bool.and_true];simp [cF,eN,emp,ez,fU]
theorem snd1 {m s ch len g:Int} {C:List Int} {a:SourceR} (hl : 1≤len∧len≤9) (hg : 0≤g∧g≤65536) (hC:fU C=true) (va:aY a=true) (ia:SrcIn m s a) (hc:(C.length:Int)=ch):SndOk m s ch ⟨len,1,fW a,zSource,0,0,0,⟨#[]⟩,g,C⟩:=by
 have ez:zSource.isZ=true:=Ez;refine ⟨Nn ia,aLz m s,?_,?_,hl.2⟩
 ·unfold aN pR;simp only [Uc,uF va,hC,decide_eq_true hl.1,decide_eq_true (by omega:len≤2147483647),decide_eq_true hg.1,decide_eq_true hg.2,Bool.and_true];simp [cF,eN,emp,ez]
 ·unfold Cv;simp [fW,hc]
theorem snd2 {m s ch len g o t:Int} {C:List Int} {a b:SourceR} (hl : 1≤len∧len≤9) (hg : 0≤g∧g≤65536) (hC:fU C=true) (va:aY a=true) (vb:aY b=true) (ia:SrcIn m s a) (ib:SrcIn m s b) (hc:(C.length:Int)=ch) (h0 : 0≤o) (h1:o+len≤t) (h2:t≤1000):SndOk m s ch ⟨len,2,fW a,fW b,o,t,0,⟨#[]⟩,g,C⟩:=by
 refine ⟨Nn ia,Nn ib,?_,?_,hl.2⟩
 ·unfold aN pR;simp only [uF vb,uF va,hC,decide_eq_true hl.1,decide_eq_true (by omega:len≤2147483647),decide_eq_true hg.1,decide_eq_true hg.2,Bool.and_true];simp [cF,fE,emp];omega
 ·unfold Cv;simp [fW,hc]
theorem Xy (L:List Int) (k:Nat) (m s:Int) (hm:m≤9) (hs:s≤9):SndOk m s 0 (fP L k m s).1:=by
 have n9:=aD (L:=L) (k:=k) (n:=9) (by omega);have n4:=aD (L:=L) (k:=k+1) (n:=4) (by omega);obtain ⟨kd,hkd⟩:∃ kd,sKinds.getD (aB L (k+1) 4).toNat 0=kd:=⟨_,rfl⟩
 have hk5:kd=0∨kd=1∨kd=2:=by
  have:(aB L (k+1) 4).toNat=0∨(aB L (k+1) 4).toNat=1∨(aB L (k+1) 4).toNat=2∨(aB L (k+1) 4).toNat=3:=by omega
  unfold sKinds at hkd;rcases this with h | h | h | h<;>rw [h] at hkd<;>simp at hkd<;>omega
 obtain ⟨len,hlen⟩:∃ len,1+aB L k 9=len:=⟨_,rfl⟩
 have hl : 1≤len∧len≤9:=by omega
 have va:=(fL L (k+2) m s hm hs).1;have vb:=(fL L (bG L (k+2) m s).2 m s hm hs).1;have ia:=qG L (k+2) m s hm hs;have ib:=qG L (bG L (k+2) m s).2 m s hm hs;generalize ha:bG L (k+2) m s=a at va vb ia ib;generalize hb:bG L a.2 m s=b at vb ib;have o3:=aD (L:=L) (k:=b.2) (n:=3) (by omega);have p3:=aD (L:=L) (k:=b.2+1) (n:=3) (by omega);unfold fP;simp only [hkd,hlen,ha,hb];rcases hk5 with rfl | rfl | rfl
 ·exact snd0 hl
 ·refine snd1 hl (Ap _) ?_ va ia ?_
  ·simp [fU]<;>(have := @aD L (a.2+1) 4 (by omega);have := @aD L (a.2+2) 4 (by omega);omega)
  ·rfl
 ·refine snd2 hl (Ap _) ?_ va vb ia ib ?_ (by omega) (by omega) (by omega)
  ·simp [fU]<;>(have := @aD L (b.2+3) 4 (by omega);have := @aD L (b.2+4) 4 (by omega);omega)
  ·rfl
theorem Xw (L:List Int) (k:Nat) (m s:Int) (hm:m≤9) (hs:s≤9):SndOk m s 1 (fN L k m s).1:=by
 have n9:=aD (L:=L) (k:=k) (n:=9) (by omega);have n4:=aD (L:=L) (k:=k+1) (n:=4) (by omega);obtain ⟨kd,hkd⟩:∃ kd,sKinds.getD (aB L (k+1) 4).toNat 0=kd:=⟨_,rfl⟩
 have hk5:kd=0∨kd=1∨kd=2:=by
  have:(aB L (k+1) 4).toNat=0∨(aB L (k+1) 4).toNat=1∨(aB L (k+1) 4).toNat=2∨(aB L (k+1) 4).toNat=3:=by omega
  unfold sKinds at hkd;rcases this with h | h | h | h<;>rw [h] at hkd<;>simp at hkd<;>omega
 obtain ⟨len,hlen⟩:∃ len,1+aB L k 9=len:=⟨_,rfl⟩
 have hl : 1≤len∧len≤9:=by omega
 have va:=(fL L (k+2) m s hm hs).1;have vb:=(fL L (bG L (k+2) m s).2 m s hm hs).1;have ia:=qG L (k+2) m s hm hs;have ib:=qG L (bG L (k+2) m s).2 m s hm hs;generalize ha:bG L (k+2) m s=a at va vb ia ib;generalize hb:bG L a.2 m s=b at vb ib;have o3:=aD (L:=L) (k:=b.2) (n:=3) (by omega);have p3:=aD (L:=L) (k:=b.2+1) (n:=3) (by omega);unfold fN;simp only [hkd,hlen,ha,hb];rcases hk5 with rfl | rfl | rfl
 ·exact snd0 hl
 ·refine snd1 hl (Ap _) ?_ va ia ?_
  ·simp [fU]<;>(have := @aD L (a.2+1) 4 (by omega);have := @aD L (a.2+2) 4 (by omega);omega)
  ·rfl
 ·refine snd2 hl (Ap _) ?_ va vb ia ib ?_ (by omega) (by omega) (by omega)
  ·simp [fU]<;>(have := @aD L (b.2+3) 4 (by omega);have := @aD L (b.2+4) 4 (by omega);omega)
  ·rfl
theorem aB1 (L:List Int) (k:Nat) (m s:Int) (hm:m≤9) (hs:s≤9):SndOk m s 2 (jA L k m s).1:=by
 have n9:=aD (L:=L) (k:=k) (n:=9) (by omega);have n4:=aD (L:=L) (k:=k+1) (n:=4) (by omega);obtain ⟨kd,hkd⟩:∃ kd,sKinds.getD (aB L (k+1) 4).toNat 0=kd:=⟨_,rfl⟩
 have hk5:kd=0∨kd=1∨kd=2:=by
  have:(aB L (k+1) 4).toNat=0∨(aB L (k+1) 4).toNat=1∨(aB L (k+1) 4).toNat=2∨(aB L (k+1) 4).toNat=3:=by omega
  unfold sKinds at hkd;rcases this with h | h | h | h<;>rw [h] at hkd<;>simp at hkd<;>omega
 obtain ⟨len,hlen⟩:∃ len,1+aB L k 9=len:=⟨_,rfl⟩
 have hl : 1≤len∧len≤9:=by omega
 have va:=(fL L (k+2) m s hm hs).1;have vb:=(fL L (bG L (k+2) m s).2 m s hm hs).1;have ia:=qG L (k+2) m s hm hs;have ib:=qG L (bG L (k+2) m s).2 m s hm hs;generalize ha:bG L (k+2) m s=a at va vb ia ib;generalize hb:bG L a.2 m s=b at vb ib;have o3:=aD (L:=L) (k:=b.2) (n:=3) (by omega);have p3:=aD (L:=L) (k:=b.2+1) (n:=3) (by omega);unfold jA;simp only [hkd,hlen,ha,hb];rcases hk5 with rfl | rfl | rfl
 ·exact snd0 hl
 ·refine snd1 hl (Ap _) ?_ va ia ?_
  ·simp [fU]<;>(have := @aD L (a.2+1) 4 (by omega);have := @aD L (a.2+2) 4 (by omega);omega)
  ·rfl
 ·refine snd2 hl (Ap _) ?_ va vb ia ib ?_ (by omega) (by omega) (by omega)
  ·simp [fU]<;>(have := @aD L (b.2+3) 4 (by omega);have := @aD L (b.2+4) 4 (by omega);omega)
  ·rfl
theorem aEg (L:List Int) (k:Nat) (m s ch:Int) (hm:m≤9) (hs:s≤9) (hc : 0≤ch∧ch≤2):SndOk m s ch (mX L k m s ch).1:=by
 unfold mX;split
 ·rename_i h;subst h;exact Xy L k m s hm hs
 ·split
  ·rename_i h;subst h;exact Xw L k m s hm hs
  ·have:ch=2:=by omega
   subst this;exact aB1 L k m s hm hs
theorem aS3:((List.range 4).all fun i=>nU (cueLines.getD i ⟨#[]⟩))=true:=by kernel_rfl
theorem Wu (L:List Int) (k:Nat):nU (Rr L k)=true:=by
 have t:=aD (L:=L) (k:=k) (n:=4) (by omega);exact List.all_eq_true.1 aS3 _ (List.mem_range.2 (by omega))
theorem aS4 (L:List Int) (k:Nat):Fc (nP L k).1=true∧(nP L k).1.fit:=by
 have t50:=aD (L:=L) (k:=k) (n:=50) (by omega);have t20:=aD (L:=L) (k:=k+1) (n:=20) (by omega);have l3:=Wu L (k+3);have l4:=Wu L (k+4);unfold nP;split
 ·refine ⟨?_,bL (by simp only;omega) (by simp only;omega),bL (by simp only;omega) (by simp only;omega)⟩;simp [Fc,Wt,l3];omega
 ·refine ⟨?_,bL (by simp only;omega) (by simp only;omega),bL (by simp only;omega) (by simp only;omega)⟩;simp [Fc,Wt,l3,l4];omega
theorem Gr (L:List Int):∀ (n k:Nat),(eV L n k).1.length=n ∧ ∀ c∈(eV L n k).1,Fc c=true∧c.fit
 | 0,k=>⟨rfl,fun c hc=>by cases hc⟩
 | n+1,k=>by
  obtain ⟨h1,h2⟩:=Gr L n (nP L k).2;refine ⟨by simp only [eV,List.length_cons,h1],fun c hc=>?_⟩;simp only [eV] at hc;rcases List.mem_cons.1 hc with rfl | hc
  ·exact aS4 L k
  ·exact h2 c hc
theorem aBs (L:List Int) (k:Nat):Nh (mJ L k)=true∧(mJ L k).fit:=by
 have t:=aD (L:=L) (k:=k) (n:=3) (by omega);have:(aB L k 3).toNat=0∨(aB L k 3).toNat=1∨(aB L k 3).toNat=2:=by omega
 unfold mJ;rcases this with h | h | h<;>rw [h]
 ·exact ⟨by decide,bL (by decide) (by decide),bL (by decide) (by decide)⟩
 ·exact ⟨by decide,bL (by decide) (by decide),bL (by decide) (by decide)⟩
 ·exact ⟨by decide,bL (by decide) (by decide),bL (by decide) (by decide)⟩
structure MedGood (i:Nat) (y:MediumR):Prop where
 name:y.name=cX ⟨#[109]⟩ i
 ok:fF y=true
 fit:y.fit
 small:gC y=true
theorem aF5 (L:List Int) (i k:Nat) (hi:i<9):MedGood i (sL L i k).1:=by
 obtain ⟨c1,c2⟩:=Gr L (aB L (k+5) 3).toNat (k+6);obtain ⟨r1,r2⟩:=aBs L (k+1);have t40:=aD (L:=L) (k:=k+2) (n:=40) (by omega);have t3:=aD (L:=L) (k:=k+3) (n:=3) (by omega);have ts:=aD (L:=L) (k:=k+4) (n:=20000) (by omega);have tc:=aD (L:=L) (k:=k+5) (n:=3) (by omega);have i16:I64 16:=bL (by decide) (by decide);have i4:I64 400000:=bL (by decide) (by decide);refine ⟨rfl,?_,⟨⟨i16,i16,r2,i4,i4⟩,bL (by simp only [sL];omega) (by simp only [sL];omega),bL (by simp only [sL];omega) (by simp only [sL];omega),bL (by simp only [sL];omega) (by simp only [sL];omega),fun c hc=>(c2 c hc).2⟩,?_⟩
 ·have e1:dS (cX ⟨#[109]⟩ (i:Int))=true:=(zP (i:Int) (by omega) (by omega)).2;have e2:Cs (eV L (aB L (k+5) 3).toNat (k+6)).1=true:=List.all_eq_true.2 fun c hc=>(c2 c hc).1
  unfold fF Kx Ct;simp only [sL,Wg,e1,e2,r1,Bool.and_true,Bool.true_and,Bool.and_eq_true];exact ⟨⟨⟨decide_eq_true (by omega),decide_eq_true (by omega)⟩,decide_eq_true (by omega),decide_eq_true (by omega)⟩,decide_eq_true (by omega),decide_eq_true (by omega)⟩
 ·unfold gC;simp only [sL,c1,decide_eq_true_eq];omega
theorem Ja (L:List Int):∀ (n i k:Nat),i+n≤9→(kM L n i k).1.length=n ∧ ∀ x,x<n→MedGood (i+x) ((kM L n i k).1.getD x default)
 | 0,i,k,_=>⟨rfl,fun x hx=>absurd hx (Nat.not_lt_zero _)⟩
 | n+1,i,k,h=>by
  obtain ⟨h1,h2⟩:=Ja L n (i+1) (sL L i k).2 (by omega);refine ⟨by simp only [kM,List.length_cons,h1],fun x hx=>?_⟩;simp only [kM];rcases x with _ | x
  ·exact aF5 L i k (by omega)
  ·have:=h2 x (by omega);rw [show i+(x+1)=i+1+x by omega];simpa using this
structure SeqGood (m:Int) (j:Nat) (y:SequenceR):Prop where
 name:y.name=cX ⟨#[115]⟩ j
 ok:eK y=true
 fit:y.fit
 small:dY y=true
 src:∀ t∈y.video++y.sound, ∀ c∈t,SrcIn m j c.a∧SrcIn m j c.b
theorem Ue (L:List Int) (m s:Int) (hm:m≤9) (hs:s≤9):∀ (n k:Nat),(jG L m s n k).1.length=n ∧ ∀ t∈(jG L m s n k).1,bB t=true ∧ ∀ c∈t,c.fit∧VidOk m s c
 | 0,k=>⟨rfl,fun c hc=>by cases hc⟩
 | n+1,k=>by
  obtain ⟨h1,h2⟩:=Ue L m s hm hs n (bP L k m s 5).2;refine ⟨by simp only [jG,List.length_cons,h1],fun t ht=>?_⟩;simp only [jG] at ht;rcases List.mem_cons.1 ht with rfl | ht
  ·obtain ⟨n1,n2⟩:=qE L k m s 5 hm hs (by omega) (by omega);exact ⟨Gz n1 (by omega),fun c hc=>⟨(n1 c hc).fit,Fh L m s hm hs _ _ c hc⟩⟩
  ·exact h2 t ht
theorem Hj (L:List Int) (m s ch:Int) (hm:m≤9) (hs:s≤9) (hc : 0≤ch∧ch≤2):∀ (n k:Nat),(fQ L m s ch n k).1.length=n ∧ ∀ c∈(fQ L m s ch n k).1,c.fit∧SndOk m s ch c
 | 0,k=>⟨rfl,fun c hc=>by cases hc⟩
 | n+1,k=>by
  obtain ⟨h1,h2⟩:=Hj L m s ch hm hs hc n (mX L k m s ch).2;refine ⟨by simp only [fQ,List.length_cons,h1],fun c hcc=>?_⟩;simp only [fQ] at hcc;rcases List.mem_cons.1 hcc with rfl | hcc
  ·exact ⟨aEh L k m s ch hm hs,aEg L k m s ch hm hs hc⟩
  ·exact h2 c hcc
theorem aE8 {t:List ClipR} {m s ch:Int} (h:∀ c∈t,SndOk m s ch c) (hl:t.length≤64):bB t=true:=by
 have h1:=zM t fun c hc=>(h c hc).l9
 unfold bB;rw [decide_eq_true hl,decide_eq_true (by omega:totL t≤2147483647),List.all_eq_true.2 fun c hc=>(h c hc).ok];rfl
theorem Ux (L:List Int) (m s ch:Int) (hm:m≤9) (hs:s≤9) (hc : 0≤ch∧ch≤2):∀ (n k:Nat),(mY L m s ch n k).1.length=n ∧ ∀ t∈(mY L m s ch n k).1,bB t=true ∧ ∀ c∈t,c.fit∧SndOk m s ch c
 | 0,k=>⟨rfl,fun c hc=>by cases hc⟩
 | n+1,k=>by
  obtain ⟨h1,h2⟩:=Ux L m s ch hm hs hc n (Mg L m s ch k).2;refine ⟨by simp only [mY,List.length_cons,h1],fun t ht=>?_⟩;simp only [mY] at ht;rcases List.mem_cons.1 ht with rfl | ht
  ·obtain ⟨n1,n2⟩:=Hj L m s ch hm hs hc (aB L k 4).toNat (k+1);have t4:=aD (L:=L) (k:=k) (n:=4) (by omega);exact ⟨aE8 (fun c hc=>(n2 c hc).2) (by unfold Mg;omega),n2⟩
  ·exact h2 t ht
theorem aEn (L:List Int) (m:Int) (j k:Nat) (hm:m≤9) (hj:j<9):SeqGood m j (Bd L m j k).1:=by
 have t3:=aD (L:=L) (k:=k+1) (n:=3) (by omega);have t2:=aD (L:=L) (k:=k+2) (n:=2) (by omega);obtain ⟨v1,v2⟩:=Ue L m j hm (by omega) (1+aB L (k+2) 2).toNat (k+3);have ta:=aD (L:=L) (k:=(jG L m j (1+aB L (k+2) 2).toNat (k+3)).2) (n:=3) (by omega);obtain ⟨a1,a2⟩:=Ux L m j (aB L (k+1) 3) hm (by omega) (by omega) (aB L (jG L m j (1+aB L (k+2) 2).toNat (k+3)).2 3).toNat ((jG L m j (1+aB L (k+2) 2).toNat (k+3)).2+1);generalize hV:jG L m j (1+aB L (k+2) 2).toNat (k+3)=V1 at v1 v2 ta a1 a2;generalize hA:mY L m j (aB L (k+1) 3) (aB L V1.2 3).toNat (V1.2+1)=A1 at a1 a2;have tc:=aD (L:=L) (k:=A1.2) (n:=3) (by omega);obtain ⟨c1,c2⟩:=Gr L (aB L A1.2 3).toNat (A1.2+1);generalize hC:eV L (aB L A1.2 3).toNat (A1.2+1)=C1 at c1 c2;obtain ⟨r1,r2⟩:=aBs L k;have e:(Bd L m j k).1=⟨cX ⟨#[115]⟩ j,mJ L k,16,16,V1.1,A1.1,C1.1,aB L (k+1) 3⟩:=by
  unfold Bd;simp only [hV,hA,hC]
 rw [e];have i16:I64 16:=bL (by decide) (by decide);refine ⟨rfl,?_,⟨r2,i16,i16,fun t ht c hc=>((v2 t ht).2 c hc).1,fun t ht c hc=>((a2 t ht).2 c hc).1,fun c hc=>(c2 c hc).2,bL (by simp only;omega) (by simp only;omega)⟩,?_,?_⟩
 ·have e1:dS (cX ⟨#[115]⟩ (j:Int))=true:=(zP (j:Int) (by omega) (by omega)).1;have e2:Cs C1.1=true:=List.all_eq_true.2 fun c hc=>(c2 c hc).1
  have e3:V1.1.all xC=true:=List.all_eq_true.2 fun t ht=>by
   unfold xC;rw [(v2 t ht).1,List.all_eq_true.2 fun c hc=>((v2 t ht).2 c hc).2.sil];rfl
  have e4:A1.1.all (Dj (aB L (k+1) 3))=true:=List.all_eq_true.2 fun t ht=>by
   unfold Dj;rw [(a2 t ht).1,List.all_eq_true.2 fun c hc=>((a2 t ht).2 c hc).2.aud];rfl
  have e5:Ct (aB L (k+1) 3)=true:=by
   unfold Ct;rw [decide_eq_true t3.1,decide_eq_true (by omega:aB L (k+1) 3≤4)];rfl
  have e6:Bw 16=true:=by decide
  unfold eK Dm;simp only [e1,e2,e3,e4,e5,e6,r1,Bool.and_true]
 ·unfold dY;simp only [v1,a1,c1,Bool.and_eq_true,decide_eq_true_eq];omega
 ·intro t ht c hc;rcases List.mem_append.1 ht with ht | ht
  ·exact ⟨((v2 t ht).2 c hc).2.a,((v2 t ht).2 c hc).2.b⟩
  ·exact ⟨((a2 t ht).2 c hc).2.a,((a2 t ht).2 c hc).2.b⟩
theorem Hh (L:List Int) (m:Int) (hm:m≤9):∀ (n i k:Nat),i+n≤9→(nA L m n i k).1.length=n ∧ ∀ x,x<n→SeqGood m (i+x) ((nA L m n i k).1.getD x default)
 | 0,i,k,_=>⟨rfl,fun x hx=>absurd hx (Nat.not_lt_zero _)⟩
 | n+1,i,k,h=>by
  obtain ⟨h1,h2⟩:=Hh L m hm n (i+1) (Bd L m i k).2 (by omega);refine ⟨by simp only [nA,List.length_cons,h1],fun x hx=>?_⟩;simp only [nA];rcases x with _ | x
  ·exact aEn L m i k hm (by omega)
  ·have:=h2 x (by omega);rw [show i+(x+1)=i+1+x by omega];simpa using this
theorem nm_ne:((List.range 9).all fun i=>(List.range 9).all fun j=>i==j||((cX ⟨#[109]⟩ (i:Int)).toList != (cX ⟨#[109]⟩ (j:Int)).toList&&(cX ⟨#[115]⟩ (i:Int)).toList != (cX ⟨#[115]⟩ (j:Int)).toList))=true:=by kernel_rfl
theorem Pg {i j:Nat} (hi:i<9) (hj:j<9) (h:cX ⟨#[109]⟩ (i:Int)=cX ⟨#[109]⟩ (j:Int)∨cX ⟨#[115]⟩ (i:Int)=cX ⟨#[115]⟩ (j:Int)):i=j:=by
 have h1:=List.all_eq_true.1 (List.all_eq_true.1 nm_ne i (List.mem_range.2 hi)) j (List.mem_range.2 hj);simp only [Bool.or_eq_true,beq_iff_eq,Bool.and_eq_true,bne_iff_ne,ne_eq] at h1;rcases h1 with h1 | h1
 ·exact h1
 ·rcases h with h | h
  ·exact absurd (congrArg ByteArray.toList h) h1.1
  ·exact absurd (congrArg ByteArray.toList h) h1.2
theorem qJ (L:List Int):∃ M N:Nat,1≤M∧M≤3∧1≤N∧N≤3∧(dH L).media.length=M∧(dH L).seqs.length=N∧(∀ x,x<M→MedGood x ((dH L).media.getD x default)) ∧ ∀ x,x<N→SeqGood M x ((dH L).seqs.getD x default):=by
 have n1:=aD (L:=L) (k:=0) (n:=3) (by omega);have n2:=aD (L:=L) (k:=1) (n:=3) (by omega);obtain ⟨M,hM⟩:∃ M:Nat,1+aB L 0 3=M:=⟨(1+aB L 0 3).toNat,by omega⟩
 obtain ⟨N,hN⟩:∃ N:Nat,1+aB L 1 3=N:=⟨(1+aB L 1 3).toNat,by omega⟩
 obtain ⟨a1,a2⟩:=Ja L M 0 2 (by omega);obtain ⟨b1,b2⟩:=Hh L M (by omega) N 0 (kM L M 0 2).2 (by omega);refine ⟨M,N,by omega,by omega,by omega,by omega,?_⟩;unfold dH;rw [hM,hN];simp only [Int.toNat_natCast];exact ⟨a1,b1,fun x hx=>by have:=a2 x hx;rwa [Nat.zero_add] at this,fun x hx=>by have:=b2 x hx;rwa [Nat.zero_add] at this⟩
theorem uP {α : Type} [Inhabited α] {l:List α} {x : α} (h:x∈l):∃ i,i<l.length∧l.getD i default=x:=by
 obtain ⟨i,hi,rfl⟩:=List.getElem_of_mem h;exact ⟨i,hi,aU hi⟩
theorem Vq (L:List Int):(dH L).fit:=by
 obtain ⟨M,N,_,_,_,_,h1,h2,h3,h4⟩:=qJ L;refine ⟨fun y hy=>?_,fun y hy=>?_⟩
 ·obtain ⟨i,hi,rfl⟩:=uP hy;exact (h3 i (by omega)).fit
 ·obtain ⟨i,hi,rfl⟩:=uP hy;exact (h4 i (by omega)).fit
theorem aBx (L:List Int):cK (dH L)=0:=by
 obtain ⟨M,N,m1,m3,s1,s3,h1,h2,h3,h4⟩:=qJ L;obtain ⟨p,hp⟩:∃ p,p=dH L:=⟨_,rfl⟩
 rw [← hp] at h1 h2 h3 h4 ⊢;have hS:dQ p=true:=by
  unfold dQ;rw [decide_eq_true (by omega:(p.media.length:Int)≤16),decide_eq_true (by omega:(p.seqs.length:Int)≤16),cU (d:=default) (p:=gC) (fun i hi=>(h3 i (by omega)).small),cU (d:=default) (p:=dY) (fun i hi=>(h4 i (by omega)).small)];rfl
 have hO:(p.media.all fF&&p.seqs.all eK)=true:=by
  rw [cU (d:=default) (p:=fF) (fun i hi=>(h3 i (by omega)).ok),cU (d:=default) (p:=eK) (fun i hi=>(h4 i (by omega)).ok)];rfl
 have hnm:(p.media.map MediumR.name).Nodup:=by
  refine List.pairwise_iff_getElem.2 fun i j hi hj hij e=>?_
  rw [List.length_map] at hi hj;simp only [List.getElem_map] at e;have e1:=(h3 i (by omega)).name;have e2:=(h3 j (by omega)).name;rw [aU hi] at e1;rw [aU hj] at e2;rw [e1,e2] at e;have:=Pg (by omega) (by omega) (.inl e);omega
 have hns:(p.seqs.map SequenceR.name).Nodup:=by
  refine List.pairwise_iff_getElem.2 fun i j hi hj hij e=>?_
  rw [List.length_map] at hi hj;simp only [List.getElem_map] at e;have e1:=(h4 i (by omega)).name;have e2:=(h4 j (by omega)).name;rw [aU hi] at e1;rw [aU hj] at e2;rw [e1,e2] at e;have:=Pg (by omega) (by omega) (.inr e);omega
 have midx:∀ i:Nat,i<M→aF9 p (cX ⟨#[109]⟩ (i:Int))=(i:Int):=fun i hi=>by
  rw [← (h3 i hi).name];exact gM hnm (by omega)
 have sidx:∀ i:Nat,i<N→By p (cX ⟨#[115]⟩ (i:Int))=(i:Int):=fun i hi=>by
  rw [← (h4 i hi).name];exact gM hns (by omega)
 have srcs:∀ j,j<N → ∀ x∈gA (p.seqs.getD j default),SrcIn M j x:=fun j hj x hx=>by
  unfold gA Hc at hx;obtain ⟨c,hc,hx⟩:=List.mem_flatMap.1 (List.mem_filter.1 hx).1;unfold dL at hc;obtain ⟨t,ht,hct⟩:=List.mem_flatten.1 hc;obtain ⟨g1,g2⟩:=(h4 j hj).src t ht c hct;simp only [List.mem_cons,List.not_mem_nil,or_false] at hx;rcases hx with rfl | rfl<;>assumption
 have hC:p.seqs.all (sY p)=true:=by
  refine cU (d:=default) fun j hj=>?_
  unfold sY;refine List.all_eq_true.2 fun x hx=>?_
  have hin:=srcs j (by omega) x hx;unfold Fk
  by_cases k1:x.kind=1
  ·obtain ⟨i,hi,hn⟩:=hin.m1 k1;rw [hn,midx i (by omega),k1];have : ¬ (i:Int)<0:=by omega
   simp [this]
  ·by_cases k2:x.kind=2
   ·obtain ⟨i,hi,hn⟩:=hin.s2 k2;rw [hn,sidx i (by omega),k2];have : ¬ (i:Int)<0:=by omega
    simp [this]
   ·simp [k1,k2]
 have hN:NetOk p:=by
  refine ⟨hns,fun s hs x hx hk=>?_⟩;obtain ⟨j,hj,rfl⟩:=uP hs;obtain ⟨i,hi,hn⟩:=(srcs j (by omega) x hx).s2 hk;rw [hn,sidx i (by omega)];omega
 have walk:∀ (d j:Nat),j<N→Wk p d (p.seqs.getD j default).name→d≤j:=by
  intro d
  induction d with
  | zero=>intro j _ _;omega
  | succ d ih =>
   rintro j hj ⟨m,hm,hw⟩;obtain ⟨x,hx,hk,rfl⟩:=(Ae hN (by omega)).1 hm;obtain ⟨i,hi,hn⟩:=(srcs j hj x hx).s2 hk;rw [hn, ← (h4 i (by omega)).name] at hw;have:=ih i (by omega) hw;omega
 have dep:∀ j,j<p.seqs.length→uT p (j:Int)≤j+1:=fun j hj=>by
  obtain ⟨d1,_,_⟩:=wY hN hj;rcases Nat.lt_or_ge (j+1) (uT p (j:Int)) with h | h
  ·have:=walk (j+1) j (by omega) (d1 (j+1) h);omega
  ·exact h
 exact (aH5 p).s0 hS hO (fun i hi=>Lw hnm hi) (fun i hi=>Lv hns hi) hC (fun i hi=>by have:=dep i hi;omega) (fun i hi=>by have:=dep i hi;omega)
def Imp (x y:T):Prop := ∀ (w:World) (S:Nat→Prop) (v:Value),RdT w S x v→RdT w S y v
theorem fD {x:T}:Imp x x:=fun _ _ _ h=>h
theorem Ks {k:Nat} {d:List T}:Imp (.lit (.slice none 0 0)) (.list k d []):=by
 intro w S v h;cases h;exact .list _ _ _ none 0 (Nat.zero_le _) (Nat.zero_le _) (fun _=>rfl) (by simp) (by simp) (by simp)
def aGk:List T→List T→Prop
 | [],[]=>True
 | x::xs,y::ys=>Imp x y∧aGk xs ys
 | _,_=>False
def aN4:List (List T)→List (List T)→Prop
 | [],[]=>True
 | x::xs,y::ys=>aGk x y∧aN4 xs ys
 | _,_=>False
theorem Kt:∀ {xs ys:List T},aGk xs ys→xs.length=ys.length ∧ ∀ (j:Nat) y,ys[j]? = some y → ∃ x,xs[j]? = some x∧Imp x y
 | [],[],_=>by simp
 | x::xs,y::ys,h=>by
  obtain ⟨h1,h2⟩:=Kt h.2;refine ⟨by simp [h1],fun j z hz=>?_⟩;cases j with
  | zero=>simp at hz;subst hz;exact ⟨x,by simp,h.1⟩
  | succ j =>
   obtain ⟨u,q1,q2⟩:=h2 j z (by simpa using hz);exact ⟨u,by simpa using q1,q2⟩
 | [],_::_,h=>h.elim
 | _::_,[],h=>h.elim
theorem aJ5:∀ {xs ys:List (List T)},aN4 xs ys→xs.length=ys.length ∧ ∀ (j:Nat) y,ys[j]? = some y → ∃ x,xs[j]? = some x∧aGk x y
 | [],[],_=>by simp
 | x::xs,y::ys,h=>by
  obtain ⟨h1,h2⟩:=aJ5 h.2;refine ⟨by simp [h1],fun j z hz=>?_⟩;cases j with
  | zero=>simp at hz;subst hz;exact ⟨x,by simp,h.1⟩
  | succ j =>
   obtain ⟨u,q1,q2⟩:=h2 j z (by simpa using hz);exact ⟨u,by simpa using q1,q2⟩
 | [],_::_,h=>h.elim
 | _::_,[],h=>h.elim
theorem Qm {k:Nat} {d d':List T} {xs ys:List (List T)} (ha:aN4 xs ys):Imp (.list k d xs) (.list k d' ys):=by
 intro w S v h;obtain ⟨hl,hat⟩:=aJ5 ha;cases h with
 | list _ _ _ A c hm hc hn hk hb hr =>
  rw [hl];refine .list _ _ _ A c (by omega) (by omega) hn ?_ ?_ ?_
  ·intro e he;obtain ⟨i,hi,rfl⟩:=List.mem_iff_getElem.1 he;obtain ⟨x,q1,q2⟩:=hat i _ (List.getElem?_eq_getElem hi);rw [← (Kt q2).1];exact hk x (List.mem_of_getElem? q1)
  ·intro i e he;obtain ⟨x,q1,q2⟩:=hat i e he;obtain ⟨b,off,q3,q4,q5⟩:=hb i x q1;refine ⟨b,off,q3,q4,fun j y hy=>?_⟩;obtain ⟨u,q6,_⟩:=(Kt q2).2 j y hy;exact q5 j u q6
  ·intro i e j y b off u he hy hA hu;obtain ⟨x,q1,q2⟩:=hat i e he;obtain ⟨z,q6,q7⟩:=(Kt q2).2 j y hy;exact q7 _ _ _ (hr i x j z b off u q1 q6 hA hu)
theorem aGb {x y:T} (h:Imp x y):∀ (w:World) (E:Env) v,RdV w E (.t x) v→RdV w E (.t y) v:=by
 intro w E v hv;simp only [RdV] at hv ⊢;exact h _ _ _ hv
def ImpV:List V→List V→Prop
 | [],[]=>True
 | x::xs,y::ys=>(∀ (w:World) (E:Env) v,RdV w E x v→RdV w E y v)∧ImpV xs ys
 | _,_=>False
theorem Zm {w:World} {E:Env}:∀ {xs ys:List V} {vs:List Value},ImpV xs ys→RdVs w E xs vs→RdVs w E ys vs
 | [],[],_,_,h=>h
 | x::xs,y::ys,[],_,h=>by simp only [RdVs] at h
 | x::xs,y::ys,v::vs,hn,h=>by
  simp only [RdVs] at h ⊢;exact ⟨hn.1 _ _ _ h.1,Zm hn.2 h.2⟩
 | [],_::_,_,hn,_=>hn.elim
 | _::_,[],_,hn,_=>hn.elim
theorem Gw {xs ys:List V} (ha:ImpV xs ys):∀ (w:World) (E:Env) v,RdV w E (.agg xs) v→RdV w E (.agg ys) v:=by
 intro w E v h;simp only [RdV] at h ⊢;obtain ⟨vs,rfl,q1,q2⟩:=h;exact ⟨vs,rfl,Zm ha q1,q2⟩
theorem yC {r r' x:V} {h:Heap} (e:x.lend h=r') (hp:r'.pure=true) (ha:∀ (w:World) (E:Env) v,RdV w E r' v→RdV w E r v):tQ r x h :=
 ⟨by rw [e];exact hp,fun w E v hv=>by rw [e] at hv;exact ha _ _ _ hv⟩
theorem Av {xs ys:List V} (ha:ImpV xs ys):∀ (w:World) (E:Env) v,RdV w E (.tup xs) v→RdV w E (.tup ys) v:=by
 intro w E v h;simp only [RdV] at h ⊢;obtain ⟨vs,rfl,q1⟩:=h;exact ⟨vs,rfl,Zm ha q1⟩
theorem Ev {k:Nat} {d:List T}:∀ (w:World) (E:Env) v,RdV w E (.t (.lit (.slice none 0 0))) v→RdV w E (.t (.list k d [])) v:=aGb Ks
def aK8:SequenceR:=⟨⟨#[]⟩,⟨0,0⟩,0,0,[],[],[],0⟩
def xG (l:List SequenceR) (n:ByteArray):Option SequenceR:=l.find? fun s=>s.name.toList==n.toList
def Wq (p:ProjR) (n:ByteArray):SequenceR×Int :=
 if (cK p != 0)=true then (aK8,cK p) else
 match xG p.seqs n with
 | some s=>(s,0)
 | none=>(aK8,7)
abbrev vse (r:SequenceR×Int):V := .tup [mE r.1,aA r.2]
abbrev zSeqV:List V:=[bY ⟨#[]⟩,aA 0,aA 0,aA 0,aA 0, .t (.lit (.slice none 0 0)), .t (.lit (.slice none 0 0)), .t (.lit (.slice none 0 0)),aA 0]
theorem Nq (k:Int) {h:Heap}:tQ (vse (aK8,k)) (.tup [.agg zSeqV,aA k]) h:=by
 refine yC (r' := .tup [.agg zSeqV,aA k]) rfl rfl (Av ⟨Gw (by exact ⟨dN,dN,dN,dN,dN,Ev,Ev,Ev,dN,trivial⟩),dN,trivial⟩)
theorem aM7 {l:List SequenceR} {n:ByteArray} {k:Nat} (h:k<l.length) (hn:∀ i,i<k→((l.getD i default).name.toList==n.toList)=false) (hk:((l.getD k default).name.toList==n.toList)=true):xG l n=some (l.getD k default):=by
 unfold xG;rw [List.find?_eq_some_iff_getElem];refine ⟨hk,k,h,by rw [aU h],fun j hj=>?_⟩;have:=hn j hj;rw [aU (by omega)] at this;simpa using this
theorem aFq {l:List SequenceR} {n:ByteArray} (hn:∀ i,i<l.length→((l.getD i default).name.toList==n.toList)=false):xG l n=none:=by
 unfold xG;rw [List.find?_eq_none];intro s hs;obtain ⟨i,hi,rfl⟩:=List.mem_iff_getElem.1 hs;have:=hn i hi;rw [aU hi] at this;simpa using this
theorem aAj {p:ProjR} (h:cK p=0):p.media.length≤16∧p.seqs.length≤16 ∧ ∀ s∈p.seqs,dY s=true:=by
 unfold cK at h;split at h
 ·cases h
 ·rename_i h1;rw [Bool.not_eq_false] at h1;unfold dQ at h1;simp only [Bool.and_eq_true,decide_eq_true_eq,List.all_eq_true] at h1;refine ⟨by omega,by omega,fun s hs=>h1.2 s hs⟩
theorem cFindS (p:ProjR) (n:ByteArray) (h:p.fit):aK Tryz.prog 92 [uV p,bY n] (vse (Wq p n)):=by
 refine eD Tryz.X92 Tryz.func92 rfl Tryz.ntmps92 (by rw [Tryz.results92]) (aC _ ?_);simp only [go_sem,simprocAttr];refine ⟨_,cValid p h,?_⟩;simp only [go_sem,simprocAttr];refine ⟨fun h1=>?_,fun h1=>?_⟩
 ·unfold awS;simp only [go_sem,simprocAttr];unfold Wq;rw [if_pos h1];exact Nq _
 ·have hR:Wq p n=(match xG p.seqs n with
   | some s=>(s,0)
   | none=>(aK8,7)):=by unfold Wq;rw [if_neg (by rw [h1];exact Bool.false_ne_true)]
  rw [hR];have hz:cK p=0:=by simpa using h1
  have h16:=(aAj hz).2.1;unfold awS;simp only [go_sem,simprocAttr];refine aJ (fun (k:Nat) σ => dW 18 (aA k) (dD [8,19,20,21,22,23,24,25,26,27,28] (eH σ))) (fun k=>k≤p.seqs.length ∧ ∀ i,i<k→((p.seqs.getD i default).name.toList==n.toList)=false) (fun k=>p.seqs.length - k) 0 (aE ?_) ⟨Nat.zero_le _,by omega⟩ ?_
  ·simp only [go_sem,simprocAttr]<;>simp
  ·rintro k ⟨hk,hi⟩;refine aC _ ?_;simp only [go_sem,simprocAttr];refine ⟨fun hlt=>?_,fun hge=>?_⟩
   ·simp only [bxx] at hlt;have hkl:k<p.seqs.length:=by omega
    unfold awS;simp only [go_sem,simprocAttr];refine ⟨⟨by omega,by omega⟩,fun h2=>?_,fun h2=>?_⟩
    ·unfold awS;simp only [go_sem,simprocAttr];rw [aM7 hkl hi h2];exact bJ rfl rfl
    ·unfold awS;simp only [go_sem,simprocAttr];refine ⟨k+1,aE ?_,⟨by omega,fun i h3=>?_⟩,by omega⟩
     ·simp only [go_sem,simprocAttr]<;>simp [dC (show k<9223372036854775807 by omega)]
     ·rcases Nat.lt_or_ge i k with h4 | h4
      ·exact hi i h4
      ·rw [show i=k from by omega];exact h2
   ·simp only [bxx] at hge;unfold awS;simp only [go_sem,simprocAttr];rw [aFq (fun i h2=>hi i (by omega))];exact Nq _
def Nt (s:SourceR):List T:=[ti s.kind,fZ s.name,ti s.pos.num,ti s.pos.den,ti s.speed.num,ti s.speed.den,tbl s.smooth,ti (aW s),ti (atS s),ti (mH s)]
abbrev Fa (s:SourceR):V := .agg [aA s.kind,bY s.name,aA s.pos.num,aA s.pos.den,aA s.speed.num,aA s.speed.den,aX s.smooth,aA (aW s),aA (atS s),aA (mH s)]
@[go_sem] theorem placC_t (s:SourceR):(Nt s).map V.t = [aA s.kind,bY s.name,aA s.pos.num,aA s.pos.den,aA s.speed.num,aA s.speed.den,aX s.smooth,aA (aW s),aA (atS s),aA (mH s)]:=rfl
theorem z_place:aW zSource=0∧atS zSource=0∧mH zSource=0:=⟨by decide,by decide,by decide⟩
theorem isZ_eq {s:SourceR} (h:s.isZ=true):s=zSource:=by
 unfold SourceR.isZ SourceR.eqb at h;simp only [Bool.and_eq_true,beq_iff_eq] at h;obtain ⟨⟨⟨⟨⟨⟨h1,h2⟩,h3⟩,h4⟩,h5⟩,h6⟩,h7⟩:=h;obtain ⟨k,n,⟨p1,p2⟩,⟨q1,q2⟩,b⟩:=s;have hn:n=zSource.name:=(bq n zSource.name).1 (by simpa using h2);simp only at h1 h3 h4 h5 h6 h7;subst h1 h3 h4 h5 h6 hn;cases b
 ·rfl
 ·cases h7
theorem kind0_z {s:SourceR} (hv:aY s=true) (h:s.kind=0):s=zSource:=by
 have hz:s.isZ=true:=by
  cases hz:s.isZ with
  | true=>rfl
  | false =>
   obtain ⟨p,d,ok⟩:=jN hv hz;rcases ok.kind with e | e<;>omega
 exact isZ_eq hz
theorem yD {s:SourceR} {p d:Nat} (ok:SrcOk s p d):aW s=p / Nat.gcd p d*d∧atS s=s.pos.num*((aW s / p:Nat):Int)∧mH s=s.speed.num*((aW s / d:Nat):Int)∧0<aW s∧aW s≤65536 ∧
  (atS s).natAbs≤72057594037927936∧(mH s).natAbs≤67108864:=by
 have e1:aMe s=p:=by unfold aMe;rw [ok.hp];rfl
 have e2:aMd s=d:=by unfold aMd;rw [ok.hd];rfl
 have e3:aW s=Nat.lcm p d:=by unfold aW;rw [e1,e2]
 have hl:=Nat.lcm_pos ok.p1 ok.d1;refine ⟨by rw [e3,aQt],by unfold atS;rw [e1],by unfold mH;rw [e2],by rw [e3];exact hl,by rw [e3];exact ok.lcm,?_,?_⟩
 ·have:=(Hu ok (n:=0) (by decide)).1;unfold atS;rw [e1,e3];exact this
 ·have e4:d*(Nat.lcm p d / d)=Nat.lcm p d:=Nat.mul_div_cancel' (Nat.dvd_lcm_right p d);unfold mH;rw [e2,e3,Int.natAbs_mul,Int.natAbs_natCast]
  calc s.speed.num.natAbs*(Nat.lcm p d / d)≤1024*d*(Nat.lcm p d / d):=Nat.mul_le_mul_right _ ok.snum
   _=1024*Nat.lcm p d:=by rw [Nat.mul_assoc,e4]
   _≤1024*65536:=Nat.mul_le_mul_left _ ok.lcm
   _=67108864:=by decide
theorem aDt (s:SourceR) (hf:s.fit) (hv:aY s=true):aK Tryz.prog 219 [kW s] (Fa s):=by
 refine aG Tryz.X219 Tryz.func219 rfl Tryz.ntmps219 (by rw [Tryz.results219]) (aC _ ?_);simp only [go_sem,simprocAttr];refine ⟨fun h=>?_,fun h=>?_⟩
 ·simp only [bxx] at h;have hz:=kind0_z hv h;subst hz;unfold awS;simp only [go_sem,simprocAttr];obtain ⟨z1,z2,z3⟩:=z_place;unfold Fa;rw [z1,z2,z3];rfl
 ·simp only [bxx] at h;obtain ⟨p,d,ok⟩:=Zd hv h;obtain ⟨f1,f2,f3,f4,f5,f6,f7⟩:=yD ok;unfold awS;simp only [go_sem,simprocAttr];refine bT [0,1,2,3,4,5,6,7] .done rfl (by kernel_rfl) (by kernel_rfl) (by decide) ?_;simp only [go_sem,simprocAttr,ok.hp,ok.hd];refine aJ (fun (x:Nat×Nat) σ => dW 3 (aA x.1) (dW 4 (aA x.2) σ)) (fun x=>Nat.gcd x.1 x.2=Nat.gcd p d) (fun x=>x.2) (p,d) (aE ?_) rfl ?_
  ·simp only [go_sem,simprocAttr]<;>simp
  ·rintro ⟨x,y⟩ hg;simp only at hg;refine aC _ ?_;simp only [go_sem,simprocAttr];refine brW (b := !decide (y=0)) ?_ ⟨fun hb=>?_,fun hb=>?_⟩
   ·rw [Bool.eq_iff_iff];simp only [bxx];omega
   ·unfold awS;simp only [go_sem,simprocAttr];have hy:y≠0:=by simpa using hb
    refine bT [0,1,2,3,4,5] .done rfl (by kernel_rfl) (by kernel_rfl) (by decide) ?_;simp only [go_sem,simprocAttr];refine ⟨by omega,(y,x % y),aE ?_,?_,Nat.mod_lt _ (by omega)⟩
    ·simp only [go_sem,simprocAttr,xU]<;>simp
    ·simp only;rw [← hg,Nat.gcd_comm x y,Nat.gcd_rec y x,Nat.gcd_comm]
   ·unfold awS;simp only [go_sem,simprocAttr];have hy:y=0:=by simpa using hb
    subst hy;rw [Nat.gcd_zero_right] at hg;subst hg;have hg0 : 0<Nat.gcd p d:=Nat.gcd_pos_of_pos_left _ ok.p1;have q1:p / Nat.gcd p d≤p:=Nat.div_le_self _ _;have q2:aW s / p≤aW s:=Nat.div_le_self _ _;have q3:aW s / d≤aW s:=Nat.div_le_self _ _;have p1:=ok.p1;have p2:=ok.ple;have d1:=ok.d1;refine bT [0,1,2,3,4,5,6,7,8,9] .done rfl (by kernel_rfl) (by kernel_rfl) (by decide) ?_;have hB:((p / Nat.gcd p d:Nat):Int)*(d:Int)=(aW s:Int):=by rw [f1,Int.natCast_mul]
    simp only [go_sem,simprocAttr,kT,gE (n:=p / Nat.gcd p d) (by omega),hB,gE (n:=aW s) (by omega)];refine ⟨by omega,?_⟩;refine aQ 22 .done rfl (by kernel_rfl) (by kernel_rfl) (by decide) ?_;simp only [go_sem,simprocAttr,kT,gE (n:=aW s / p) (by omega),gE (n:=aW s / d) (by omega), ← f2, ← f3,wrap64 (x:=atS s) (by omega) (by omega),wrap64 (x:=mH s) (by omega) (by omega)];unfold Fa;rw [ok.hp,ok.hd];exact ⟨by omega,by omega,by kernel_rfl,rfl⟩
def uA (t:List ClipR):List Int:=(List.range t.length).map fun i=>totL (t.take (i+1))
def yE (c:ClipR):List T:=Nt c.a++Nt c.b
abbrev aEc (l:List (List T)):T := .list 20 ((Nt zSource)++(Nt zSource)) l
def Cp (t:List ClipR):List T:=[aM t,bS (uA t),aEc (t.map yE)]
abbrev vlay (t:List ClipR):V := .agg [.t (aM t), .t (bS (uA t)), .t (aEc (t.map yE))]
theorem aMb {t:List ClipR} {k:Nat} (h:k<t.length):uA (t.take (k+1))=uA (t.take k) ++ [totL (t.take (k+1))]:=by
 unfold uA;rw [List.length_take,List.length_take,Nat.min_eq_left (by omega),Nat.min_eq_left (by omega),List.range_succ,List.map_append];congr 1
 ·refine List.map_congr_left fun i hi=>?_
  rw [List.mem_range] at hi;rw [List.take_take,List.take_take,Nat.min_eq_left (by omega),Nat.min_eq_left (by omega)]
 ·simp [List.take_take]
theorem aSu (t : List ClipR) (hf : ∀ c ∈ t, c.fit) (hv : bB t = true) : aK Tryz.prog 168 [.t (aM t)] (vlay t) := by
  have hv' := hv;unfold bB at hv';simp only [Bool.and_eq_true, decide_eq_true_eq, List.all_eq_true] at hv';obtain ⟨⟨h64, hvc⟩, hsum⟩ := hv';have hpos : ∀ c ∈ t, 1 ≤ c.len ∧ c.len ≤ 2147483647 := fun c hc => aL (hvc c hc)
  refine aG Tryz.X168 Tryz.func168 rfl Tryz.ntmps168 (by rw [Tryz.results168]) (aC _ ?_);simp only [go_sem, simprocAttr];refine aJ (fun (k : Nat) σ => { fr := (dD [6, 12, 13, 14, 15, 16, 17, 18, 19, 20, 21, 22, 23, 24, 25, 26, 27, 28, 29, 30, 31, 32, 33, 34, 35, 36, 37] (dW 4 (aA (totL (t.take k))) (dW 11 (aA k) σ))).fr, h := [(3, .row 245 20 (Nt zSource ++ Nt zSource) (aS ((t.take k).map yE))), (2, .row 2 1 (sS 0) (aS ((uA (t.take k)).map sS))), (1, .box [.t (aM t), .own 2, .own 3]), (0, .box [.t (.lit (.slice none 0 0)), .t (.lit (.slice none 0 0)), .t (.lit (.slice none 0 0))])], nx := 4 })
    (fun k => k ≤ t.length) (fun k => t.length - k) 0 (aT [(3, none), (2, none), (1, some 1), (0, some 0)] ?_) (Nat.zero_le _) ?_
  · simp only [go_sem, simprocAttr] <;> simp [aS, uA, De]
  · intro k hk
    refine aC _ ?_;simp only [go_sem, simprocAttr];refine ⟨fun hlt => ?_, fun hge => ?_⟩
    · simp only [bxx] at hlt
      have hkl : k < t.length := by omega
      have hc := hvc _ (aP (d := default) hkl);obtain ⟨va, vb⟩ := Gs hc;have fc := hf _ (aP (d := default) hkl);have tk := dU t k hkl;have b0 := kY (t.take k) fun c hc => hpos c (List.mem_of_mem_take hc)
      have b1 := kY (t.take (k + 1)) fun c hc => hpos c (List.mem_of_mem_take hc)
      have hlen := aL hc;have hlt' : (t.take k).length = k := by rw [List.length_take]; omega
      have hw : IntKind.i64.wrap (totL (t.take k) + (t.getD k default).len) = totL (t.take (k + 1)) := by
        rw [← tk, wrap64 (by omega) (by have : (t.take (k + 1)).length ≤ 64 := by rw [List.length_take]; omega
                                        omega)]
      have hel : (uA (t.take k)).length = k := by unfold uA; simp [hlt']
      have hwk : IntKind.i64.wrap ((k : Int) + 1) = ((k + 1 : Nat) : Int) := by rw [dC (by omega)]; omega
      unfold awS;simp only [go_sem, simprocAttr, hw];refine ⟨⟨by omega, by omega⟩, ⟨by unfold maxLen; omega, by omega⟩, ?_⟩;refine aQ 13 .done rfl (by kernel_rfl) (by kernel_rfl) (by decide) ?_;simp only [go_sem, simprocAttr];refine ⟨_, aDt _ fc.a va, ?_⟩;simp only [go_sem, simprocAttr];refine ⟨_, aDt _ fc.b vb, ?_⟩;simp only [go_sem, simprocAttr];refine ⟨⟨by unfold maxLen; omega, by omega⟩, by kernel_rfl, k + 1, aT [(3, some 17), (2, some 6), (1, some 1), (0, some 0)] ?_, by omega, by omega⟩;simp only [go_sem, simprocAttr, hwk];have e1 : List.map yE (t.take (k + 1)) = List.map yE (t.take k) ++ [yE (t.getD k default)] := by rw [fB hkl, List.map_append]; rfl
      rw [e1, aMb hkl, List.map_append];exact ⟨by simp, rfl, by simp, rfl, by simp, by simp⟩
    · simp only [bxx] at hge
      unfold awS;simp only [go_sem, simprocAttr];rw [List.take_of_length_le (show t.length ≤ k by omega)]
abbrev Lj:List T:=[.lit (.slice none 0 0), .lit (.slice none 0 0), .lit (.slice none 0 0)]
def fmC (m:MediumR):Bool×List T:=(false,[ti m.frames])
def lyC (s:SequenceR):Bool×List T:=(false,[.list 3 Lj (s.video.map Cp)])
def frM (l:List MediumR):List Ent:=jC MediumR.name fmC l
def lyM (l:List SequenceR):List Ent:=jC SequenceR.name lyC l
abbrev vix (p:ProjR):V := .agg [.t (.map (frM p.media)), .t (.map (lyM p.seqs))]
theorem put_fr (k:Value) (m:MediumR) (es:List Ent):Bz k (aA m.frames) (tEs es)=tEs (rE k (fmC m) es):=vC k (fmC m) es
theorem put_ly (k:Value) (s:SequenceR) (es:List Ent):Bz k (.t (.list 3 Lj (s.video.map Cp))) (tEs es)=tEs (rE k (lyC s) es):=vC k (lyC s) es
theorem aQw (l:List MediumR):pL .string (frM l)=true:=sQ (mN _ _ _)
theorem aQv (l:List SequenceR):pL .string (lyM l)=true:=sQ (mN _ _ _)
theorem lend_fr (l:List MediumR) (h:Heap) (n:Nat):nX (bC h n) (tEs (frM l))=some (frM l):=Ah _ (nJ h n) _ (rH _ _ (fun _=>rfl) _)
theorem lend_ly (l:List SequenceR) (h:Heap) (n:Nat):nX (bC h n) (tEs (lyM l))=some (lyM l):=Ah _ (nJ h n) _ (rH _ _ (fun _=>rfl) _)
attribute [go_sem] aQw aQv lend_fr lend_ly
def xE (v:List (List ClipR)) (k:Nat):List (List T):=(v.take k).map Cp++List.replicate (v.length - k) Lj
theorem aL5 (v:List (List ClipR)) {k:Nat} (h:k≤v.length):(xE v k).length=v.length:=by
 unfold xE;simp;omega
theorem rowsK_0 (v:List (List ClipR)):xE v 0=List.replicate v.length Lj:=by simp [xE]
theorem rowsK_n (v:List (List ClipR)):xE v v.length=v.map Cp:=by simp [xE]
theorem aL3 (v:List (List ClipR)) {k:Nat} (h:k<v.length):(xE v k).set k (Cp (v.getD k default))=xE v (k+1):=by
 unfold xE;have h1:((v.take k).map Cp).length=k:=by rw [List.length_map,List.length_take];omega
 have h2:v.length - k=(v.length - (k+1))+1:=by omega
 rw [h2,List.replicate_succ,List.set_append_right _ _ (by omega),h1,Nat.sub_self,List.set_cons_zero,fB h,List.map_append,List.append_assoc];rfl
theorem aL4 (v:List (List ClipR)) {k:Nat} (h:k<v.length) (d:List T):nth d (xE v k) k=Lj:=by
 have h1:((v.take k).map Cp).length=k:=by rw [List.length_map,List.length_take];omega
 have h2:v.length - k=(v.length - (k+1))+1:=by omega
 unfold nth xE;rw [List.getElem?_append_right (by omega),h1,Nat.sub_self,h2,List.replicate_succ];rfl
theorem aMu (p:ProjR) (h:FilmOk p):aK Tryz.prog 94 [uV p] (vix p):=by
 have hs:=h.small;unfold dQ at hs;simp only [Bool.and_eq_true,decide_eq_true_eq] at hs;have h1:p.media.length≤16:=by omega
 have h2:p.seqs.length≤16:=by omega
 refine aG Tryz.X94 Tryz.func94 rfl Tryz.ntmps94 (by rw [Tryz.results94]) (aC _ ?_);simp only [go_sem,simprocAttr];refine aJ (fun (k:Nat) σ => { σ with fr := σ.fr.set 17 (aA k),h := σ.h.set 2 (.map (tEs (frM (p.media.take k)))) }) (fun k=>k≤p.media.length) (fun k=>p.media.length - k) 0 (aE ?_) (Nat.zero_le _) ?_
 ·simp only [go_sem,simprocAttr]<;>simp [frM,jC,tEs]
 ·intro k hk;refine aC _ ?_;simp only [go_sem,simprocAttr];refine ⟨fun hlt=>?_,fun hge=>?_⟩
  ·simp only [bxx] at hlt;unfold awS;simp only [go_sem,simprocAttr];refine ⟨⟨by omega,by omega⟩,k+1,aE ?_,by omega,by omega⟩;simp only [go_sem,simprocAttr];rw [put_fr,dC (show k<9223372036854775807 by omega)];unfold frM;rw [wP _ _ (show k<p.media.length by omega)];simp
  ·simp only [bxx] at hge;unfold awS;simp only [go_sem,simprocAttr];rw [List.take_of_length_le (show p.media.length≤k by omega)];refine aJ (fun (j:Nat) σ => { σ with fr := σ.fr.set 31 (aA j),h := σ.h.set 3 (.map (tEs (lyM (p.seqs.take j)))) }) (fun j=>j≤p.seqs.length) (fun j=>p.seqs.length - j) 0 (aE ?_) (Nat.zero_le _) ?_
   ·simp only [go_sem,simprocAttr]<;>simp [lyM,jC,tEs]
   ·intro j hj;refine aC _ ?_;simp only [go_sem,simprocAttr];refine ⟨fun hlt=>?_,fun hge=>?_⟩
    ·simp only [bxx] at hlt;have hjl:j<p.seqs.length:=by omega
     obtain ⟨s,hs'⟩:∃ s,s=p.seqs.getD j default:=⟨_,rfl⟩
     have hms:s∈p.seqs:=by rw [hs'];exact aP hjl
     have hsm:=List.all_eq_true.1 hs.2 s hms;unfold dY at hsm;simp only [Bool.and_eq_true,decide_eq_true_eq] at hsm;have hvt:∀ t∈s.video,bB t=true:=fun t ht=>Fb (h.seq s hms) t (List.mem_append_left _ ht)
     have hft:=(h.fit.seqs s hms).video;unfold awS;simp only [go_sem,simprocAttr];rw [← hs'];refine ⟨⟨by omega,by omega⟩,⟨by omega,by unfold maxLen;omega,by omega⟩,?_⟩;refine Au [6] ?_;refine aJ (fun (k:Nat) σ => { σ with fr := σ.fr.set 42 (aA k),h := σ.h.set 6 (.row 239 3 Lj (aS (xE s.video k))) }) (fun k=>k≤s.video.length) (fun k=>s.video.length - k) 0 (aE ?_) (Nat.zero_le _) ?_
     ·simp only [go_sem,simprocAttr];rw [rowsK_0];simp
     ·intro k hk;refine aC _ ?_;simp only [go_sem,simprocAttr];refine ⟨fun hlt2=>?_,fun hge2=>?_⟩
      ·simp only [bxx] at hlt2;have hkl:k<s.video.length:=by omega
       have hmt:s.video.getD k []∈s.video:=by rw [List.getD_eq_getElem?_getD,List.getElem?_eq_getElem hkl];exact List.getElem_mem hkl
       have hrl:=aL5 s.video (k:=k) (by omega);have hst:=aL3 s.video hkl;rw [show s.video.getD k default=s.video.getD k [] from rfl] at hst;unfold Cp at hst;unfold awS;simp only [go_sem,simprocAttr];refine ⟨⟨by omega,by omega⟩,_,aSu _ (hft _ hmt) (hvt _ hmt),?_⟩;simp only [go_sem,simprocAttr,hrl,aL4 _ hkl];refine ⟨⟨by omega,by omega⟩,by omega,k+1,aE ?_,by omega,by omega⟩;simp only [go_sem,simprocAttr];rw [hst,dC (show k<9223372036854775807 by omega)];simp
      ·simp only [bxx] at hge2;have:k=s.video.length:=by omega
       subst this;unfold awS;simp only [go_sem,simprocAttr,rowsK_n];refine ⟨j+1,aE ?_,by omega,by omega⟩;simp only [go_sem,simprocAttr];have e1:=put_ly (.string s.name) s (lyM (p.seqs.take j));rw [e1,dC (show j<9223372036854775807 by omega)];unfold lyM;rw [wP _ _ hjl, ← hs'];simp
    ·simp only [bxx] at hge;unfold awS;simp only [go_sem,simprocAttr];rw [List.take_of_length_le (show p.seqs.length≤j by omega)]
structure RunR where
 media:ByteArray
 film:Int
 start:Int
 len:Int
 deriving Inhabited
def RunR.c (r:RunR):List T:=[fZ r.media,ti r.film,ti r.start,ti r.len]
abbrev vrun (r:RunR):V := .agg [bY r.media,aA r.film,aA r.start,aA r.len]
@[go_sem] theorem RunR.ct (r:RunR):(RunR.c r).map V.t = [bY r.media,aA r.film,aA r.start,aA r.len]:=rfl
@[go_sem] theorem RunR.cl (r:RunR):(RunR.c r).length=4:=rfl
abbrev truns (l:List RunR):T := .list 4 (RunR.c default) (l.map RunR.c)
def Yz:ExprR→ByteArray
 | .mk _ media .. => media
def aFn:ExprR→Int
 | .mk _ _ frame .. => frame
def srcB (e:ExprR):Bool:=opE e==1
def aRf (b e:ExprR):Bool:=opE b==1&&((Yz b).toList==(Yz e).toList)&&aFn e - 1==aFn b
def bump:List RunR→List RunR
 | []=>[]
 | [r]=>[{ r with len:=r.len+1 }]
 | r::s::l=>r::bump (s::l)
def joinB (l:List ExprR) (k:Nat):Bool:=decide (0<k)&&aRf (l.getD (k - 1) default) (l.getD k default)
def Yc (l:List ExprR):Nat→List RunR
 | 0=>[]
 | k+1 =>
  if srcB (l.getD k default)=true then
   (if joinB l k=true then bump (Yc l k) else Yc l k ++ [⟨Yz (l.getD k default),k,aFn (l.getD k default),1⟩])
  else Yc l k
def runsE (l:List ExprR):List RunR:=Yc l l.length
structure RunsInv (l:List ExprR) (k:Nat) (rs:List RunR):Prop where
 len:rs.length≤k
 all:∀ r∈rs,1≤r.len∧0≤r.film∧r.film+r.len≤(k:Int)
 last : 0<k→srcB (l.getD (k - 1) default)=true → ∃ i r,rs=i ++ [r]∧r.film+r.len=(k:Int)∧r.media.toList=(Yz (l.getD (k - 1) default)).toList
 gap : 0<k→srcB (l.getD (k - 1) default)=false → ∀ r∈rs,r.film+r.len<(k:Int)
def seq0:SequenceR:=⟨⟨#[97]⟩,⟨25,1⟩,16,16,[],[],[],0⟩
def proj0:ProjR:=⟨[],[seq0]⟩
abbrev zLay:List T:=[.lit (.slice none 0 0), .lit (.slice none 0 0), .lit (.slice none 0 0)]
abbrev ix0:V := .agg [.t (.map []), .t (.map [(.string ⟨#[97]⟩,false,[.list 3 zLay []])])]
def still25 (n:Int):ExprR:=if (decide (n<0)||decide (n ≥ 30))=true then hZ else .mk 1 ⟨#[97]⟩ n 0 0 0 ⟨#[]⟩ []
theorem aEu (op:Int) (media:ByteArray) (frame num den param:Int) (text:ByteArray) {h:Heap}:tQ (vex op media frame num den param text []) (.agg [aA op,bY media,aA frame,aA num,aA den,aA param,bY text, .t (.lit (.slice none 0 0))]) h :=
 yC (r' := .agg [aA op,bY media,aA frame,aA num,aA den,aA param,bY text, .t (.lit (.slice none 0 0))]) rfl rfl (Gw (by exact ⟨dN,dN,dN,dN,dN,dN,dN,Ev,trivial⟩))
def RunR.eqb (s t:RunR):Bool:=(s.media.toList==t.media.toList)&&s.film==t.film&&s.start==t.start&&s.len==t.len
def exB:ExprR := .mk 2 ⟨#[]⟩ 0 1 2 0 ⟨#[]⟩ [hZ,hZ]
def stE (n:Int):ExprR := .mk 1 ⟨#[97]⟩ n 0 0 0 ⟨#[]⟩ []
theorem wNU {n:Nat} (h:n<18446744073709551616):IntKind.u64.wrap (n:Int)=n:=Kh (by omega) (by omega)
theorem cOf (n d:Nat) (hd : 1≤d) (hn:n≤1099511627776) (hd2:d≤1099511627776):aK Tryz.prog 221 [aA n,aA d] (.tup [Ax ⟨((n / Nat.gcd n d:Nat):Int),((d / Nat.gcd n d:Nat):Int)⟩,aA 0]):=by
 have hg : 0<Nat.gcd n d:=Nat.gcd_pos_of_pos_right _ hd;have q1:n / Nat.gcd n d≤n:=Nat.div_le_self _ _;have q2:d / Nat.gcd n d≤d:=Nat.div_le_self _ _;refine aG Tryz.X221 Tryz.func221 rfl Tryz.ntmps221 (by rw [Tryz.results221]) (aC _ ?_);simp only [go_sem,simprocAttr];refine ⟨fun h=>?_,fun h=>?_⟩
 ·simp only [beq_iff_eq] at h;omega
 ·unfold awS;simp only [go_sem,simprocAttr];refine ⟨_,mC n ⟨by omega,by omega⟩,?_⟩;simp only [go_sem,simprocAttr,Int.natAbs_natCast];refine ⟨_,mC d ⟨by omega,by omega⟩,?_⟩;simp only [go_sem,simprocAttr,Int.natAbs_natCast];refine ⟨_,Xd n d,?_⟩;simp only [go_sem];refine bT [0,1,2,3,4,5,6,7] .done rfl (by kernel_rfl) (by kernel_rfl) (by decide) ?_;simp only [go_sem,simprocAttr,kT,wNU (n:=n / Nat.gcd n d) (by omega),wNU (n:=d / Nat.gcd n d) (by omega)];refine ⟨by omega,by omega,fun h2=>?_,fun h2=>?_⟩
  ·simp only [decide_eq_true_eq,Bool.or_eq_true] at h2;omega
  ·unfold awS;simp only [go_sem,simprocAttr,gE (n:=n / Nat.gcd n d) (by omega),gE (n:=d / Nat.gcd n d) (by omega)];refine ⟨fun h3=>?_,fun h3=>?_⟩
   ·simp only [ne_eq,beq_eq_false_iff_ne,Bool.not_eq_eq_eq_not,Bool.not_true] at h3;exfalso;have e1:decide ((n:Int)<0)=false:=decide_eq_false (by omega);have e2:decide ((d:Int)<0)=false:=decide_eq_false (by omega);rw [e1,e2] at h3;exact absurd rfl h3
   ·unfold awS;simp only [go_sem,simprocAttr]
theorem aDa {t:List ClipR} {x:Nat} (h:x<t.length) (d:List T):nth d ((uA t).map sS) x = [ti (totL (t.take (x+1)))]:=by
 unfold nth uA;rw [List.getElem?_map,List.getElem?_map,List.getElem?_range h];rfl
theorem Et (t:List ClipR):(uA t).length=t.length:=by unfold uA;simp
abbrev capN (n:Int):V := .elem 1 [ti n] [[ti n]] 0 0
abbrev capL (t:List ClipR):V := .elem 3 (Cp t) [Cp t] 0 0
theorem cLess (t:List ClipR) (n:Int) {x:Nat} (hx:x<t.length):aK Tryz.prog 170 [aA x,capN n,capL t] (aX (decide (n<totL (t.take (x+1))))):=by
 refine aG Tryz.X170 Tryz.func170 rfl Tryz.ntmps170 (by rw [Tryz.results170]) (aC _ ?_);simp only [go_sem,simprocAttr];refine bT [0,1,2,3,4,5,6,7] .done rfl (by kernel_rfl) (by kernel_rfl) (by decide) ?_;simp only [go_sem,simprocAttr,Kp,Cp,aDa hx,Et];omega
theorem cSearch (t:List ClipR) (n:Int) (r:Nat) (h64:t.length≤64) (hr:r≤t.length) (h1:∀ x,x<r→totL (t.take (x+1))≤n) (h2:∀ x,r≤x→x<t.length→n<totL (t.take (x+1))) :
  aK Tryz.prog 169 [aA t.length, .clo 170 [capN n,capL t]] (aA r):=by
 refine aG Tryz.X169 Tryz.func169 rfl Tryz.ntmps169 (by rw [Tryz.results169]) (aC _ ?_);simp only [go_sem,↓reduceIte,Nat.reduceAdd,Nat.reduceSub];refine aJ (fun (x:Nat×Nat) σ => dW 5 (aA x.1) (dW 6 (aA x.2) (dD [7,9,10,11,12,13,14,15,16,17,18,19,20,21,22,23,24] σ))) (fun x=>x.1≤r∧r≤x.2∧x.2≤t.length) (fun x=>x.2 - x.1) (0,t.length) (aE ?_) ⟨Nat.zero_le _,hr,Nat.le_refl _⟩ ?_
 ·simp only [go_sem,Nat.reduceLeDiff]<;>simp
 ·rintro ⟨i,j⟩ ⟨hi,hj,hjl⟩;simp only at hi hj hjl;refine aC _ ?_;simp only [go_sem,↓reduceIte];refine ⟨fun hlt=>?_,fun hge=>?_⟩
  ·simp only [decide_eq_true_eq] at hlt;have w1:IntKind.i64.wrap ((i:Int)+(j:Int))=((i+j:Nat):Int):=by rw [wrap64 (by omega) (by omega)];omega
   have w2:IntKind.u64.wrap ((i+j:Nat):Int)=((i+j:Nat):Int):=wNU (by omega);have p2:(2:Int) ^ min (Int.toNat 1) 64=2:=by decide
   have d2:((i+j:Nat):Int) / 2=(((i+j) / 2:Nat):Int):=rfl;have w3:IntKind.i64.wrap (((i+j) / 2:Nat):Int)=(((i+j) / 2:Nat):Int):=gE (by omega);have hh1:i≤(i+j) / 2:=by omega
   have hh2:(i+j) / 2<j:=by omega
   unfold awS;simp only [go_sem,↓reduceIte,w1,w2,p2,d2,w3];obtain ⟨x,hx⟩:∃ x,x=(i+j) / 2:=⟨_,rfl⟩
   rw [← hx] at hh1 hh2 ⊢;refine ⟨by decide,jR (cLess t n (x:=x) (by omega)) rfl ?_⟩;simp only [go_sem];refine ⟨fun h3=>?_,fun h3=>?_⟩
   ·simp only [decide_eq_false_iff_not,Bool.not_eq_eq_eq_not,Bool.not_true] at h3;have hxr:x<r:=by
     rcases Nat.lt_or_ge x r with h4 | h4
     ·exact h4
     ·exact absurd (h2 x h4 (by omega)) h3
    unfold awS;simp only [go_sem,↓reduceIte];refine ⟨(x+1,j),aE ?_,⟨by simp only;omega,hj,hjl⟩,by simp only;omega⟩;simp only [go_sem,Nat.reduceLeDiff]<;>simp [dC (show x<9223372036854775807 by omega)]
   ·have h3':n<totL (t.take (x+1)):=by simpa using h3
    have hxr:r≤x:=by
     rcases Nat.lt_or_ge x r with h4 | h4
     ·have:=h1 x h4;omega
     ·exact h4
    unfold awS;simp only [go_sem];refine ⟨(i,x),aE ?_,⟨hi,hxr,by simp only;omega⟩,by simp only;omega⟩;simp only [go_sem,Nat.reduceLeDiff]
  ·simp only [decide_eq_false_iff_not] at hge;have:i=r:=by omega
   subst this;unfold awS;simp only [go_sem,↓reduceIte]
theorem aHu (n:ByteArray) (l:List MediumR):qL (.string n) (frM l)=(vG l n).map fun m=>aA m.frames:=tV _ _ n l
theorem look_ly (n:ByteArray) (l:List SequenceR):qL (.string n) (lyM l)=(bZ l n).map fun s => .t (.list 3 Lj (s.video.map Cp)):=tV _ _ n l
theorem cLeafF (p:ProjR) (G:ByteArray→Int→ExprR) (s:SourceR) (i:Int) (hG:s.kind=2→aK Tryz.prog 95 [vix p,bY s.name,aA i] (jH (G s.name i))) :
  aK Tryz.prog 249 [vix p,kW s,aA i] (jH (kU p G s i)):=by
 refine eD Tryz.X249 Tryz.func249 rfl Tryz.ntmps249 (by rw [Tryz.results249]) (aC _ ?_);simp only [go_sem,simprocAttr];refine ⟨fun h=>?_,fun h=>?_⟩
 ·simp only [beq_iff_eq] at h;have e:kU p G s i=G s.name i:=by unfold kU;rw [if_pos h]
  have hG':=hG h;rw [e];unfold awS;simp only [go_sem,simprocAttr];refine ⟨_,hG',?_⟩;generalize G s.name i=x;rcases x with ⟨op,media,frame,num,den,param,text,args⟩;simp only [go_sem,simprocAttr];exact bJ rfl rfl
 ·simp only [ne_eq,beq_eq_false_iff_ne] at h;unfold awS;cases hmo:vG p.media s.name with
  | none =>
   have e:kU p G s i=if i<0∨0≤i then hZ else .mk 1 s.name i 0 0 0 ⟨#[]⟩ []:=by unfold kU aQj;rw [if_neg h,hmo]
   simp only [go_sem,simprocAttr,aHu,hmo,Option.map_none];rw [e];refine ⟨fun h2=>?_,fun h2=>?_⟩
   ·simp only [decide_eq_true_eq,Bool.or_eq_true] at h2;rw [if_pos h2];unfold awS;simp only [go_sem,simprocAttr];exact mL
   ·simp only [decide_eq_false_iff_not,Bool.or_eq_false_iff] at h2;omega
  | some m =>
   have e:kU p G s i=if i<0∨m.frames≤i then hZ else .mk 1 s.name i 0 0 0 ⟨#[]⟩ []:=by unfold kU aQj;rw [if_neg h,hmo]
   simp only [go_sem,simprocAttr,aHu,hmo,Option.map_some];rw [e];refine ⟨fun h2=>?_,fun h2=>?_⟩
   ·simp only [decide_eq_true_eq,Bool.or_eq_true] at h2;rw [if_pos h2];unfold awS;simp only [go_sem,simprocAttr];exact mL
   ·simp only [decide_eq_false_iff_not,Bool.or_eq_false_iff] at h2;rw [if_neg (by omega)];unfold awS;simp only [go_sem,simprocAttr];exact aEu ..
theorem ediv_of {a b:Int} (hb : 0<b):(¬ a.tmod b<0→a / b=a.tdiv b∧a % b=a.tmod b)∧(a.tmod b<0→a / b=a.tdiv b - 1∧a % b=a.tmod b+b):=by
 have h1:=Int.mul_tdiv_add_tmod a b;have h2:=Int.tmod_lt_of_pos a hb;have h3 : -b<a.tmod b:=by
  have:=Int.lt_tmod_of_pos a hb;omega
 constructor
 ·intro h;have:=(Int.ediv_emod_unique hb (a:=a) (q:=a.tdiv b) (r:=a.tmod b)).2 ⟨by omega,by omega,h2⟩;exact this
 ·intro h;have:=(Int.ediv_emod_unique hb (a:=a) (q:=a.tdiv b - 1) (r:=a.tmod b+b)).2 ⟨by rw [Int.mul_sub,Int.mul_one];omega,by omega,by omega⟩;exact this
theorem aEz {s:SourceR} {p d:Nat} (ok:SrcOk s p d) {k:Int} (hk : 0≤k∧k≤2147483647):(k*mH s).natAbs≤144115188075855872∧(dJ s k).natAbs≤216172782113783808:=by
 obtain ⟨f1,f2,f3,f4,f5,f6,f7⟩:=yD ok;have h1:(k*mH s).natAbs≤144115188075855872:=by
  rw [Int.natAbs_mul]
  calc k.natAbs*(mH s).natAbs≤2147483648*67108864:=Nat.mul_le_mul (by omega) f7
   _=144115188075855872:=by decide
 refine ⟨h1,?_⟩;unfold dJ;omega
theorem cPicF (p:ProjR) (F:SourceR→Int→ExprR) (s:SourceR) (k:Int) (hv:aY s=true) (hk : 0≤k∧k≤2147483647)
  (hF:s.kind≠0 → ∀ i,I64 i→aK Tryz.prog 249 [vix p,kW s,aA i] (jH (F s i))) :
  aK Tryz.prog 220 [vix p,Fa s,aA k] (jH (fC eM F s k)):=by
 refine eD Tryz.X220 Tryz.func220 rfl Tryz.ntmps220 (by rw [Tryz.results220]) (aC _ ?_);simp only [go_sem,simprocAttr];refine ⟨fun h=>?_,fun h=>?_⟩
 ·simp only [beq_iff_eq] at h;have e:fC eM F s k=hZ:=by unfold fC;rw [if_pos h]
  rw [e];unfold awS;simp only [go_sem,simprocAttr];exact mL
 ·simp only [ne_eq,beq_eq_false_iff_ne] at h;obtain ⟨pp,dd,ok⟩:=Zd hv h;obtain ⟨f1,f2,f3,f4,f5,f6,f7⟩:=yD ok;obtain ⟨b1,b2⟩:=aEz ok hk;have e:fC eM F s k=if s.smooth=true∧dJ s k % (aW s:Int)≠0 then eM (pA 2 0 (dJ s k % (aW s:Int)) (aW s) (F s (dJ s k / (aW s:Int))) (F s (dJ s k / (aW s:Int)+1))) else F s (dJ s k / (aW s:Int)):=by
   conv=>lhs;unfold fC
   rw [if_neg h]
  rw [e];have hpos:IntKind.i64.wrap (atS s+k*mH s)=dJ s k:=wrap64 (x:=dJ s k) (by omega) (by omega);obtain ⟨t1,t2⟩:=ediv_of (a:=dJ s k) (b:=(aW s:Int)) (by omega);unfold awS;simp only [go_sem,simprocAttr,wrap64 (x:=k*mH s) (by omega) (by omega),hpos];have hq:((dJ s k).tdiv (aW s:Int)).natAbs≤(dJ s k).natAbs:=by
   rw [Int.natAbs_tdiv];exact Nat.div_le_self _ _
  have hrb1:=Int.emod_nonneg (dJ s k) (show (aW s:Int)≠0 by omega);have hrb2:=Int.emod_lt_of_pos (dJ s k) (show (0:Int)<aW s by omega);refine bT [0,1,2,3,4,5,6,7,8,9] .done rfl (by kernel_rfl) (by kernel_rfl) (by decide) ?_;simp only [go_sem,simprocAttr,wrap64 (x:=(dJ s k).tdiv (aW s:Int)) (by omega) (by omega)];refine ⟨by omega,by omega,fun h3=>?_,fun h3=>?_⟩
  ·simp only [decide_eq_true_eq] at h3;obtain ⟨g1,g2⟩:=t2 h3;have wq:IntKind.i64.wrap ((dJ s k).tdiv (aW s:Int) - 1)=dJ s k / (aW s:Int):=by rw [← g1];exact wrap64 (by omega) (by omega)
   have wr:IntKind.i64.wrap ((dJ s k).tmod (aW s:Int)+(aW s:Int))=dJ s k % (aW s:Int):=by rw [← g2];exact wrap64 (by omega) (by omega)
   unfold awS;simp only [go_sem];refine bT [0,1,2,3,4,5,6,7] .done rfl (by kernel_rfl) (by kernel_rfl) (by decide) ?_;simp only [go_sem,simprocAttr,wq,wr];refine brW (b := !(s.smooth && !decide (dJ s k % (aW s:Int)=0))) ?_ ⟨fun h4=>?_,fun h4=>?_⟩
   ·rw [Bool.eq_iff_iff];cases s.smooth<;>simp
   ·have e2 : ¬ (s.smooth=true∧dJ s k % (aW s:Int)≠0):=fun ⟨q1,q2⟩=>by
     rw [q1,decide_eq_false q2] at h4;cases h4
    rw [if_neg e2];unfold awS;simp only [go_sem,simprocAttr];refine ⟨_,hF h _ ⟨by omega,by omega⟩,?_⟩;generalize F s (dJ s k / (aW s:Int))=x;rcases x with ⟨op,media,frame,num,den,param,text,args⟩;simp only [go_sem,simprocAttr];exact bJ rfl rfl
   ·have e2:s.smooth=true∧dJ s k % (aW s:Int)≠0:=by
     refine ⟨?_,fun q2=>?_⟩
     ·cases q1:s.smooth with
      | true=>rfl
      | false=>rw [q1] at h4;cases h4
     ·rw [decide_eq_true q2] at h4;cases q1:s.smooth<;>rw [q1] at h4<;>cases h4
    rw [if_pos e2];obtain ⟨rr,hrr⟩:∃ rr:Nat,dJ s k % (aW s:Int)=rr:=⟨(dJ s k % (aW s:Int)).toNat,by omega⟩
    have hgq:pA 2 0 (dJ s k % (aW s:Int)) (aW s) (F s (dJ s k / (aW s:Int))) (F s (dJ s k / (aW s:Int)+1)) = .mk 2 ⟨#[]⟩ 0 ((rr / Nat.gcd rr (aW s):Nat):Int) ((aW s / Nat.gcd rr (aW s):Nat):Int) 0 ⟨#[]⟩ [F s (dJ s k / (aW s:Int)),F s (dJ s k / (aW s:Int)+1)]:=by
     unfold pA Zt;rw [hrr,Int.natAbs_natCast,Int.natAbs_natCast];rfl
    have hred:=vR 2 ⟨#[]⟩ 0 ((rr / Nat.gcd rr (aW s):Nat):Int) ((aW s / Nat.gcd rr (aW s):Nat):Int) 0 ⟨#[]⟩ (F s (dJ s k / (aW s:Int))) (F s (dJ s k / (aW s:Int)+1));rw [hgq];unfold eM;have c1:=hF h (dJ s k / (aW s:Int)) ⟨by omega,by omega⟩;have c2:=hF h (dJ s k / (aW s:Int)+1) ⟨by omega,by omega⟩;have w1:IntKind.i64.wrap (dJ s k / (aW s:Int)+1)=dJ s k / (aW s:Int)+1:=wrap64 (by omega) (by omega);unfold awS;simp only [go_sem,simprocAttr,hrr];refine ⟨_,cOf rr (aW s) (by omega) (by omega) (by omega),?_⟩;simp only [go_sem,simprocAttr];refine vQ 17 [.give [19], .op 17, .op 18] rfl (by kernel_rfl) (by kernel_rfl) (by decide) ?_;simp only [go_sem,simprocAttr];refine ⟨_,c1,?_⟩;generalize F s (dJ s k / (aW s:Int))=x at hred ⊢;rcases x with ⟨op,media,frame,num,den,param,text,args⟩;simp only [go_sem,simprocAttr,w1];refine ⟨_,c2,?_⟩;generalize F s (dJ s k / (aW s:Int)+1)=y at hred ⊢;rcases y with ⟨op',media',frame',num',den',param',text',args'⟩;simp only [go_sem,simprocAttr];refine ⟨by kernel_rfl,?_⟩;simp only [vex,jM,List.map_cons,List.map_nil,ExprR.c,qT] at hred;refine ⟨_,hred,?_⟩;generalize Ka _ _ _ _ _ _ _ _=z;rcases z with ⟨op3,media3,frame3,num3,den3,param3,text3,args3⟩;simp only [go_sem,simprocAttr];exact bJ rfl rfl
  ·simp only [decide_eq_false_iff_not] at h3;obtain ⟨g1,g2⟩:=t1 h3;unfold awS;rw [← g1, ← g2];simp only [go_sem,simprocAttr];refine brW (b := !(s.smooth && !decide (dJ s k % (aW s:Int)=0))) ?_ ⟨fun h4=>?_,fun h4=>?_⟩
   ·rw [Bool.eq_iff_iff];cases s.smooth<;>simp
   ·have e2 : ¬ (s.smooth=true∧dJ s k % (aW s:Int)≠0):=fun ⟨q1,q2⟩=>by
     rw [q1,decide_eq_false q2] at h4;cases h4
    rw [if_neg e2];unfold awS;simp only [go_sem,simprocAttr];refine ⟨_,hF h _ ⟨by omega,by omega⟩,?_⟩;generalize F s (dJ s k / (aW s:Int))=x;rcases x with ⟨op,media,frame,num,den,param,text,args⟩;simp only [go_sem,simprocAttr];exact bJ rfl rfl
   ·have e2:s.smooth=true∧dJ s k % (aW s:Int)≠0:=by
     refine ⟨?_,fun q2=>?_⟩
     ·cases q1:s.smooth with
      | true=>rfl
      | false=>rw [q1] at h4;cases h4
     ·rw [decide_eq_true q2] at h4;cases q1:s.smooth<;>rw [q1] at h4<;>cases h4
    rw [if_pos e2];obtain ⟨rr,hrr⟩:∃ rr:Nat,dJ s k % (aW s:Int)=rr:=⟨(dJ s k % (aW s:Int)).toNat,by omega⟩
    have hgq:pA 2 0 (dJ s k % (aW s:Int)) (aW s) (F s (dJ s k / (aW s:Int))) (F s (dJ s k / (aW s:Int)+1)) = .mk 2 ⟨#[]⟩ 0 ((rr / Nat.gcd rr (aW s):Nat):Int) ((aW s / Nat.gcd rr (aW s):Nat):Int) 0 ⟨#[]⟩ [F s (dJ s k / (aW s:Int)),F s (dJ s k / (aW s:Int)+1)]:=by
     unfold pA Zt;rw [hrr,Int.natAbs_natCast,Int.natAbs_natCast];rfl
    have hred:=vR 2 ⟨#[]⟩ 0 ((rr / Nat.gcd rr (aW s):Nat):Int) ((aW s / Nat.gcd rr (aW s):Nat):Int) 0 ⟨#[]⟩ (F s (dJ s k / (aW s:Int))) (F s (dJ s k / (aW s:Int)+1));rw [hgq];unfold eM;have c1:=hF h (dJ s k / (aW s:Int)) ⟨by omega,by omega⟩;have c2:=hF h (dJ s k / (aW s:Int)+1) ⟨by omega,by omega⟩;have w1:IntKind.i64.wrap (dJ s k / (aW s:Int)+1)=dJ s k / (aW s:Int)+1:=wrap64 (by omega) (by omega);unfold awS;simp only [go_sem,simprocAttr,hrr];refine ⟨_,cOf rr (aW s) (by omega) (by omega) (by omega),?_⟩;simp only [go_sem,simprocAttr];refine vQ 17 [.give [19], .op 17, .op 18] rfl (by kernel_rfl) (by kernel_rfl) (by decide) ?_;simp only [go_sem,simprocAttr];refine ⟨_,c1,?_⟩;generalize F s (dJ s k / (aW s:Int))=x at hred ⊢;rcases x with ⟨op,media,frame,num,den,param,text,args⟩;simp only [go_sem,simprocAttr,w1];refine ⟨_,c2,?_⟩;generalize F s (dJ s k / (aW s:Int)+1)=y at hred ⊢;rcases y with ⟨op',media',frame',num',den',param',text',args'⟩;simp only [go_sem,simprocAttr];refine ⟨by kernel_rfl,?_⟩;simp only [vex,jM,List.map_cons,List.map_nil,ExprR.c,qT] at hred;refine ⟨_,hred,?_⟩;generalize Ka _ _ _ _ _ _ _ _=z;rcases z with ⟨op3,media3,frame3,num3,den3,param3,text3,args3⟩;simp only [go_sem,simprocAttr];exact bJ rfl rfl
abbrev vpair (c:ClipR):V := .agg [aA c.a.kind,bY c.a.name,aA c.a.pos.num,aA c.a.pos.den,aA c.a.speed.num,aA c.a.speed.den,aX c.a.smooth,aA (aW c.a),aA (atS c.a),aA (mH c.a),
 aA c.b.kind,bY c.b.name,aA c.b.pos.num,aA c.b.pos.den,aA c.b.speed.num,aA c.b.speed.den,aX c.b.smooth,aA (aW c.b),aA (atS c.b),aA (mH c.b)]
theorem cClipF (p:ProjR) (F:SourceR→Int→ExprR) (c:ClipR) (k:Int) (hv:aN c=true) (h0:c.kind≠0) (hk : 0≤k∧k<c.len)
  (hA:aK Tryz.prog 220 [vix p,Fa c.a,aA k] (jH (fC eM F c.a k))) (hB:aK Tryz.prog 220 [vix p,Fa c.b,aA k] (jH (fC eM F c.b k))) :
  aK Tryz.prog 171 [vix p,mF c,vpair c,aA k] (jH (mQ eM F c k)):=by
 unfold aN cF at hv;rw [Bool.and_eq_true,if_neg h0] at hv;obtain ⟨hb,hv⟩:=hv;unfold pR at hb;simp only [Bool.and_eq_true,decide_eq_true_eq] at hb;refine eD Tryz.X171 Tryz.func171 rfl Tryz.ntmps171 (by rw [Tryz.results171]) (aC _ ?_);simp only [go_sem,Nat.reduceGT,↓reduceIte,Nat.reduceAdd,Nat.reduceSub,Nat.reduceLeDiff,Nat.reduceEqDiff,reduceCtorEq];refine ⟨fun h1=>?_,fun h1=>?_⟩
 ·simp only [beq_iff_eq] at h1;have e:mQ eM F c k=fC eM F c.a k:=by unfold mQ;rw [if_pos h1]
  rw [e];unfold awS;simp only [go_sem,↓reduceIte,Nat.reduceAdd,Nat.reduceMul,Nat.reduceLeDiff,Nat.reduceEqDiff,reduceCtorEq,Int.reduceLE,Int.reduceToNat,Bool.and_true];refine ⟨by decide,_,hA,?_⟩;generalize fC eM F c.a k=x;rcases x with ⟨op,media,frame,num,den,param,text,args⟩;simp only [go_sem,↓reduceIte,Nat.reduceAdd,Nat.reduceLeDiff,Nat.reduceEqDiff];exact bJ rfl rfl
 ·simp only [ne_eq,beq_eq_false_iff_ne] at h1;rw [if_neg h1] at hv;unfold awS;simp only [go_sem,↓reduceIte];refine ⟨fun h5=>?_,fun h5=>?_⟩
  ·simp only [beq_iff_eq] at h5;have e:mQ eM F c k = .mk 5 ⟨#[]⟩ 0 0 0 0 c.text [fC eM F c.a k]:=by unfold mQ;rw [if_neg h1,if_pos h5]
   rw [e];unfold awS;simp only [go_sem];refine aQ 10 .done rfl (by kernel_rfl) (by kernel_rfl) (by decide) ?_;simp only [go_sem,↓reduceIte,Nat.reduceAdd,Nat.reduceMul,Nat.reduceLeDiff,Nat.reduceEqDiff,reduceCtorEq,Int.reduceLE,Int.reduceToNat,Bool.and_true];refine ⟨by decide,_,hA,?_⟩;generalize fC eM F c.a k=x;rcases x with ⟨op,media,frame,num,den,param,text,args⟩;simp only [go_sem,Nat.reduceGT,Nat.reducePow,Nat.reduceLT,↓reduceIte,Nat.reduceAdd,Nat.reduceMul,Nat.reduceLeDiff,Nat.reduceEqDiff,reduceCtorEq,Bool.and_true];refine ⟨by kernel_rfl,bJ ?_ rfl⟩;simp only [go_sem,↓reduceIte];simp only [vex,jM,List.map_cons,List.map_nil,ExprR.c,qT];rfl
  ·simp only [ne_eq,beq_eq_false_iff_ne] at h5;rw [show (if c.kind=5 then (c.b.isZ&&eN c&&c.param==0&&nU c.text) else false)=false from if_neg h5] at hv;unfold awS;simp only [go_sem,↓reduceIte];refine ⟨fun h4=>?_,fun h4=>?_⟩
   ·simp only [beq_iff_eq] at h4;unfold awS;simp only [go_sem,↓reduceIte,Nat.reduceAdd,Nat.reduceLeDiff,Nat.reduceEqDiff,Bool.and_true];refine ⟨fun hn=>?_,fun hn=>?_⟩
    ·simp only [bne_iff_ne,ne_eq] at hn;omega
    ·unfold awS;have e:mQ eM F c k=Ka 4 ⟨#[]⟩ 0 0 0 c.param ⟨#[]⟩ [fC eM F c.a k,fC eM F c.b k]:=by
      unfold mQ;rw [if_neg h1,if_neg h5,if_pos h4];rfl
     rw [e];have hred:=vR 4 ⟨#[]⟩ 0 0 0 c.param ⟨#[]⟩ (fC eM F c.a k) (fC eM F c.b k);simp only [go_sem];refine aQ 13 .done rfl (by kernel_rfl) (by kernel_rfl) (by decide) ?_;simp only [go_sem,↓reduceIte,Nat.reduceAdd,Nat.reduceMul,Nat.reduceLeDiff,Nat.reduceEqDiff,reduceCtorEq,Int.reduceLE,Int.reduceToNat,Bool.and_true];refine ⟨by decide,_,hA,?_⟩;generalize fC eM F c.a k=x at hred ⊢;rcases x with ⟨op,media,frame,num,den,param,text,args⟩;simp only [go_sem,↓reduceIte,Nat.reduceAdd,Nat.reduceMul,Nat.reduceLeDiff,Nat.reduceEqDiff,reduceCtorEq,Int.reduceLE,Int.reduceToNat,Bool.and_true];refine ⟨by decide,_,hB,?_⟩;generalize fC eM F c.b k=y at hred ⊢;rcases y with ⟨op',media',frame',num',den',param',text',args'⟩;simp only [go_sem,Nat.reducePow,Nat.reduceLT,↓reduceIte,Nat.reduceAdd,Nat.reduceMul,Nat.reduceLeDiff,Nat.reduceEqDiff,Bool.and_true,Bool.and_false];refine ⟨by kernel_rfl,?_⟩;simp only [vex,jM,List.map_cons,List.map_nil,ExprR.c,qT] at hred;refine pK ?_;simp only [go_sem,↓reduceIte,Nat.reduceAdd,Nat.reduceEqDiff,Bool.and_true];refine ⟨_,hred,?_⟩;generalize Ka _ _ _ _ _ _ _ _=z;rcases z with ⟨op3,media3,frame3,num3,den3,param3,text3,args3⟩;simp only [go_sem,↓reduceIte,Nat.reduceAdd,Nat.reduceLeDiff,Bool.and_true];exact bJ rfl rfl
   ·simp only [ne_eq,beq_eq_false_iff_ne] at h4;unfold awS;simp only [go_sem,↓reduceIte];refine ⟨fun h2=>?_,fun h2=>?_⟩
    ·simp only [beq_iff_eq] at h2;unfold awS;simp only [go_sem,↓reduceIte,Nat.reduceAdd,Nat.reduceLeDiff,Nat.reduceEqDiff,Bool.and_true];refine ⟨fun hn=>?_,fun hn=>?_⟩
     ·unfold awS;have hs:=hv;rw [if_pos h2] at hs;unfold fE at hs;simp only [Bool.and_eq_true,decide_eq_true_eq,beq_iff_eq] at hs;obtain ⟨nn,hnn⟩:∃ nn:Nat,c.off+k+1=nn:=⟨(c.off+k+1).toNat,by omega⟩
      obtain ⟨dd,hdd⟩:∃ dd:Nat,c.total+1=dd:=⟨(c.total+1).toNat,by omega⟩
      have e:mQ eM F c k=Ka 2 ⟨#[]⟩ 0 ((nn / Nat.gcd nn dd:Nat):Int) ((dd / Nat.gcd nn dd:Nat):Int) c.param ⟨#[]⟩ [fC eM F c.a k,fC eM F c.b k]:=by
       unfold mQ pA Zt;rw [if_neg h1,if_neg h5,if_neg h4,hnn,hdd,Int.natAbs_natCast,Int.natAbs_natCast,h2];rfl
      rw [e];have hred:=vR 2 ⟨#[]⟩ 0 ((nn / Nat.gcd nn dd:Nat):Int) ((dd / Nat.gcd nn dd:Nat):Int) c.param ⟨#[]⟩ (fC eM F c.a k) (fC eM F c.b k);simp only [go_sem,↓reduceIte,Nat.reduceEqDiff,Bool.and_true,wrap64 (x:=c.off+k) (by omega) (by omega),hnn,hdd,gE (n:=nn) (by omega),gE (n:=dd) (by omega)];refine ⟨_,cOf nn dd (by omega) (by omega) (by omega),?_⟩;simp only [go_sem,↓reduceIte,Nat.reduceAdd,Nat.reduceLeDiff,Bool.and_true];refine aQ 8 .done rfl (by kernel_rfl) (by kernel_rfl) (by decide) ?_;simp only [go_sem,↓reduceIte,Nat.reduceAdd,Nat.reduceLeDiff,Nat.reduceEqDiff,Bool.and_true];refine ⟨by kernel_rfl,?_⟩;refine aQ 13 .done rfl (by kernel_rfl) (by kernel_rfl) (by decide) ?_;simp only [go_sem,↓reduceIte,Nat.reduceAdd,Nat.reduceMul,Nat.reduceLeDiff,Nat.reduceEqDiff,reduceCtorEq,Int.reduceLE,Int.reduceToNat,Bool.and_true];refine ⟨by decide,_,hA,?_⟩;generalize fC eM F c.a k=x at hred ⊢;rcases x with ⟨op,media,frame,num,den,param,text,args⟩;simp only [go_sem,↓reduceIte,Nat.reduceAdd,Nat.reduceMul,Nat.reduceLeDiff,Nat.reduceEqDiff,reduceCtorEq,Int.reduceLE,Int.reduceToNat,Bool.and_true];refine ⟨by decide,_,hB,?_⟩;generalize fC eM F c.b k=y at hred ⊢;rcases y with ⟨op',media',frame',num',den',param',text',args'⟩;simp only [go_sem,Nat.reducePow,Nat.reduceLT,↓reduceIte,Nat.reduceAdd,Nat.reduceMul,Nat.reduceLeDiff,Nat.reduceEqDiff,Bool.and_true,Bool.and_false];refine ⟨by kernel_rfl,?_⟩;simp only [vex,jM,List.map_cons,List.map_nil,ExprR.c,qT] at hred;refine pK ?_;simp only [go_sem,↓reduceIte,Nat.reduceAdd,Nat.reduceEqDiff,Bool.and_true];refine ⟨_,hred,?_⟩;generalize Ka _ _ _ _ _ _ _ _=z;rcases z with ⟨op3,media3,frame3,num3,den3,param3,text3,args3⟩;simp only [go_sem,↓reduceIte,Nat.reduceAdd,Nat.reduceLeDiff,Bool.and_true];exact bJ rfl rfl
     ·simp at hn;omega
    ·simp only [ne_eq,beq_eq_false_iff_ne] at h2;unfold awS;simp only [go_sem,↓reduceIte];refine ⟨fun h3=>?_,fun h3=>?_⟩
     ·simp only [beq_iff_eq] at h3;unfold awS;simp only [go_sem,↓reduceIte,Nat.reduceAdd,Nat.reduceLeDiff,Nat.reduceEqDiff,Bool.and_true];refine ⟨fun hn=>?_,fun hn=>?_⟩
      ·unfold awS;have hs:=hv;rw [if_neg h2] at hs;rw [if_pos h3] at hs;unfold fE at hs;simp only [Bool.and_eq_true,decide_eq_true_eq] at hs;obtain ⟨nn,hnn⟩:∃ nn:Nat,c.off+k+1=nn:=⟨(c.off+k+1).toNat,by omega⟩
       obtain ⟨dd,hdd⟩:∃ dd:Nat,c.total+1=dd:=⟨(c.total+1).toNat,by omega⟩
       have e:mQ eM F c k=Ka 3 ⟨#[]⟩ 0 ((nn / Nat.gcd nn dd:Nat):Int) ((dd / Nat.gcd nn dd:Nat):Int) c.param ⟨#[]⟩ [fC eM F c.a k,fC eM F c.b k]:=by
        unfold mQ pA Zt;rw [if_neg h1,if_neg h5,if_neg h4,hnn,hdd,Int.natAbs_natCast,Int.natAbs_natCast,h3];rfl
       rw [e];have hred:=vR 3 ⟨#[]⟩ 0 ((nn / Nat.gcd nn dd:Nat):Int) ((dd / Nat.gcd nn dd:Nat):Int) c.param ⟨#[]⟩ (fC eM F c.a k) (fC eM F c.b k);simp only [go_sem,↓reduceIte,Nat.reduceEqDiff,Bool.and_true,wrap64 (x:=c.off+k) (by omega) (by omega),hnn,hdd,gE (n:=nn) (by omega),gE (n:=dd) (by omega)];refine ⟨_,cOf nn dd (by omega) (by omega) (by omega),?_⟩;simp only [go_sem,↓reduceIte,Nat.reduceAdd,Nat.reduceLeDiff,Bool.and_true];refine aQ 8 .done rfl (by kernel_rfl) (by kernel_rfl) (by decide) ?_;simp only [go_sem,↓reduceIte,Nat.reduceAdd,Nat.reduceLeDiff,Nat.reduceEqDiff,Bool.and_true];refine ⟨by kernel_rfl,?_⟩;refine aQ 13 .done rfl (by kernel_rfl) (by kernel_rfl) (by decide) ?_;simp only [go_sem,↓reduceIte,Nat.reduceAdd,Nat.reduceMul,Nat.reduceLeDiff,Nat.reduceEqDiff,reduceCtorEq,Int.reduceLE,Int.reduceToNat,Bool.and_true];refine ⟨by decide,_,hA,?_⟩;generalize fC eM F c.a k=x at hred ⊢;rcases x with ⟨op,media,frame,num,den,param,text,args⟩;simp only [go_sem,↓reduceIte,Nat.reduceAdd,Nat.reduceMul,Nat.reduceLeDiff,Nat.reduceEqDiff,reduceCtorEq,Int.reduceLE,Int.reduceToNat,Bool.and_true];refine ⟨by decide,_,hB,?_⟩;generalize fC eM F c.b k=y at hred ⊢;rcases y with ⟨op',media',frame',num',den',param',text',args'⟩;simp only [go_sem,Nat.reducePow,Nat.reduceLT,↓reduceIte,Nat.reduceAdd,Nat.reduceMul,Nat.reduceLeDiff,Nat.reduceEqDiff,Bool.and_true,Bool.and_false];refine ⟨by kernel_rfl,?_⟩;simp only [vex,jM,List.map_cons,List.map_nil,ExprR.c,qT] at hred;refine pK ?_;simp only [go_sem,↓reduceIte,Nat.reduceAdd,Nat.reduceEqDiff,Bool.and_true];refine ⟨_,hred,?_⟩;generalize Ka _ _ _ _ _ _ _ _=z;rcases z with ⟨op3,media3,frame3,num3,den3,param3,text3,args3⟩;simp only [go_sem,↓reduceIte,Nat.reduceAdd,Nat.reduceLeDiff,Bool.and_true];exact bJ rfl rfl
      ·simp at hn;omega
     ·simp only [ne_eq,beq_eq_false_iff_ne] at h3;rw [if_neg h2,if_neg h3,if_neg h4] at hv;cases hv
theorem lay_nth {v:List (List ClipR)} {k:Nat} (h:k<v.length) (d:List T):nth d (v.map Cp) k=Cp (v.getD k []):=by
 unfold nth;rw [List.getElem?_map,List.getElem?_eq_getElem h,List.getD_eq_getElem?_getD,List.getElem?_eq_getElem h];rfl
theorem aPy {t:List ClipR} {k:Nat} (h:k<t.length) (d:List T):nth d (t.map yE) k=yE (t.getD k default):=by
 unfold nth;rw [List.getElem?_map,List.getElem?_eq_getElem h,aU h];rfl
theorem Uw:∀ (t:List ClipR) (n:Int),(∀ c∈t,1≤c.len∧c.len≤2147483647)→0≤n → ∃ r,r≤t.length∧(∀ x,x<r→totL (t.take (x+1))≤n)∧(∀ x,r≤x→x<t.length→n<totL (t.take (x+1))) ∧
  ∀ i,dZ t i n=if r<t.length then (((i+r:Nat):Int),n - totL (t.take r),true) else (0,0,false)
 | [],n,_,_=>⟨0,Nat.le_refl _,fun x h=>absurd h (Nat.not_lt_zero _),fun x _ h=>absurd h (Nat.not_lt_zero _),fun i=>rfl⟩
 | c::t,n,hp,hn=>by
  have hc:=hp c (by simp)
  by_cases h:n<c.len
  ·refine ⟨0,Nat.zero_le _,fun x h=>absurd h (Nat.not_lt_zero _),fun x _ hx=>?_,fun i=>?_⟩
   ·have:=kY (t.take x) fun d hd=>hp d (List.mem_cons_of_mem _ (List.mem_of_mem_take hd))
    rw [List.take_succ_cons,zN];omega
   ·rw [sU,if_pos h,if_pos (by simp)];simp [De]
  ·obtain ⟨r,h1,h2,h3,h4⟩:=Uw t (n - c.len) (fun d hd=>hp d (by simp [hd])) (by omega);refine ⟨r+1,by simpa using h1,fun x hx=>?_,fun x hx hx2=>?_,fun i=>?_⟩
   ·rw [List.take_succ_cons,zN];rcases x with _ | x
    ·simp [De];omega
    ·have:=h2 x (by omega);omega
   ·rw [List.take_succ_cons,zN];rcases x with _ | x
    ·omega
    ·have:=h3 x (by omega) (by simpa using hx2);omega
   ·rw [sU,if_neg h,h4 (i+1)]
    by_cases hr:r<t.length
    ·rw [if_pos hr,if_pos (by simpa using hr),List.take_succ_cons,zN];refine Prod.ext ?_ (Prod.ext ?_ rfl)
     ·simp only;omega
     ·simp only;omega
    ·rw [if_neg hr,if_neg (by simpa using hr)]
theorem aM1 {t:List ClipR} {n:Int} {r:Nat} (h:∀ i,dZ t i n=if r<t.length then (((i+r:Nat):Int),n - totL (t.take r),true) else (0,0,false)) (hn : 0≤n) :
  Az t n=if r<t.length∧(t.getD r default).kind≠0 then some (t.getD r default,n - totL (t.take r)) else none:=by
 unfold Az;rw [h 0]
 by_cases hr:r<t.length
 ·rw [if_pos hr];simp only [Nat.zero_add,Int.toNat_natCast,hn,hr,true_and]
 ·rw [if_neg hr,if_neg (by simp),if_neg (fun h=>hr h.1)]
@[go_sem] theorem pairC_l (c:ClipR):(yE c).length=20:=rfl
@[go_sem] theorem pairC_t (c:ClipR):(yE c).map V.t = [aA c.a.kind,bY c.a.name,aA c.a.pos.num,aA c.a.pos.den,aA c.a.speed.num,aA c.a.speed.den,aX c.a.smooth,aA (aW c.a),aA (atS c.a),aA (mH c.a),
 aA c.b.kind,bY c.b.name,aA c.b.pos.num,aA c.b.pos.den,aA c.b.speed.num,aA c.b.speed.den,aX c.b.smooth,aA (aW c.b),aA (atS c.b),aA (mH c.b)]:=rfl
theorem aAt {n:Int} (hn:n<0):∀ l:List (List ClipR),uX n l=none
 | []=>rfl
 | t::l=>by
  unfold uX Az;rw [if_neg (by omega)];exact aAt hn l
theorem aKk {v:List (List ClipR)} {m:Nat} (h:m<v.length) (n:Int):uX n (v.take (m+1)).reverse=match Az (v.getD m []) n with | some r=>some r | none=>uX n (v.take m).reverse:=by
 have e:v.take (m+1)=v.take m ++ [v.getD m []]:=by
  rw [List.take_add_one,List.getElem?_eq_getElem h,List.getD_eq_getElem?_getD,List.getElem?_eq_getElem h];rfl
 rw [e,List.reverse_append];rfl
theorem cFrameS (p:ProjR) (h:FilmOk p) (G:ByteArray→Int→ExprR) (name:ByteArray) (n:Int) (s:SequenceR) (hs:bZ p.seqs name=some s) (hn:I64 n)
  (hG:∀ m∈fS p name,(bZ p.seqs m).isSome=true → ∀ i,I64 i→aK Tryz.prog 95 [vix p,bY m,aA i] (jH (G m i))) :
  aK Tryz.prog 95 [vix p,bY name,aA n] (jH (Bc eM (kU p G) (uX n s.video.reverse))):=by
 have hsm:s∈p.seqs:=(uY hs).1;have hvt:∀ t∈s.video,bB t=true ∧ ∀ c∈t,aN c=true:=fun t ht=>aGu h name t (by unfold rV;rw [hs];exact ht)
 obtain ⟨n1,n2⟩:=hn;have hvl:s.video.length≤8:=by
  have:=h.small;unfold dQ at this;simp only [Bool.and_eq_true,decide_eq_true_eq] at this;have:=List.all_eq_true.1 this.2 s hsm;unfold dY at this;simp only [Bool.and_eq_true,decide_eq_true_eq] at this;omega
 refine eD Tryz.X95 Tryz.func95 rfl Tryz.ntmps95 (by rw [Tryz.results95]) (aC _ ?_);simp only [go_sem,simprocAttr];refine ⟨fun hneg=>?_,fun hpos=>?_⟩
 ·simp only [bxx] at hneg;rw [aAt hneg];unfold Bc awS;simp only [go_sem,simprocAttr];exact mL
 ·simp only [bxx] at hpos;unfold awS;simp only [go_sem,simprocAttr,look_ly,hs,Option.map_some];have hfin:∀ o,uX n s.video.reverse=o→uX n s.video.reverse=o:=fun _ h=>h
  refine aJ (fun (m:Nat) σ => dW 8 (aA ((m:Int) - 1)) (dD [9,10,21,22,23,24,25,26,27,28,29,30,31,32,33,34,35,36,37,38,39,40,41,42,43,44,45,46,47,48,49,50,51,52,53,54,55,56,57,58,59,60,61,62,63,64,65,66,67,68,69,70,71,72,73,74] (eH σ))) (fun m=>m≤s.video.length∧uX n (s.video.take m).reverse=uX n s.video.reverse) (fun m=>m) s.video.length (aE ?_) ⟨Nat.le_refl _,by rw [List.take_length]⟩ ?_
  ·simp only [go_sem,simprocAttr,wrap64 (x:=(s.video.length:Int) - 1) (by omega) (by omega)]<;>simp
  ·rintro m ⟨hm,ht⟩;refine aC _ ?_;simp only [go_sem,simprocAttr];refine ⟨fun hlt=>?_,fun hge=>?_⟩
   ·simp only [bxx] at hlt;obtain ⟨k,rfl⟩:∃ k,m=k+1:=⟨m - 1,by omega⟩
    have hkl:k<s.video.length:=by omega
    rw [aKk hkl] at ht;have ek:((k+1:Nat):Int) - 1=(k:Int):=by omega
    have hmem:s.video.getD k []∈s.video:=by rw [List.getD_eq_getElem?_getD,List.getElem?_eq_getElem hkl];exact List.getElem_mem hkl
    obtain ⟨t,htt⟩:∃ t,t=s.video.getD k []:=⟨_,rfl⟩
    have hln:∀ d,nth d (s.video.map Cp) k = [aM t,bS (uA t),aEc (t.map yE)]:=fun d=>by rw [lay_nth hkl, ← htt];rfl
    rw [← htt] at ht hmem;obtain ⟨hvT,hvC⟩:=hvt t hmem;have h64:=Kj hvT;have hpl:∀ c∈t,1≤c.len∧c.len≤2147483647:=fun c hc=>aL (hvC c hc)
    obtain ⟨r,r1,r2,r3,r4⟩:=Uw t n hpl (by omega);rw [aM1 r4 (by omega)] at ht;have hsr:=cSearch t n r h64 r1 r2 r3;unfold awS;simp only [go_sem,simprocAttr,ek,hln];refine ⟨⟨by omega,by omega⟩,Qc ?_⟩;simp only [go_sem,simprocAttr,Et];refine ⟨_,hsr,rfl,?_⟩;simp only [go_sem,simprocAttr,Et];refine ⟨fun h=>by have h2:=of_decide_eq_true h;omega,?_⟩;refine brW (b:=decide (r<t.length∧(t.getD r default).kind≠0)) ?_ ⟨fun hh=>?_,fun hh=>?_⟩
    ·rw [Bool.eq_iff_iff,Bool.and_eq_true,decide_eq_true_eq,decide_eq_true_eq,bne_iff_ne];omega
    ·have hh':=of_decide_eq_true hh;rw [if_pos hh'] at ht;have ht2:uX n s.video.reverse=some (t.getD r default,n - totL (t.take r)):=ht.symm;rw [ht2];obtain ⟨hrl,hk0⟩:=hh';have hct:t.getD r default∈t:=aP hrl;have hvc:=hvC _ hct;have hen:=aDa hrl;have hpn:=aPy hrl;have htt1:=dU t r hrl;have hb1:=kY (t.take r) fun c hc=>hpl c (List.mem_of_mem_take hc)
     have hb2:=kY (t.take (r+1)) fun c hc=>hpl c (List.mem_of_mem_take hc)
     have hl1:(t.take r).length≤64:=by rw [List.length_take];omega
     have hl2:(t.take (r+1)).length≤64:=by rw [List.length_take];omega
     have hn0:totL (t.take r)≤n:=by
      rcases r with _ | r
      ·simp [De];omega
      ·exact r2 r (by omega)
     have hn1:=r3 r (Nat.le_refl _) hrl;have hlen:=aL hvc;have w1:IntKind.i64.wrap (totL (t.take (r+1)) - (t.getD r default).len)=totL (t.take r):=by rw [wrap64 (by omega) (by omega)];omega
     have w2:IntKind.i64.wrap (n - totL (t.take r))=n - totL (t.take r):=wrap64 (by omega) (by omega);obtain ⟨va,vb⟩:=Gs hvc;have hleaf:∀ x:SourceR,(x=(t.getD r default).a∨x=(t.getD r default).b)→x.kind≠0 → ∀ i,I64 i→aK Tryz.prog 249 [vix p,kW x,aA i] (jH (kU p G x i)):=fun x hx _ i hi =>
      cLeafF p G x i fun h2=>by
       obtain ⟨q1,q2⟩:=aR1 h hs hmem hct hx h2;exact hG _ q1 q2 i hi
     have cc:=cClipF p (kU p G) (t.getD r default) (n - totL (t.take r)) hvc hk0 ⟨by omega,by omega⟩ (cPicF p _ _ _ va ⟨by omega,by omega⟩ (hleaf _ (.inl rfl))) (cPicF p _ _ _ vb ⟨by omega,by omega⟩ (hleaf _ (.inr rfl)));unfold Bc awS;simp only [go_sem,simprocAttr];refine aQ 27 .done rfl (by kernel_rfl) (by kernel_rfl) (by decide) ?_;simp only [go_sem,simprocAttr,hen,hpn,w1,w2,Et];refine ⟨⟨by omega,by omega⟩,⟨by omega,by omega⟩,⟨by omega,by omega⟩,⟨by omega,by omega⟩,_,cc,?_⟩;generalize mQ eM (kU p G) (t.getD r default) (n - totL (t.take r))=x;rcases x with ⟨op,media,frame,num,den,param,text,args⟩;simp only [go_sem,simprocAttr];exact ⟨by kernel_rfl,bJ rfl rfl⟩
    ·have hh':=of_decide_eq_false hh;rw [if_neg hh'] at ht;unfold awS;simp only [go_sem,simprocAttr];refine ⟨k,aE ?_,⟨by omega,ht⟩,by omega⟩;simp only [go_sem,simprocAttr];rw [wrap64 (x:=(k:Int) - 1) (by omega) (by omega)];simp
   ·simp only [bxx] at hge;have:m=0:=by omega
    subst this;simp only [List.take_zero,List.reverse_nil] at ht;rw [← ht];unfold uX Bc awS;simp only [go_sem,simprocAttr];exact mL
theorem aJv (p:ProjR) (h:FilmOk p):∀ (d:Nat) (name:ByteArray) (n:Int), ¬ Wk p d name→(bZ p.seqs name).isSome=true→I64 n→aK Tryz.prog 95 [vix p,bY name,aA n] (jH (nY eM p d name n))
 | 0,name,n,hw,_,_=>absurd trivial hw
 | d+1,name,n,hw,hs,hn=>by
  cases e:bZ p.seqs name with
  | none=>rw [e] at hs;cases hs
  | some s =>
   have:=cFrameS p h (nY eM p d) name n s e hn fun m hm hms i hi=>aJv p h d m i (aN9 hw hm) hms hi
   have e2:nY eM p (d+1) name n=Bc eM (kU p (nY eM p d)) (uX n s.video.reverse):=by
    conv=>lhs;unfold nY
    unfold rV;rw [e];rfl
   rw [e2];exact this
theorem Qx {n:ByteArray}:∀ {l:List SequenceR},(l.map SequenceR.name).Nodup→xG l n=bZ l n
 | [],_=>rfl
 | s::l,hnd=>by
  rw [List.map_cons,List.nodup_cons] at hnd;have ih:=Qx (n:=n) hnd.2;have e1:bZ (s::l) n=match bZ l n with | some y=>some y | none=>if n=s.name then some s else none:=by
   unfold bZ
   conv=>lhs;unfold gY
   cases gY SequenceR.name n l<;>rfl
  rw [e1, ← ih]
  by_cases hsn:s.name=n
  ·have hno:bZ l n=none:=gH.2 fun x hx he=>hnd.1 (by rw [hsn, ← he];exact List.mem_map_of_mem hx)
   rw [ih,hno];unfold xG;rw [List.find?_cons,if_pos hsn.symm,(bq _ _).2 hsn]
  ·have e2:xG (s::l) n=xG l n:=by
    unfold xG;rw [List.find?_cons,(bqf _ _).2 hsn]
   rw [e2];cases xG l n with
   | none=>rw [if_neg (fun h=>hsn h.symm)]
   | some y=>rfl
def frameR (p:ProjR) (name:ByteArray) (n:Int):ExprR×Int :=
 if cK p≠0 then (hZ,cK p) else
 match bZ p.seqs name with
 | none=>(hZ,7)
 | some _=>(nY eM p 5 name n,0)
theorem aRh (p:ProjR) (h:p.fit) (name:ByteArray):Wq p name=if cK p≠0 then (aK8,cK p) else match bZ p.seqs name with | some s=>(s,0) | none=>(aK8,7):=by
 unfold Wq
 by_cases hv:cK p=0
 ·rw [hv];simp only [bne_self_eq_false,Bool.false_eq_true,if_false,ne_eq,not_true_eq_false];rw [Qx (Gh h hv).uniq.2];all_goals (cases bZ p.seqs name<;>rfl)
 ·rw [if_pos hv,if_pos (by simpa using hv)]
theorem aCb {s:SourceR} {p d:Nat} (ok:SrcOk s p d) (k:Int):∃ g:Nat,0<g∧dJ s k=(bM s k).num*(g:Int)∧(aW s:Int)=((bM s k).den:Int)*(g:Int)∧0<(bM s k).den:=by
 obtain ⟨m1,m2⟩:=yJ ok k;obtain ⟨e1,e2⟩:=posS_eq ok k;have hb : 0<Nat.lcm p d:=Nat.lcm_pos ok.p1 ok.d1;have hg : 0<Nat.gcd (Dx s k p d).natAbs (Nat.lcm p d):=Nat.gcd_pos_of_pos_right _ hb;refine ⟨Nat.gcd (Dx s k p d).natAbs (Nat.lcm p d),hg,?_,?_,(bM s k).den_pos⟩
 ·rw [e2,m1];exact (Int.ediv_mul_cancel (Int.ofNat_dvd_left.2 (Nat.gcd_dvd_left _ _))).symm
 ·rw [e1,m2, ← Int.natCast_mul,Nat.div_mul_cancel (Nat.gcd_dvd_right _ _)]
theorem aM5 {a b:Int} {g:Nat} (hg : 0<g) (hb : 0<b):a*(g:Int) / (b*(g:Int))=a / b∧a*(g:Int) % (b*(g:Int))=a % b*(g:Int):=by
 refine ⟨Int.mul_ediv_mul_of_pos_left a b (by omega),?_⟩;rw [Int.mul_comm a,Int.mul_comm b,Int.mul_emod_mul_of_pos a b (by omega),Int.mul_comm]
theorem aB6 (op param:Int) {n d:Int} {g:Nat} (hg : 0<g) (a b:ExprR):pA op param (n*(g:Int)) (d*(g:Int)) a b=pA op param n d a b:=by
 have e:Zt (n*(g:Int)) (d*(g:Int))=Zt n d*(g:Int):=by
  unfold Zt;rw [Int.natAbs_mul,Int.natAbs_mul,Int.natAbs_natCast,Nat.gcd_mul_right,Int.natCast_mul]
 unfold pA;rw [e,Int.mul_ediv_mul_of_pos_left _ _ (by omega),Int.mul_ediv_mul_of_pos_left _ _ (by omega)]
theorem Nw (R:ExprR→ExprR) (F:SourceR→Int→ExprR) {s:SourceR} {p d:Nat} (ok:SrcOk s p d) (k:Int):fC R F s k =
  if s.smooth=true∧(bM s k).num % ((bM s k).den:Int)≠0 then R (pA 2 0 ((bM s k).num % ((bM s k).den:Int)) ((bM s k).den:Int) (F s ((bM s k).num / ((bM s k).den:Int))) (F s ((bM s k).num / ((bM s k).den:Int)+1)))
  else F s ((bM s k).num / ((bM s k).den:Int)):=by
 obtain ⟨g,hg,h1,h2,h3⟩:=aCb ok k;obtain ⟨q1,q2⟩:=aM5 (a:=(bM s k).num) (b:=((bM s k).den:Int)) hg (by omega);have hk:s.kind≠0:=by rcases ok.kind with e | e<;>omega
 unfold fC;rw [if_neg hk,h1,h2,q1,q2,aB6 _ _ hg];have hz:(bM s k).num % ((bM s k).den:Int)*(g:Int)≠0 ↔ (bM s k).num % ((bM s k).den:Int)≠0:=by
  constructor
  ·intro h e;exact h (by rw [e];simp)
  ·intro h e;rcases Int.mul_eq_zero.1 e with e | e
   ·exact h e
   ·omega
 simp only [hz]
def Qd (frm:Int) (k:Nat):Bool:=decide (frm > 9223372036854775807 - (k:Int))
def aD4 (p:ProjR) (name:ByteArray) (frm:Int) (n:Nat):List ExprR:=(List.range n).map fun k=>if Qd frm k=true then hZ else nY eM p 5 name (frm+(k:Int))
def xK (p:ProjR) (name:ByteArray) (frm:Int) (n:Nat):List (List T):=(List.range n).map fun k=>if Qd frm k=true then zE else ExprR.c (nY eM p 5 name (frm+(k:Int)))
def En (p:ProjR) (name:ByteArray) (frm n:Int):List ExprR×Int :=
 if cK p≠0 then ([],cK p) else
 match bZ p.seqs name with
 | none=>([],7)
 | some _=>if n<0 then ([],1) else if n > 65536 then ([],5) else (aD4 p name frm n.toNat,0)
abbrev aNh (r:List ExprR×Int):V := .tup [.t (jM r.1),aA r.2]
theorem Zn:∀ l:List T,aGk l l
 | []=>trivial
 | x::l=>⟨fD,Zn l⟩
theorem zE_imp:aGk zE (ExprR.c hZ):=by
 unfold hZ;simp only [ExprR.c,qT,List.map_nil];exact ⟨fD,fD,fD,fD,fD,fD,fD,Ks,trivial⟩
theorem aBd (p:ProjR) (name:ByteArray) (frm:Int) (n:Nat):aN4 (xK p name frm n) ((aD4 p name frm n).map ExprR.c):=by
 unfold xK aD4;rw [List.map_map];generalize List.range n=r
 induction r with
 | nil=>trivial
 | cons k r ih =>
  refine ⟨?_,ih⟩;simp only [Function.comp]
  by_cases h:Qd frm k=true
  ·rw [if_pos h,if_pos h];exact zE_imp
  ·rw [if_neg h,if_neg h];exact Zn _
theorem Vb (p:ProjR) (name:ByteArray) (frm:Int) (k:Nat):xK p name frm (k+1)=xK p name frm k ++ [if Qd frm k=true then zE else ExprR.c (nY eM p 5 name (frm+(k:Int)))]:=by
 unfold xK;rw [List.range_succ,List.map_append];rfl
theorem Dn (p:ProjR) (name:ByteArray) (frm:Int) (k:Nat):(xK p name frm k).length=k:=by unfold xK;simp
theorem sB (k:Int) {h:Heap}:tQ (aNh ([],k)) (.tup [.t (.lit (.slice none 0 0)),aA k]) h :=
 yC (r' := .tup [.t (.lit (.slice none 0 0)),aA k]) rfl rfl (Av (by exact ⟨Ev,dN,trivial⟩))
theorem Nr {l:List ExprR} {k:Int} {d:List T} {R:List (List T)} {x:V} {h:Heap} (e:x.lend h = .tup [.t (.list 8 d R),aA k]) (hi:aN4 R (l.map ExprR.c)):tQ (aNh (l,k)) x h :=
 yC e rfl (Av (by exact ⟨aGb (Qm hi),dN,trivial⟩))
def maxL:List (List ClipR)→Int→Int
 | [],m=>m
 | t::l,m=>maxL l (max m (lenT (gR t)))
def seqLenR (p:ProjR) (name:ByteArray):Int×Int :=
 if cK p≠0 then (0,cK p) else
 match bZ p.seqs name with
 | none=>(0,7)
 | some s=>(maxL s.sound (maxL s.video 0),0)
@[go_sem] theorem vmed_get0 (m:MediumR):(mT m)[0]? = some (bY m.name):=rfl
@[go_sem] theorem vmed_put0 (m:MediumR) (n:ByteArray):List.take 0 (mT m) ++ [V.t (.lit (.string n))]++List.drop 1 (mT m)=mT { m with name:=n }:=rfl
@[go_sem] theorem vmed_put0' (m:MediumR) (n:ByteArray):V.t (.lit (.string n))::List.drop 1 (mT m)=mT { m with name:=n }:=rfl
@[go_sem] theorem vmed_put137 (m:MediumR) (x:Int):List.take 137 (mT m) ++ [V.t (.lit (.int .i64 x))]++List.drop 138 (mT m)=mT { m with frames:=x }:=rfl
theorem aT0 (l:List ClipR) (hl:l.length≤65536):CIO Tryz.prog 111 0 [] [.t (aM l)] (.own 0) [(0,tB l)] 1:=by
 refine kQ Tryz.X111 Tryz.func111 rfl Tryz.ntmps111 (by rw [Tryz.results111]) (aC _ ?_);simp only [go_sem,simprocAttr];intro b hn;refine ⟨fun hb=>?_,fun hb=>?_⟩
 ·have e:List.map ClipR.c l = []:=hn hb;unfold awS;simp only [go_sem,simprocAttr];refine aT [(0,none)] ?_;simp only [go_sem,simprocAttr];rw [e];simp [aS]
 ·unfold awS;simp only [go_sem,simprocAttr];refine ⟨⟨Nat.le_trans hl (by decide),by omega⟩,aT [(0,some 1)] ?_⟩;simp only [go_sem,simprocAttr]<;>simp [aS]
def seqLits (s:SeqR):List Value:=[.int .i64 s.w, .int .i64 s.h, .int .i64 s.rate.num, .int .i64 s.rate.den, .bool s.inter, .int .i64 s.bits, .int .i64 s.buf]++(List.range 128).map fun i => .int .u8 (s.q i)
def aNz (nm:ByteArray):ClipR:=⟨3,1,⟨2,nm,⟨0,1⟩,⟨1,1⟩,false⟩,zSource,0,0,0,⟨#[]⟩,0,[]⟩
def seq11 (i:Int):SequenceR:=⟨cX ⟨#[115]⟩ i,⟨25,1⟩,16,16,[[aNz (cX ⟨#[115]⟩ (i - 1))]],[],[],0⟩
def odd11 (L:List Int):Nat→Nat→List SequenceR→List SequenceR
 | 0,_,s=>s
 | f+1,q,s=>if (s.length:Int)<4+aB L q 4 then odd11 L f (q+1) (s ++ [seq11 s.length]) else s
def aF6 (p:ProjR) (a:Nat):MediumR:=p.media.getD a default
def nB (p:ProjR) (b:Nat):SequenceR:=p.seqs.getD b default
def oddK (p:ProjR) (L:List Int) (a b:Nat) (k:Int):ProjR :=
 if k=0∧1<p.media.length then ⟨p.media.set a { aF6 p a with name:=(aF6 p ((a+1) % p.media.length)).name },p.seqs⟩
 else if k=1 then ⟨p.media.take a++p.media.drop (a+1),p.seqs⟩
 else if k=2 then ⟨p.media,p.seqs.set b { nB p b with name:=⟨#[66,105,103]⟩ }⟩
 else if k=3 then ⟨p.media,p.seqs.set b { nB p b with w:=20 }⟩
 else if k=4 then ⟨p.media,p.seqs.set b { nB p b with rate:=⟨2,2⟩ }⟩
 else if k=5 then ⟨p.media.set a { aF6 p a with frames := -1 },p.seqs⟩
 else if k=6∧1<p.seqs.length then ⟨p.media,p.seqs.set b { nB p b with name:=(nB p ((b+1) % p.seqs.length)).name }⟩
 else if k=7 then ⟨p.media,p.seqs.set b { nB p b with video:=(nB p b).video ++ [[aNz (cX ⟨#[115]⟩ (aB L 3 4))]] }⟩
 else if k=8 then ⟨p.media,p.seqs.set b { nB p b with sound:=(nB p b).sound ++ [[(bQ L 3 2 1).1]] }⟩
 else if k=9 then ⟨p.media,p.seqs.set b { nB p b with video:=(nB p b).video++List.replicate (9 - (nB p b).video.length) [] }⟩
 else if k=10 then ⟨p.media,p.seqs.set b { nB p b with cues:=(nB p b).cues ++ [⟨5,5,[⟨#[120]⟩]⟩] }⟩
 else if k=11 then ⟨p.media,odd11 L 8 3 p.seqs⟩
 else p
def oddP (p:ProjR) (L:List Int):ProjR:=oddK p L (aB L 1 p.media.length).toNat (aB L 2 p.seqs.length).toNat (aB L 0 16)
def d9:Nat→List T
 | 0=>jL []
 | _+1=>[.lit (.slice none 0 0)]
def c9 (s:SequenceR) (x:Nat):List T:=[fZ s.name,ti s.rate.num,ti s.rate.den,ti s.w,ti s.h, .list 1 (d9 x) (List.map jL s.video++List.replicate x [.lit (.slice none 0 0)]),mV s.sound,Mc s.cues,ti s.channels]
abbrev zCl:List T:=[ti 0,ti 0,ti 0,fZ ⟨#[]⟩,ti 0,ti 0,ti 0,ti 0, .lit (.bool false),ti 0,fZ ⟨#[]⟩,ti 0,ti 0,ti 0,ti 0, .lit (.bool false),ti 0,ti 0,ti 0,fZ ⟨#[]⟩,ti 0, .lit (.slice none 0 0)]
def n11 (i:Int):List T:=[fZ (cX ⟨#[115]⟩ i),ti 25,ti 1,ti 16,ti 16, .list 1 [.lit (.slice none 0 0)] [[.list 22 zCl [[ti 3,ti 1,ti 2,fZ (cX ⟨#[115]⟩ (i - 1)),ti 0,ti 1,ti 1,ti 1, .lit (.bool false),ti 0,fZ ⟨#[]⟩,ti 0,ti 0,ti 0,ti 0, .lit (.bool false),ti 0,ti 0,ti 0,fZ ⟨#[]⟩,ti 0, .lit (.slice none 0 0)]]]], .lit (.slice none 0 0), .lit (.slice none 0 0),ti 0]
def x11 (l:List SequenceR) (m:Nat):List (List T):=List.map SequenceR.c l++(List.range m).map fun j=>n11 ((l.length+j:Nat):Int)
def s11 (l:List SequenceR) (m:Nat):List SequenceR:=l++(List.range m).map fun j=>seq11 ((l.length+j:Nat):Int)


theorem wK:aN3 Tryz.prog 120:=by
 refine ⟨Tryz.X120,fun cap w=>callsDIn_of_wpSIn Tryz.func120 rfl trivial fun c₀ cs hu=>?_⟩;have k1 : 2<cap.size+(4 - cap.size):=by omega
 have k2 : 3<cap.size+(4 - cap.size):=by omega
 have k3 : 2<max 4 cap.size:=by omega
 have k4 : 3<max 4 cap.size:=by omega
 apply wpSIn_seq;apply wpSIn_region;simp [wpOpsSIn,Fence.wide,go_sem,recoverD,hu,Tryz.ntmps120,Exit.thenS,k1,k2,k3,k4];refine wpSIn_cond (t:=false) (by simp [Act.eval,k2,k4]) ?_;refine wpSIn_of_wpIn rfl (wpIn_skip ?_);refine ⟨rfl, .returning,by rw [← hu], .tuple #[],?_,⟨_,rfl⟩,rfl,rfl⟩;simp [results,Tryz.results120,go_sem]
def deadL (is:List Nat) (n:Nat) (σ : St):St :=
 match σ.h.look n with
 | some (.loop st pd fr ps a b) => { σ with h := σ.h.set n (.loop st pd (dD is { σ with fr:=fr }).fr ps a b) }
 | _ => σ
attribute [go_sem] deadL
theorem aC5 (d z:List T) {l:List (List T)} {k:Nat} (h:l.length=k):nth d (l ++ [z]) k=z:=by
 subst h;unfold nth;rw [List.getElem?_append_right (Nat.le_refl _),Nat.sub_self];rfl
theorem Ur (l:List (List T)) (a b:List T) {k:Nat} (h:l.length=k):(aS (l ++ [a])).set k (b.map V.t)=aS (l ++ [b]):=by
 subst h;unfold aS;rw [List.map_append,List.map_append,List.set_append_right _ _ (by rw [List.length_map];exact Nat.le_refl _),List.length_map,Nat.sub_self];rfl
theorem cDFilm (p:ProjR) (h:p.fit) (name:ByteArray) (frm n:Int) (hfr:I64 frm):aK Tryz.prog 51 [uV p,bY name,aA frm,aA n] (aNh (En p name frm n)):=by
 have hf:=cFindS p name h;rw [aRh p h name] at hf;refine eD Tryz.X51 Tryz.func51 rfl Tryz.ntmps51 (by rw [Tryz.results51]) (aC _ ?_);simp only [go_sem,simprocAttr,dtf];refine ⟨_,hf,?_⟩
 by_cases hv:cK p=0
 ·have hok:=Gh h hv;cases hs:bZ p.seqs name with
  | none =>
   have e:En p name frm n=([],7):=by unfold En;rw [hv,hs];rfl
   rw [if_neg (by rw [hv];decide)];simp only [hs];simp only [go_sem,simprocAttr,dtf];rw [e];exact ⟨wK,sB 7⟩
  | some s =>
   have hw:=hok.wk s (uY hs).1;rw [(uY hs).2] at hw;have e:En p name frm n=if n<0 then ([],1) else if n > 65536 then ([],5) else (aD4 p name frm n.toNat,0):=by unfold En;rw [hv,hs];rfl
   rw [if_neg (by rw [hv];decide)];simp only [hs];simp only [go_sem,simprocAttr,dtf];rw [e];refine ⟨fun h3=>?_,fun h3=>?_⟩
   ·simp only [bxx] at h3;rw [if_pos h3];unfold awS;simp only [go_sem,simprocAttr,dtf];exact ⟨wK,sB _⟩
   ·simp only [bxx] at h3;rw [if_neg h3];unfold awS;simp only [go_sem,simprocAttr,dtf];refine ⟨fun h4=>?_,fun h4=>?_⟩
    ·simp only [bxx] at h4;rw [if_pos h4];unfold awS;simp only [go_sem,simprocAttr,dtf];exact ⟨wK,sB _⟩
    ·simp only [bxx] at h4;rw [if_neg h4];obtain ⟨nn,rfl⟩:∃ nn:Nat,n=nn:=⟨n.toNat,by omega⟩
     rw [Int.toNat_natCast];unfold awS;simp only [go_sem,simprocAttr,dtf];refine ⟨fun h5=>?_,fun h5=>?_⟩
     ·simp only [bxx] at h5;unfold awS;simp only [go_sem,simprocAttr,dtf];have:nn=0:=by omega
      subst this;exact ⟨wK,sB _⟩
     ·simp only [bxx] at h5;unfold awS;simp only [go_sem,simprocAttr,dtf];refine dT (aMu p hok) rfl ?_;simp only [go_sem,simprocAttr,dtf];refine yT Tryz.X121 Tryz.func121 rfl Tryz.ntmps121 (by rw [Tryz.results121]) (aC _ ?_);simp only [go_sem,simprocAttr,dtf];unfold aw;refine show Nm _ _ _ _ _ _ (some (187,[.own 7, .own 5, .own 6])) from ?_
      refine ⟨Tryz.X187,rfl,?_⟩;generalize hQ:vA _ _=QE;refine yT Tryz.X187 Tryz.func187 rfl Tryz.ntmps187 (by rw [Tryz.results187]) (aC _ ?_);simp only [go_sem,simprocAttr,dtf];refine aJ (fun (k:Nat) σ => { fr:=(dW 5 (aA (frm+(k:Int))) (dD [7,8,9,10,11,12,13,14,15,16,17,18,19,20] σ)).fr,h:=(10, .row 92 8 zE (aS (xK p name frm k))) :: σ.h.set 2 (.box [.own 10]),nx:=11 })
       (fun k=>k<nn∧frm+(k:Int)≤9223372036854775807) (fun k=>nn - k) 0 (aT [(10,none),(9,some 9),(8,some 8),(7,some 7),(6,some 6),(5,some 5),(4,some 4),(3,some 3),(2,some 2),(1,some 1),(0,some 0)] ?_) ⟨by omega,by have:=hfr.2;omega⟩ ?_
      ·simp only [go_sem,simprocAttr]<;>simp [xK,aS]
      ·rintro k ⟨hk,hk2⟩;have hrl:=Dn p name frm k;refine aC _ ?_;simp only [go_sem,simprocAttr];have hfrm:=aJv p hok 5 name (frm+(k:Int)) hw (by rw [hs];rfl) ⟨by have:=hfr.1;omega,hk2⟩;have hl:Qd frm k=false:=by unfold Qd;rw [decide_eq_false_iff_not];omega
       have hsucc:=Vb p name frm k;rw [hl] at hsucc;refine ⟨_,hfrm,?_⟩;generalize nY eM p 5 name (frm+(k:Int))=x at hsucc ⊢;rcases x with ⟨op,media,frame,num,den,param,text,args⟩;simp only [go_sem,simprocAttr];refine aC _ ?_;simp only [go_sem,simprocAttr];refine aC _ ?_;simp only [go_sem,simprocAttr];refine aQ 8 .done rfl (by kernel_rfl) (by kernel_rfl) (by decide) ?_;have hse:∀ z:List T,(aS (xK p name frm k ++ [z])).set k [aA op,bY media,aA frame,aA num,aA den,aA param,bY text, .t (jM args)]=aS (xK p name frm (k+1)):=fun z=>by
        refine (Ur _ z [ti op,fZ media,ti frame,ti num,ti den,ti param,fZ text,jM args] hrl).trans ?_;rw [hsucc,if_neg (by decide)];simp only [ExprR.c,qT]
       have hl2:(aS (xK p name frm (k+1))).length=k+1:=by unfold aS;rw [List.length_map,Dn]
       have hl1:∀ z:List T,(xK p name frm k ++ [z]).length=k+1:=fun z=>by rw [List.length_append,hrl];rfl
       simp only [go_sem,simprocAttr,hrl,hl1,fun d z=>aC5 d z hrl,hse,hl2];refine ⟨⟨by unfold maxLen;omega,by omega⟩,⟨by omega,by omega⟩,by omega,by kernel_rfl,fun hd=>?_,fun hd=>?_⟩
       ·simp only [bxx] at hd;unfold awS;simp only [go_sem,simprocAttr];refine ⟨fun _=>?_,fun h=>absurd h (by decide)⟩;unfold awS;simp only [go_sem,simprocAttr];rw [← hQ];unfold vA;simp only [go_sem,simprocAttr,dtf];have hkn:k+1=nn:=by omega
        rw [hkn];exact ⟨wK,Nr (by simp only [go_sem,simprocAttr];exact rfl) (aBd _ _ _ _)⟩
       ·simp only [bxx] at hd;unfold awS;simp only [go_sem,simprocAttr];refine ⟨fun h=>absurd h (by decide),fun _=>?_⟩;unfold awS;simp only [go_sem,simprocAttr];refine ⟨fun hm=>?_,fun hm=>?_⟩
        ·simp only [bxx] at hm;unfold awS;simp only [go_sem,simprocAttr];refine aJ (fun (j:Nat) σ => { fr:=(dD [4,5,6,7,8,9,10,11,12,13,14,15,16,17,18,19,20] σ).fr,h:=(10, .row 92 8 zE (aS (xK p name frm j)))::Heap.set ((deadL [12,34,35,36,37,38,39,40,41,42,43,44] 9 σ).h.drop 3) 2 (.box [.own 10]),nx:=11 })
          (fun j=>j<nn∧Qd frm j=true) (fun j=>nn - j) (k+1) (aT [(10,some 16),(9,some 9),(8,some 8),(7,some 7),(6,some 6),(5,some 5),(4,some 4),(3,some 3),(2,some 2),(1,some 1),(0,some 0)] ?_) ⟨by omega,by unfold Qd;rw [decide_eq_true_eq];omega⟩ ?_
         ·simp only [go_sem,simprocAttr]<;>simp
         ·rintro j ⟨hj,hj2⟩;have hrj:=Dn p name frm j;have hsj:=Vb p name frm j;rw [hj2,if_pos rfl] at hsj;refine aC _ ?_;simp only [go_sem,simprocAttr];refine aC _ ?_;simp only [go_sem,simprocAttr];refine aC _ ?_;simp only [go_sem,simprocAttr];have hsf:∀ z:List T,(aS (xK p name frm j ++ [z])).set j [aA 0,bY ⟨#[]⟩,aA 0,aA 0,aA 0,aA 0,bY ⟨#[]⟩, .t (.lit (.slice none 0 0))]=aS (xK p name frm (j+1)):=fun z=>by
           refine (Ur _ z zE hrj).trans ?_;rw [hsj]
          have hl3:(aS (xK p name frm (j+1))).length=j+1:=by unfold aS;rw [List.length_map,Dn]
          have hl4:∀ z:List T,(xK p name frm j ++ [z]).length=j+1:=fun z=>by rw [List.length_append,hrj];rfl
          refine aQ 8 .done rfl (by kernel_rfl) (by kernel_rfl) (by decide) ?_;simp only [go_sem,simprocAttr,hrj,hl4,fun d z=>aC5 d z hrj,hsf,hl3];refine ⟨⟨by unfold maxLen;omega,by omega⟩,⟨by omega,by omega⟩,by omega,by kernel_rfl,fun hd=>?_,fun hd=>?_⟩
          ·simp only [bxx] at hd;unfold awS;simp only [go_sem,simprocAttr];refine ⟨fun h=>absurd h (by decide),fun _=>?_⟩;unfold awS;simp only [go_sem,simprocAttr];rw [← hQ];unfold vA;simp only [go_sem,simprocAttr,dtf];have hkn:j+1=nn:=by omega
           rw [hkn];exact ⟨wK,Nr (by simp only [go_sem,simprocAttr];exact rfl) (aBd _ _ _ _)⟩
          ·simp only [bxx] at hd;unfold awS;simp only [go_sem,simprocAttr];refine ⟨fun _=>?_,fun h=>absurd h (by decide)⟩;unfold awS;simp only [go_sem,simprocAttr];refine ⟨j+1,aT [(10,some 16),(9,some 9),(8,some 8),(7,some 7),(6,some 6),(5,some 5),(4,some 4),(3,some 3),(2,some 2),(1,some 1),(0,some 0)] ?_,⟨by omega,?_⟩,by omega⟩
           ·simp only [go_sem,simprocAttr]<;>simp
           ·unfold Qd at hj2 ⊢;rw [decide_eq_true_eq] at hj2 ⊢;omega
        ·simp only [bxx] at hm;unfold awS;simp only [go_sem,simprocAttr];have hwf:IntKind.i64.wrap (frm+(k:Int)+1)=frm+((k+1:Nat):Int):=by rw [wrap64 (by have:=hfr.1;omega) (by omega)];omega
         refine ⟨k+1,aT [(10,some 16),(9,some 9),(8,some 8),(7,some 7),(6,some 6),(5,some 5),(4,some 4),(3,some 3),(2,some 2),(1,some 1),(0,some 0)] ?_,⟨by omega,by omega⟩,by omega⟩;simp only [go_sem,simprocAttr,hwf]<;>simp
 ·have e:En p name frm n=([],cK p):=by unfold En;rw [if_pos hv]
  rw [if_pos hv];simp only [go_sem,simprocAttr,dtf];refine ⟨fun h1=>?_,fun h1=>?_⟩
  ·unfold awS;simp only [go_sem,simprocAttr,dtf];rw [e];exact ⟨wK,sB _⟩
  ·exact absurd h1 (by simpa using hv)
def tA (p:ProjR) (s:SequenceR):ProjR:=⟨p.media,p.seqs ++ [s]⟩
theorem Fs (l:List SequenceR) (s:SequenceR) (n:ByteArray):bZ (l ++ [s]) n=if n=s.name then some s else bZ l n:=yR _ _ _ _
theorem aNg (p:ProjR) (s:SequenceR):rV (tA p s) s.name=s.video:=by
 unfold rV tA;simp only;rw [Fs,if_pos rfl];rfl
theorem aNf {p:ProjR} {s:SequenceR} {n:ByteArray} (h:n≠s.name):rV (tA p s) n=rV p n:=by
 unfold rV tA;simp only;rw [Fs,if_neg h]
theorem aCr {p:ProjR} {s:SequenceR} {G H:ByteArray→Int→ExprR} {x:SourceR} (hx:cM p x=true) (hn:∀ q∈p.seqs,q.name≠s.name) (ih:∀ n i,n≠s.name→G n i=H n i) (j:Int):kU (tA p s) G x j=kU p H x j:=by
 unfold kU
 by_cases k2:x.kind=2
 ·rw [if_pos k2,if_pos k2];refine ih _ _ fun e=>?_
  unfold cM at hx;rw [k2] at hx;cases e2:bZ p.seqs x.name with
  | none=>rw [e2] at hx;cases hx
  | some q =>
   obtain ⟨m1,m2⟩:=jS e2;exact hn q m1 (m2.trans e)
 ·rw [if_neg k2,if_neg k2];rfl
theorem aD3 {R:ExprR→ExprR} {p:ProjR} {s:SequenceR} (h:FilmOk p) (hn:∀ q∈p.seqs,q.name≠s.name):∀ (d:Nat) (n:ByteArray) (i:Int),n≠s.name→nY R (tA p s) d n i=nY R p d n i
 | 0,_,_,_=>rfl
 | d+1,n,i,hne=>by
  unfold nY;rw [aNf hne];refine Mq fun c k ho x hx hk j=>?_
  obtain ⟨⟨t,ht,hct⟩,_⟩:=Mb (fun t ht c hc=>(aL ((aGu h n t (List.mem_reverse.1 ht)).2 c hc)).1) ho;have ht:=List.mem_reverse.1 ht;unfold rV at ht;cases e:bZ p.seqs n with
  | none=>rw [e] at ht;cases ht
  | some q =>
   rw [e] at ht;have hcl:=List.all_eq_true.1 (h.compl q (jS e).1) c (aJj e ht hct);unfold dB at hcl;rw [Bool.and_eq_true] at hcl;exact aCr (by rcases hx with rfl | rfl;exact hcl.1;exact hcl.2) hn (fun m y hm=>aD3 h hn d m y hm) j
def aNk (p:ProjR) (ts:List (List ClipR)) (i:Int):ExprR:=Bc eM (kU p (nY eM p 4)) (uX i ts.reverse)
theorem aRj {p:ProjR} {s:SequenceR} (h:FilmOk p) (hn:∀ q∈p.seqs,q.name≠s.name) (hs:∀ t∈s.video, ∀ c∈t,1≤c.len∧dB p c=true) (i:Int):nY eM (tA p s) 5 s.name i=aNk p s.video i:=by
 unfold nY aNk;rw [aNg];refine Mq fun c k ho x hx hk j=>?_
 obtain ⟨⟨t,ht,hct⟩,_⟩:=Mb (fun t ht c hc=>(hs t (List.mem_reverse.1 ht) c hc).1) ho;have hcl:=(hs t (List.mem_reverse.1 ht) c hct).2;unfold dB at hcl;rw [Bool.and_eq_true] at hcl;exact aCr (by rcases hx with rfl | rfl;exact hcl.1;exact hcl.2) hn (fun m y hm=>aD3 h hn 4 m y hm) j
theorem aR2 {a b:List T} (h:aGk a b):∀ l:List (List T),aN4 (l ++ [a]) (l ++ [b])
 | []=>⟨h,trivial⟩
 | x::l=>⟨Zn x,aR2 h l⟩
def rG (L:List Int) (i k:Nat):MediumR:=⟨cX ⟨#[109]⟩ i,0,⟨0,0,⟨25,1⟩,false,0,0,fun _=>0⟩,5+aB L k 40,0,0,[]⟩
def Jb (L:List Int) (i k:Nat):List (List ClipR)×Nat:=([(bP L k 3 i 4).1,(bP L (bP L k 3 i 4).2 3 i 2).1],(bP L (bP L k 3 i 4).2 3 i 2).2)
def madeP (L:List Int):ProjR:=⟨[rG L 0 0,rG L 1 1,rG L 2 2],[rB (cX ⟨#[115]⟩ 0) (Jb L 0 3).1,rB (cX ⟨#[115]⟩ 1) (Jb L 1 (Jb L 0 3).2).1]⟩
def madeK (L:List Int):Nat:=(Jb L 1 (Jb L 0 3).2).2
def madeT (L:List Int):List ClipR:=gR (bP L (madeK L) 3 2 5).1
def madeAt (L:List Int):Nat:=(bP L (madeK L) 3 2 5).2
theorem Lz (L:List Int) (k:Nat) (m s most:Int) (hm:m≤9) (hs:s≤9) (h0 : 0≤most) (h9:most≤9):(bP L k m s most).2≤k+200:=by
 have t:=aD (L:=L) (k:=k) (n:=most+1) (by omega);have h:=Ly L m s hm hs (aB L k (most+1)).toNat (k+1);unfold bP;omega
abbrev rawM (L:List Int):T := .list 141 (Tryz.z82.map T.lit) [yM (rG L 0 0) ++ [.lit (.slice none 0 0)],yM (rG L 1 1) ++ [.lit (.slice none 0 0)],yM (rG L 2 2) ++ [.lit (.slice none 0 0)]]
def rawQ (n:ByteArray) (a b:List ClipR):List T:=[fZ n,ti 25,ti 1,ti 16,ti 16, .list 1 [.lit (.slice none 0 0)] [[aM a],[aM b]], .lit (.slice none 0 0), .lit (.slice none 0 0),ti 0]
abbrev rawS (L:List Int):T := .list 9 [fZ ⟨#[]⟩,ti 0,ti 0,ti 0,ti 0, .lit (.slice none 0 0), .lit (.slice none 0 0), .lit (.slice none 0 0),ti 0] [rawQ (cX ⟨#[115]⟩ 0) (bP L 3 3 0 4).1 (bP L (bP L 3 3 0 4).2 3 0 2).1,rawQ (cX ⟨#[115]⟩ 1) (bP L (Jb L 0 3).2 3 1 4).1 (bP L (bP L (Jb L 0 3).2 3 1 4).2 3 1 2).1]
theorem aA4 {P:Program} {f:FuncId} {args:List V} {r r':V} {h':Heap} {n':Nat} (hc:CIO P f 0 [] args r' h' n') (hp:tQ r r' h'):aK P f args r:=by
 refine ⟨hc.1,fun w S vs hS hargs=>(hc.2 ⟨S,fun _=>none,fun _=>False,fun b=>b<w.heap.size,fun _=>none,none⟩ w vs (Nc hS) (fun i hi=>hi.elim) (RdVs.unbare (E:=⟨S,fun _=>none,fun _=>False,fun b=>b<w.heap.size,fun _=>none,none⟩) args hargs)).mono ?_⟩;rintro e w' ⟨v,E',rfl,h1,hbd,h2,hrv⟩;refine ⟨v,vJ E' h',rfl,fun b hb' => .inl (h2.S b hb'),fun b hb'=>?_,fun b hb'=>?_,hp.2 _ _ _ (RdV.lend h1 r' hp.1 hrv),⟨h2.os,h2.tape,h2.output,h2.size,fun b hb'=>h2.keep b (.inr hb')⟩⟩
 ·rcases hb' with hb' | ⟨i,hv',_,hB,_,_,hbk⟩
  ·rcases h2.S' b hb' with q | q
   ·exact .inl q
   ·exact .inr (Nat.le_of_not_lt q)
  ·have q:=(h1.own i hv' b hB hbk).2.2;exact .inr (Nat.le_of_not_lt fun hlt=>q ((h2.D b).2 hlt))
 ·rcases hb' with hb' | ⟨i,hv',_,hB,_,_,hbk⟩
  ·exact h1.slt b hb'
  ·exact (h1.own i hv' b hB hbk).1
theorem Qb {P:Program} {σ : St} {d:Option Tmp} {f:FuncId} {xs:List V} {K:St→Prop} (he:P.enters f=true) (h:ICall P σ d f xs K):LCall P σ d f xs K:=by
 refine ⟨he,fun E a w vs hr hvs=>?_⟩;rcases h E w vs hr.rel hr.bound hvs with ⟨_,h2⟩ | ⟨u,h2,_⟩
 ·refine h2.mono ?_;rintro e w' ⟨v,x,h',nx',E',rfl,q2,q3,q4,q5,q6⟩;have hr':RelF E' { σ with h:=h',nx:=nx' } a w':=⟨q2,q3,q4.rdVs _ hr.fr,q4.defs hr.defers⟩
  exact ⟨v,_,E',rfl,hr'.put d q5,q4,q6⟩
 ·rw [uK he] at h2;cases h2
def aR9 (P:Program) (σ : St) (d:Option Tmp) (f:FuncId) (xs:List V) (K:St→Prop) (h:Option Heap):Prop :=
 match h with
 | some h=>ICall P { σ with h:=h } d f (V.ress h xs) K
 | none=>False
theorem qP {P:Program} {σ : St} {d:Option Tmp} {f:FuncId} {xs:List V} {K:St→Prop} (he:P.enters f=true) (h:aR9 P σ d f xs K (giveL (reachL (nC σ.h 8) xs) σ.h)):LCall P σ d f xs K:=by
 unfold aR9 at h;split at h
 ·rename_i h' hg;refine ⟨he,fun E a w vs hr hvs=>?_⟩;obtain ⟨E1,r1,r2,r3⟩:=RelF.giveL (σ := σ) _ (h := σ.h) hr hg;have hvs1:=RdVs.res r1.rel _ (r2.rdVs _ hvs);refine ((Qb he h).2 E1 a w vs r1 hvs1).mono ?_;rintro e w' ⟨v, σ',E',q1,q2,q3,q4⟩;exact ⟨v, σ',E',q1,q2,r2.trans q3,q4⟩
 ·exact h.elim
attribute [go_sem] aR9
theorem aDm {P:Program} {f:FuncId} {m n':Nat} {h h':Heap} {args args':List V} {r:V} (ha:AsVs args' args) (hc:CIO P f m h args r h' n'):CIO P f m h args' r h' n' :=
 ⟨hc.1,fun E w vs h1 h2 h3=>hc.2 E w vs h1 h2 (ha _ _ _ h3)⟩
open Go.Lib
def zClipV:Value := .agg #[.int .i64 0, .int .i64 0, .int .i64 0, .string ⟨#[]⟩, .int .i64 0, .int .i64 0, .int .i64 0, .int .i64 0, .bool false, .int .i64 0, .string ⟨#[]⟩, .int .i64 0, .int .i64 0, .int .i64 0, .int .i64 0, .bool false, .int .i64 0, .int .i64 0, .int .i64 0, .string ⟨#[]⟩, .int .i64 0, .slice none 0 0]
theorem aLy:(Tryz.prog.info? 103).map (fun i=>(i.zero,i.size,i.bytes))=some (some zClipV,22,216):=by kernel_rfl
set_option maxHeartbeats 2000000 in
theorem aL1 (n:Nat) (h0 : 0<n) (hn:n≤1000000) (w:World):Calls Tryz.prog 183 #[.slice none 0 0, .int .i64 n] w fun e w' =>
  e = .returned (.slice (some ⟨w.heap.size,0,none⟩) 0 (grownCap w n 0 103))∧w'=w.drew.alloc (.cells (Builtin.zeroCells zClipV.cells n++Builtin.zeroCells zClipV.cells (grownCap w n 0 103 - n)) 103):=by
 obtain ⟨i0,hi,hz0,hz1,hz2⟩:=info_parts aLy;have h1 : ¬ ((n:Int)<0):=by omega
 have h2:Go.RowKit.wrap64 ((0:Int) - 0)=0:=by unfold Go.RowKit.wrap64;omega
 have h3:Go.RowKit.wrap64 ((n:Int) - 0)=(n:Int):=by unfold Go.RowKit.wrap64;omega
 have h4:(n:Int) > 0:=by omega
 have hrz:∀ ty,(Builtin.append_ #[27,3] ty #[.slice none 0 0, .int .i64 n]).run Tryz.prog w = .ok (.slice (some ⟨w.heap.size,0,none⟩) n (grownCap w n 0 103)) (w.drew.alloc (.cells (Builtin.zeroCells zClipV.cells n++Builtin.zeroCells zClipV.cells (grownCap w n 0 103 - n)) 103)):=fun ty =>
  run_append_nil_zeros w _ _ ty _ i0 _ .i64 .i64 Tryz.underlying27 Tryz.underlying3 hi hz0 n h0 (by omega) (by omega) (by rw [hz2];omega)
 have hGn:n≤grownCap w n 0 103:=grownCap_ge w _ _ _;obtain ⟨G,hG⟩:∃ G,G=grownCap w n 0 103:=⟨_,rfl⟩
 rw [← hG] at hrz hGn ⊢;generalize Builtin.zeroCells zClipV.cells n=ZA at *;generalize Builtin.zeroCells zClipV.cells (G - n)=ZB at *
 go_enter Tryz.func183,Tryz.ntmps183
 go_wp2_with (at_builtin;refine Lib.wpList_append_run _ rfl _ _ _ _ rfl _ _ rfl rfl _ _ (hrz _) ?_)
 all_goals (go_ret;exact ⟨rfl,rfl⟩)
set_option maxHeartbeats 2000000 in
theorem aEq (w:World):Calls Tryz.prog 183 #[.slice none 0 0, .int .i64 0] w fun e w'=>e = .returned (.slice none 0 0)∧w'=w:=by
 have h2:Go.RowKit.wrap64 ((0:Int) - 0)=0:=by unfold Go.RowKit.wrap64;omega
 go_enter Tryz.func183,Tryz.ntmps183
 go_wp2
 all_goals (go_ret;exact ⟨rfl,rfl⟩)
theorem igrowC {σ : St} {d:Option Tmp} {n:Nat} {K:St→Prop} (hn:n≤1000000) (dd:List T) (hK:K ((σ.add (.row 103 22 dd [])).put d (.own σ.nx))):ICall Tryz.prog σ d 183 [.t (.lit (.slice none 0 0)),aA n] K:=by
 refine Qp Tryz.X183 (fun w=>?_) hK;rcases Nat.eq_zero_or_pos n with rfl | h0
 ·exact (aEq w).mono fun e w' h => .inl ⟨rfl,h⟩
 ·refine (aL1 n h0 hn w).mono ?_;rintro e w' ⟨rfl,rfl⟩;have h1:=grownCap_ge w n 0 103;refine .inr ⟨_,_,rfl,rfl,?_,grownCap_le_maxLen w n 0 _ (by unfold maxLen;omega)⟩;simp only [Array.size_append,Mn];have:zClipV.cells.size=22:=rfl;rw [this];omega
theorem At (d:List T) (a b:List ClipR) (ha:a.length≤64) (hb:b.length≤64):CIO Tryz.prog 108 0 [] [.t (.list 1 d [[aM a],[aM b]])] (.own 0) [(0,tB (a++b))] 1:=by
 refine kQ Tryz.X108 Tryz.func108 rfl Tryz.ntmps108 (by rw [Tryz.results108]) (aC _ ?_);simp only [go_sem,simprocAttr];have c2:((2:Nat):Int)=2:=rfl;have w1:IntKind.i64.wrap 1=1:=by decide
 have w2:IntKind.i64.wrap 2=2:=by decide
 have e0:IntKind.i64.wrap (0+(a.length:Int))=a.length:=by rw [Go.Proofs.YtbfnemkngoaeeaaGreat.wrap64 (by omega) (by omega)];omega
 have e0':IntKind.i64.wrap (a.length:Int)=a.length:=by rw [Go.Proofs.YtbfnemkngoaeeaaGreat.wrap64 (by omega) (by omega)]
 have e1:IntKind.i64.wrap ((a.length:Int)+(b.length:Int))=((a++b).length:Nat):=by rw [Go.Proofs.YtbfnemkngoaeeaaGreat.wrap64 (by omega) (by omega),List.length_append];omega
 have n0 : ¬ ((a.length:Int)<0):=by omega
 have n1 : ¬ ((((a++b).length:Nat):Int)<0):=by omega
 refine eJ ?_;refine aZ (aC _ ?_);simp only [go_sem,simprocAttr,dtf,nth,Option.getD_some,List.getElem?_cons_zero,List.getElem?_cons_succ,w1,w2,c2,e0,e0',e1,n0,forall_const,false_implies,true_implies];refine aZ (aC _ ?_);simp only [go_sem,simprocAttr,dtf,nth,Option.getD_some,List.getElem?_cons_zero,List.getElem?_cons_succ,w1,w2,c2,e0,e0',e1,n1,forall_const,false_implies,true_implies];refine aZ (aC _ ?_);simp only [go_sem,simprocAttr,dtf,nth,Option.getD_some,List.getElem?_cons_zero,List.getElem?_cons_succ,w1,w2,c2,e0,e0',e1,n1,forall_const,false_implies,true_implies];refine igrowC (n:=(a++b).length) (by rw [List.length_append];omega) (ClipR.c default) ?_;simp only [go_sem,simprocAttr];refine eJ ?_;refine aZ (aC _ ?_);simp only [go_sem,simprocAttr,dtf,nth,Option.getD_some,List.getElem?_cons_zero,List.getElem?_cons_succ,w1,w2,c2,forall_const,false_implies,true_implies];refine ⟨⟨by unfold maxLen;omega,by omega⟩,?_⟩;refine aZ (aC _ ?_);simp only [go_sem,simprocAttr,dtf,nth,Option.getD_some,List.getElem?_cons_zero,List.getElem?_cons_succ,w1,w2,c2,forall_const,false_implies,true_implies];refine ⟨⟨by unfold maxLen;omega,by omega⟩,?_⟩;refine aZ (aC _ ?_);simp only [go_sem,simprocAttr,dtf,nth,Option.getD_some,List.getElem?_cons_zero,List.getElem?_cons_succ,w1,w2,c2,forall_const,false_implies,true_implies];refine aT [(0,some 2)] ?_;simp only [go_sem,simprocAttr];simp
structure Trk (t:List ClipR):Prop where
 len:t.length≤200
 ok:∀ i,i<t.length→aN (t.getD i default)=true
 tot:totL t≤2147483647
theorem Ff {t:List ClipR} (h:Trk t):t.length≤200∧(∀ i,i<t.length→aN (t.getD i default)=true)∧totL t≤2147483647:=⟨h.len,h.ok,h.tot⟩
theorem zK {t:List ClipR} (h:Trk t) {k:Nat} (hk:k≤t.length) : 0≤totL (t.take k)∧totL (t.take k)≤2147483647:=by
 have h1:=aAq h.ok k;have h2:=cL (t.take k) fun c hc=>(Md hk (fun i hi=>h.ok i (by omega)) c hc).1
 have h3:=h.tot;omega
theorem uG {t:List ClipR} (h1:t.length≤200) (h2:∀ c∈t,aN c=true) (h3:totL t≤2147483647):Trk t:=⟨h1,fun i hi=>h2 _ (aP hi),h3⟩
theorem La (t:List ClipR) (hfit:∀ c∈t,c.fit) (hv:Trk t):CIO Tryz.prog 181 0 [] [.t (aM t)] (.own 0) [(0,tB (sE t))] 1:=by
 obtain ⟨h64,hi,htot⟩:=Ff hv;have hM:∀ i,i<t.length→Mild (t.getD i default):=fun i h=>Kq (hfit _ (aP h)) (hi i h)
 refine kQ Tryz.X181 Tryz.func181 rfl Tryz.ntmps181 (by rw [Tryz.results181]) (aC _ ?_);simp only [go_sem,simprocAttr];refine aJ (fun (k:Nat) σ => { fr:=(σ.fr.set 3 (.own 0)).set 8 (aA k),h:=[(0,tB (dE t k))],nx:=1 }) (fun k=>k≤t.length) (fun k=>t.length - k) 0 (aT [(0,none)] ?_) (Nat.zero_le _) ?_
 ·simp only [go_sem,simprocAttr]
  first | exact rfl | exact ⟨rfl,rfl⟩
 ·intro k hk;obtain ⟨f1,f2,f3,f4⟩:=kA hi k hk;refine aC _ ?_;simp only [go_sem,simprocAttr];refine ⟨fun hlt=>?_,fun hge=>?_⟩
  ·simp only [bxx] at hlt;have hkl:k<t.length:=by omega
   have w1:IntKind.i64.wrap ((k:Int) - 1)=(k:Int) - 1:=wrap64 (by omega) (by omega);have w2:((k:Int) - 1).toNat=k - 1:=by omega
   have hlk:=aL (hi k hkl);have htk:=dU t k hkl;have htr:=zK hv (k:=k+1) (by omega);have hn1:=cL _ f4;unfold awS;simp only [go_sem,simprocAttr];refine ⟨⟨by omega,by omega⟩,?_⟩;refine bT [0,1,2,3,4,5,6,7,8,9,10] .done rfl (by kernel_rfl) (by kernel_rfl) (by decide) ?_;simp only [go_sem,simprocAttr,w1,w2];refine ⟨fun h=>?_,_,fun _=>Ss (t.getD (k - 1) default) (t.getD k default) (hM (k - 1) (by omega)),?_⟩
   ·simp only [bxx] at h;omega
   simp only [go_sem,simprocAttr];refine brW (b:=vD t k) ?_ ⟨fun hb=>?_,fun hb=>?_⟩
   ·unfold vD;have:decide ((k:Int) > 0)=decide (0<k):=by rw [Bool.eq_iff_iff];simp only [bxx];omega
    rw [this]
   ·have hk0 : 0<k:=by unfold vD at hb;simp only [Bool.and_eq_true,decide_eq_true_eq] at hb;exact hb.1
    obtain ⟨i,c,e⟩:=zT (f2 hk0);have f3':=f3;have f4':=f4;rw [e] at f1 f3 f4;rw [gQ,mW] at f3;have hl1:=f4 c (by simp);have hin:=cL i fun d hd=>f4 d (by simp [hd])
    have hil:i.length+1≤k:=by simpa using f1
    unfold awS;rw [e];have hlen:(List.map ClipR.c (i ++ [c])).length=i.length+1:=by simp
    simp only [go_sem,simprocAttr];have hL:(i ++ [c]).length=i.length+1:=by simp
    have w3:IntKind.i64.wrap (((i.length+1:Nat):Int) - 1)=(i.length:Int):=by rw [wrap64 (by omega) (by omega)];omega
    have w4:IntKind.i64.wrap ((i.length:Int)+1 - 1)=(i.length:Int):=by rw [wrap64 (by omega) (by omega)];omega
    refine aQ 13 .done rfl (by kernel_rfl) (by kernel_rfl) (by decide) ?_;have w5:IntKind.i64.wrap (c.len+(t.getD k default).len)=c.len+(t.getD k default).len:=wrap64 (by omega) (by omega);simp only [go_sem,simprocAttr,hL,w3,w4,dC (show k<9223372036854775807 by omega),pM,w5,Lx];refine ⟨⟨by omega,by omega⟩,by omega,⟨by omega,by omega⟩,by omega,by kernel_rfl,k+1,aT [(0,some 0)] ?_,by omega,by omega⟩;simp only [go_sem,simprocAttr];refine ⟨⟨by simp,?_⟩,rfl⟩;unfold dE;rw [if_pos hb,e,gN]
   ·unfold awS;simp only [go_sem,simprocAttr];refine ⟨_,aA7 (t.getD k default) (hM k hkl).chan,?_⟩;simp only [go_sem,simprocAttr,dC (show k<9223372036854775807 by omega)];refine ⟨⟨by unfold maxLen;omega,by omega⟩,k+1,aT [(0,some 3)] ?_,by omega,by omega⟩;simp only [go_sem,simprocAttr];refine ⟨⟨by simp,?_⟩,rfl⟩;have e:dE t (k+1)=dE t k ++ [t.getD k default]:=by rw [dE,if_neg (by rw [hb];simp)]
    rw [e,List.map_append];rfl
  ·simp only [bxx] at hge;have:k=t.length:=by omega
   subst this;unfold awS;simp only [go_sem,simprocAttr];refine aE ?_;simp only [go_sem,simprocAttr];exact ⟨by simp,rfl⟩
theorem aSj:aK Tryz.prog 181 [.t (.lit (.slice none 0 0))] (.t (.lit (.slice none 0 0))):=by
 refine aG Tryz.X181 Tryz.func181 rfl Tryz.ntmps181 (by rw [Tryz.results181]) (aC _ ?_);simp only [go_sem,simprocAttr];refine eJ ?_;refine aZ (aC _ ?_);simp only [go_sem,simprocAttr,dtf]
def joinT (a b:List ClipR):List ClipR×Int :=
 if (!bB a || !bB b)=true then ([],1)
 else if decide (totL a+totL b > 2147483647)=true then ([],2)
 else if decide ((sE (a++b)).length > 64)=true then ([],5) else (sE (a++b),0)
abbrev vte (r:List ClipR×Int):V := .tup [.t (aM r.1),aA r.2]
structure SrcP (p:ProjR) (x:SourceR):Prop where
 m1:x.kind=1 → ∃ i,i<p.media.length∧(p.media.getD i default).name=x.name
 s2:x.kind=2 → ∃ i,i<p.seqs.length∧(p.seqs.getD i default).name=x.name
theorem Hd {p:ProjR} {x:SourceR} (h:SrcP p x):cM p x=true:=by
 unfold cM;have h1:(x.kind==1&&(vG p.media x.name).isNone)=false:=by
  by_cases hk:x.kind=1
  ·obtain ⟨i,hi,hn⟩:=h.m1 hk;cases e:vG p.media x.name with
   | some _=>simp
   | none=>exact absurd hn (gH.1 e _ (aP hi))
  ·simp [hk]
 have h2:(x.kind==2&&(bZ p.seqs x.name).isNone)=false:=by
  by_cases hk:x.kind=2
  ·obtain ⟨i,hi,hn⟩:=h.s2 hk;cases e:bZ p.seqs x.name with
   | some _=>simp
   | none=>exact absurd hn (gH.1 e _ (aP hi))
  ·simp [hk]
 rw [h1,h2];rfl
structure TrkP (p:ProjR) (t:List ClipR):Prop where
 ok:bB t=true
 cl:∀ c∈t,c.fit∧mZ c=true∧SrcP p c.a∧SrcP p c.b
structure SeqIn (p:ProjR) (n:ByteArray) (ts:List (List ClipR)):Prop where
 name:dS n=true
 fresh:∀ q∈p.seqs,q.name≠n
 len:ts.length≤8
 trk:∀ t∈ts,TrkP p t
theorem aKm {p:ProjR} {t:List ClipR} (h:TrkP p t):∀ c∈t,1≤c.len∧dB p c=true:=by
 intro c hc;obtain ⟨h1,h2,h3,h4⟩:=h.cl c hc;have hv:=(cZ h.ok).2.1 c hc;unfold dB;rw [Hd h3,Hd h4];exact ⟨(aL hv).1,rfl⟩
theorem tSeq_ok {p:ProjR} {n:ByteArray} {ts:List (List ClipR)} (h:SeqIn p n ts):eK (rB n ts)=true∧dY (rB n ts)=true:=by
 have e1:ts.all xC=true:=List.all_eq_true.2 fun t ht=>by
  unfold xC;rw [(h.trk t ht).ok,List.all_eq_true.2 fun c hc=>((h.trk t ht).cl c hc).2.1];rfl
 have e2:Nh ⟨25,1⟩=true:=of_decide_eq_true (by kernel_rfl);have e3:Bw 16=true:=by decide
 have e4:Ct 0=true:=by decide
 constructor
 ·unfold eK Dm;simp only [rB,h.name,e1,e2,e3,e4];rfl
 ·show (decide ((ts.length:Int)≤8)&&decide (((0:Nat):Int)≤8)&&decide (((0:Nat):Int)≤64))=true
  rw [decide_eq_true (show ((ts.length:Nat):Int)≤8 by have:=h.len;omega)];rfl
theorem aNn {p:ProjR} {n:ByteArray} {ts:List (List ClipR)} (h:SeqIn p n ts):(rB n ts).fit:=by
 have i0:I64 0:=⟨by decide,by decide⟩
 have i16:I64 16:=⟨by decide,by decide⟩
 have r:(⟨25,1⟩:RatR).fit:=⟨⟨by decide,by decide⟩,⟨by decide,by decide⟩⟩
 exact ⟨r,i16,i16,fun t ht c hc=>((h.trk t ht).cl c hc).1,fun t ht=>(by cases ht),fun c hc=>(by cases hc),i0⟩
theorem Ej {α : Type} [Inhabited α] (l:List α) (x : α) {i:Nat} (h:i<l.length):(l ++ [x]).getD i default=l.getD i default:=by
 rw [List.getD_eq_getElem?_getD,List.getD_eq_getElem?_getD,List.getElem?_append_left h]
theorem Bn {α : Type} [Inhabited α] (l:List α) (x : α):(l ++ [x]).getD l.length default=x:=by
 rw [List.getD_eq_getElem?_getD,List.getElem?_append_right (Nat.le_refl _),Nat.sub_self];rfl
theorem srcs_in {n:ByteArray} {ts:List (List ClipR)} {x:SourceR} (hx:x∈gA (rB n ts)):∃ t∈ts, ∃ c∈t,x=c.a∨x=c.b:=by
 unfold gA Hc at hx;obtain ⟨c,hc,hx⟩:=List.mem_flatMap.1 (List.mem_filter.1 hx).1;unfold dL rB at hc;obtain ⟨t,ht,hct⟩:=List.mem_flatten.1 hc;rw [List.append_nil] at ht;exact ⟨t,ht,c,hct,by simpa using hx⟩
theorem lay_add {p:ProjR} {n:ByteArray} {ts:List (List ClipR)} (h:Layered p) (hs:SeqIn p n ts) (hl:p.seqs.length≤4):Layered (tA p (rB n ts)):=by
 obtain ⟨o1,o2⟩:=tSeq_ok hs;have key:∀ x∈gA (rB n ts),SrcP p x:=fun x hx=>by
  obtain ⟨t,ht,c,hc,hx⟩:=srcs_in hx;obtain ⟨_,_,h3,h4⟩:=(hs.trk t ht).cl c hc;rcases hx with rfl | rfl<;>assumption
 refine ⟨?_,?_,h.nm,?_,?_,fun j hj x hx k1=>?_,fun j hj x hx k2=>?_⟩
 ·have:=h.small;unfold dQ at this;simp only [Bool.and_eq_true,decide_eq_true_eq] at this;show (decide ((p.media.length:Int)≤16)&&decide (((p.seqs ++ [rB n ts]).length:Int)≤16)&&p.media.all gC&&(p.seqs ++ [rB n ts]).all dY)=true
  rw [decide_eq_true this.1.1.1,decide_eq_true (show ((p.seqs ++ [rB n ts]).length:Int)≤16 by rw [List.length_append];simp only [List.length_cons,List.length_nil];omega),this.1.2,List.all_append,this.2];simp [o2]
 ·have:=h.ok;rw [Bool.and_eq_true] at this;show (p.media.all fF&&(p.seqs ++ [rB n ts]).all eK)=true
  rw [this.1,List.all_append,this.2];simp [o1]
 ·unfold tA;rw [List.map_append];refine List.nodup_append.2 ⟨h.ns,by simp,fun a ha b hb=>?_⟩;obtain ⟨q,hq,rfl⟩:=List.mem_map.1 ha;simp only [List.map_cons,List.map_nil,List.mem_cons,List.not_mem_nil,or_false] at hb;rw [hb];exact hs.fresh q hq
 ·simp only [tA,List.length_append,List.length_cons,List.length_nil];omega
 ·simp only [tA,List.length_append,List.length_cons,List.length_nil] at hj hx ⊢
  by_cases hj2:j<p.seqs.length
  ·rw [Ej _ _ hj2] at hx;exact h.m1 j hj2 x hx k1
  ·have:j=p.seqs.length:=by omega
   subst this;rw [Bn] at hx;exact (key x hx).m1 k1
 ·simp only [tA,List.length_append,List.length_cons,List.length_nil] at hj hx ⊢
  by_cases hj2:j<p.seqs.length
  ·rw [Ej _ _ hj2] at hx;obtain ⟨i,hi,hn⟩:=h.s2 j hj2 x hx k2;exact ⟨i,hi,by rw [Ej _ _ (by omega)];exact hn⟩
  ·have:j=p.seqs.length:=by omega
   subst this;rw [Bn] at hx;obtain ⟨i,hi,hn⟩:=(key x hx).s2 k2;exact ⟨i,hi,by rw [Ej _ _ hi];exact hn⟩
theorem fit_add {p:ProjR} {n:ByteArray} {ts:List (List ClipR)} (h:p.fit) (hs:SeqIn p n ts):(tA p (rB n ts)).fit:=by
 refine ⟨h.media,fun s hx=>?_⟩;unfold tA at hx;rcases List.mem_append.1 hx with hx | hx
 ·exact h.seqs s hx
 ·simp only [List.mem_cons,List.not_mem_nil,or_false] at hx;subst hx;exact aNn hs
theorem aGy (L:List Int) (k:Nat) (s most:Int) (hs:s≤9) (h0 : 0≤most) (h9:most≤9):bB (bP L k 3 s most).1=true ∧ ∀ c∈(bP L k 3 s most).1,c.fit∧VidOk 3 s c:=by
 obtain ⟨n1,n2⟩:=qE L k 3 s most (by omega) hs h0 h9;exact ⟨Gz n1 (by omega),fun c hc=>⟨(n1 c hc).fit,Fh L 3 s (by omega) hs _ _ c hc⟩⟩
def mM (L:List Int):ProjR:=⟨[rG L 0 0,rG L 1 1,rG L 2 2],[]⟩
def mS0 (L:List Int):ProjR:=tA (mM L) (rB (cX ⟨#[115]⟩ 0) (Jb L 0 3).1)
def aK7 (t:List ClipR) (c:ClipR):Prop := ∃ d∈t,c.a=d.a∧c.b=d.b∧c.gain=d.gain∧c.chan=d.chan
theorem Ew {t:List ClipR} (n:Int):∀ l:List ClipR,(∀ c∈l,aK7 t c) → ∀ c∈uE l n,aK7 t c
 | [],_,c,hc=>by cases hc
 | [d],h,c,hc=>by
  simp only [uE,List.mem_cons,List.not_mem_nil,or_false] at hc;subst hc;exact h d (by simp)
 | d::e::l,h,c,hc=>by
  rw [uE] at hc;rcases List.mem_cons.1 hc with rfl | hc
  ·exact h c (by simp)
  ·exact Ew n (e::l) (fun x hx=>h x (by simp [hx])) c hc
theorem wE (t:List ClipR):∀ k,k≤t.length → ∀ c∈dE t k,aK7 t c
 | 0,_,c,hc=>by cases hc
 | k+1,hk,c,hc=>by
  rw [dE] at hc;split at hc
  ·exact Ew _ _ (wE t k (by omega)) c hc
  ·rcases List.mem_append.1 hc with hc | hc
   ·exact wE t k (by omega) c hc
   ·simp only [List.mem_cons,List.not_mem_nil,or_false] at hc;exact ⟨t.getD k default,aP (by omega),by rw [hc],by rw [hc],by rw [hc],by rw [hc]⟩
theorem Vv (t:List ClipR):∀ c∈gR t,aK7 t c:=by
 intro c hc;unfold gR at hc;obtain ⟨k,e,_⟩:=yY (sD t);rw [e] at hc;have hc:=List.mem_of_mem_take hc;unfold sD sE at hc;split at hc
 ·exact wE t _ (Nat.le_refl _) c hc
 ·cases hc
abbrev rawT (n:ByteArray) (ts:List (List ClipR)):List T:=[fZ n,ti 25,ti 1,ti 16,ti 16, .list 1 (jL []) (ts.map jL), .lit (.slice none 0 0), .lit (.slice none 0 0),ti 0]
abbrev zSqT:List T:=[fZ ⟨#[]⟩,ti 0,ti 0,ti 0,ti 0, .lit (.slice none 0 0), .lit (.slice none 0 0), .lit (.slice none 0 0),ti 0]
