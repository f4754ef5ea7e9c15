/- Proved here: The project that a tape gives is valid; conditions stand in each theorem. -/
import Derived.Test.YtbfnemkngoaeeaaGreatQ27
import Derived.Test.YtbfnemkngoaeeaaGreatQ18
set_option linter.unusedSimpArgs false
set_option linter.unusedVariables false
set_option linter.unusedSectionVars false
set_option linter.unnecessarySimpa false
namespace Go.Proofs.YtbfnemkngoaeeaaGreat
open Go.RowKit
set_option maxRecDepth 4000
structure SrcIn (m s:Int) (x:SourceR):Prop where
 m1:x.kind=1 → ∃ i:Nat,(i:Int)<m∧x.name=cX ⟨#[109]⟩ i
 s2:x.kind=2 → ∃ i:Nat,(i:Int)<s∧x.name=cX ⟨#[115]⟩ i
theorem aQw (m s:Int):SrcIn m s zSource:=⟨fun h=>absurd h (by decide),fun h=>absurd h (by decide)⟩
theorem rP (L:List Int) (k:Nat) (m s:Int) (hm:m≤9) (hs:s≤9):SrcIn m s (bE L k m s).1:=by
 unfold bE;split
 ·exact aQw m s
 ·split
  ·rename_i h1;simp only [Bool.and_eq_true,decide_eq_true_eq] at h1;have:=aE (L:=L) (k:=k+5) (n:=s) (by omega);exact ⟨fun h=>(by simp at h),fun _=>⟨(aA L (k+5) s).toNat,by omega,by simp only;rw [Int.toNat_of_nonneg this.1]⟩⟩
  ·split
   ·rename_i h1;have:=aE (L:=L) (k:=k+5) (n:=m) (by omega);exact ⟨fun _=>⟨(aA L (k+5) m).toNat,by omega,by simp only;rw [Int.toNat_of_nonneg this.1]⟩,fun h=>(by simp at h)⟩
   ·exact aQw m s
structure VidOk (m s:Int) (c:ClipR):Prop where
 a:SrcIn m s c.a
 b:SrcIn m s c.b
 sil:pJ c=true
theorem aKs (L:List Int) (k:Nat) (m s:Int) (hm:m≤9) (hs:s≤9):VidOk m s (cE L k m s).1:=by
 have h1:=rP L (k+2) m s hm hs;have h2:=rP L (bE L (k+2) m s).2 m s hm hs;have z:=aQw m s;unfold cE;simp only;split
 ·exact ⟨z,z,rfl⟩
 ·split
  ·split<;>exact ⟨h1,h2,rfl⟩
  ·split
   ·exact ⟨h1,h2,rfl⟩
   ·split<;>exact ⟨h1,z,rfl⟩
theorem aPh {m s:Int} {c:ClipR} (h:VidOk m s c) (n:Int):VidOk m s (fX c n):=⟨⟨h.a.m1,h.a.s2⟩,h.b,h.sil⟩
theorem aCv (L:List Int) (k:Nat) (m s:Int) (hm:m≤9) (hs:s≤9):∀ c∈(fB L k m s).1,VidOk m s c:=by
 have h1:=aKs L k m s hm hs;unfold fB;split
 ·split
  ·intro c hc;simp only [List.mem_cons,List.not_mem_nil,or_false] at hc;rcases hc with rfl | rfl
   ·exact h1
   ·exact aPh h1 _
  ·intro c hc;simp only [List.mem_cons,List.not_mem_nil,or_false] at hc;rw [hc];exact h1
 ·intro c hc;simp only [List.mem_cons,List.not_mem_nil,or_false] at hc;rw [hc];exact h1
theorem Wb (L:List Int) (m s:Int) (hm:m≤9) (hs:s≤9):∀ (n k:Nat), ∀ c∈(qH L m s n k).1,VidOk m s c
 | 0,k=>fun c hc=>by simp [qH] at hc
 | n+1,k=>fun c hc=>by
  simp only [qH] at hc;rcases List.mem_append.1 hc with hc | hc
  ·exact aCv L k m s hm hs c hc
  ·exact Wb L m s hm hs n _ c hc
structure SndOk (m s ch:Int) (c:ClipR):Prop where
 a:SrcIn m s c.a
 b:SrcIn m s c.b
 ok:bB c=true
 aud:yF ch c=true
 l9:c.len≤9
theorem vD {x:SourceR} (h:aY x=true):aY (gB x)=true:=by
 unfold aY at h ⊢;rw [Bool.or_eq_true] at h ⊢;rcases h with h | h
 ·refine .inl ?_;unfold SourceR.isZ SourceR.eqb at h ⊢;simp only [Bool.and_eq_true] at h ⊢;exact ⟨h.1,rfl⟩
 ·exact .inr h
theorem Qe {m s:Int} {x:SourceR} (h:SrcIn m s x):SrcIn m s (gB x):=⟨h.m1,h.s2⟩
theorem Ck (i:Nat) : 0≤sGains.getD i 0∧sGains.getD i 0≤65536:=by
 rcases i with _ | _ | _ | _ | _ | _ | i<;>simp [sGains]
theorem snd0 {m s ch len:Int} (hl : 1≤len∧len≤9):SndOk m s ch ⟨len,0,zSource,zSource,0,0,0,⟨#[]⟩,0,[]⟩:=by
 have ez:zSource.isZ=true:=aA1;refine ⟨aQw m s,aQw m s,?_,rfl,hl.2⟩;unfold bB nN;simp only [aCc,decide_eq_true hl.1,decide_eq_true (by omega:len≤2147483647),Bool.and_true];simp [cD,dX,emp,ez,gH]
theorem snd1 {m s ch len g:Int} {C:List Int} {a:SourceR} (hl : 1≤len∧len≤9) (hg : 0≤g∧g≤65536) (hC:gH C=true) (va:aY a=true) (ia:SrcIn m s a) (hc:(C.length:Int)=ch):SndOk m s ch ⟨len,1,gB a,zSource,0,0,0,⟨#[]⟩,g,C⟩:=by
 have ez:zSource.isZ=true:=aA1;refine ⟨Qe ia,aQw m s,?_,?_,hl.2⟩
 ·unfold bB nN;simp only [aCc,vD va,hC,decide_eq_true hl.1,decide_eq_true (by omega:len≤2147483647),decide_eq_true hg.1,decide_eq_true hg.2,Bool.and_true];simp [cD,dX,emp,ez]
 ·unfold yF;simp [gB,hc]
theorem snd2 {m s ch len g o t:Int} {C:List Int} {a b:SourceR} (hl : 1≤len∧len≤9) (hg : 0≤g∧g≤65536) (hC:gH C=true) (va:aY a=true) (vb:aY b=true) (ia:SrcIn m s a) (ib:SrcIn m s b) (hc:(C.length:Int)=ch) (h0 : 0≤o) (h1:o+len≤t) (h2:t≤1000):SndOk m s ch ⟨len,2,gB a,gB b,o,t,0,⟨#[]⟩,g,C⟩:=by
 refine ⟨Qe ia,Qe ib,?_,?_,hl.2⟩
 ·unfold bB nN;simp only [vD vb,vD va,hC,decide_eq_true hl.1,decide_eq_true (by omega:len≤2147483647),decide_eq_true hg.1,decide_eq_true hg.2,Bool.and_true];simp [cD,dW,emp];omega
 ·unfold yF;simp [gB,hc]
theorem aAg (L:List Int) (k:Nat) (m s:Int) (hm:m≤9) (hs:s≤9):SndOk m s 0 (fR L k m s).1:=by
 have n9:=aE (L:=L) (k:=k) (n:=9) (by omega);have n4:=aE (L:=L) (k:=k+1) (n:=4) (by omega);obtain ⟨kd,hkd⟩:∃ kd,sKinds.getD (aA L (k+1) 4).toNat 0=kd:=⟨_,rfl⟩
 have hk5:kd=0∨kd=1∨kd=2:=by
  have:(aA L (k+1) 4).toNat=0∨(aA L (k+1) 4).toNat=1∨(aA L (k+1) 4).toNat=2∨(aA L (k+1) 4).toNat=3:=by omega
  unfold sKinds at hkd;rcases this with h | h | h | h<;>rw [h] at hkd<;>simp at hkd<;>omega
 obtain ⟨len,hlen⟩:∃ len,1+aA L k 9=len:=⟨_,rfl⟩
 have hl : 1≤len∧len≤9:=by omega
 have va:=(fN L (k+2) m s hm hs).1;have vb:=(fN L (bE L (k+2) m s).2 m s hm hs).1;have ia:=rP L (k+2) m s hm hs;have ib:=rP L (bE L (k+2) m s).2 m s hm hs;generalize ha:bE L (k+2) m s=a at va vb ia ib;generalize hb:bE L a.2 m s=b at vb ib;have o3:=aE (L:=L) (k:=b.2) (n:=3) (by omega);have p3:=aE (L:=L) (k:=b.2+1) (n:=3) (by omega);unfold fR;simp only [hkd,hlen,ha,hb];rcases hk5 with rfl | rfl | rfl
 ·exact snd0 hl
 ·refine snd1 hl (Ck _) ?_ va ia ?_
  ·simp [gH]<;>(have := @aE L (a.2+1) 4 (by omega);have := @aE L (a.2+2) 4 (by omega);omega)
  ·rfl
 ·refine snd2 hl (Ck _) ?_ va vb ia ib ?_ (by omega) (by omega) (by omega)
  ·simp [gH]<;>(have := @aE L (b.2+3) 4 (by omega);have := @aE L (b.2+4) 4 (by omega);omega)
  ·rfl
theorem aAe (L:List Int) (k:Nat) (m s:Int) (hm:m≤9) (hs:s≤9):SndOk m s 1 (fQ L k m s).1:=by
 have n9:=aE (L:=L) (k:=k) (n:=9) (by omega);have n4:=aE (L:=L) (k:=k+1) (n:=4) (by omega);obtain ⟨kd,hkd⟩:∃ kd,sKinds.getD (aA L (k+1) 4).toNat 0=kd:=⟨_,rfl⟩
 have hk5:kd=0∨kd=1∨kd=2:=by
  have:(aA L (k+1) 4).toNat=0∨(aA L (k+1) 4).toNat=1∨(aA L (k+1) 4).toNat=2∨(aA L (k+1) 4).toNat=3:=by omega
  unfold sKinds at hkd;rcases this with h | h | h | h<;>rw [h] at hkd<;>simp at hkd<;>omega
 obtain ⟨len,hlen⟩:∃ len,1+aA L k 9=len:=⟨_,rfl⟩
 have hl : 1≤len∧len≤9:=by omega
 have va:=(fN L (k+2) m s hm hs).1;have vb:=(fN L (bE L (k+2) m s).2 m s hm hs).1;have ia:=rP L (k+2) m s hm hs;have ib:=rP L (bE L (k+2) m s).2 m s hm hs;generalize ha:bE L (k+2) m s=a at va vb ia ib;generalize hb:bE L a.2 m s=b at vb ib;have o3:=aE (L:=L) (k:=b.2) (n:=3) (by omega);have p3:=aE (L:=L) (k:=b.2+1) (n:=3) (by omega);unfold fQ;simp only [hkd,hlen,ha,hb];rcases hk5 with rfl | rfl | rfl
 ·exact snd0 hl
 ·refine snd1 hl (Ck _) ?_ va ia ?_
  ·simp [gH]<;>(have := @aE L (a.2+1) 4 (by omega);have := @aE L (a.2+2) 4 (by omega);omega)
  ·rfl
 ·refine snd2 hl (Ck _) ?_ va vb ia ib ?_ (by omega) (by omega) (by omega)
  ·simp [gH]<;>(have := @aE L (b.2+3) 4 (by omega);have := @aE L (b.2+4) 4 (by omega);omega)
  ·rfl
theorem aDa (L:List Int) (k:Nat) (m s:Int) (hm:m≤9) (hs:s≤9):SndOk m s 2 (kC L k m s).1:=by
 have n9:=aE (L:=L) (k:=k) (n:=9) (by omega);have n4:=aE (L:=L) (k:=k+1) (n:=4) (by omega);obtain ⟨kd,hkd⟩:∃ kd,sKinds.getD (aA L (k+1) 4).toNat 0=kd:=⟨_,rfl⟩
 have hk5:kd=0∨kd=1∨kd=2:=by
  have:(aA L (k+1) 4).toNat=0∨(aA L (k+1) 4).toNat=1∨(aA L (k+1) 4).toNat=2∨(aA L (k+1) 4).toNat=3:=by omega
  unfold sKinds at hkd;rcases this with h | h | h | h<;>rw [h] at hkd<;>simp at hkd<;>omega
 obtain ⟨len,hlen⟩:∃ len,1+aA L k 9=len:=⟨_,rfl⟩
 have hl : 1≤len∧len≤9:=by omega
 have va:=(fN L (k+2) m s hm hs).1;have vb:=(fN L (bE L (k+2) m s).2 m s hm hs).1;have ia:=rP L (k+2) m s hm hs;have ib:=rP L (bE L (k+2) m s).2 m s hm hs;generalize ha:bE L (k+2) m s=a at va vb ia ib;generalize hb:bE L a.2 m s=b at vb ib;have o3:=aE (L:=L) (k:=b.2) (n:=3) (by omega);have p3:=aE (L:=L) (k:=b.2+1) (n:=3) (by omega);unfold kC;simp only [hkd,hlen,ha,hb];rcases hk5 with rfl | rfl | rfl
 ·exact snd0 hl
 ·refine snd1 hl (Ck _) ?_ va ia ?_
  ·simp [gH]<;>(have := @aE L (a.2+1) 4 (by omega);have := @aE L (a.2+2) 4 (by omega);omega)
  ·rfl
 ·refine snd2 hl (Ck _) ?_ va vb ia ib ?_ (by omega) (by omega) (by omega)
  ·simp [gH]<;>(have := @aE L (b.2+3) 4 (by omega);have := @aE L (b.2+4) 4 (by omega);omega)
  ·rfl
theorem aJ5 (L:List Int) (k:Nat) (m s ch:Int) (hm:m≤9) (hs:s≤9) (hc : 0≤ch∧ch≤2):SndOk m s ch (pG L k m s ch).1:=by
 unfold pG;split
 ·rename_i h;subst h;exact aAg L k m s hm hs
 ·split
  ·rename_i h;subst h;exact aAe L k m s hm hs
  ·have:ch=2:=by omega
   subst this;exact aDa L k m s hm hs
open Go.RowKit
set_option maxRecDepth 4000
theorem aVr:((List.range 4).all fun i=>kL (cueLines.getD i ⟨#[]⟩))=true:=by kernel_rfl
theorem Ze (L:List Int) (k:Nat):kL (Tq L k)=true:=by
 have t:=aE (L:=L) (k:=k) (n:=4) (by omega);exact List.all_eq_true.1 aVr _ (List.mem_range.2 (by omega))
theorem aVs (L:List Int) (k:Nat):Ez (pY L k).1=true∧(pY L k).1.fit:=by
 have t50:=aE (L:=L) (k:=k) (n:=50) (by omega);have t20:=aE (L:=L) (k:=k+1) (n:=20) (by omega);have l3:=Ze L (k+3);have l4:=Ze L (k+4);unfold pY;split
 ·refine ⟨?_,bG (by simp only;omega) (by simp only;omega),bG (by simp only;omega) (by simp only;omega)⟩;simp [Ez,Tp,l3];omega
 ·refine ⟨?_,bG (by simp only;omega) (by simp only;omega),bG (by simp only;omega) (by simp only;omega)⟩;simp [Ez,Tp,l3,l4];omega
theorem Kn (L:List Int):∀ (n k:Nat),(eW L n k).1.length=n ∧ ∀ c∈(eW L n k).1,Ez c=true∧c.fit
 | 0,k=>⟨rfl,fun c hc=>by cases hc⟩
 | n+1,k=>by
  obtain ⟨h1,h2⟩:=Kn L n (pY L k).2;refine ⟨by simp only [eW,List.length_cons,h1],fun c hc=>?_⟩;simp only [eW] at hc;rcases List.mem_cons.1 hc with rfl | hc
  ·exact aVs L k
  ·exact h2 c hc
theorem aE7 (L:List Int) (k:Nat):aAu (nT L k)=true∧(nT L k).fit:=by
 have t:=aE (L:=L) (k:=k) (n:=3) (by omega);have:(aA L k 3).toNat=0∨(aA L k 3).toNat=1∨(aA L k 3).toNat=2:=by omega
 unfold nT;rcases this with h | h | h<;>rw [h]
 ·exact ⟨by decide,bG (by decide) (by decide),bG (by decide) (by decide)⟩
 ·exact ⟨by decide,bG (by decide) (by decide),bG (by decide) (by decide)⟩
 ·exact ⟨by decide,bG (by decide) (by decide),bG (by decide) (by decide)⟩
structure MedGood (i:Nat) (y:MediumR):Prop where
 name:y.name=cX ⟨#[109]⟩ i
 ok:fC y=true
 fit:y.fit
 small:gL y=true
theorem aJz (L:List Int) (i k:Nat) (hi:i<9):MedGood i (tV L i k).1:=by
 obtain ⟨c1,c2⟩:=Kn L (aA L (k+5) 3).toNat (k+6);obtain ⟨r1,r2⟩:=aE7 L (k+1);have t40:=aE (L:=L) (k:=k+2) (n:=40) (by omega);have t3:=aE (L:=L) (k:=k+3) (n:=3) (by omega);have ts:=aE (L:=L) (k:=k+4) (n:=20000) (by omega);have tc:=aE (L:=L) (k:=k+5) (n:=3) (by omega);have i16:I64 16:=bG (by decide) (by decide);have i4:I64 400000:=bG (by decide) (by decide);refine ⟨rfl,?_,⟨⟨i16,i16,r2,i4,i4⟩,bG (by simp only [tV];omega) (by simp only [tV];omega),bG (by simp only [tV];omega) (by simp only [tV];omega),bG (by simp only [tV];omega) (by simp only [tV];omega),fun c hc=>(c2 c hc).2⟩,?_⟩
 ·have e1:aT (cX ⟨#[109]⟩ (i:Int))=true:=(Bf (i:Int) (by omega) (by omega)).2;have e2:Au (eW L (aA L (k+5) 3).toNat (k+6)).1=true:=List.all_eq_true.2 fun c hc=>(c2 c hc).1
  unfold fC Hn Kp;simp only [tV,Yk,e1,e2,r1,Bool.and_true,Bool.true_and,Bool.and_eq_true,decide_eq_true_eq];exact ⟨⟨⟨decide_eq_true (by omega),decide_eq_true (by omega)⟩,decide_eq_true (by omega),decide_eq_true (by omega)⟩,decide_eq_true (by omega),decide_eq_true (by omega)⟩
 ·unfold gL;simp only [tV,c1,decide_eq_true_eq];omega
theorem Lt (L:List Int):∀ (n i k:Nat),i+n≤9→(mU L n i k).1.length=n ∧ ∀ x,x<n→MedGood (i+x) ((mU L n i k).1.getD x default)
 | 0,i,k,_=>⟨rfl,fun x hx=>absurd hx (Nat.not_lt_zero _)⟩
 | n+1,i,k,h=>by
  obtain ⟨h1,h2⟩:=Lt L n (i+1) (tV L i k).2 (by omega);refine ⟨by simp only [mU,List.length_cons,h1],fun x hx=>?_⟩;simp only [mU];rcases x with _ | x
  ·exact aJz L i k (by omega)
  ·have:=h2 x (by omega);rw [show i+(x+1)=i+1+x by omega];simpa using this
structure SeqGood (m:Int) (j:Nat) (y:SequenceR):Prop where
 name:y.name=cX ⟨#[115]⟩ j
 ok:dU y=true
 fit:y.fit
 small:dQ y=true
 src:∀ t∈y.video++y.sound, ∀ c∈t,SrcIn m j c.a∧SrcIn m j c.b
theorem Vv (L:List Int) (m s:Int) (hm:m≤9) (hs:s≤9):∀ (n k:Nat),(kK L m s n k).1.length=n ∧ ∀ t∈(kK L m s n k).1,bC t=true ∧ ∀ c∈t,c.fit∧VidOk m s c
 | 0,k=>⟨rfl,fun c hc=>by cases hc⟩
 | n+1,k=>by
  obtain ⟨h1,h2⟩:=Vv L m s hm hs n (fH L k m s 5).2;refine ⟨by simp only [kK,List.length_cons,h1],fun t ht=>?_⟩;simp only [kK] at ht;rcases List.mem_cons.1 ht with rfl | ht
  ·obtain ⟨n1,n2⟩:=aCx L k m s 5 hm hs (by omega) (by omega);exact ⟨aCm n1 (by omega),fun c hc=>⟨(n1 c hc).fit,Wb L m s hm hs _ _ c hc⟩⟩
  ·exact h2 t ht
theorem Lc (L:List Int) (m s ch:Int) (hm:m≤9) (hs:s≤9) (hc : 0≤ch∧ch≤2):∀ (n k:Nat),(fS L m s ch n k).1.length=n ∧ ∀ c∈(fS L m s ch n k).1,c.fit∧SndOk m s ch c
 | 0,k=>⟨rfl,fun c hc=>by cases hc⟩
 | n+1,k=>by
  obtain ⟨h1,h2⟩:=Lc L m s ch hm hs hc n (pG L k m s ch).2;refine ⟨by simp only [fS,List.length_cons,h1],fun c hcc=>?_⟩;simp only [fS] at hcc;rcases List.mem_cons.1 hcc with rfl | hcc
  ·exact ⟨aJ6 L k m s ch hm hs,aJ5 L k m s ch hm hs hc⟩
  ·exact h2 c hcc
theorem aHw {t:List ClipR} {m s ch:Int} (h:∀ c∈t,SndOk m s ch c) (hl:t.length≤64):bC t=true:=by
 have h1:=Jc t fun c hc=>(h c hc).l9
 unfold bC;rw [decide_eq_true hl,decide_eq_true (by omega:bU t≤2147483647),List.all_eq_true.2 fun c hc=>(h c hc).ok];rfl
theorem Wq (L:List Int) (m s ch:Int) (hm:m≤9) (hs:s≤9) (hc : 0≤ch∧ch≤2):∀ (n k:Nat),(pH L m s ch n k).1.length=n ∧ ∀ t∈(pH L m s ch n k).1,bC t=true ∧ ∀ c∈t,c.fit∧SndOk m s ch c
 | 0,k=>⟨rfl,fun c hc=>by cases hc⟩
 | n+1,k=>by
  obtain ⟨h1,h2⟩:=Wq L m s ch hm hs hc n (Ph L m s ch k).2;refine ⟨by simp only [pH,List.length_cons,h1],fun t ht=>?_⟩;simp only [pH] at ht;rcases List.mem_cons.1 ht with rfl | ht
  ·obtain ⟨n1,n2⟩:=Lc L m s ch hm hs hc (aA L k 4).toNat (k+1);have t4:=aE (L:=L) (k:=k) (n:=4) (by omega);exact ⟨aHw (fun c hc=>(n2 c hc).2) (by unfold Ph;omega),n2⟩
  ·exact h2 t ht
theorem aJd (L:List Int) (m:Int) (j k:Nat) (hm:m≤9) (hj:j<9):SeqGood m j (Cw L m j k).1:=by
 have t3:=aE (L:=L) (k:=k+1) (n:=3) (by omega);have t2:=aE (L:=L) (k:=k+2) (n:=2) (by omega);obtain ⟨v1,v2⟩:=Vv L m j hm (by omega) (1+aA L (k+2) 2).toNat (k+3);have ta:=aE (L:=L) (k:=(kK L m j (1+aA L (k+2) 2).toNat (k+3)).2) (n:=3) (by omega);obtain ⟨a1,a2⟩:=Wq L m j (aA L (k+1) 3) hm (by omega) (by omega) (aA L (kK L m j (1+aA L (k+2) 2).toNat (k+3)).2 3).toNat ((kK L m j (1+aA L (k+2) 2).toNat (k+3)).2+1);generalize hV:kK L m j (1+aA L (k+2) 2).toNat (k+3)=V1 at v1 v2 ta a1 a2;generalize hA:pH L m j (aA L (k+1) 3) (aA L V1.2 3).toNat (V1.2+1)=A1 at a1 a2;have tc:=aE (L:=L) (k:=A1.2) (n:=3) (by omega);obtain ⟨c1,c2⟩:=Kn L (aA L A1.2 3).toNat (A1.2+1);generalize hC:eW L (aA L A1.2 3).toNat (A1.2+1)=C1 at c1 c2;obtain ⟨r1,r2⟩:=aE7 L k;have e:(Cw L m j k).1=⟨cX ⟨#[115]⟩ j,nT L k,16,16,V1.1,A1.1,C1.1,aA L (k+1) 3⟩:=by
  unfold Cw;simp only [hV,hA,hC]
 rw [e];have i16:I64 16:=bG (by decide) (by decide);refine ⟨rfl,?_,⟨r2,i16,i16,fun t ht c hc=>((v2 t ht).2 c hc).1,fun t ht c hc=>((a2 t ht).2 c hc).1,fun c hc=>(c2 c hc).2,bG (by simp only;omega) (by simp only;omega)⟩,?_,?_⟩
 ·have e1:aT (cX ⟨#[115]⟩ (j:Int))=true:=(Bf (j:Int) (by omega) (by omega)).1;have e2:Au C1.1=true:=List.all_eq_true.2 fun c hc=>(c2 c hc).1
  have e3:V1.1.all yG=true:=List.all_eq_true.2 fun t ht=>by
   unfold yG;rw [(v2 t ht).1,List.all_eq_true.2 fun c hc=>((v2 t ht).2 c hc).2.sil];rfl
  have e4:A1.1.all (yY (aA L (k+1) 3))=true:=List.all_eq_true.2 fun t ht=>by
   unfold yY;rw [(a2 t ht).1,List.all_eq_true.2 fun c hc=>((a2 t ht).2 c hc).2.aud];rfl
  have e5:Kp (aA L (k+1) 3)=true:=by
   unfold Kp;rw [decide_eq_true t3.1,decide_eq_true (by omega:aA L (k+1) 3≤4)];rfl
  have e6:Jg 16=true:=by decide
  unfold dU Fu;simp only [e1,e2,e3,e4,e5,e6,r1,Bool.and_true]
 ·unfold dQ;simp only [v1,a1,c1,Bool.and_eq_true,decide_eq_true_eq];omega
 ·intro t ht c hc;rcases List.mem_append.1 ht with ht | ht
  ·exact ⟨((v2 t ht).2 c hc).2.a,((v2 t ht).2 c hc).2.b⟩
  ·exact ⟨((a2 t ht).2 c hc).2.a,((a2 t ht).2 c hc).2.b⟩
theorem Lb (L:List Int) (m:Int) (hm:m≤9):∀ (n i k:Nat),i+n≤9→(pK L m n i k).1.length=n ∧ ∀ x,x<n→SeqGood m (i+x) ((pK L m n i k).1.getD x default)
 | 0,i,k,_=>⟨rfl,fun x hx=>absurd hx (Nat.not_lt_zero _)⟩
 | n+1,i,k,h=>by
  obtain ⟨h1,h2⟩:=Lb L m hm n (i+1) (Cw L m i k).2 (by omega);refine ⟨by simp only [pK,List.length_cons,h1],fun x hx=>?_⟩;simp only [pK];rcases x with _ | x
  ·exact aJd L m i k hm (by omega)
  ·have:=h2 x (by omega);rw [show i+(x+1)=i+1+x by omega];simpa using this
theorem nm_ne:((List.range 9).all fun i=>(List.range 9).all fun j=>i==j||((cX ⟨#[109]⟩ (i:Int)).toList != (cX ⟨#[109]⟩ (j:Int)).toList&&(cX ⟨#[115]⟩ (i:Int)).toList != (cX ⟨#[115]⟩ (j:Int)).toList))=true:=by kernel_rfl
theorem aTz {i j:Nat} (hi:i<9) (hj:j<9) (h:cX ⟨#[109]⟩ (i:Int)=cX ⟨#[109]⟩ (j:Int)∨cX ⟨#[115]⟩ (i:Int)=cX ⟨#[115]⟩ (j:Int)):i=j:=by
 have h1:=List.all_eq_true.1 (List.all_eq_true.1 nm_ne i (List.mem_range.2 hi)) j (List.mem_range.2 hj);simp only [Bool.or_eq_true,beq_iff_eq,Bool.and_eq_true,bne_iff_ne,ne_eq] at h1;rcases h1 with h1 | h1
 ·exact h1
 ·rcases h with h | h
  ·exact absurd (congrArg ByteArray.toList h) h1.1
  ·exact absurd (congrArg ByteArray.toList h) h1.2
theorem Lh (L:List Int):∃ M N:Nat,1≤M∧M≤3∧1≤N∧N≤3∧(kF L).media.length=M∧(kF L).seqs.length=N∧(∀ x,x<M→MedGood x ((kF L).media.getD x default)) ∧ ∀ x,x<N→SeqGood M x ((kF L).seqs.getD x default):=by
 have n1:=aE (L:=L) (k:=0) (n:=3) (by omega);have n2:=aE (L:=L) (k:=1) (n:=3) (by omega);obtain ⟨M,hM⟩:∃ M:Nat,1+aA L 0 3=M:=⟨(1+aA L 0 3).toNat,by omega⟩
 obtain ⟨N,hN⟩:∃ N:Nat,1+aA L 1 3=N:=⟨(1+aA L 1 3).toNat,by omega⟩
 obtain ⟨a1,a2⟩:=Lt L M 0 2 (by omega);obtain ⟨b1,b2⟩:=Lb L M (by omega) N 0 (mU L M 0 2).2 (by omega);refine ⟨M,N,by omega,by omega,by omega,by omega,?_⟩;unfold kF;rw [hM,hN];simp only [Int.toNat_natCast];exact ⟨a1,b1,fun x hx=>by have:=a2 x hx;rwa [Nat.zero_add] at this,fun x hx=>by have:=b2 x hx;rwa [Nat.zero_add] at this⟩
theorem Rn {α : Type} [Inhabited α] {l:List α} {x : α} (h:x∈l):∃ i,i<l.length∧l.getD i default=x:=by
 obtain ⟨i,hi,rfl⟩:=List.getElem_of_mem h;exact ⟨i,hi,aJ hi⟩
end Go.Proofs.YtbfnemkngoaeeaaGreat
