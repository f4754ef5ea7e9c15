/- Proved here: The project that a tape gives is valid; conditions stand in each theorem. -/
import Derived.Test.YtbfnemkngoaeeaaGreatQ26
import Derived.Test.YtbfnemkngoaeeaaGreatQ31
set_option linter.unusedSimpArgs false
set_option linter.unusedVariables false
set_option linter.unusedSectionVars false
set_option linter.unnecessarySimpa false
namespace Go.Proofs.YtbfnemkngoaeeaaGreat
open Go.RowKit
set_option maxRecDepth 4000
structure SrcIn (m s:Int) (x:SourceR):Prop where
 m1:x.kind=1 → ∃ i:Nat,(i:Int)<m∧x.name=dZ ⟨#[109]⟩ i
 s2:x.kind=2 → ∃ i:Nat,(i:Int)<s∧x.name=dZ ⟨#[115]⟩ i
theorem aGv (m s:Int):SrcIn m s zSource:=⟨fun h=>absurd h (by decide),fun h=>absurd h (by decide)⟩
theorem mV (L:List Int) (k:Nat) (m s:Int) (hm:m≤9) (hs:s≤9):SrcIn m s (bB L k m s).1:=by
 unfold bB;split
 ·exact aGv m s
 ·split
  ·rename_i h1;simp only [Bool.and_eq_true,decide_eq_true_eq] at h1;have:=aE (L:=L) (k:=k+5) (n:=s) (by omega);exact ⟨fun h=>(by simp at h),fun _=>⟨(aB L (k+5) s).toNat,by omega,by simp only;rw [Int.toNat_of_nonneg this.1]⟩⟩
  ·split
   ·rename_i h1;have:=aE (L:=L) (k:=k+5) (n:=m) (by omega);exact ⟨fun _=>⟨(aB L (k+5) m).toNat,by omega,by simp only;rw [Int.toNat_of_nonneg this.1]⟩,fun h=>(by simp at h)⟩
   ·exact aGv m s
structure VidOk (m s:Int) (c:ClipR):Prop where
 a:SrcIn m s c.a
 b:SrcIn m s c.b
 sil:gH c=true
theorem aCe (L:List Int) (k:Nat) (m s:Int) (hm:m≤9) (hs:s≤9):VidOk m s (bU L k m s).1:=by
 have h1:=mV L (k+2) m s hm hs;have h2:=mV L (bB L (k+2) m s).2 m s hm hs;have z:=aGv m s;unfold bU;simp only;split
 ·exact ⟨z,z,rfl⟩
 ·split
  ·split<;>exact ⟨h1,h2,rfl⟩
  ·split
   ·exact ⟨h1,h2,rfl⟩
   ·split<;>exact ⟨h1,z,rfl⟩
theorem aFm {m s:Int} {c:ClipR} (h:VidOk m s c) (n:Int):VidOk m s (eQ c n):=⟨⟨h.a.m1,h.a.s2⟩,h.b,h.sil⟩
theorem Vr (L:List Int) (k:Nat) (m s:Int) (hm:m≤9) (hs:s≤9):∀ c∈(dU L k m s).1,VidOk m s c:=by
 have h1:=aCe L k m s hm hs;unfold dU;split
 ·split
  ·intro c hc;simp only [List.mem_cons,List.not_mem_nil,or_false] at hc;rcases hc with rfl | rfl
   ·exact h1
   ·exact aFm h1 _
  ·intro c hc;simp only [List.mem_cons,List.not_mem_nil,or_false] at hc;rw [hc];exact h1
 ·intro c hc;simp only [List.mem_cons,List.not_mem_nil,or_false] at hc;rw [hc];exact h1
theorem Nw (L:List Int) (m s:Int) (hm:m≤9) (hs:s≤9):∀ (n k:Nat), ∀ c∈(kL L m s n k).1,VidOk m s c
 | 0,k=>fun c hc=>by simp [kL] at hc
 | n+1,k=>fun c hc=>by
  simp only [kL] at hc;rcases List.mem_append.1 hc with hc | hc
  ·exact Vr L k m s hm hs c hc
  ·exact Nw L m s hm hs n _ c hc
structure SndOk (m s ch:Int) (c:ClipR):Prop where
 a:SrcIn m s c.a
 b:SrcIn m s c.b
 ok:bQ c=true
 aud:rU ch c=true
 l9:c.len≤9
theorem rF {x:SourceR} (h:aS x=true):aS (eS x)=true:=by
 unfold aS at h ⊢;rw [Bool.or_eq_true] at h ⊢;rcases h with h | h
 ·refine .inl ?_;unfold SourceR.isZ SourceR.eqb at h ⊢;simp only [Bool.and_eq_true] at h ⊢;exact ⟨h.1,rfl⟩
 ·exact .inr h
theorem Jh {m s:Int} {x:SourceR} (h:SrcIn m s x):SrcIn m s (eS x):=⟨h.m1,h.s2⟩
theorem xV (i:Nat) : 0≤sGains.getD i 0∧sGains.getD i 0≤65536:=by
 rcases i with _ | _ | _ | _ | _ | _ | i<;>simp [sGains]
theorem snd0 {m s ch len:Int} (hl : 1≤len∧len≤9):SndOk m s ch ⟨len,0,zSource,zSource,0,0,0,⟨#[]⟩,0,[]⟩:=by
 have ez:zSource.isZ=true:=Rz;refine ⟨aGv m s,aGv m s,?_,rfl,hl.2⟩;unfold bQ kJ;simp only [Ve,decide_eq_true hl.1,decide_eq_true (by omega:len≤2147483647),Bool.and_true];simp [bZ,cS,emp,ez,dM]
theorem snd1 {m s ch len g:Int} {C:List Int} {a:SourceR} (hl : 1≤len∧len≤9) (hg : 0≤g∧g≤65536) (hC:dM C=true) (va:aS a=true) (ia:SrcIn m s a) (hc:(C.length:Int)=ch):SndOk m s ch ⟨len,1,eS a,zSource,0,0,0,⟨#[]⟩,g,C⟩:=by
 have ez:zSource.isZ=true:=Rz;refine ⟨Jh ia,aGv m s,?_,?_,hl.2⟩
 ·unfold bQ kJ;simp only [Ve,rF va,hC,decide_eq_true hl.1,decide_eq_true (by omega:len≤2147483647),decide_eq_true hg.1,decide_eq_true hg.2,Bool.and_true];simp [bZ,cS,emp,ez]
 ·unfold rU;simp [eS,hc]
theorem snd2 {m s ch len g o t:Int} {C:List Int} {a b:SourceR} (hl : 1≤len∧len≤9) (hg : 0≤g∧g≤65536) (hC:dM C=true) (va:aS a=true) (vb:aS b=true) (ia:SrcIn m s a) (ib:SrcIn m s b) (hc:(C.length:Int)=ch) (h0 : 0≤o) (h1:o+len≤t) (h2:t≤1000):SndOk m s ch ⟨len,2,eS a,eS b,o,t,0,⟨#[]⟩,g,C⟩:=by
 refine ⟨Jh ia,Jh ib,?_,?_,hl.2⟩
 ·unfold bQ kJ;simp only [rF vb,rF va,hC,decide_eq_true hl.1,decide_eq_true (by omega:len≤2147483647),decide_eq_true hg.1,decide_eq_true hg.2,Bool.and_true];simp [bZ,eV,emp];omega
 ·unfold rU;simp [eS,hc]
theorem Sm (L:List Int) (k:Nat) (m s:Int) (hm:m≤9) (hs:s≤9):SndOk m s 0 (eL L k m s).1:=by
 have n9:=aE (L:=L) (k:=k) (n:=9) (by omega);have n4:=aE (L:=L) (k:=k+1) (n:=4) (by omega);obtain ⟨kd,hkd⟩:∃ kd,sKinds.getD (aB L (k+1) 4).toNat 0=kd:=⟨_,rfl⟩
 have hk5:kd=0∨kd=1∨kd=2:=by
  have:(aB L (k+1) 4).toNat=0∨(aB L (k+1) 4).toNat=1∨(aB L (k+1) 4).toNat=2∨(aB L (k+1) 4).toNat=3:=by omega
  unfold sKinds at hkd;rcases this with h | h | h | h<;>rw [h] at hkd<;>simp at hkd<;>omega
 obtain ⟨len,hlen⟩:∃ len,1+aB L k 9=len:=⟨_,rfl⟩
 have hl : 1≤len∧len≤9:=by omega
 have va:=(eH L (k+2) m s hm hs).1;have vb:=(eH L (bB L (k+2) m s).2 m s hm hs).1;have ia:=mV L (k+2) m s hm hs;have ib:=mV L (bB L (k+2) m s).2 m s hm hs;generalize ha:bB L (k+2) m s=a at va vb ia ib;generalize hb:bB L a.2 m s=b at vb ib;have o3:=aE (L:=L) (k:=b.2) (n:=3) (by omega);have p3:=aE (L:=L) (k:=b.2+1) (n:=3) (by omega);unfold eL;simp only [hkd,hlen,ha,hb];rcases hk5 with rfl | rfl | rfl
 ·exact snd0 hl
 ·refine snd1 hl (xV _) ?_ va ia ?_
  ·simp [dM]<;>(have := @aE L (a.2+1) 4 (by omega);have := @aE L (a.2+2) 4 (by omega);omega)
  ·rfl
 ·refine snd2 hl (xV _) ?_ va vb ia ib ?_ (by omega) (by omega) (by omega)
  ·simp [dM]<;>(have := @aE L (b.2+3) 4 (by omega);have := @aE L (b.2+4) 4 (by omega);omega)
  ·rfl
theorem Sj (L:List Int) (k:Nat) (m s:Int) (hm:m≤9) (hs:s≤9):SndOk m s 1 (eK L k m s).1:=by
 have n9:=aE (L:=L) (k:=k) (n:=9) (by omega);have n4:=aE (L:=L) (k:=k+1) (n:=4) (by omega);obtain ⟨kd,hkd⟩:∃ kd,sKinds.getD (aB L (k+1) 4).toNat 0=kd:=⟨_,rfl⟩
 have hk5:kd=0∨kd=1∨kd=2:=by
  have:(aB L (k+1) 4).toNat=0∨(aB L (k+1) 4).toNat=1∨(aB L (k+1) 4).toNat=2∨(aB L (k+1) 4).toNat=3:=by omega
  unfold sKinds at hkd;rcases this with h | h | h | h<;>rw [h] at hkd<;>simp at hkd<;>omega
 obtain ⟨len,hlen⟩:∃ len,1+aB L k 9=len:=⟨_,rfl⟩
 have hl : 1≤len∧len≤9:=by omega
 have va:=(eH L (k+2) m s hm hs).1;have vb:=(eH L (bB L (k+2) m s).2 m s hm hs).1;have ia:=mV L (k+2) m s hm hs;have ib:=mV L (bB L (k+2) m s).2 m s hm hs;generalize ha:bB L (k+2) m s=a at va vb ia ib;generalize hb:bB L a.2 m s=b at vb ib;have o3:=aE (L:=L) (k:=b.2) (n:=3) (by omega);have p3:=aE (L:=L) (k:=b.2+1) (n:=3) (by omega);unfold eK;simp only [hkd,hlen,ha,hb];rcases hk5 with rfl | rfl | rfl
 ·exact snd0 hl
 ·refine snd1 hl (xV _) ?_ va ia ?_
  ·simp [dM]<;>(have := @aE L (a.2+1) 4 (by omega);have := @aE L (a.2+2) 4 (by omega);omega)
  ·rfl
 ·refine snd2 hl (xV _) ?_ va vb ia ib ?_ (by omega) (by omega) (by omega)
  ·simp [dM]<;>(have := @aE L (b.2+3) 4 (by omega);have := @aE L (b.2+4) 4 (by omega);omega)
  ·rfl
theorem Wb (L:List Int) (k:Nat) (m s:Int) (hm:m≤9) (hs:s≤9):SndOk m s 2 (fU L k m s).1:=by
 have n9:=aE (L:=L) (k:=k) (n:=9) (by omega);have n4:=aE (L:=L) (k:=k+1) (n:=4) (by omega);obtain ⟨kd,hkd⟩:∃ kd,sKinds.getD (aB L (k+1) 4).toNat 0=kd:=⟨_,rfl⟩
 have hk5:kd=0∨kd=1∨kd=2:=by
  have:(aB L (k+1) 4).toNat=0∨(aB L (k+1) 4).toNat=1∨(aB L (k+1) 4).toNat=2∨(aB L (k+1) 4).toNat=3:=by omega
  unfold sKinds at hkd;rcases this with h | h | h | h<;>rw [h] at hkd<;>simp at hkd<;>omega
 obtain ⟨len,hlen⟩:∃ len,1+aB L k 9=len:=⟨_,rfl⟩
 have hl : 1≤len∧len≤9:=by omega
 have va:=(eH L (k+2) m s hm hs).1;have vb:=(eH L (bB L (k+2) m s).2 m s hm hs).1;have ia:=mV L (k+2) m s hm hs;have ib:=mV L (bB L (k+2) m s).2 m s hm hs;generalize ha:bB L (k+2) m s=a at va vb ia ib;generalize hb:bB L a.2 m s=b at vb ib;have o3:=aE (L:=L) (k:=b.2) (n:=3) (by omega);have p3:=aE (L:=L) (k:=b.2+1) (n:=3) (by omega);unfold fU;simp only [hkd,hlen,ha,hb];rcases hk5 with rfl | rfl | rfl
 ·exact snd0 hl
 ·refine snd1 hl (xV _) ?_ va ia ?_
  ·simp [dM]<;>(have := @aE L (a.2+1) 4 (by omega);have := @aE L (a.2+2) 4 (by omega);omega)
  ·rfl
 ·refine snd2 hl (xV _) ?_ va vb ia ib ?_ (by omega) (by omega) (by omega)
  ·simp [dM]<;>(have := @aE L (b.2+3) 4 (by omega);have := @aE L (b.2+4) 4 (by omega);omega)
  ·rfl
theorem aB0 (L:List Int) (k:Nat) (m s ch:Int) (hm:m≤9) (hs:s≤9) (hc : 0≤ch∧ch≤2):SndOk m s ch (jM L k m s ch).1:=by
 unfold jM;split
 ·rename_i h;subst h;exact Sm L k m s hm hs
 ·split
  ·rename_i h;subst h;exact Sj L k m s hm hs
  ·have:ch=2:=by omega
   subst this;exact Wb L k m s hm hs
open Go.RowKit
set_option maxRecDepth 4000
theorem aM9:((List.range 4).all fun i=>fS (cueLines.getD i ⟨#[]⟩))=true:=by kernel_rfl
theorem Re (L:List Int) (k:Nat):fS (Lt L k)=true:=by
 have t:=aE (L:=L) (k:=k) (n:=4) (by omega);exact List.all_eq_true.1 aM9 _ (List.mem_range.2 (by omega))
theorem aMa (L:List Int) (k:Nat):rG (kF L k).1=true∧(kF L k).1.fit:=by
 have t50:=aE (L:=L) (k:=k) (n:=50) (by omega);have t20:=aE (L:=L) (k:=k+1) (n:=20) (by omega);have l3:=Re L (k+3);have l4:=Re L (k+4);unfold kF;split
 ·refine ⟨?_,bE (by simp only;omega) (by simp only;omega),bE (by simp only;omega) (by simp only;omega)⟩;simp [rG,Bn,l3];omega
 ·refine ⟨?_,bE (by simp only;omega) (by simp only;omega),bE (by simp only;omega) (by simp only;omega)⟩;simp [rG,Bn,l3,l4];omega
theorem Dc (L:List Int):∀ (n k:Nat),(dQ L n k).1.length=n ∧ ∀ c∈(dQ L n k).1,rG c=true∧c.fit
 | 0,k=>⟨rfl,fun c hc=>by cases hc⟩
 | n+1,k=>by
  obtain ⟨h1,h2⟩:=Dc L n (kF L k).2;refine ⟨by simp only [dQ,List.length_cons,h1],fun c hc=>?_⟩;simp only [dQ] at hc;rcases List.mem_cons.1 hc with rfl | hc
  ·exact aMa L k
  ·exact h2 c hc
theorem Xg (L:List Int) (k:Nat):tD (jE L k)=true∧(jE L k).fit:=by
 have t:=aE (L:=L) (k:=k) (n:=3) (by omega);have:(aB L k 3).toNat=0∨(aB L k 3).toNat=1∨(aB L k 3).toNat=2:=by omega
 unfold jE;rcases this with h | h | h<;>rw [h]
 ·exact ⟨by decide,bE (by decide) (by decide),bE (by decide) (by decide)⟩
 ·exact ⟨by decide,bE (by decide) (by decide),bE (by decide) (by decide)⟩
 ·exact ⟨by decide,bE (by decide) (by decide),bE (by decide) (by decide)⟩
structure MedGood (i:Nat) (y:MediumR):Prop where
 name:y.name=dZ ⟨#[109]⟩ i
 ok:dH y=true
 fit:y.fit
 small:dE y=true
theorem aBr (L:List Int) (i k:Nat) (hi:i<9):MedGood i (pU L i k).1:=by
 obtain ⟨c1,c2⟩:=Dc L (aB L (k+5) 3).toNat (k+6);obtain ⟨r1,r2⟩:=Xg L (k+1);have t40:=aE (L:=L) (k:=k+2) (n:=40) (by omega);have t3:=aE (L:=L) (k:=k+3) (n:=3) (by omega);have ts:=aE (L:=L) (k:=k+4) (n:=20000) (by omega);have tc:=aE (L:=L) (k:=k+5) (n:=3) (by omega);have i16:I64 16:=bE (by decide) (by decide);have i4:I64 400000:=bE (by decide) (by decide);refine ⟨rfl,?_,⟨⟨i16,i16,r2,i4,i4⟩,bE (by simp only [pU];omega) (by simp only [pU];omega),bE (by simp only [pU];omega) (by simp only [pU];omega),bE (by simp only [pU];omega) (by simp only [pU];omega),fun c hc=>(c2 c hc).2⟩,?_⟩
 ·have e1:cG (dZ ⟨#[109]⟩ (i:Int))=true:=(wQ (i:Int) (by omega) (by omega)).2;have e2:jB (dQ L (aB L (k+5) 3).toNat (k+6)).1=true:=List.all_eq_true.2 fun c hc=>(c2 c hc).1
  unfold dH Bp qM;simp only [pU,Qw,e1,e2,r1,Bool.and_true,Bool.true_and,Bool.and_eq_true,decide_eq_true_eq];exact ⟨⟨⟨decide_eq_true (by omega),decide_eq_true (by omega)⟩,decide_eq_true (by omega),decide_eq_true (by omega)⟩,decide_eq_true (by omega),decide_eq_true (by omega)⟩
 ·unfold dE;simp only [pU,c1,decide_eq_true_eq];omega
theorem Ee (L:List Int):∀ (n i k:Nat),i+n≤9→(gS L n i k).1.length=n ∧ ∀ x,x<n→MedGood (i+x) ((gS L n i k).1.getD x default)
 | 0,i,k,_=>⟨rfl,fun x hx=>absurd hx (Nat.not_lt_zero _)⟩
 | n+1,i,k,h=>by
  obtain ⟨h1,h2⟩:=Ee L n (i+1) (pU L i k).2 (by omega);refine ⟨by simp only [gS,List.length_cons,h1],fun x hx=>?_⟩;simp only [gS];rcases x with _ | x
  ·exact aBr L i k (by omega)
  ·have:=h2 x (by omega);rw [show i+(x+1)=i+1+x by omega];simpa using this
structure SeqGood (m:Int) (j:Nat) (y:SequenceR):Prop where
 name:y.name=dZ ⟨#[115]⟩ j
 ok:cL y=true
 fit:y.fit
 small:cR y=true
 src:∀ t∈y.video++y.sound, ∀ c∈t,SrcIn m j c.a∧SrcIn m j c.b
theorem Np (L:List Int) (m s:Int) (hm:m≤9) (hs:s≤9):∀ (n k:Nat),(fW L m s n k).1.length=n ∧ ∀ t∈(fW L m s n k).1,cC t=true ∧ ∀ c∈t,c.fit∧VidOk m s c
 | 0,k=>⟨rfl,fun c hc=>by cases hc⟩
 | n+1,k=>by
  obtain ⟨h1,h2⟩:=Np L m s hm hs n (mU L k m s 5).2;refine ⟨by simp only [fW,List.length_cons,h1],fun t ht=>?_⟩;simp only [fW] at ht;rcases List.mem_cons.1 ht with rfl | ht
  ·obtain ⟨n1,n2⟩:=Vt L k m s 5 hm hs (by omega) (by omega);exact ⟨Vj n1 (by omega),fun c hc=>⟨(n1 c hc).fit,Nw L m s hm hs _ _ c hc⟩⟩
  ·exact h2 t ht
theorem Ds (L:List Int) (m s ch:Int) (hm:m≤9) (hs:s≤9) (hc : 0≤ch∧ch≤2):∀ (n k:Nat),(eN L m s ch n k).1.length=n ∧ ∀ c∈(eN L m s ch n k).1,c.fit∧SndOk m s ch c
 | 0,k=>⟨rfl,fun c hc=>by cases hc⟩
 | n+1,k=>by
  obtain ⟨h1,h2⟩:=Ds L m s ch hm hs hc n (jM L k m s ch).2;refine ⟨by simp only [eN,List.length_cons,h1],fun c hcc=>?_⟩;simp only [eN] at hcc;rcases List.mem_cons.1 hcc with rfl | hcc
  ·exact ⟨aB1 L k m s ch hm hs,aB0 L k m s ch hm hs hc⟩
  ·exact h2 c hcc
theorem aAs {t:List ClipR} {m s ch:Int} (h:∀ c∈t,SndOk m s ch c) (hl:t.length≤64):cC t=true:=by
 have h1:=Cb t fun c hc=>(h c hc).l9
 unfold cC;rw [decide_eq_true hl,decide_eq_true (by omega:eG t≤2147483647),List.all_eq_true.2 fun c hc=>(h c hc).ok];rfl
theorem Pd (L:List Int) (m s ch:Int) (hm:m≤9) (hs:s≤9) (hc : 0≤ch∧ch≤2):∀ (n k:Nat),(jN L m s ch n k).1.length=n ∧ ∀ t∈(jN L m s ch n k).1,cC t=true ∧ ∀ c∈t,c.fit∧SndOk m s ch c
 | 0,k=>⟨rfl,fun c hc=>by cases hc⟩
 | n+1,k=>by
  obtain ⟨h1,h2⟩:=Pd L m s ch hm hs hc n (Hg L m s ch k).2;refine ⟨by simp only [jN,List.length_cons,h1],fun t ht=>?_⟩;simp only [jN] at ht;rcases List.mem_cons.1 ht with rfl | ht
  ·obtain ⟨n1,n2⟩:=Ds L m s ch hm hs hc (aB L k 4).toNat (k+1);have t4:=aE (L:=L) (k:=k) (n:=4) (by omega);exact ⟨aAs (fun c hc=>(n2 c hc).2) (by unfold Hg;omega),n2⟩
  ·exact h2 t ht
theorem aB8 (L:List Int) (m:Int) (j k:Nat) (hm:m≤9) (hj:j<9):SeqGood m j (yG L m j k).1:=by
 have t3:=aE (L:=L) (k:=k+1) (n:=3) (by omega);have t2:=aE (L:=L) (k:=k+2) (n:=2) (by omega);obtain ⟨v1,v2⟩:=Np L m j hm (by omega) (1+aB L (k+2) 2).toNat (k+3);have ta:=aE (L:=L) (k:=(fW L m j (1+aB L (k+2) 2).toNat (k+3)).2) (n:=3) (by omega);obtain ⟨a1,a2⟩:=Pd L m j (aB L (k+1) 3) hm (by omega) (by omega) (aB L (fW L m j (1+aB L (k+2) 2).toNat (k+3)).2 3).toNat ((fW L m j (1+aB L (k+2) 2).toNat (k+3)).2+1);generalize hV:fW L m j (1+aB L (k+2) 2).toNat (k+3)=V1 at v1 v2 ta a1 a2;generalize hA:jN L m j (aB L (k+1) 3) (aB L V1.2 3).toNat (V1.2+1)=A1 at a1 a2;have tc:=aE (L:=L) (k:=A1.2) (n:=3) (by omega);obtain ⟨c1,c2⟩:=Dc L (aB L A1.2 3).toNat (A1.2+1);generalize hC:dQ L (aB L A1.2 3).toNat (A1.2+1)=C1 at c1 c2;obtain ⟨r1,r2⟩:=Xg L k;have e:(yG L m j k).1=⟨dZ ⟨#[115]⟩ j,jE L k,16,16,V1.1,A1.1,C1.1,aB L (k+1) 3⟩:=by
  unfold yG;simp only [hV,hA,hC]
 rw [e];have i16:I64 16:=bE (by decide) (by decide);refine ⟨rfl,?_,⟨r2,i16,i16,fun t ht c hc=>((v2 t ht).2 c hc).1,fun t ht c hc=>((a2 t ht).2 c hc).1,fun c hc=>(c2 c hc).2,bE (by simp only;omega) (by simp only;omega)⟩,?_,?_⟩
 ·have e1:cG (dZ ⟨#[115]⟩ (j:Int))=true:=(wQ (j:Int) (by omega) (by omega)).1;have e2:jB C1.1=true:=List.all_eq_true.2 fun c hc=>(c2 c hc).1
  have e3:V1.1.all jK=true:=List.all_eq_true.2 fun t ht=>by
   unfold jK;rw [(v2 t ht).1,List.all_eq_true.2 fun c hc=>((v2 t ht).2 c hc).2.sil];rfl
  have e4:A1.1.all (mX (aB L (k+1) 3))=true:=List.all_eq_true.2 fun t ht=>by
   unfold mX;rw [(a2 t ht).1,List.all_eq_true.2 fun c hc=>((a2 t ht).2 c hc).2.aud];rfl
  have e5:qM (aB L (k+1) 3)=true:=by
   unfold qM;rw [decide_eq_true t3.1,decide_eq_true (by omega:aB L (k+1) 3≤4)];rfl
  have e6:jP 16=true:=by decide
  unfold cL qX;simp only [e1,e2,e3,e4,e5,e6,r1,Bool.and_true]
 ·unfold cR;simp only [v1,a1,c1,Bool.and_eq_true,decide_eq_true_eq];omega
 ·intro t ht c hc;rcases List.mem_append.1 ht with ht | ht
  ·exact ⟨((v2 t ht).2 c hc).2.a,((v2 t ht).2 c hc).2.b⟩
  ·exact ⟨((a2 t ht).2 c hc).2.a,((a2 t ht).2 c hc).2.b⟩
theorem Dr (L:List Int) (m:Int) (hm:m≤9):∀ (n i k:Nat),i+n≤9→(jQ L m n i k).1.length=n ∧ ∀ x,x<n→SeqGood m (i+x) ((jQ L m n i k).1.getD x default)
 | 0,i,k,_=>⟨rfl,fun x hx=>absurd hx (Nat.not_lt_zero _)⟩
 | n+1,i,k,h=>by
  obtain ⟨h1,h2⟩:=Dr L m hm n (i+1) (yG L m i k).2 (by omega);refine ⟨by simp only [jQ,List.length_cons,h1],fun x hx=>?_⟩;simp only [jQ];rcases x with _ | x
  ·exact aB8 L m i k hm (by omega)
  ·have:=h2 x (by omega);rw [show i+(x+1)=i+1+x by omega];simpa using this
theorem vF (L:List Int):∃ M N:Nat,1≤M∧M≤3∧1≤N∧N≤3∧(dY L).media.length=M∧(dY L).seqs.length=N∧(∀ x,x<M→MedGood x ((dY L).media.getD x default)) ∧ ∀ x,x<N→SeqGood M x ((dY L).seqs.getD x default):=by
 have n1:=aE (L:=L) (k:=0) (n:=3) (by omega);have n2:=aE (L:=L) (k:=1) (n:=3) (by omega);obtain ⟨M,hM⟩:∃ M:Nat,1+aB L 0 3=M:=⟨(1+aB L 0 3).toNat,by omega⟩
 obtain ⟨N,hN⟩:∃ N:Nat,1+aB L 1 3=N:=⟨(1+aB L 1 3).toNat,by omega⟩
 obtain ⟨a1,a2⟩:=Ee L M 0 2 (by omega);obtain ⟨b1,b2⟩:=Dr L M (by omega) N 0 (gS L M 0 2).2 (by omega);refine ⟨M,N,by omega,by omega,by omega,by omega,?_⟩;unfold dY;rw [hM,hN];simp only [Int.toNat_natCast];exact ⟨a1,b1,fun x hx=>by have:=a2 x hx;rwa [Nat.zero_add] at this,fun x hx=>by have:=b2 x hx;rwa [Nat.zero_add] at this⟩
theorem Kb {α : Type} [Inhabited α] {l:List α} {x : α} (h:x∈l):∃ i,i<l.length∧l.getD i default=x:=by
 obtain ⟨i,hi,rfl⟩:=List.getElem_of_mem h;exact ⟨i,hi,aU hi⟩
theorem aG1 (L:List Int):(dY L).fit:=by
 obtain ⟨M,N,_,_,_,_,h1,h2,h3,h4⟩:=vF L;refine ⟨fun y hy=>?_,fun y hy=>?_⟩
 ·obtain ⟨i,hi,rfl⟩:=Kb hy;exact (h3 i (by omega)).fit
 ·obtain ⟨i,hi,rfl⟩:=Kb hy;exact (h4 i (by omega)).fit
end Go.Proofs.YtbfnemkngoaeeaaGreat
