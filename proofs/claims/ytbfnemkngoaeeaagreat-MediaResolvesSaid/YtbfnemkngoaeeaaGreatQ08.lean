/- Proved here: What the frames of a film are, in plain Lean. -/
import Derived.Test.YtbfnemkngoaeeaaGreatQ07
set_option linter.unusedSimpArgs false
set_option linter.unusedVariables false
set_option linter.unusedSectionVars false
set_option linter.unnecessarySimpa false
namespace Go.Proofs.YtbfnemkngoaeeaaGreat
open Go.RowKit
set_option maxRecDepth 4000
def denP (s:SourceR):Nat:=s.pos.den.toNat
def denS (s:SourceR):Nat:=s.speed.den.toNat
def tR (s:SourceR):Nat:=Nat.lcm (denP s) (denS s)
def atS (s:SourceR):Int:=s.pos.num*((tR s / denP s:Nat):Int)
def Kd (s:SourceR):Int:=s.speed.num*((tR s / denS s:Nat):Int)
def aR5 (s:SourceR) (k:Int):Int:=atS s+k*Kd s
def gcdQ (num den:Int):Int:=((Nat.gcd num.natAbs den.natAbs:Nat):Int)
def redX:ExprR→ExprR
 | .mk op media frame num den param text args=>redE op media frame num den param text args
def aQh (op param num den:Int) (a b:ExprR):ExprR := .mk op ⟨#[]⟩ 0 (num / gcdQ num den) (den / gcdQ num den) param ⟨#[]⟩ [a,b]
def aMx (R:ExprR→ExprR) (F:SourceR→Int→ExprR) (s:SourceR) (k:Int):ExprR :=
 if s.kind=0 then yK
 else if s.smooth=true∧aR5 s k % (tR s:Int)≠0 then
  R (aQh 2 0 (aR5 s k % (tR s:Int)) (tR s) (F s (aR5 s k / (tR s:Int))) (F s (aR5 s k / (tR s:Int)+1)))
 else F s (aR5 s k / (tR s:Int))
def clipE (R:ExprR→ExprR) (F:SourceR→Int→ExprR) (c:ClipR) (k:Int):ExprR :=
 if c.kind=1 then aMx R F c.a k
 else if c.kind=5 then .mk 5 ⟨#[]⟩ 0 0 0 0 c.text [aMx R F c.a k]
 else if c.kind=4 then R (.mk 4 ⟨#[]⟩ 0 0 0 c.param ⟨#[]⟩ [aMx R F c.a k,aMx R F c.b k])
 else R (aQh c.kind c.param (c.off+k+1) (c.total+1) (aMx R F c.a k) (aMx R F c.b k))
def hitT (t:List ClipR) (n:Int):Option (ClipR×Int) :=
 if 0≤n∧(Yc t 0 n).2.2=true∧(t.getD (Yc t 0 n).1.toNat default).kind≠0 then some (t.getD (Yc t 0 n).1.toNat default,(Yc t 0 n).2.1) else none
def topT (n:Int):List (List ClipR)→Option (ClipR×Int)
 | []=>none
 | t::ts=>match hitT t n with
  | some r=>some r
  | none=>topT n ts
def medFr (p:ProjR) (n:ByteArray):Int:=match jQ p.media n with
 | some m=>m.frames
 | none=>0
def leafE (p:ProjR) (G:ByteArray→Int→ExprR) (s:SourceR) (i:Int):ExprR :=
 if s.kind=2 then G s.name i
 else if i<0∨medFr p s.name≤i then yK else .mk 1 s.name i 0 0 0 ⟨#[]⟩ []
def showE (R:ExprR→ExprR) (F:SourceR→Int→ExprR):Option (ClipR×Int)→ExprR
 | some x=>clipE R F x.1 x.2
 | none=>yK
def vidsOf (p:ProjR) (n:ByteArray):List (List ClipR):=((eH p.seqs n).getD default).video
def filmE (R:ExprR→ExprR) (p:ProjR):Nat→ByteArray→Int→ExprR
 | 0,_,_=>yK
 | d+1,name,n=>showE R (leafE p (filmE R p d)) (topT n (vidsOf p name).reverse)
def goodE (e:ExprR):Prop:=aG9 e=true∧e.fit
structure FilmOk (p:ProjR):Prop where
 small:cL p=true
 fit:p.fit
 med:∀ m∈p.media,dX m=true
 seq:∀ s∈p.seqs,cX s=true
 compl:∀ s∈p.seqs,jK p s=true
 uniq:(p.media.map MediumR.name).Nodup∧(p.seqs.map SequenceR.name).Nodup
 wk:∀ s∈p.seqs, ¬ Wk p 5 s.name
open Go.RowKit
set_option maxRecDepth 4000
theorem sH {p:ProjR} (hf:p.fit) (h:bV p=0):FilmOk p:=by
 unfold bV at h;split at h
 ·cases h
 ·rename_i a1;split at h
  ·cases h
  ·rename_i a2;split at h
   ·cases h
   ·rename_i a3;split at h
    ·cases h
    ·rename_i a4;split at h
     ·cases h
     ·rename_i a5;split at h
      ·cases h
      ·rename_i a6;rw [Bool.not_eq_false] at a1 a2 a3 a4 a5 a6;have hO:=a2;rw [Bool.and_eq_true,List.all_eq_true,List.all_eq_true] at a2;have hlen:p.seqs.length≤16:=by
        have:=a1;unfold cL at this;simp only [Bool.and_eq_true,decide_eq_true_eq] at this;omega
       refine ⟨a1,hf,a2.1,a2.2,fun s hs=>List.all_eq_true.1 a4 s hs,(Ej p).1 a3,fun s hs hw=>?_⟩;obtain ⟨c1,c2⟩:=Aj hlen (Ev a1 hO a4) p.seqs [] (fun s hs=>hs) (aEm p) (fun _ h=>absurd h (Int.lt_irrefl 0));obtain ⟨e1,e2,e3⟩:=c2 a5;have hv:=e3 s hs;have hd:=List.all_eq_true.1 a6 s hs;unfold Ad at hd;rw [decide_eq_true_eq] at hd;exact e1.dn _ hv (Yy (by omega) hw)
theorem aBg {p:ProjR} {d:Nat} {n m:ByteArray} (h : ¬ Wk p (d+1) n) (hm:m∈eY p n) : ¬ Wk p d m:=fun hw=>h ⟨m,hm,hw⟩
open Go.RowKit
set_option maxRecDepth 4000
theorem mem_at0 {α : Type} [Inhabited α] {l:List α} {x : α} (h:x∈l):∃ i,i<l.length∧l.getD i default=x:=by
 obtain ⟨i,hi,rfl⟩:=List.getElem_of_mem h;exact ⟨i,hi,aK hi⟩
structure Layered (p:ProjR):Prop where
 small:cL p=true
 ok:(p.media.all dX&&p.seqs.all cX)=true
 nm:(p.media.map MediumR.name).Nodup
 ns:(p.seqs.map SequenceR.name).Nodup
 le:p.seqs.length≤5
 m1:∀ j,j<p.seqs.length → ∀ x∈dU (p.seqs.getD j default),x.kind=1 → ∃ i,i<p.media.length∧(p.media.getD i default).name=x.name
 s2:∀ j,j<p.seqs.length → ∀ x∈dU (p.seqs.getD j default),x.kind=2 → ∃ i,i<j∧(p.seqs.getD i default).name=x.name
theorem Lb {p:ProjR} (h:Layered p):NetOk p:=by
 refine ⟨h.ns,fun s hs x hx hk=>?_⟩;obtain ⟨j,hj,rfl⟩:=mem_at0 hs;obtain ⟨i,hi,hn⟩:=h.s2 j hj x hx hk;have e:mL p (p.seqs.getD i default).name=(i:Int):=gA h.ns (by omega);rw [← hn,e];omega
theorem aAt {p:ProjR} (h:Layered p):∀ (d j:Nat),j<p.seqs.length→Wk p d (p.seqs.getD j default).name→d≤j:=by
 intro d
 induction d with
 | zero=>intro j _ _;omega
 | succ d ih =>
  rintro j hj ⟨m,hm,hw⟩;obtain ⟨x,hx,hk,rfl⟩:=(vL (Lb h) hj).1 hm;obtain ⟨i,hi,hn⟩:=h.s2 j hj x hx hk;rw [← hn] at hw;have:=ih i (by omega) hw;omega
theorem Uq {p:ProjR} (h:Layered p):bV p=0:=by
 have hN:=Lb h;have hC:p.seqs.all (mV p)=true:=by
  refine bS (d:=default) fun j hj=>?_
  unfold mV;refine List.all_eq_true.2 fun x hx=>?_
  unfold rF
  by_cases k1:x.kind=1
  ·obtain ⟨i,hi,hn⟩:=h.m1 j hj x hx k1;have e:aAp p (p.media.getD i default).name=(i:Int):=gA h.nm hi;rw [← hn,e,k1];have : ¬ (i:Int)<0:=by omega
   simp [this]
  ·by_cases k2:x.kind=2
   ·obtain ⟨i,hi,hn⟩:=h.s2 j hj x hx k2;have e:mL p (p.seqs.getD i default).name=(i:Int):=gA h.ns (by omega);rw [← hn,e,k2];have : ¬ (i:Int)<0:=by omega
    simp [this]
   ·simp [k1,k2]
 have dep:∀ j,j<p.seqs.length→pE p (j:Int)≤j+1:=fun j hj=>by
  obtain ⟨d1,_,_⟩:=xS hN hj;rcases Nat.lt_or_ge (j+1) (pE p (j:Int)) with h1 | h1
  ·have:=aAt h (j+1) j hj (d1 (j+1) h1);omega
  ·exact h1
 have hle:=h.le;exact (Zz p).s0 h.small h.ok (fun i hi=>Nr h.nm hi) (fun i hi=>Nq h.ns hi) hC (fun i hi=>by have:=dep i hi;omega) (fun i hi=>by have:=dep i hi;omega)
def tSeq (n:ByteArray) (ts:List (List ClipR)):SequenceR:=⟨n,⟨25,1⟩,16,16,ts,[],[],0⟩
structure SrcIn (m s:Int) (x:SourceR):Prop where
 m1:x.kind=1 → ∃ i:Nat,(i:Int)<m∧x.name=dF ⟨#[109]⟩ i
 s2:x.kind=2 → ∃ i:Nat,(i:Int)<s∧x.name=dF ⟨#[115]⟩ i
theorem aNr (m s:Int):SrcIn m s zSource:=⟨fun h=>absurd h (by decide),fun h=>absurd h (by decide)⟩
theorem qR (L:List Int) (k:Nat) (m s:Int) (hm:m≤9) (hs:s≤9):SrcIn m s (bH L k m s).1:=by
 unfold bH;split
 ·exact aNr m s
 ·split
  ·rename_i h1;simp only [Bool.and_eq_true,decide_eq_true_eq] at h1;have:=aF (L:=L) (k:=k+5) (n:=s) (by omega);exact ⟨fun h=>(by simp at h),fun _=>⟨(aB L (k+5) s).toNat,by omega,by simp only;rw [Int.toNat_of_nonneg this.1]⟩⟩
  ·split
   ·rename_i h1;have:=aF (L:=L) (k:=k+5) (n:=m) (by omega);exact ⟨fun _=>⟨(aB L (k+5) m).toNat,by omega,by simp only;rw [Int.toNat_of_nonneg this.1]⟩,fun h=>(by simp at h)⟩
   ·exact aNr m s
structure VidOk (m s:Int) (c:ClipR):Prop where
 a:SrcIn m s c.a
 b:SrcIn m s c.b
 sil:kH c=true
theorem aJ4 (L:List Int) (k:Nat) (m s:Int) (hm:m≤9) (hs:s≤9):VidOk m s (cB L k m s).1:=by
 have h1:=qR L (k+2) m s hm hs;have h2:=qR L (bH L (k+2) m s).2 m s hm hs;have z:=aNr m s;unfold cB;simp only;split
 ·exact ⟨z,z,rfl⟩
 ·split
  ·split<;>exact ⟨h1,h2,rfl⟩
  ·split
   ·exact ⟨h1,h2,rfl⟩
   ·split<;>exact ⟨h1,z,rfl⟩
theorem aMe {m s:Int} {c:ClipR} (h:VidOk m s c) (n:Int):VidOk m s (fY c n):=⟨⟨h.a.m1,h.a.s2⟩,h.b,h.sil⟩
theorem aBu (L:List Int) (k:Nat) (m s:Int) (hm:m≤9) (hs:s≤9):∀ c∈(fB L k m s).1,VidOk m s c:=by
 have h1:=aJ4 L k m s hm hs;unfold fB;split
 ·split
  ·intro c hc;simp only [List.mem_cons,List.not_mem_nil,or_false] at hc;rcases hc with rfl | rfl
   ·exact h1
   ·exact aMe h1 _
  ·intro c hc;simp only [List.mem_cons,List.not_mem_nil,or_false] at hc;rw [hc];exact h1
 ·intro c hc;simp only [List.mem_cons,List.not_mem_nil,or_false] at hc;rw [hc];exact h1
theorem Vk (L:List Int) (m s:Int) (hm:m≤9) (hs:s≤9):∀ (n k:Nat), ∀ c∈(pP L m s n k).1,VidOk m s c
 | 0,k=>fun c hc=>by simp [pP] at hc
 | n+1,k=>fun c hc=>by
  simp only [pP] at hc;rcases List.mem_append.1 hc with hc | hc
  ·exact aBu L k m s hm hs c hc
  ·exact Vk L m s hm hs n _ c hc
structure SndOk (m s ch:Int) (c:ClipR):Prop where
 a:SrcIn m s c.a
 b:SrcIn m s c.b
 ok:cP c=true
 aud:uT ch c=true
 l9:c.len≤9
theorem uG {x:SourceR} (h:aY x=true):aY (gD x)=true:=by
 unfold aY at h ⊢;rw [Bool.or_eq_true] at h ⊢;rcases h with h | h
 ·refine .inl ?_;unfold SourceR.isZ SourceR.eqb at h ⊢;simp only [Bool.and_eq_true] at h ⊢;exact ⟨h.1,rfl⟩
 ·exact .inr h
theorem Qa {m s:Int} {x:SourceR} (h:SrcIn m s x):SrcIn m s (gD x):=⟨h.m1,h.s2⟩
theorem Bx (i:Nat) : 0≤sGains.getD i 0∧sGains.getD i 0≤65536:=by
 rcases i with _ | _ | _ | _ | _ | _ | i<;>simp [sGains]
theorem snd0 {m s ch len:Int} (hl : 1≤len∧len≤9):SndOk m s ch ⟨len,0,zSource,zSource,0,0,0,⟨#[]⟩,0,[]⟩:=by
 have ez:zSource.isZ=true:=Yz;refine ⟨aNr m s,aNr m s,?_,rfl,hl.2⟩;unfold cP pK;simp only [aBf,decide_eq_true hl.1,decide_eq_true (by omega:len≤2147483647),Bool.and_true];simp [cN,dG,emp,ez,fF]
theorem snd1 {m s ch len g:Int} {C:List Int} {a:SourceR} (hl : 1≤len∧len≤9) (hg : 0≤g∧g≤65536) (hC:fF C=true) (va:aY a=true) (ia:SrcIn m s a) (hc:(C.length:Int)=ch):SndOk m s ch ⟨len,1,gD a,zSource,0,0,0,⟨#[]⟩,g,C⟩:=by
 have ez:zSource.isZ=true:=Yz;refine ⟨Qa ia,aNr m s,?_,?_,hl.2⟩
 ·unfold cP pK;simp only [aBf,uG va,hC,decide_eq_true hl.1,decide_eq_true (by omega:len≤2147483647),decide_eq_true hg.1,decide_eq_true hg.2,Bool.and_true];simp [cN,dG,emp,ez]
 ·unfold uT;simp [gD,hc]
theorem snd2 {m s ch len g o t:Int} {C:List Int} {a b:SourceR} (hl : 1≤len∧len≤9) (hg : 0≤g∧g≤65536) (hC:fF C=true) (va:aY a=true) (vb:aY b=true) (ia:SrcIn m s a) (ib:SrcIn m s b) (hc:(C.length:Int)=ch) (h0 : 0≤o) (h1:o+len≤t) (h2:t≤1000):SndOk m s ch ⟨len,2,gD a,gD b,o,t,0,⟨#[]⟩,g,C⟩:=by
 refine ⟨Qa ia,Qa ib,?_,?_,hl.2⟩
 ·unfold cP pK;simp only [uG vb,uG va,hC,decide_eq_true hl.1,decide_eq_true (by omega:len≤2147483647),decide_eq_true hg.1,decide_eq_true hg.2,Bool.and_true];simp [cN,gT,emp];omega
 ·unfold uT;simp [gD,hc]
theorem Zt (L:List Int) (k:Nat) (m s:Int) (hm:m≤9) (hs:s≤9):SndOk m s 0 (fU L k m s).1:=by
 have n9:=aF (L:=L) (k:=k) (n:=9) (by omega);have n4:=aF (L:=L) (k:=k+1) (n:=4) (by omega);obtain ⟨kd,hkd⟩:∃ kd,sKinds.getD (aB L (k+1) 4).toNat 0=kd:=⟨_,rfl⟩
 have hk5:kd=0∨kd=1∨kd=2:=by
  have:(aB L (k+1) 4).toNat=0∨(aB L (k+1) 4).toNat=1∨(aB L (k+1) 4).toNat=2∨(aB L (k+1) 4).toNat=3:=by omega
  unfold sKinds at hkd;rcases this with h | h | h | h<;>rw [h] at hkd<;>simp at hkd<;>omega
 obtain ⟨len,hlen⟩:∃ len,1+aB L k 9=len:=⟨_,rfl⟩
 have hl : 1≤len∧len≤9:=by omega
 have va:=(fQ L (k+2) m s hm hs).1;have vb:=(fQ L (bH L (k+2) m s).2 m s hm hs).1;have ia:=qR L (k+2) m s hm hs;have ib:=qR L (bH L (k+2) m s).2 m s hm hs;generalize ha:bH L (k+2) m s=a at va vb ia ib;generalize hb:bH L a.2 m s=b at vb ib;have o3:=aF (L:=L) (k:=b.2) (n:=3) (by omega);have p3:=aF (L:=L) (k:=b.2+1) (n:=3) (by omega);unfold fU;simp only [hkd,hlen,ha,hb];rcases hk5 with rfl | rfl | rfl
 ·exact snd0 hl
 ·refine snd1 hl (Bx _) ?_ va ia ?_
  ·simp [fF]<;>(have := @aF L (a.2+1) 4 (by omega);have := @aF L (a.2+2) 4 (by omega);omega)
  ·rfl
 ·refine snd2 hl (Bx _) ?_ va vb ia ib ?_ (by omega) (by omega) (by omega)
  ·simp [fF]<;>(have := @aF L (b.2+3) 4 (by omega);have := @aF L (b.2+4) 4 (by omega);omega)
  ·rfl
theorem Zr (L:List Int) (k:Nat) (m s:Int) (hm:m≤9) (hs:s≤9):SndOk m s 1 (fS L k m s).1:=by
 have n9:=aF (L:=L) (k:=k) (n:=9) (by omega);have n4:=aF (L:=L) (k:=k+1) (n:=4) (by omega);obtain ⟨kd,hkd⟩:∃ kd,sKinds.getD (aB L (k+1) 4).toNat 0=kd:=⟨_,rfl⟩
 have hk5:kd=0∨kd=1∨kd=2:=by
  have:(aB L (k+1) 4).toNat=0∨(aB L (k+1) 4).toNat=1∨(aB L (k+1) 4).toNat=2∨(aB L (k+1) 4).toNat=3:=by omega
  unfold sKinds at hkd;rcases this with h | h | h | h<;>rw [h] at hkd<;>simp at hkd<;>omega
 obtain ⟨len,hlen⟩:∃ len,1+aB L k 9=len:=⟨_,rfl⟩
 have hl : 1≤len∧len≤9:=by omega
 have va:=(fQ L (k+2) m s hm hs).1;have vb:=(fQ L (bH L (k+2) m s).2 m s hm hs).1;have ia:=qR L (k+2) m s hm hs;have ib:=qR L (bH L (k+2) m s).2 m s hm hs;generalize ha:bH L (k+2) m s=a at va vb ia ib;generalize hb:bH L a.2 m s=b at vb ib;have o3:=aF (L:=L) (k:=b.2) (n:=3) (by omega);have p3:=aF (L:=L) (k:=b.2+1) (n:=3) (by omega);unfold fS;simp only [hkd,hlen,ha,hb];rcases hk5 with rfl | rfl | rfl
 ·exact snd0 hl
 ·refine snd1 hl (Bx _) ?_ va ia ?_
  ·simp [fF]<;>(have := @aF L (a.2+1) 4 (by omega);have := @aF L (a.2+2) 4 (by omega);omega)
  ·rfl
 ·refine snd2 hl (Bx _) ?_ va vb ia ib ?_ (by omega) (by omega) (by omega)
  ·simp [fF]<;>(have := @aF L (b.2+3) 4 (by omega);have := @aF L (b.2+4) 4 (by omega);omega)
  ·rfl
theorem aC7 (L:List Int) (k:Nat) (m s:Int) (hm:m≤9) (hs:s≤9):SndOk m s 2 (jN L k m s).1:=by
 have n9:=aF (L:=L) (k:=k) (n:=9) (by omega);have n4:=aF (L:=L) (k:=k+1) (n:=4) (by omega);obtain ⟨kd,hkd⟩:∃ kd,sKinds.getD (aB L (k+1) 4).toNat 0=kd:=⟨_,rfl⟩
 have hk5:kd=0∨kd=1∨kd=2:=by
  have:(aB L (k+1) 4).toNat=0∨(aB L (k+1) 4).toNat=1∨(aB L (k+1) 4).toNat=2∨(aB L (k+1) 4).toNat=3:=by omega
  unfold sKinds at hkd;rcases this with h | h | h | h<;>rw [h] at hkd<;>simp at hkd<;>omega
 obtain ⟨len,hlen⟩:∃ len,1+aB L k 9=len:=⟨_,rfl⟩
 have hl : 1≤len∧len≤9:=by omega
 have va:=(fQ L (k+2) m s hm hs).1;have vb:=(fQ L (bH L (k+2) m s).2 m s hm hs).1;have ia:=qR L (k+2) m s hm hs;have ib:=qR L (bH L (k+2) m s).2 m s hm hs;generalize ha:bH L (k+2) m s=a at va vb ia ib;generalize hb:bH L a.2 m s=b at vb ib;have o3:=aF (L:=L) (k:=b.2) (n:=3) (by omega);have p3:=aF (L:=L) (k:=b.2+1) (n:=3) (by omega);unfold jN;simp only [hkd,hlen,ha,hb];rcases hk5 with rfl | rfl | rfl
 ·exact snd0 hl
 ·refine snd1 hl (Bx _) ?_ va ia ?_
  ·simp [fF]<;>(have := @aF L (a.2+1) 4 (by omega);have := @aF L (a.2+2) 4 (by omega);omega)
  ·rfl
 ·refine snd2 hl (Bx _) ?_ va vb ia ib ?_ (by omega) (by omega) (by omega)
  ·simp [fF]<;>(have := @aF L (b.2+3) 4 (by omega);have := @aF L (b.2+4) 4 (by omega);omega)
  ·rfl
theorem aGn (L:List Int) (k:Nat) (m s ch:Int) (hm:m≤9) (hs:s≤9) (hc : 0≤ch∧ch≤2):SndOk m s ch (nM L k m s ch).1:=by
 unfold nM;split
 ·rename_i h;subst h;exact Zt L k m s hm hs
 ·split
  ·rename_i h;subst h;exact Zr L k m s hm hs
  ·have:ch=2:=by omega
   subst this;exact aC7 L k m s hm hs
open Go.RowKit
set_option maxRecDepth 4000
theorem aT4:((List.range 4).all fun i=>jM (cueLines.getD i ⟨#[]⟩))=true:=by kernel_rfl
theorem Yk (L:List Int) (k:Nat):jM (Sw L k)=true:=by
 have t:=aF (L:=L) (k:=k) (n:=4) (by omega);exact List.all_eq_true.1 aT4 _ (List.mem_range.2 (by omega))
theorem aT5 (L:List Int) (k:Nat):uH (pF L k).1=true∧(pF L k).1.fit:=by
 have t50:=aF (L:=L) (k:=k) (n:=50) (by omega);have t20:=aF (L:=L) (k:=k+1) (n:=20) (by omega);have l3:=Yk L (k+3);have l4:=Yk L (k+4);unfold pF;split
 ·refine ⟨?_,bQ (by simp only;omega) (by simp only;omega),bQ (by simp only;omega) (by simp only;omega)⟩;simp [uH,Gm,l3];omega
 ·refine ⟨?_,bQ (by simp only;omega) (by simp only;omega),bQ (by simp only;omega) (by simp only;omega)⟩;simp [uH,Gm,l3,l4];omega
theorem Jn (L:List Int):∀ (n k:Nat),(eT L n k).1.length=n ∧ ∀ c∈(eT L n k).1,uH c=true∧c.fit
 | 0,k=>⟨rfl,fun c hc=>by cases hc⟩
 | n+1,k=>by
  obtain ⟨h1,h2⟩:=Jn L n (pF L k).2;refine ⟨by simp only [eT,List.length_cons,h1],fun c hc=>?_⟩;simp only [eT] at hc;rcases List.mem_cons.1 hc with rfl | hc
  ·exact aT5 L k
  ·exact h2 c hc
theorem aD7 (L:List Int) (k:Nat):wZ (mY L k)=true∧(mY L k).fit:=by
 have t:=aF (L:=L) (k:=k) (n:=3) (by omega);have:(aB L k 3).toNat=0∨(aB L k 3).toNat=1∨(aB L k 3).toNat=2:=by omega
 unfold mY;rcases this with h | h | h<;>rw [h]
 ·exact ⟨by decide,bQ (by decide) (by decide),bQ (by decide) (by decide)⟩
 ·exact ⟨by decide,bQ (by decide) (by decide),bQ (by decide) (by decide)⟩
 ·exact ⟨by decide,bQ (by decide) (by decide),bQ (by decide) (by decide)⟩
structure MedGood (i:Nat) (y:MediumR):Prop where
 name:y.name=dF ⟨#[109]⟩ i
 ok:dX y=true
 fit:y.fit
 small:dQ y=true
theorem aHj (L:List Int) (i k:Nat) (hi:i<9):MedGood i (tA L i k).1:=by
 obtain ⟨c1,c2⟩:=Jn L (aB L (k+5) 3).toNat (k+6);obtain ⟨r1,r2⟩:=aD7 L (k+1);have t40:=aF (L:=L) (k:=k+2) (n:=40) (by omega);have t3:=aF (L:=L) (k:=k+3) (n:=3) (by omega);have ts:=aF (L:=L) (k:=k+4) (n:=20000) (by omega);have tc:=aF (L:=L) (k:=k+5) (n:=3) (by omega);have i16:I64 16:=bQ (by decide) (by decide);have i4:I64 400000:=bQ (by decide) (by decide);refine ⟨rfl,?_,⟨⟨i16,i16,r2,i4,i4⟩,bQ (by simp only [tA];omega) (by simp only [tA];omega),bQ (by simp only [tA];omega) (by simp only [tA];omega),bQ (by simp only [tA];omega) (by simp only [tA];omega),fun c hc=>(c2 c hc).2⟩,?_⟩
 ·have e1:bB (dF ⟨#[109]⟩ (i:Int))=true:=(Ar (i:Int) (by omega) (by omega)).2;have e2:mU (eT L (aB L (k+5) 3).toNat (k+6)).1=true:=List.all_eq_true.2 fun c hc=>(c2 c hc).1
  unfold dX Gn tP;simp only [tA,Xy,e1,e2,r1,Bool.and_true,Bool.true_and,Bool.and_eq_true];exact ⟨⟨⟨decide_eq_true (by omega),decide_eq_true (by omega)⟩,decide_eq_true (by omega),decide_eq_true (by omega)⟩,decide_eq_true (by omega),decide_eq_true (by omega)⟩
 ·unfold dQ;simp only [tA,c1,decide_eq_true_eq];omega
theorem Kw (L:List Int):∀ (n i k:Nat),i+n≤9→(kZ L n i k).1.length=n ∧ ∀ x,x<n→MedGood (i+x) ((kZ L n i k).1.getD x default)
 | 0,i,k,_=>⟨rfl,fun x hx=>absurd hx (Nat.not_lt_zero _)⟩
 | n+1,i,k,h=>by
  obtain ⟨h1,h2⟩:=Kw L n (i+1) (tA L i k).2 (by omega);refine ⟨by simp only [kZ,List.length_cons,h1],fun x hx=>?_⟩;simp only [kZ];rcases x with _ | x
  ·exact aHj L i k (by omega)
  ·have:=h2 x (by omega);rw [show i+(x+1)=i+1+x by omega];simpa using this
structure SeqGood (m:Int) (j:Nat) (y:SequenceR):Prop where
 name:y.name=dF ⟨#[115]⟩ j
 ok:cX y=true
 fit:y.fit
 small:cW y=true
 src:∀ t∈y.video++y.sound, ∀ c∈t,SrcIn m j c.a∧SrcIn m j c.b
theorem Vb (L:List Int) (m s:Int) (hm:m≤9) (hs:s≤9):∀ (n k:Nat),(jR L m s n k).1.length=n ∧ ∀ t∈(jR L m s n k).1,dD t=true ∧ ∀ c∈t,c.fit∧VidOk m s c
 | 0,k=>⟨rfl,fun c hc=>by cases hc⟩
 | n+1,k=>by
  obtain ⟨h1,h2⟩:=Vb L m s hm hs n (qP L k m s 5).2;refine ⟨by simp only [jR,List.length_cons,h1],fun t ht=>?_⟩;simp only [jR] at ht;rcases List.mem_cons.1 ht with rfl | ht
  ·obtain ⟨n1,n2⟩:=aBw L k m s 5 hm hs (by omega) (by omega);exact ⟨aBm n1 (by omega),fun c hc=>⟨(n1 c hc).fit,Vk L m s hm hs _ _ c hc⟩⟩
  ·exact h2 t ht
theorem Kj (L:List Int) (m s ch:Int) (hm:m≤9) (hs:s≤9) (hc : 0≤ch∧ch≤2):∀ (n k:Nat),(fV L m s ch n k).1.length=n ∧ ∀ c∈(fV L m s ch n k).1,c.fit∧SndOk m s ch c
 | 0,k=>⟨rfl,fun c hc=>by cases hc⟩
 | n+1,k=>by
  obtain ⟨h1,h2⟩:=Kj L m s ch hm hs hc n (nM L k m s ch).2;refine ⟨by simp only [fV,List.length_cons,h1],fun c hcc=>?_⟩;simp only [fV] at hcc;rcases List.mem_cons.1 hcc with rfl | hcc
  ·exact ⟨aGp L k m s ch hm hs,aGn L k m s ch hm hs hc⟩
  ·exact h2 c hcc
theorem aGa {t:List ClipR} {m s ch:Int} (h:∀ c∈t,SndOk m s ch c) (hl:t.length≤64):dD t=true:=by
 have h1:=Hh t fun c hc=>(h c hc).l9
 unfold dD;rw [decide_eq_true hl,decide_eq_true (by omega:rE t≤2147483647),List.all_eq_true.2 fun c hc=>(h c hc).ok];rfl
theorem Vx (L:List Int) (m s ch:Int) (hm:m≤9) (hs:s≤9) (hc : 0≤ch∧ch≤2):∀ (n k:Nat),(nN L m s ch n k).1.length=n ∧ ∀ t∈(nN L m s ch n k).1,dD t=true ∧ ∀ c∈t,c.fit∧SndOk m s ch c
 | 0,k=>⟨rfl,fun c hc=>by cases hc⟩
 | n+1,k=>by
  obtain ⟨h1,h2⟩:=Vx L m s ch hm hs hc n (Nz L m s ch k).2;refine ⟨by simp only [nN,List.length_cons,h1],fun t ht=>?_⟩;simp only [nN] at ht;rcases List.mem_cons.1 ht with rfl | ht
  ·obtain ⟨n1,n2⟩:=Kj L m s ch hm hs hc (aB L k 4).toNat (k+1);have t4:=aF (L:=L) (k:=k) (n:=4) (by omega);exact ⟨aGa (fun c hc=>(n2 c hc).2) (by unfold Nz;omega),n2⟩
  ·exact h2 t ht
theorem aGw (L:List Int) (m:Int) (j k:Nat) (hm:m≤9) (hj:j<9):SeqGood m j (Cn L m j k).1:=by
 have t3:=aF (L:=L) (k:=k+1) (n:=3) (by omega);have t2:=aF (L:=L) (k:=k+2) (n:=2) (by omega);obtain ⟨v1,v2⟩:=Vb L m j hm (by omega) (1+aB L (k+2) 2).toNat (k+3);have ta:=aF (L:=L) (k:=(jR L m j (1+aB L (k+2) 2).toNat (k+3)).2) (n:=3) (by omega);obtain ⟨a1,a2⟩:=Vx L m j (aB L (k+1) 3) hm (by omega) (by omega) (aB L (jR L m j (1+aB L (k+2) 2).toNat (k+3)).2 3).toNat ((jR L m j (1+aB L (k+2) 2).toNat (k+3)).2+1);generalize hV:jR L m j (1+aB L (k+2) 2).toNat (k+3)=V1 at v1 v2 ta a1 a2;generalize hA:nN L m j (aB L (k+1) 3) (aB L V1.2 3).toNat (V1.2+1)=A1 at a1 a2;have tc:=aF (L:=L) (k:=A1.2) (n:=3) (by omega);obtain ⟨c1,c2⟩:=Jn L (aB L A1.2 3).toNat (A1.2+1);generalize hC:eT L (aB L A1.2 3).toNat (A1.2+1)=C1 at c1 c2;obtain ⟨r1,r2⟩:=aD7 L k;have e:(Cn L m j k).1=⟨dF ⟨#[115]⟩ j,mY L k,16,16,V1.1,A1.1,C1.1,aB L (k+1) 3⟩:=by
  unfold Cn;simp only [hV,hA,hC]
 rw [e];have i16:I64 16:=bQ (by decide) (by decide);refine ⟨rfl,?_,⟨r2,i16,i16,fun t ht c hc=>((v2 t ht).2 c hc).1,fun t ht c hc=>((a2 t ht).2 c hc).1,fun c hc=>(c2 c hc).2,bQ (by simp only;omega) (by simp only;omega)⟩,?_,?_⟩
 ·have e1:bB (dF ⟨#[115]⟩ (j:Int))=true:=(Ar (j:Int) (by omega) (by omega)).1;have e2:mU C1.1=true:=List.all_eq_true.2 fun c hc=>(c2 c hc).1
  have e3:V1.1.all nJ=true:=List.all_eq_true.2 fun t ht=>by
   unfold nJ;rw [(v2 t ht).1,List.all_eq_true.2 fun c hc=>((v2 t ht).2 c hc).2.sil];rfl
  have e4:A1.1.all (qS (aB L (k+1) 3))=true:=List.all_eq_true.2 fun t ht=>by
   unfold qS;rw [(a2 t ht).1,List.all_eq_true.2 fun c hc=>((a2 t ht).2 c hc).2.aud];rfl
  have e5:tP (aB L (k+1) 3)=true:=by
   unfold tP;rw [decide_eq_true t3.1,decide_eq_true (by omega:aB L (k+1) 3≤4)];rfl
  have e6:nP 16=true:=by decide
  unfold cX tY;simp only [e1,e2,e3,e4,e5,e6,r1,Bool.and_true]
 ·unfold cW;simp only [v1,a1,c1,Bool.and_eq_true,decide_eq_true_eq];omega
 ·intro t ht c hc;rcases List.mem_append.1 ht with ht | ht
  ·exact ⟨((v2 t ht).2 c hc).2.a,((v2 t ht).2 c hc).2.b⟩
  ·exact ⟨((a2 t ht).2 c hc).2.a,((a2 t ht).2 c hc).2.b⟩
theorem Kh (L:List Int) (m:Int) (hm:m≤9):∀ (n i k:Nat),i+n≤9→(nQ L m n i k).1.length=n ∧ ∀ x,x<n→SeqGood m (i+x) ((nQ L m n i k).1.getD x default)
 | 0,i,k,_=>⟨rfl,fun x hx=>absurd hx (Nat.not_lt_zero _)⟩
 | n+1,i,k,h=>by
  obtain ⟨h1,h2⟩:=Kh L m hm n (i+1) (Cn L m i k).2 (by omega);refine ⟨by simp only [nQ,List.length_cons,h1],fun x hx=>?_⟩;simp only [nQ];rcases x with _ | x
  ·exact aGw L m i k hm (by omega)
  ·have:=h2 x (by omega);rw [show i+(x+1)=i+1+x by omega];simpa using this
theorem nm_ne:((List.range 9).all fun i=>(List.range 9).all fun j=>i==j||((dF ⟨#[109]⟩ (i:Int)).toList != (dF ⟨#[109]⟩ (j:Int)).toList&&(dF ⟨#[115]⟩ (i:Int)).toList != (dF ⟨#[115]⟩ (j:Int)).toList))=true:=by kernel_rfl
theorem aRj {i j:Nat} (hi:i<9) (hj:j<9) (h:dF ⟨#[109]⟩ (i:Int)=dF ⟨#[109]⟩ (j:Int)∨dF ⟨#[115]⟩ (i:Int)=dF ⟨#[115]⟩ (j:Int)):i=j:=by
 have h1:=List.all_eq_true.1 (List.all_eq_true.1 nm_ne i (List.mem_range.2 hi)) j (List.mem_range.2 hj);simp only [Bool.or_eq_true,beq_iff_eq,Bool.and_eq_true,bne_iff_ne,ne_eq] at h1;rcases h1 with h1 | h1
 ·exact h1
 ·rcases h with h | h
  ·exact absurd (congrArg ByteArray.toList h) h1.1
  ·exact absurd (congrArg ByteArray.toList h) h1.2
theorem Kq (L:List Int):∃ M N:Nat,1≤M∧M≤3∧1≤N∧N≤3∧(jP L).media.length=M∧(jP L).seqs.length=N∧(∀ x,x<M→MedGood x ((jP L).media.getD x default)) ∧ ∀ x,x<N→SeqGood M x ((jP L).seqs.getD x default):=by
 have n1:=aF (L:=L) (k:=0) (n:=3) (by omega);have n2:=aF (L:=L) (k:=1) (n:=3) (by omega);obtain ⟨M,hM⟩:∃ M:Nat,1+aB L 0 3=M:=⟨(1+aB L 0 3).toNat,by omega⟩
 obtain ⟨N,hN⟩:∃ N:Nat,1+aB L 1 3=N:=⟨(1+aB L 1 3).toNat,by omega⟩
 obtain ⟨a1,a2⟩:=Kw L M 0 2 (by omega);obtain ⟨b1,b2⟩:=Kh L M (by omega) N 0 (kZ L M 0 2).2 (by omega);refine ⟨M,N,by omega,by omega,by omega,by omega,?_⟩;unfold jP;rw [hM,hN];simp only [Int.toNat_natCast];exact ⟨a1,b1,fun x hx=>by have:=a2 x hx;rwa [Nat.zero_add] at this,fun x hx=>by have:=b2 x hx;rwa [Nat.zero_add] at this⟩
theorem aHh {α : Type} [Inhabited α] {l:List α} {x : α} (h:x∈l):∃ i,i<l.length∧l.getD i default=x:=by
 obtain ⟨i,hi,rfl⟩:=List.getElem_of_mem h;exact ⟨i,hi,aK hi⟩
theorem Ze (ρ : Ren) (h:Heap):∀ x:List T,wkVs ρ h (x.map V.t) (x.map V.t)
 | []=>by simp only [List.map_nil,wkVs]
 | a::x=>by
  simp only [List.map_cons,wkVs,wkV];exact ⟨Nd a,Ze ρ h x⟩
theorem aJn (ρ : Ren) (h:Heap):∀ xs:List (List T),Uy ρ h (aL xs) (aL xs)
 | []=>trivial
 | x::xs=>⟨Ze ρ h x,aJn ρ h xs⟩
theorem uU (ρ : Ren) (h:Heap) {k:Nat} (hk : ρ.look k=some (some k)):∀ (xs:List (List T)) (i:Nat),Uy ρ h ((aL xs).set i [.own k]) ((aL xs).set i [.own k])
 | [],_=>trivial
 | x::xs,0=>by
  refine ⟨?_,aJn ρ h xs⟩;simp only [wkVs,wkV,and_true];exact hk
 | x::xs,i+1=>⟨Ze ρ h x,uU ρ h hk xs i⟩
theorem Dm {k:Nat}:∀ (xs:List (List T)) (i:Nat),i<xs.length→wW ((aL xs).set i [.own k])=true
 | [],_,h=>absurd h (by simp)
 | x::xs,0,_=>rfl
 | x::xs,i+1,h=>by
  have:=Dm (k:=k) xs i (by simpa using h);show (_||wW ((aL xs).set i [.own k]))=true
  rw [this,Bool.or_true]
theorem Jd {f:V→Option T} (hf:∀ a,f (.t a)=some a):∀ x:List T,lendCs f (x.map V.t)=some x
 | []=>rfl
 | a::x=>by
  simp only [List.map_cons,lendCs,hf,Jd hf x]
theorem Xq {f:V→Option T} (hf:∀ a,f (.t a)=some a):∀ xs:List (List T),lendRs f (aL xs)=some xs
 | []=>rfl
 | x::xs=>by
  show lendRs f (x.map V.t::aL xs)=_
  simp only [lendRs,Jd hf,Xq hf xs]
theorem Dt {f:V→Option T} (hf:∀ a,f (.t a)=some a) {k:Nat} {t:T} (hk:f (.own k)=some t):∀ (xs:List (List T)) (i:Nat),lendRs f ((aL xs).set i [.own k])=some (xs.set i [t])
 | [],_=>rfl
 | x::xs,0=>by
  show lendRs f ([.own k]::aL xs)=_
  simp only [lendRs,lendCs,hk,Xq hf xs];rfl
 | x::xs,i+1=>by
  show lendRs f (x.map V.t::(aL xs).set i [.own k])=_
  simp only [lendRs,Jd hf,Dt hf hk xs i];rfl
theorem yZ {f:V→List Nat} (hf:∀ x,f (.t x) = []) {k:Nat}:∀ (xs:List (List T)) (i:Nat),i<xs.length→reachRs f ((aL xs).set i [.own k])=f (.own k)
 | [],_,h=>absurd h (by simp)
 | x::xs,0,_=>by
  show reachL f [.own k]++reachRs f (aL xs)=_
  rw [Aw f hf xs];simp only [reachL,List.append_nil]
 | x::xs,i+1,h=>by
  show reachL f (x.map V.t)++reachRs f ((aL xs).set i [.own k])=_
  rw [zA f hf x,List.nil_append];exact yZ hf xs i (by simpa using h)
open Go.RowKit
set_option maxRecDepth 4000
def yJ (f g:ByteArray) (x:SourceR):SourceR:=if (x.kind==1&&x.name.toList==f.toList)=true then { x with name:=g } else x
def tN (f g:ByteArray) (c:ClipR):Nat→ClipR
 | 0=>c
 | 1 => { c with a:=yJ f g c.a }
 | _ => { c with a:=yJ f g c.a,b:=yJ f g c.b }
theorem Vz (L:List ClipR) (n:Nat) (x y:ClipR) {r:List T} (h:r=ClipR.c y):((L.set n x).map ClipR.c).set n r=(L.set n y).map ClipR.c:=by
 rw [h,List.map_set,List.set_set,List.map_set]
open Go.RowKit
set_option maxRecDepth 4000
def pG (f g:ByteArray) (c:ClipR):ClipR:=tN f g c 2
def chgT (f g:ByteArray) (ts:List (List ClipR)):List (List ClipR):=ts.map fun t=>t.map (pG f g)
def chgQ (f g:ByteArray) (s:SequenceR):SequenceR := { s with video:=chgT f g s.video,sound:=chgT f g s.sound }
def aBz (p:ProjR) (f g:ByteArray):ProjR:=⟨p.media,p.seqs.map (chgQ f g)⟩
theorem chgC_eq (f g:ByteArray) (c:ClipR):pG f g c = { c with a:=yJ f g c.a,b:=yJ f g c.b }:=rfl
theorem aFd {f g:ByteArray} {x:SourceR} (h:x.fit):(yJ f g x).fit:=by
 unfold yJ;split
 ·exact ⟨h.kind,h.pos,h.speed⟩
 ·exact h
theorem aFe {f g:ByteArray} {c:ClipR} (h:c.fit):(pG f g c).fit:=by
 rw [chgC_eq];exact ⟨h.len,h.kind,aFd h.a,aFd h.b,h.off,h.total,h.param,h.gain⟩
theorem aTd {f g:ByteArray} {s:SequenceR} (h:s.fit):(chgQ f g s).fit:=by
 refine ⟨h.rate,h.w,h.h,fun t ht c hc=>?_,fun t ht c hc=>?_,h.cues,h.channels⟩
 ·obtain ⟨u,hu,rfl⟩:=List.mem_map.1 ht;obtain ⟨d,hd,rfl⟩:=List.mem_map.1 hc;exact aFe (h.video u hu d hd)
 ·obtain ⟨u,hu,rfl⟩:=List.mem_map.1 ht;obtain ⟨d,hd,rfl⟩:=List.mem_map.1 hc;exact aFe (h.sound u hu d hd)
theorem aM8 {p:ProjR} (h:p.fit) (f g:ByteArray):(aBz p f g).fit:=by
 refine ⟨h.media,fun s hs=>?_⟩;obtain ⟨q,hq,rfl⟩:=List.mem_map.1 hs;exact aTd (h.seqs q hq)
open Go.RowKit
set_option maxRecDepth 4000
abbrev strP (s:ByteArray):V := .elem 1 [gN s] [[gN s]] 0 0
theorem cSwap2 (f g:ByteArray) (L:List ClipR) (n:Nat) (hn:n<L.length):CIO Tryz.prog 80 1 [(0,rL L)] [.rptr 0 22 n 0,strP f,strP g] (.tup [])
  [(0,rL (L.set n (tN f g (L.getD n default) 2)))] 1:=by
 refine mC Tryz.X80 Tryz.func80 rfl Tryz.ntmps80 (by rw [Tryz.results80]) (aD _ ?_);simp only [go_sem,simprocAttr];refine aR 8 .done rfl (by kernel_rfl) (by kernel_rfl) (by decide) ?_;simp only [go_sem,simprocAttr];refine ⟨by kernel_rfl,?_⟩;obtain ⟨c,hc⟩:∃ c,c=L.getD n default:=⟨_,rfl⟩
 rw [← hc];refine aE (fun (i:Nat) σ => sP 0 (rL (L.set n (tN f g c i))) (bD 13 (aC i) (aW [5,14,15,16,17,18,19,20,21,22,23,24,25,26,27,28,29,30,31,32,33] (aX σ)))) (fun i=>i≤2) (fun i=>2 - i) 0 (aA ?_) (by omega) ?_
 ·simp only [go_sem,simprocAttr];have e0:L.set n (tN f g c 0)=L:=sN hn (by rw [hc,aK hn];rfl);rw [e0];exact ⟨by simp,rfl⟩
 ·intro i hi;refine aD _ ?_;simp only [go_sem,simprocAttr];have hnx:∀ x d,nth d ((L.set n x).map ClipR.c) n=ClipR.c x:=fun x d=>by
   unfold nth;rw [List.getElem?_map,List.getElem?_set_self (by omega)];rfl
  have hll:∀ x:ClipR,(L.set n x).length=L.length:=fun x=>List.length_set
  refine ⟨fun hlt=>?_,fun hge=>?_⟩
  ·simp only [bxx] at hlt;rcases (show i=0∨i=1 by omega) with rfl | rfl
   ·unfold awS;simp only [go_sem,simprocAttr];refine bZ [0,1,2,3,4,5,6,7,8,9,10,11,12] .done rfl (by kernel_rfl) (by kernel_rfl) (by decide) ?_;simp only [go_sem,simprocAttr,hnx,hll];refine ⟨hn,fun _=>hn,fun h1=>?_,fun h1=>?_⟩
    ·have e1:tN f g c 1 = { tN f g c 0 with a := { (tN f g c 0).a with name:=g } }:=by
      show { tN f g c 0 with a:=yJ f g (tN f g c 0).a }=_
      unfold yJ;rw [if_pos h1]
     unfold awS;simp only [go_sem,simprocAttr,hnx,hll];refine ⟨hn,1,aA ?_,by omega,by omega⟩;simp only [go_sem,simprocAttr];rw [e1];exact ⟨⟨by simp,Vz L n _ _ rfl⟩,by rw [wrap64 (x:=1) (by omega) (by omega)]⟩
    ·have e1:tN f g c 1=tN f g c 0:=by
      show { tN f g c 0 with a:=yJ f g (tN f g c 0).a }=_
      unfold yJ;rw [if_neg (by rw [h1];decide)]
     unfold awS;simp only [go_sem,simprocAttr];refine ⟨1,aA ?_,by omega,by omega⟩;simp only [go_sem,simprocAttr];rw [e1];exact ⟨⟨by simp,rfl⟩,by rw [wrap64 (x:=1) (by omega) (by omega)]⟩
   ·unfold awS;simp only [go_sem,simprocAttr];refine bZ [0,1,2,3,4,5,6,7,8,9,10,11,12] .done rfl (by kernel_rfl) (by kernel_rfl) (by decide) ?_;simp only [go_sem,simprocAttr,hnx,hll];refine ⟨hn,fun _=>hn,fun h1=>?_,fun h1=>?_⟩
    ·have e1:tN f g c 2 = { tN f g c 1 with b := { (tN f g c 1).b with name:=g } }:=by
      show { tN f g c 1 with b:=yJ f g (tN f g c 1).b }=_
      unfold yJ;rw [if_pos h1]
     unfold awS;simp only [go_sem,simprocAttr,hnx,hll];refine ⟨hn,2,aA ?_,by omega,by omega⟩;simp only [go_sem,simprocAttr];rw [e1];exact ⟨⟨by simp,Vz L n _ _ rfl⟩,by rw [wrap64 (x:=2) (by omega) (by omega)]⟩
    ·have e1:tN f g c 2=tN f g c 1:=by
      show { tN f g c 1 with b:=yJ f g (tN f g c 1).b }=_
      unfold yJ;rw [if_neg (by rw [h1];decide)]
     unfold awS;simp only [go_sem,simprocAttr];refine ⟨2,aA ?_,by omega,by omega⟩;simp only [go_sem,simprocAttr];rw [e1];exact ⟨⟨by simp,rfl⟩,by rw [wrap64 (x:=2) (by omega) (by omega)]⟩
  ·simp only [bxx] at hge;have:i=2:=by omega
   subst this;unfold awS;simp only [go_sem,simprocAttr];refine aA ?_;simp only [go_sem,simprocAttr];simp
open Go.RowKit
set_option maxRecDepth 4000
def fC {α : Type} (h : α → α) (l:List α) (i:Nat):List α := (l.take i).map h++l.drop i
theorem fH {α : Type} (h : α → α) (l:List α) (i:Nat):(fC h l i).length=l.length:=by
 unfold fC;rw [List.length_append,List.length_map,List.length_take,List.length_drop];omega
theorem rV {α : Type} [Inhabited α] (h : α → α) {l:List α} {i:Nat} (hi:i<l.length):(fC h l i).getD i default=l.getD i default:=by
 rw [List.getD_eq_getElem?_getD,List.getD_eq_getElem?_getD];unfold fC;rw [List.getElem?_append_right (by rw [List.length_map,List.length_take];omega),List.getElem?_drop,List.length_map,List.length_take];congr 2;omega
theorem vJ {α : Type} [Inhabited α] (h : α → α) {l:List α} {i:Nat} (hi:i<l.length):(fC h l i).set i (h (l.getD i default))=fC h l (i+1):=by
 unfold fC;have e:l.drop i=l.getD i default::l.drop (i+1):=by rw [List.drop_eq_getElem_cons hi,aK hi]
 rw [e,List.set_append_right _ _ (by rw [List.length_map,List.length_take];omega)];have e2:i - ((l.take i).map h).length=0:=by simp [Nat.min_eq_left (Nat.le_of_lt hi)]
 rw [e2,List.set_cons_zero,bE hi,List.map_append,List.append_assoc];rfl
theorem aMq {L:List ClipR} {j:Nat} (hj:j<L.length) {r:List V} (h:r=(ClipR.c (L.getD j default)).map V.t):(aL (L.map ClipR.c)).set j r=aL (L.map ClipR.c):=by
 refine sN (by unfold aL;rw [List.length_map,List.length_map];exact hj) ?_;rw [h,aK hj];unfold aL;rw [List.getElem_map,List.getElem_map]
theorem Xh {α : Type} (h : α → α) (l:List α):fC h l 0=l:=rfl
theorem vK {α : Type} (h : α → α) (l:List α):fC h l l.length=l.map h:=by
 unfold fC;rw [List.take_length,List.drop_length,List.append_nil]
set_option maxHeartbeats 4000000 in
theorem aFs (f g:ByteArray) (ts:List (List ClipR)) (h1:ts.length≤65536) (h2:∀ t∈ts,t.length≤65536 ∧ ∀ c∈t,c.chan.length≤65536) :
  aS Tryz.prog 84 [.t (cK ts), .clo 80 [strP f,strP g]] (.t (cK (ts.map fun t=>t.map (pG f g)))):=by
 refine aH Tryz.X84 Tryz.func84 rfl Tryz.ntmps84 (by rw [Tryz.results84]) (aD _ ?_);simp only [go_sem,simprocAttr];refine cC (aFp ts h1) [] rfl (by omega) (by decide) ?_ rfl rfl rfl rfl ?_
 ·simp only [go_sem,simprocAttr]
 ·simp only [go_sem,simprocAttr,List.getElem?_nil];obtain ⟨C,hC⟩:∃ C:List ClipR→List ClipR,C=fun t=>t.map (pG f g):=⟨_,rfl⟩
  rw [← hC];refine aE (fun (i:Nat) σ => sP 0 (Ux (fC C ts i)) (bD 12 (aC i) (aW [5,6,7,14,15,16,17,18,19,20,21,22,23,24,25,26,27,28,29,30,31,32,33,34,35,36,37,38,39,40,41,42,43,44,45,46,47,48,49,50,51,52,53,54] (aX σ)))) (fun i=>i≤ts.length) (fun i=>ts.length - i) 0 (aA ?_) (by omega) ?_
  ·simp only [go_sem,simprocAttr];simp [fC]
  ·intro i hi;refine aD _ ?_;simp only [go_sem,simprocAttr];refine ⟨fun hlt=>?_,fun hge=>?_⟩
   ·simp only [bxx] at hlt;have hil:i<ts.length:=by omega
    obtain ⟨L,hL⟩:∃ L,L=ts.getD i default:=⟨_,rfl⟩
    have hLm:L∈ts:=by rw [hL];exact aP hil
    obtain ⟨q1,q2⟩:=h2 L hLm;have hnt:∀ d,nth d ((fC C ts i).map bL) i=bL L:=fun d=>by
     unfold nth;have e0:=rV C hil;rw [List.getD_eq_getElem?_getD] at e0;have hlt2:i<(fC C ts i).length:=by rw [fH];exact hil
     rw [List.getElem?_eq_getElem hlt2,Option.getD_some] at e0;rw [List.getElem?_map,List.getElem?_eq_getElem hlt2,e0, ← hL];rfl
    have hml:=fH C ts i;unfold awS;simp only [go_sem,simprocAttr,hnt,hml,List.length_map];refine ⟨⟨by omega,by omega⟩,by omega,cC (aFr L q1) [] rfl (by omega) (by decide) ?_ rfl rfl rfl rfl ?_⟩
    ·simp only [go_sem,simprocAttr]
    ·simp only [go_sem,simprocAttr,List.getElem?_nil,hml,List.length_map];refine ⟨⟨by omega,by omega⟩,by omega,?_⟩;obtain ⟨R,hR⟩:∃ R,R=(aL ((fC C ts i).map bL)).set i [V.own 1]:=⟨_,rfl⟩
     have hRl:R.length=ts.length:=by rw [hR,List.length_set];unfold aL;rw [List.length_map,List.length_map,hml]
     have hRn:∀ d,mN d R i = [V.own 1]:=fun d=>by
      unfold mN;rw [hR,List.getElem?_set_self (by unfold aL;rw [List.length_map,List.length_map,hml];exact hil)];rfl
     have hRo:wW R=true:=by rw [hR];exact Dm _ _ (by rw [List.length_map,hml];exact hil)
     rw [← hR];simp only [go_sem,simprocAttr,hRl,hRn];refine ⟨⟨by omega,by omega⟩,by omega,?_⟩;refine aE (fun (j:Nat) σ => sP 1 (rL (fC (pG f g) L j)) (bD 27 (aC j) (aW [7,28,29,30,31,32,33,34,35,36,37,38,39,40,41,42,43,44,45,46,47,48,49,50,51,52,53,54] (aX σ)))) (fun j=>j≤L.length) (fun j=>L.length - j) 0 (aA ?_) (by omega) ?_
     ·simp only [go_sem,simprocAttr,hRo];refine ⟨by simp,rfl,?_⟩;rw [hR];exact ⟨by simp,uU (k:=1) _ _ (by rfl) _ _⟩
     ·intro j hj;refine aD _ ?_;simp only [go_sem,simprocAttr];refine ⟨fun hlt2=>?_,fun hge2=>?_⟩
      ·simp only [bxx] at hlt2;have hjl:j<L.length:=by omega
       have hn2:∀ d,nth d ((fC (pG f g) L j).map ClipR.c) j=ClipR.c (L.getD j default):=fun d=>by
        unfold nth;have e0:=rV (pG f g) hjl;rw [List.getD_eq_getElem?_getD] at e0;have hlt3:j<(fC (pG f g) L j).length:=by rw [fH];exact hjl
        rw [List.getElem?_eq_getElem hlt3,Option.getD_some] at e0;rw [List.getElem?_map,List.getElem?_eq_getElem hlt3,e0];rfl
       have hml2:=fH (pG f g) L j;unfold awS;simp only [go_sem,simprocAttr];refine aR 17 .done rfl (by kernel_rfl) (by kernel_rfl) (by decide) ?_;simp only [go_sem,simprocAttr,hRl,hRn,hn2,hml2,List.length_map];refine ⟨⟨by omega,by omega⟩,by omega,⟨by omega,by omega⟩,by omega,⟨by omega,by omega⟩,by omega,_,aU4 _ (q2 _ (aP hjl)),?_⟩;simp only [go_sem,simprocAttr,hRl,hRn,hn2,hml2,List.length_map];rw [aMq (L:=fC (pG f g) L j) (j:=j) (by rw [fH];exact hjl)]
       ·rw [gH,List.length_map,hml2];refine ⟨⟨by omega,by omega⟩,by omega,by kernel_rfl,⟨by omega,by omega⟩,by omega,⟨by omega,by omega⟩,?_⟩;refine gK Tryz.X80 (cC (cSwap2 f g (fC (pG f g) L j) j (by rw [fH];exact hjl)) [1] rfl (by omega) (by decide) ?_ rfl rfl rfl rfl ?_)
        ·simp only [go_sem,simprocAttr]
        ·have eM:=vJ (pG f g) hjl;rw [rV (pG f g) hjl];simp only [go_sem,simprocAttr];refine ⟨j+1,aA ?_,by omega,by omega⟩;simp only [go_sem,simprocAttr,hRo];rw [show (fC (pG f g) L j).set j (tN f g (L.getD j default) 2)=fC (pG f g) L (j+1) from eM,aZ (show j<9223372036854775807 by omega)];refine ⟨⟨by simp,rfl,by simp,?_⟩,by simp⟩;rw [hR];exact uU (k:=1) _ _ (by rfl) _ _
       ·rw [rV _ hjl];rfl
      ·simp only [bxx] at hge2;have:j=L.length:=by omega
       subst this;unfold awS;simp only [go_sem,simprocAttr];rw [vK];refine ⟨i+1,aJ [(0,some 0)] ?_,by omega,by omega⟩;simp only [go_sem,simprocAttr];have hfR:lendRs (aV [(1,rL (L.map (pG f g))),(0, .row 27 1 (bL []) R)] 6) R=some ((fC C ts (i+1)).map bL):=by
        have hk:aV [(1,rL (L.map (pG f g))),(0, .row 27 1 (bL []) R)] 6 (.own 1)=some (jX (L.map (pG f g))):=by
         simp only [go_sem,simprocAttr]<;>rfl
        conv=>lhs;rw [hR]
        rw [Dt (fun a=>by simp only [aV]) (by rw [← hR];exact hk)];have e0:=vJ C hil;rw [← hL] at e0;rw [← e0,List.map_set,hC];rfl
       have hfr:reachRs (jY [(1,rL (L.map (pG f g))),(0, .row 27 1 (bL []) R)] 8) R = [1]:=by
        conv=>lhs;rw [hR]
        rw [yZ (fun x=>wY _ _ x) _ _ (by rw [List.length_map,hml];exact hil)];simp only [go_sem,simprocAttr]
       rw [hfR,hfr,aZ (show i<9223372036854775807 by omega)];simp only [go_sem,simprocAttr];simp
   ·simp only [bxx] at hge;have:i=ts.length:=by omega
    subst this;unfold awS;simp only [go_sem,simprocAttr];rw [vK]
def Imp (x y:T):Prop := ∀ (w:World) (S:Nat→Prop) (v:Value),RdT w S x v→RdT w S y v
theorem aM {x:T}:Imp x x:=fun _ _ _ h=>h
theorem Bs {k:Nat} {d:List T}:Imp (.lit (.slice none 0 0)) (.list k d []):=by
 intro w S v h;cases h;exact .list _ _ _ none 0 (Nat.zero_le _) (Nat.zero_le _) (fun _=>rfl) (by simp) (by simp) (by simp)
def aG3:List T→List T→Prop
 | [],[]=>True
 | x::xs,y::ys=>Imp x y∧aG3 xs ys
 | _,_=>False
def Gy:List (List T)→List (List T)→Prop
 | [],[]=>True
 | x::xs,y::ys=>aG3 x y∧Gy xs ys
 | _,_=>False
theorem Mq:∀ {xs ys:List T},aG3 xs ys→xs.length=ys.length ∧ ∀ (j:Nat) y,ys[j]? = some y → ∃ x,xs[j]? = some x∧Imp x y
 | [],[],_=>by simp
 | x::xs,y::ys,h=>by
  obtain ⟨h1,h2⟩:=Mq h.2;refine ⟨by simp [h1],fun j z hz=>?_⟩;cases j with
  | zero=>simp at hz;subst hz;exact ⟨x,by simp,h.1⟩
  | succ j =>
   obtain ⟨u,q1,q2⟩:=h2 j z (by simpa using hz);exact ⟨u,by simpa using q1,q2⟩
 | [],_::_,h=>h.elim
 | _::_,[],h=>h.elim
theorem aL5:∀ {xs ys:List (List T)},Gy xs ys→xs.length=ys.length ∧ ∀ (j:Nat) y,ys[j]? = some y → ∃ x,xs[j]? = some x∧aG3 x y
 | [],[],_=>by simp
 | x::xs,y::ys,h=>by
  obtain ⟨h1,h2⟩:=aL5 h.2;refine ⟨by simp [h1],fun j z hz=>?_⟩;cases j with
  | zero=>simp at hz;subst hz;exact ⟨x,by simp,h.1⟩
  | succ j =>
   obtain ⟨u,q1,q2⟩:=h2 j z (by simpa using hz);exact ⟨u,by simpa using q1,q2⟩
 | [],_::_,h=>h.elim
 | _::_,[],h=>h.elim
theorem kD {k:Nat} {d d':List T} {xs ys:List (List T)} (ha:Gy xs ys):Imp (.list k d xs) (.list k d' ys):=by
 intro w S v h;obtain ⟨hl,hat⟩:=aL5 ha;cases h with
 | list _ _ _ A c hm hc hn hk hb hr =>
  rw [hl];refine .list _ _ _ A c (by omega) (by omega) hn ?_ ?_ ?_
  ·intro e he;obtain ⟨i,hi,rfl⟩:=List.mem_iff_getElem.1 he;obtain ⟨x,q1,q2⟩:=hat i _ (List.getElem?_eq_getElem hi);rw [← (Mq q2).1];exact hk x (List.mem_of_getElem? q1)
  ·intro i e he;obtain ⟨x,q1,q2⟩:=hat i e he;obtain ⟨b,off,q3,q4,q5⟩:=hb i x q1;refine ⟨b,off,q3,q4,fun j y hy=>?_⟩;obtain ⟨u,q6,_⟩:=(Mq q2).2 j y hy;exact q5 j u q6
  ·intro i e j y b off u he hy hA hu;obtain ⟨x,q1,q2⟩:=hat i e he;obtain ⟨z,q6,q7⟩:=(Mq q2).2 j y hy;exact q7 _ _ _ (hr i x j z b off u q1 q6 hA hu)
theorem aJf {x y:T} (h:Imp x y):∀ (w:World) (E:Env) v,RdV w E (.t x) v→RdV w E (.t y) v:=by
 intro w E v hv;simp only [RdV] at hv ⊢;exact h _ _ _ hv
def ImpV:List V→List V→Prop
 | [],[]=>True
 | x::xs,y::ys=>(∀ (w:World) (E:Env) v,RdV w E x v→RdV w E y v)∧ImpV xs ys
 | _,_=>False
theorem aAz {w:World} {E:Env}:∀ {xs ys:List V} {vs:List Value},ImpV xs ys→RdVs w E xs vs→RdVs w E ys vs
 | [],[],_,_,h=>h
 | x::xs,y::ys,[],_,h=>by simp only [RdVs] at h
 | x::xs,y::ys,v::vs,hn,h=>by
  simp only [RdVs] at h ⊢;exact ⟨hn.1 _ _ _ h.1,aAz hn.2 h.2⟩
 | [],_::_,_,hn,_=>hn.elim
 | _::_,[],_,hn,_=>hn.elim
theorem nE {xs ys:List V} (ha:ImpV xs ys):∀ (w:World) (E:Env) v,RdV w E (.agg xs) v→RdV w E (.agg ys) v:=by
 intro w E v h;simp only [RdV] at h ⊢;obtain ⟨vs,rfl,q1,q2⟩:=h;exact ⟨vs,rfl,aAz ha q1,q2⟩
open Go.RowKit
set_option maxRecDepth 4000
theorem vF {r r' x:V} {h:Heap} (e:x.lend h=r') (hp:r'.pure=true) (ha:∀ (w:World) (E:Env) v,RdV w E r' v→RdV w E r v):Cq r x h :=
 ⟨by rw [e];exact hp,fun w E v hv=>by rw [e] at hv;exact ha _ _ _ hv⟩
theorem Cd {xs ys:List V} (ha:ImpV xs ys):∀ (w:World) (E:Env) v,RdV w E (.tup xs) v→RdV w E (.tup ys) v:=by
 intro w E v h;simp only [RdV] at h ⊢;obtain ⟨vs,rfl,q1⟩:=h;exact ⟨vs,rfl,aAz ha q1⟩
theorem jB {k:Nat} {d:List T}:∀ (w:World) (E:Env) v,RdV w E (.t (.lit (.slice none 0 0))) v→RdV w E (.t (.list k d [])) v:=aJf Bs
def zSeq:SequenceR:=⟨⟨#[]⟩,⟨0,0⟩,0,0,[],[],[],0⟩
def findS (l:List SequenceR) (n:ByteArray):Option SequenceR:=l.find? fun s=>s.name.toList==n.toList
def findR (p:ProjR) (n:ByteArray):SequenceR×Int :=
 if (bV p != 0)=true then (zSeq,bV p) else
 match findS p.seqs n with
 | some s=>(s,0)
 | none=>(zSeq,7)
abbrev vse (r:SequenceR×Int):V := .tup [jG r.1,aC r.2]
abbrev zSeqV:List V:=[bT ⟨#[]⟩,aC 0,aC 0,aC 0,aC 0, .t (.lit (.slice none 0 0)), .t (.lit (.slice none 0 0)), .t (.lit (.slice none 0 0)),aC 0]
theorem yN {p:ProjR} (h:bV p=0):p.media.length≤16∧p.seqs.length≤16 ∧ ∀ s∈p.seqs,cW s=true:=by
 unfold bV at h;split at h
 ·cases h
 ·rename_i h1;rw [Bool.not_eq_false] at h1;unfold cL at h1;simp only [Bool.and_eq_true,decide_eq_true_eq,List.all_eq_true] at h1;refine ⟨by omega,by omega,fun s hs=>h1.2 s hs⟩
def sM (p:ProjR) (n:ByteArray) (kind:Int):List ByteArray:=gW ((eH p.seqs n).getD default) kind
def sZ (n:ByteArray) (l:List ByteArray):Bool:=(fJ (fun m:ByteArray=>m) n l).isSome
theorem sY {n:ByteArray} {l:List ByteArray}:sZ n l=true ↔ n∈l:=by
 unfold sZ;cases e:fJ (fun m:ByteArray=>m) n l with
 | none =>
  have:=kC.1 e;exact ⟨fun h=>(by cases h),fun h=>absurd rfl (this n h)⟩
 | some y =>
  obtain ⟨h1,h2⟩:=dZ e;exact ⟨fun _=>by rw [← h2];exact h1,fun _=>rfl⟩
def fX (p:ProjR):Nat→ByteArray→List ByteArray×List ByteArray→List ByteArray×List ByteArray
 | 0,_,r=>r
 | f+1,n,r=>if sZ n r.2=true then r else (sM p n 2).foldl (fun r x=>fX p f x r) (r.1++sM p n 1,r.2 ++ [n])
theorem zP (n:ByteArray) (l:List ByteArray):rN (.string n) (rH l)=if sZ n l=true then some (aT true) else none:=by
 unfold rH sZ;rw [zQ];cases fJ (fun m:ByteArray=>m) n l<;>rfl
theorem Ep {l:List ByteArray} {k:Nat} (h:k<l.length) (d:List T):nth d (l.map jJ) k = [gN (l.getD k default)]:=by
 unfold nth;rw [List.getElem?_map,List.getElem?_eq_getElem h,aK h];rfl
theorem aQg {p:ProjR} (h:FilmOk p):ShownOk p :=
 Ev h.small (by rw [List.all_eq_true.2 h.med,List.all_eq_true.2 h.seq];rfl) (List.all_eq_true.2 h.compl)
theorem Xg {s:SequenceR} (h:SeqOk s) (kind:Int):(gW s kind).length≤1000000:=by
 unfold gW;rw [(dY _).length_eq];exact Nat.le_trans (nV _) (h.hn kind)
set_option maxHeartbeats 4000000 in
theorem aFn (p:ProjR) (hp:ShownOk p):∀ (f:Nat) (n:ByteArray) (r:List ByteArray×List ByteArray),(eH p.seqs n).isSome=true → ¬ Wk p f n →
  CIO Tryz.prog 72 2 [(1, .map (tEs (rH r.2))),(0, .map (tEs (rH r.1)))] [aPy p,bT n, .own 0, .own 1] (.tup []) [(1, .map (tEs (rH (fX p f n r).2))),(0, .map (tEs (rH (fX p f n r).1)))] 2
 | 0,n,r,_,h=>absurd trivial h
 | f+1,n,r,hs,hk=>by
  obtain ⟨s,hsn⟩:=Option.isSome_iff_exists.1 hs;obtain ⟨hsm,hsname⟩:=dZ hsn;have hso:=hp.ok s hsm;have ih:=aFn p hp f;have e1:∀ kind,sM p n kind=gW s kind:=fun kind=>by unfold sM;rw [hsn];rfl
  have hin:eY p n=gW s 2:=by unfold eY;rw [hsn];rfl
  have c1:=aB8 p n 1 s hsn hso.hv hso.hs hso.hm (hso.hz 1) (hso.hn 1);have c2:=aB8 p n 2 s hsn hso.hv hso.hs hso.hm (hso.hz 2) (hso.hn 2);have l1:=Xg hso 1;have l2:=Xg hso 2;have hth:∀ x∈gW s 2,(eH p.seqs x).isSome=true ∧ ¬ Wk p f x:=fun x hx=>⟨hp.there s hsm x (mP.1 hx),aBg hk (by rw [hin];exact hx)⟩
  refine mC Tryz.X72 Tryz.func72 rfl Tryz.ntmps72 (by rw [Tryz.results72]) (aD _ ?_);cases hm:sZ n r.2 with
  | true =>
   have e0:fX p (f+1) n r=r:=by unfold fX;rw [if_pos hm]
   rw [e0];simp only [go_sem,simprocAttr,zP,hm];refine aJ [(1,some 1),(0,some 0)] ?_;simp only [go_sem,simprocAttr]<;>simp
  | false =>
   have e0:fX p (f+1) n r=(gW s 2).foldl (fun r x=>fX p f x r) (r.1++gW s 1,r.2 ++ [n]):=by
    conv=>lhs;unfold fX
    rw [if_neg (by rw [hm];decide),e1,e1]
   rw [e0];clear e0;generalize gW s 1=ns at c1 l1 ⊢;generalize gW s 2=ms at c2 l2 hth ⊢;simp only [go_sem,simprocAttr,zP,hm,Az];refine ⟨_,c1,?_⟩;simp only [go_sem,simprocAttr];refine aE (fun (k:Nat) σ => sP 0 (.map (tEs (rH (r.1++ns.take k)))) (bD 21 (aC k) (aW [9,22,23,24,25,26,27] (aX σ)))) (fun k=>k≤ns.length) (fun k=>ns.length - k) 0 (aA ?_) (Nat.zero_le _) ?_
   ·simp only [go_sem,simprocAttr]<;>simp
   ·intro k hk;refine aD _ ?_;simp only [go_sem,simprocAttr];refine ⟨fun hlt=>?_,fun hge=>?_⟩
    ·simp only [bxx] at hlt;have hk':k<ns.length:=by omega
     have hwk:IntKind.i64.wrap ((k:Int)+1)=((k+1:Nat):Int):=by rw [aZ (by omega)];omega
     have hx:=Ep hk';have htk:=bE hk';generalize ns.getD k default=x at hx htk;unfold awS;simp only [go_sem,simprocAttr,hx,List.length_map,Az];refine ⟨⟨by omega,by omega⟩,k+1,aA ?_,by omega,by omega⟩;simp only [go_sem,simprocAttr,hwk,htk,List.append_assoc];simp
    ·simp only [bxx] at hge;unfold awS;simp only [go_sem,simprocAttr];rw [List.take_of_length_le (show ns.length≤k by omega)];refine ⟨_,c2,?_⟩;simp only [go_sem,simprocAttr];refine aE (fun (k:Nat) σ => sP 0 (.map (tEs (rH ((ms.take k).foldl (fun r x=>fX p f x r) (r.1++ns,r.2 ++ [n])).1))) (sP 1 (.map (tEs (rH ((ms.take k).foldl (fun r x=>fX p f x r) (r.1++ns,r.2 ++ [n])).2))) (bD 32 (aC k) (aW [9,11,22,23,24,25,26,27,33,34,35,36,37,38,39,40,41] (aX σ))))) (fun k=>k≤ms.length) (fun k=>ms.length - k) 0 (aA ?_) (Nat.zero_le _) ?_
     ·simp only [go_sem,simprocAttr]<;>simp
     ·intro j hj;refine aD _ ?_;simp only [go_sem,simprocAttr];refine ⟨fun hlt2=>?_,fun hge2=>?_⟩
      ·simp only [bxx] at hlt2;have hj':j<ms.length:=by omega
       have hwj:IntKind.i64.wrap ((j:Int)+1)=((j+1:Nat):Int):=by rw [aZ (by omega)];omega
       have hx:=Ep hj';have htk:=bE hj';have hxm:=hth _ (aP (d:=default) hj');have hfl:(ms.take (j+1)).foldl (fun r x=>fX p f x r) (r.1++ns,r.2 ++ [n])=fX p f (ms.getD j default) ((ms.take j).foldl (fun r x=>fX p f x r) (r.1++ns,r.2 ++ [n])):=by
        rw [htk,List.foldl_append];rfl
       obtain ⟨q,hq⟩:∃ q,q=(ms.take j).foldl (fun r x=>fX p f x r) (r.1++ns,r.2 ++ [n]):=⟨_,rfl⟩
       rw [← hq] at hfl ⊢;generalize ms.getD j default=x at hx hxm hfl;unfold awS;simp only [go_sem,simprocAttr,hx,List.length_map];refine ⟨⟨by omega,by omega⟩,gK Tryz.X72 (cC (ih x q hxm.1 hxm.2) [0,1] rfl (by omega) (by decide) ?_ rfl rfl rfl rfl ?_)⟩
       ·simp only [go_sem,simprocAttr,(cY id _).2,(cY _ _).1]
       ·simp only [go_sem,simprocAttr];refine ⟨j+1,aA ?_,by omega,by omega⟩;simp only [go_sem,simprocAttr,hwj,hfl];simp [(cY _ _).1]
      ·simp only [bxx] at hge2;unfold awS;simp only [go_sem,simprocAttr];rw [List.take_of_length_le (show ms.length≤j by omega)];refine aJ [(1,some 1),(0,some 0)] ?_;simp only [go_sem,simprocAttr]<;>simp
theorem Qm {α : Type}:∀ {l m:List α},l.Nodup→(∀ x∈l,x∈m)→l.length≤m.length
 | [],m,_,_=>Nat.zero_le _
 | x::l,m,hn,h=>by
  rw [List.nodup_cons] at hn;obtain ⟨a,b,rfl⟩:=List.append_of_mem (h x (by simp));have:=Qm (l:=l) (m:=a++b) hn.2 fun y hy=>by
   have h1:=h y (by simp [hy]);simp only [List.mem_append,List.mem_cons] at h1 ⊢;rcases h1 with h1 | rfl | h1
   ·exact .inl h1
   ·exact absurd hy hn.1
   ·exact .inr h1
  simp only [List.length_cons,List.length_append] at this ⊢;omega
theorem aEt {α β : Type} {P : α → Prop} {f : α → β → α} (hf:∀ a b,P a→P (f a b)):∀ (l:List β) (a : α),P a→P (l.foldl f a)
 | [],a,h=>h
 | b::l,a,h=>aEt hf l (f a b) (hf a b h)
theorem Gq {p:ProjR} (hp:FilmOk p):∀ (f:Nat) (n:ByteArray) (r:List ByteArray×List ByteArray),(∀ x∈r.1,(jQ p.media x).isSome=true) → ∀ x∈(fX p f n r).1,(jQ p.media x).isSome=true
 | 0,n,r,h=>h
 | f+1,n,r,h=>by
  unfold fX;split
  ·exact h
  ·refine aEt (P:=fun r:List ByteArray×List ByteArray => ∀ x∈r.1,(jQ p.media x).isSome=true) (fun r x hr=>Gq hp f x r hr) _ _ fun x hx=>?_
   rcases List.mem_append.1 hx with hx | hx
   ·exact h x hx
   ·unfold sM at hx;cases hs:eH p.seqs n with
    | none =>
     rw [hs] at hx;cases mP.1 hx
    | some s =>
     rw [hs] at hx;have hx:=mP.1 hx;unfold dE at hx;obtain ⟨y,hy,rfl⟩:=List.mem_map.1 hx;obtain ⟨hy1,hy2⟩:=List.mem_filter.1 hy;obtain ⟨c,hc,hyc⟩:=List.mem_flatMap.1 hy1;have hcl:=List.all_eq_true.1 (hp.compl s (dZ hs).1) c hc;unfold eD at hcl;rw [Bool.and_eq_true] at hcl;have hy3:cU p y=true:=by
      simp only [List.mem_cons,List.not_mem_nil,or_false] at hyc;rcases hyc with rfl | rfl
      ·exact hcl.1
      ·exact hcl.2
     unfold cU at hy3;cases e:jQ p.media y.name with
     | some _=>rfl
     | none =>
      rw [e,hy2] at hy3;simp at hy3
theorem Fq {p:ProjR} (hp:FilmOk p) {x:ByteArray} (h:(jQ p.media x).isSome=true):x∈p.media.map MediumR.name∧x.size≤maxLen:=by
 obtain ⟨m,hm⟩:=Option.isSome_iff_exists.1 h;obtain ⟨h1,h2⟩:=dZ hm;refine ⟨by rw [← h2];exact List.mem_map_of_mem h1,?_⟩;have:=hp.med m h1;unfold dX bB at this;simp only [Bool.and_eq_true,decide_eq_true_eq] at this;have h3:m.name=x:=h2;rw [h3] at this;unfold maxLen;omega
def eG (p:ProjR) (name:ByteArray):List ByteArray×Int :=
 if bV p≠0 then ([],bV p) else
 match eH p.seqs name with
 | none=>([],7)
 | some _=>(cV (nW (fX p 5 name ([],[])).1),0)
abbrev aJr (r:List ByteArray×Int):V := .tup [.t (xY r.1),aC r.2]
theorem xA (k:Int) {h:Heap}:Cq (aJr ([],k)) (.tup [.t (.lit (.slice none 0 0)),aC k]) h :=
 vF (r' := .tup [.t (.lit (.slice none 0 0)),aC k]) rfl rfl (Cd (by exact ⟨jB,pL,trivial⟩))
theorem aAe:aUt Tryz.prog 69:=by
 refine ⟨Tryz.X69,fun cap w=>callsDIn_of_wpSIn Tryz.func69 rfl trivial fun c₀ cs hu=>?_⟩;have k1 : 2<cap.size+(4 - cap.size):=by omega
 have k2 : 3<cap.size+(4 - cap.size):=by omega
 have k3 : 2<max 4 cap.size:=by omega
 have k4 : 3<max 4 cap.size:=by omega
 apply wpSIn_seq;apply wpSIn_region;simp [wpOpsSIn,Fence.wide,go_sem,recoverD,hu,Tryz.ntmps69,Exit.thenS,k1];refine wpSIn_cond (t:=false) (by simp [Act.eval,k2]) ?_;refine wpSIn_of_wpIn rfl (wpIn_skip ?_);refine ⟨rfl, .returning,by rw [← hu], .tuple #[],?_,⟨_,rfl⟩,rfl,rfl⟩;simp [results,Tryz.results69,go_sem]
theorem cUsesP (p:ProjR) (h:p.fit) (name:ByteArray):aS Tryz.prog 25 [dT p,bT name] (aJr (eG p name)):=by
 refine dS Tryz.X25 Tryz.func25 rfl Tryz.ntmps25 (by rw [Tryz.results25]) (aD _ ?_);simp only [go_sem,simprocAttr];refine ⟨_,aTf p h,?_⟩;simp only [go_sem,simprocAttr];refine brW (b:=decide (bV p≠0)) ?_ ⟨fun hv=>?_,fun hv=>?_⟩
 ·rw [Bool.eq_iff_iff,decide_eq_true_eq,bne_iff_ne]
 ·have hv':=of_decide_eq_true hv;have e:eG p name=([],bV p):=by unfold eG;rw [if_pos hv']
  rw [e];unfold awS;simp only [go_sem,simprocAttr];exact ⟨aAe,xA _⟩
 ·have hv':bV p=0:=by simpa using hv
  have hok:=sH h hv';unfold awS;simp only [go_sem,simprocAttr];have hsm:=yN hv';refine mR (cCat p hsm.1 hsm.2.1) rfl ?_;cases hs:eH p.seqs name with
  | none =>
   have e:eG p name=([],7):=by unfold eG;rw [hv',hs];rfl
   rw [e];simp only [go_sem,simprocAttr,xM,hs,Option.map_none];exact ⟨aAe,xA _⟩
  | some s =>
   have e:eG p name=(cV (nW (fX p 5 name ([],[])).1),0):=by unfold eG;rw [hv',hs];rfl
   rw [e];simp only [go_sem,simprocAttr,xM,hs,Option.map_some];have hw:=hok.wk s (dZ hs).1;rw [show s.name=name from (dZ hs).2] at hw;have hcm:=Gq hok 5 name ([],[]) (fun x hx=>by cases hx);have hC:=aFn p (aQg hok) 5 name ([],[]) (by rw [hs];rfl) hw;generalize fX p 5 name ([],[])=q at hC hcm ⊢;have hol:(nW q.1).length≤1000000:=by
    have:=Qm (mM q.1) fun x hx=>(Fq hok (hcm x (qU.1 hx))).1
    rw [List.length_map] at this;have:=hsm.1;omega
   refine gK Tryz.X72 (cC hC [5,6] rfl (by omega) (by decide) ?_ rfl rfl rfl rfl ?_)
   ·simp only [go_sem,simprocAttr,(cY id _).2,(cY _ _).1];rfl
   ·simp only [go_sem,simprocAttr,(cY _ _).1];refine mH Tryz.X73 Tryz.func73 rfl Tryz.ntmps73 (by rw [Tryz.results73]) (aD _ ?_);simp only [go_sem,simprocAttr];refine gK Tryz.X59 (cC (Yp (tEs (rH q.1)) (nW q.1) (jJ ⟨#[]⟩) (Xv _) (mM _) (fun x hx=>(Fq hok (hcm x (qU.1 hx))).2) hol) [7,5] rfl (by omega) (by decide) ?_ rfl rfl rfl rfl ?_)
    ·simp only [go_sem,simprocAttr,(cY id _).2,(cY _ _).1];exact decide_eq_true trivial
    ·simp only [go_sem,simprocAttr];exact ⟨aAe,cR rfl rfl⟩
structure FileR where
 name:ByteArray
 sum:Int
 present:Bool
 deriving Inhabited
structure LinkR where
 media:ByteArray
 file:ByteArray
 sum:Int
 proxy:ByteArray
 deriving Inhabited
structure StateR where
 files:List FileR
 links:List LinkR
 deriving Inhabited
def FileR.c (f:FileR):List T:=[gN f.name,tu f.sum,tbl f.present]
def LinkR.c (l:LinkR):List T:=[gN l.media,gN l.file,tu l.sum,gN l.proxy]
abbrev vfile (f:FileR):V := .agg [bT f.name,yF f.sum,aT f.present]
abbrev vlink (l:LinkR):V := .agg [bT l.media,bT l.file,yF l.sum,bT l.proxy]
@[go_sem] theorem FileR.ct (f:FileR):(FileR.c f).map V.t = [bT f.name,yF f.sum,aT f.present]:=rfl
@[go_sem] theorem LinkR.ct (l:LinkR):(LinkR.c l).map V.t = [bT l.media,bT l.file,yF l.sum,bT l.proxy]:=rfl
@[go_sem] theorem FileR.cl (f:FileR):(FileR.c f).length=3:=rfl
@[go_sem] theorem LinkR.cl (l:LinkR):(LinkR.c l).length=4:=rfl
@[go_sem] abbrev wR (l:List FileR):T := .list 3 (FileR.c default) (l.map FileR.c)
@[go_sem] abbrev wQ (l:List LinkR):T := .list 4 (LinkR.c default) (l.map LinkR.c)
abbrev fE (s:StateR):V := .agg [.t (wR s.files), .t (wQ s.links)]
theorem vX {α : Type} [Inhabited α] {p : α → Bool} {l:List α} {k:Nat} (h:k<l.length) (hp:p (l.getD k default)=false):bC p (l.drop (k+1)) (k+1)=bC p (l.drop k) k:=aSe h (by rw [← aK h];exact hp)
theorem zW {α : Type} [Inhabited α] {p : α → Bool} {l:List α} {k:Nat} (h:k<l.length) (hp:p (l.getD k default)=true):bC p (l.drop k) k=k:=(idx_hit h (by rw [← aK h];exact hp)).symm
theorem Gc {α : Type} {p : α → Bool} {l:List α} {k:Nat} (h:l.length≤k):bC p (l.drop k) k = -1:=(idx_end (by omega)).symm
theorem idxFrom_range {α : Type} (p : α → Bool):∀ (l:List α) (k:Nat),bC p l k = -1∨((k:Int)≤bC p l k∧bC p l k<k+l.length)
 | [],k => .inl rfl
 | x::r,k=>by
  unfold bC;split
  ·exact .inr ⟨Int.le_refl _,by simp only [List.length_cons];omega⟩
  ·rcases idxFrom_range p r (k+1) with h | h
   ·exact .inl h
   ·exact .inr ⟨by omega,by simp only [List.length_cons];omega⟩
theorem Xx {α : Type} (p : α → Bool) (l:List α):idx p l = -1 ∨ ∃ k:Nat,k<l.length∧idx p l=k:=by
 rcases idxFrom_range p l 0 with h | h
 ·exact .inl h
 ·exact .inr ⟨(idx p l).toNat,by unfold idx;omega,by unfold idx;omega⟩
def aEv (n:ByteArray) (f:FileR):Bool:=f.name.toList==n.toList
def aE0 (n:ByteArray) (l:LinkR):Bool:=l.media.toList==n.toList
def hZ (fs:List FileR) (n:ByteArray):Int:=idx (aEv n) fs
def kP (ls:List LinkR) (n:ByteArray):Int:=idx (aE0 n) ls
theorem aJ8 (s:StateR) (n:ByteArray) (h:s.files.length≤maxLen):aS Tryz.prog 132 [fE s,bT n] (aC (hZ s.files n)):=by
 refine aH Tryz.X132 Tryz.func132 rfl Tryz.ntmps132 (by rw [Tryz.results132]) (aD _ ?_);simp only [go_sem,simprocAttr];refine aE (fun (k:Nat) σ => bD 5 (aC k) (aW [6,7,8,9,10,11,12,13,14,15,16,17,18,19,20,21] (aX σ))) (fun k=>k≤s.files.length∧bC (aEv n) (s.files.drop k) k=hZ s.files n) (fun k=>s.files.length - k) 0 (aA ?_) ⟨Nat.zero_le _,rfl⟩ ?_
 ·simp only [go_sem,simprocAttr]<;>simp
 ·rintro k ⟨hk,hi⟩;refine aD _ ?_;simp only [go_sem,simprocAttr];refine ⟨fun hlt=>?_,fun hge=>?_⟩
  ·simp only [bxx] at hlt;unfold awS;simp only [go_sem,simprocAttr];refine ⟨⟨by omega,by omega⟩,fun h2=>?_,fun h2=>?_⟩
   ·unfold awS;simp only [go_sem,simprocAttr];rw [← hi,zW (by omega) h2]
   ·unfold awS;simp only [go_sem,simprocAttr];refine ⟨k+1,aA ?_,⟨by omega,by rw [← hi];exact vX (by omega) h2⟩,by omega⟩;simp only [go_sem,simprocAttr]<;>simp [cJ (show k<s.files.length by omega) h]
  ·simp only [bxx] at hge;unfold awS;simp only [go_sem,simprocAttr];rw [← hi,Gc (by omega)]
theorem Tm (s:StateR) (n:ByteArray) (h:s.links.length≤maxLen):aS Tryz.prog 65 [fE s,bT n] (aC (kP s.links n)):=by
 refine aH Tryz.X65 Tryz.func65 rfl Tryz.ntmps65 (by rw [Tryz.results65]) (aD _ ?_);simp only [go_sem,simprocAttr];refine aE (fun (k:Nat) σ => bD 5 (aC k) (aW [6,7,8,9,10,11,12,13,14,15,16,17,18,19,20,21] (aX σ))) (fun k=>k≤s.links.length∧bC (aE0 n) (s.links.drop k) k=kP s.links n) (fun k=>s.links.length - k) 0 (aA ?_) ⟨Nat.zero_le _,rfl⟩ ?_
 ·simp only [go_sem,simprocAttr]<;>simp
 ·rintro k ⟨hk,hi⟩;refine aD _ ?_;simp only [go_sem,simprocAttr];refine ⟨fun hlt=>?_,fun hge=>?_⟩
  ·simp only [bxx] at hlt;unfold awS;simp only [go_sem,simprocAttr];refine ⟨⟨by omega,by omega⟩,fun h2=>?_,fun h2=>?_⟩
   ·unfold awS;simp only [go_sem,simprocAttr];rw [← hi,zW (by omega) h2]
   ·unfold awS;simp only [go_sem,simprocAttr];refine ⟨k+1,aA ?_,⟨by omega,by rw [← hi];exact vX (by omega) h2⟩,by omega⟩;simp only [go_sem,simprocAttr]<;>simp [cJ (show k<s.links.length by omega) h]
  ·simp only [bxx] at hge;unfold awS;simp only [go_sem,simprocAttr];rw [← hi,Gc (by omega)]
abbrev nmP (s:ByteArray):V := .elem 1 [gN s] [[gN s]] 0 0
theorem cLink1 (l:LinkR) (n:ByteArray):aS Tryz.prog 149 [vlink l,nmP n] (aT (aE0 n l)):=by
 refine aH Tryz.X149 Tryz.func149 rfl Tryz.ntmps149 (by rw [Tryz.results149]) (aD _ ?_);simp only [go_sem,simprocAttr,Fh];rfl
theorem cFile1 (l:FileR) (n:ByteArray):aS Tryz.prog 151 [vfile l,nmP n] (aT (aEv n l)):=by
 refine aH Tryz.X151 Tryz.func151 rfl Tryz.ntmps151 (by rw [Tryz.results151]) (aD _ ?_);simp only [go_sem,simprocAttr,Fh];rfl
theorem cIdxL (ls:List LinkR) (n:ByteArray) (h:ls.length≤maxLen):aS Tryz.prog 148 [.t (wQ ls), .clo 149 [nmP n]] (aC (kP ls n)):=by
 refine aH Tryz.X148 Tryz.func148 rfl Tryz.ntmps148 (by rw [Tryz.results148]) (aD _ ?_);simp only [go_sem,simprocAttr];refine aE (fun (k:Nat) σ => bD 8 (aC k) (aW [5,9,10,11,12,13,14,15,16,17,18] (aX σ))) (fun k=>k≤ls.length∧bC (aE0 n) (ls.drop k) k=kP ls n) (fun k=>ls.length - k) 0 (aA ?_) ⟨Nat.zero_le _,rfl⟩ ?_
 ·simp only [go_sem,simprocAttr]<;>simp
 ·rintro k ⟨hk,hi⟩;refine aD _ ?_;simp only [go_sem,simprocAttr];refine ⟨fun hlt=>?_,fun hge=>?_⟩
  ·simp only [bxx] at hlt;unfold awS;simp only [go_sem,simprocAttr];refine ⟨⟨by omega,by omega⟩,?_⟩;refine mQ (cLink1 _ n) rfl ?_;simp only [go_sem,simprocAttr];refine ⟨fun h2=>?_,fun h2=>?_⟩
   ·unfold awS;simp only [go_sem,simprocAttr];rw [← hi,zW (by omega) h2]
   ·unfold awS;simp only [go_sem,simprocAttr];refine ⟨k+1,aA ?_,⟨by omega,by rw [← hi];exact vX (by omega) h2⟩,by omega⟩;simp only [go_sem,simprocAttr]<;>simp [cJ (show k<ls.length by omega) h]
  ·simp only [bxx] at hge;unfold awS;simp only [go_sem,simprocAttr];rw [← hi,Gc (by omega)]
theorem cIdxF (ls:List FileR) (n:ByteArray) (h:ls.length≤maxLen):aS Tryz.prog 150 [.t (wR ls), .clo 151 [nmP n]] (aC (hZ ls n)):=by
 refine aH Tryz.X150 Tryz.func150 rfl Tryz.ntmps150 (by rw [Tryz.results150]) (aD _ ?_);simp only [go_sem,simprocAttr];refine aE (fun (k:Nat) σ => bD 8 (aC k) (aW [5,9,10,11,12,13,14,15,16,17,18] (aX σ))) (fun k=>k≤ls.length∧bC (aEv n) (ls.drop k) k=hZ ls n) (fun k=>ls.length - k) 0 (aA ?_) ⟨Nat.zero_le _,rfl⟩ ?_
 ·simp only [go_sem,simprocAttr]<;>simp
 ·rintro k ⟨hk,hi⟩;refine aD _ ?_;simp only [go_sem,simprocAttr];refine ⟨fun hlt=>?_,fun hge=>?_⟩
  ·simp only [bxx] at hlt;unfold awS;simp only [go_sem,simprocAttr];refine ⟨⟨by omega,by omega⟩,?_⟩;refine mQ (cFile1 _ n) rfl ?_;simp only [go_sem,simprocAttr];refine ⟨fun h2=>?_,fun h2=>?_⟩
   ·unfold awS;simp only [go_sem,simprocAttr];rw [← hi,zW (by omega) h2]
   ·unfold awS;simp only [go_sem,simprocAttr];refine ⟨k+1,aA ?_,⟨by omega,by rw [← hi];exact vX (by omega) h2⟩,by omega⟩;simp only [go_sem,simprocAttr]<;>simp [cJ (show k<ls.length by omega) h]
  ·simp only [bxx] at hge;unfold awS;simp only [go_sem,simprocAttr];rw [← hi,Gc (by omega)]
theorem aTz (s:StateR) (n:ByteArray) (h:s.links.length≤maxLen):aS Tryz.prog 74 [fE s,bT n] (aC (kP s.links n)):=by
 refine aH Tryz.X74 Tryz.func74 rfl Tryz.ntmps74 (by rw [Tryz.results74]) (aD _ ?_);simp only [go_sem,simprocAttr];refine tE ?_;simp only [go_sem,simprocAttr];refine ⟨_,cIdxL s.links n h,rfl,?_⟩;simp only [go_sem,simprocAttr]
theorem aU0 (s:StateR) (n:ByteArray) (h:s.files.length≤maxLen):aS Tryz.prog 75 [fE s,bT n] (aC (hZ s.files n)):=by
 refine aH Tryz.X75 Tryz.func75 rfl Tryz.ntmps75 (by rw [Tryz.results75]) (aD _ ?_);simp only [go_sem,simprocAttr];refine tE ?_;simp only [go_sem,simprocAttr];refine ⟨_,cIdxF s.files n h,rfl,?_⟩;simp only [go_sem,simprocAttr]
open Go.RowKit
set_option maxRecDepth 4000
def gM (fs:List FileR) (i:Int):FileR:=fs.getD i.toNat default
def jE (fs:List FileR) (l:LinkR):Int :=
 if (decide (hZ fs l.file<0) || !(gM fs (hZ fs l.file)).present)=true then 3 else if ((gM fs (hZ fs l.file)).sum != l.sum)=true then 2 else 1
def status (s:StateR) (n:ByteArray):Int :=
 if kP s.links n<0 then 0 else jE s.files (s.links.getD (kP s.links n).toNat default)
def dM (s:StateR) (n:ByteArray):ByteArray :=
 if kP s.links n<0 then ⟨#[]⟩ else (s.links.getD (kP s.links n).toNat default).proxy
theorem lidx_range (ls:List LinkR) (n:ByteArray):kP ls n = -1 ∨ ∃ k:Nat,k<ls.length∧kP ls n=k:=Xx _ _
theorem fidx_range (ls:List FileR) (n:ByteArray):hZ ls n = -1 ∨ ∃ k:Nat,k<ls.length∧hZ ls n=k:=Xx _ _
theorem cProxy (s:StateR) (n:ByteArray) (hl:s.links.length≤maxLen):aS Tryz.prog 57 [fE s,bT n] (bT (dM s n)):=by
 refine aH Tryz.X57 Tryz.func57 rfl Tryz.ntmps57 (by rw [Tryz.results57]) (aD _ ?_);simp only [go_sem,simprocAttr];refine ⟨_,aTz s n hl,?_⟩;simp only [go_sem,simprocAttr];rcases lidx_range s.links n with hk | ⟨k,hk,hkl⟩
 ·have e:dM s n=⟨#[]⟩:=by unfold dM;rw [hk];rfl
  rw [e,hk];simp only [go_sem,simprocAttr,decide_true];unfold awS;simp only [go_sem,simprocAttr];exact fun h=>h.elim
 ·have e:dM s n=(s.links.getD k default).proxy:=by
   unfold dM;rw [hkl,if_neg (by omega),Int.toNat_natCast]
  rw [e,hkl];refine ⟨fun h=>by simp only [bxx] at h;omega,fun h=>?_⟩;unfold awS;simp only [go_sem,simprocAttr];omega
theorem Ca (s:StateR) (n:ByteArray) (hf:s.files.length≤maxLen) (hl:s.links.length≤maxLen):aS Tryz.prog 26 [fE s,bT n] (aC (status s n)):=by
 refine aH Tryz.X26 Tryz.func26 rfl Tryz.ntmps26 (by rw [Tryz.results26]) (aD _ ?_);simp only [go_sem,simprocAttr];refine ⟨_,aTz s n hl,?_⟩;simp only [go_sem,simprocAttr];rcases lidx_range s.links n with hk | ⟨k,hk,hkl⟩
 ·have e:status s n=0:=by unfold status;rw [hk];rfl
  rw [e,hk];simp only [go_sem,simprocAttr,decide_true];unfold awS;simp only [go_sem,simprocAttr];exact fun h=>h.elim
 ·have e:status s n=jE s.files (s.links.getD k default):=by
   unfold status;rw [hkl,if_neg (by omega),Int.toNat_natCast]
  rw [e,hkl];refine ⟨fun h=>by simp only [bxx] at h;omega,fun h=>?_⟩;unfold awS;simp only [go_sem,simprocAttr];refine aR 9 .done rfl (by kernel_rfl) (by kernel_rfl) (by decide) ?_;simp only [go_sem,simprocAttr];refine ⟨⟨by omega,by omega⟩,_,aU0 s _ hf,?_⟩;simp only [go_sem,simprocAttr];refine ⟨by kernel_rfl,?_⟩;obtain ⟨l,hle⟩:∃ l,l=s.links.getD k default:=⟨_,rfl⟩
  rw [← hle];rcases fidx_range s.files l.file with hq | ⟨q,hq,hql⟩
  ·have e:jE s.files l=3:=by unfold jE;rw [hq];rfl
   rw [e,hq];simp only [go_sem,simprocAttr,decide_true];unfold awS;simp only [go_sem,simprocAttr];exact ⟨fun h=>h.elim,fun h=>h.elim⟩
  ·rw [hql];have e:jE s.files l=if (!(s.files.getD q default).present)=true then 3 else if ((s.files.getD q default).sum != l.sum)=true then 2 else 1:=by
    unfold jE gM;rw [hql,decide_eq_false (by omega),Int.toNat_natCast,Bool.false_or]
   rw [e];simp only [go_sem,simprocAttr];have hd:decide ((q:Int)<0)=false:=decide_eq_false (by omega);refine ⟨fun _=>⟨by omega,by omega⟩,fun h=>?_,fun h=>?_⟩
   ·rw [hd,Bool.false_or] at h;rw [if_pos h];unfold awS;simp only [go_sem,simprocAttr]
   ·rw [hd,Bool.false_or] at h;rw [h,if_neg (by decide)];unfold awS;simp only [go_sem,simprocAttr];refine aR 14 .done rfl (by kernel_rfl) (by kernel_rfl) (by decide) ?_;simp only [go_sem,simprocAttr];rw [← hle];refine ⟨⟨by omega,by omega⟩,⟨by omega,by omega⟩,by kernel_rfl,?_⟩;refine ⟨fun h2=>?_,fun h2=>?_⟩
    ·rw [if_pos h2];unfold awS;simp only [go_sem,simprocAttr]
    ·rw [h2,if_neg (by decide)];unfold awS;simp only [go_sem,simprocAttr]
theorem Ak (s:StateR) (n:ByteArray) (hf:s.files.length≤maxLen) (hl:s.links.length≤maxLen):aS Tryz.prog 64 [fE s,bT n] (aC (status s n)):=by
 refine aH Tryz.X64 Tryz.func64 rfl Tryz.ntmps64 (by rw [Tryz.results64]) (aD _ ?_);simp only [go_sem,simprocAttr];refine ⟨_,Tm s n hl,?_⟩;simp only [go_sem,simprocAttr];rcases lidx_range s.links n with hk | ⟨k,hk,hkl⟩
 ·have e:status s n=0:=by unfold status;rw [hk];rfl
  rw [e,hk];simp only [go_sem,simprocAttr,decide_true];unfold awS;simp only [go_sem,simprocAttr];exact fun h=>h.elim
 ·have e:status s n=jE s.files (s.links.getD k default):=by
   unfold status;rw [hkl,if_neg (by omega),Int.toNat_natCast]
  rw [e,hkl];refine ⟨fun h=>by simp only [bxx] at h;omega,fun h=>?_⟩;unfold awS;simp only [go_sem,simprocAttr];refine aR 9 .done rfl (by kernel_rfl) (by kernel_rfl) (by decide) ?_;simp only [go_sem,simprocAttr];refine ⟨⟨by omega,by omega⟩,_,aJ8 s _ hf,?_⟩;simp only [go_sem,simprocAttr];refine ⟨by kernel_rfl,?_⟩;obtain ⟨l,hle⟩:∃ l,l=s.links.getD k default:=⟨_,rfl⟩
  rw [← hle];rcases fidx_range s.files l.file with hq | ⟨q,hq,hql⟩
  ·have e:jE s.files l=3:=by unfold jE;rw [hq];rfl
   rw [e,hq];simp only [go_sem,simprocAttr,decide_true];unfold awS;simp only [go_sem,simprocAttr];exact ⟨fun h=>h.elim,fun h=>h.elim⟩
  ·rw [hql];have e:jE s.files l=if (!(s.files.getD q default).present)=true then 3 else if ((s.files.getD q default).sum != l.sum)=true then 2 else 1:=by
    unfold jE gM;rw [hql,decide_eq_false (by omega),Int.toNat_natCast,Bool.false_or]
   rw [e];simp only [go_sem,simprocAttr];have hd:decide ((q:Int)<0)=false:=decide_eq_false (by omega);refine ⟨fun _=>⟨by omega,by omega⟩,fun h=>?_,fun h=>?_⟩
   ·rw [hd,Bool.false_or] at h;rw [if_pos h];unfold awS;simp only [go_sem,simprocAttr]
   ·rw [hd,Bool.false_or] at h;rw [h,if_neg (by decide)];unfold awS;simp only [go_sem,simprocAttr];refine aR 13 .done rfl (by kernel_rfl) (by kernel_rfl) (by decide) ?_;simp only [go_sem,simprocAttr];rw [← hle];refine ⟨⟨by omega,by omega⟩,⟨by omega,by omega⟩,by kernel_rfl,?_⟩;refine ⟨fun h2=>?_,fun h2=>?_⟩
    ·rw [if_pos h2];unfold awS;simp only [go_sem,simprocAttr]
    ·rw [h2,if_neg (by decide)];unfold awS;simp only [go_sem,simprocAttr]
open Go.RowKit
set_option maxRecDepth 4000
def aJk (p:Nat→Bool) (n:Nat):Bool:=(List.range n).all p
theorem wF {p:Nat→Bool} {n:Nat}:aJk p n=true ↔ ∀ i,i<n→p i=true:=by simp [aJk,List.all_eq_true]
theorem nH {p:Nat→Bool} {k n:Nat} (h:k<n) (hp:p k=false):aJk p n=false:=by
 rw [Bool.eq_false_iff];intro hc;rw [wF.1 hc k h] at hp;cases hp
def okF (fs:List FileR) (i:Nat):Bool:=bB (fs.getD i default).name && !sZ (fs.getD i default).name ((fs.take i).map FileR.name)
def okL (ls:List LinkR) (i:Nat):Bool :=
 bB (ls.getD i default).media && !sZ (ls.getD i default).media ((ls.take i).map LinkR.media)&&bB (ls.getD i default).file&&(emp (ls.getD i default).proxy||bB (ls.getD i default).proxy) &&
 !((ls.getD i default).proxy.toList==(ls.getD i default).media.toList)
def fK (s:StateR):Bool:=decide ((s.files.length:Int)≤32)&&decide ((s.links.length:Int)≤16)&&aJk (okF s.files) s.files.length&&aJk (okL s.links) s.links.length
theorem cPx (s:ByteArray):aS Tryz.prog 125 [bT s] (aT (emp s||bB s)):=by
 refine aH Tryz.X125 Tryz.func125 rfl Tryz.ntmps125 (by rw [Tryz.results125]) (aD _ ?_);simp only [go_sem,simprocAttr];refine ⟨_,fun _=>xW s,?_⟩;simp only [go_sem,simprocAttr];rfl
theorem aB7 (s:StateR) (hf:s.files.length≤maxLen) (hl:s.links.length≤maxLen):aS Tryz.prog 56 [fE s] (aT (fK s)):=by
 refine aH Tryz.X56 Tryz.func56 rfl Tryz.ntmps56 (by rw [Tryz.results56]) (aD _ ?_);simp only [go_sem,simprocAttr];refine brW (b := !(decide ((s.files.length:Int)≤32)&&decide ((s.links.length:Int)≤16))) ?_ ⟨fun hb=>?_,fun hb=>?_⟩
 ·rw [mS,mS]
  (try simp only [bne]);cases (decide ((s.files.length:Int)≤32))<;>cases (decide ((s.links.length:Int)≤16))<;>rfl
 ·have e:fK s=false:=by
   unfold fK;have hb2:(decide ((s.files.length:Int)≤32)&&decide ((s.links.length:Int)≤16))=false:=by simpa only [Bool.not_eq_true'] using hb
   rw [hb2];rfl
  rw [e];unfold awS;simp only [go_sem,simprocAttr]
 ·have hb2:(decide ((s.files.length:Int)≤32)&&decide ((s.links.length:Int)≤16))=true:=by simpa only [Bool.not_eq_false'] using hb
  have e:fK s=(aJk (okF s.files) s.files.length&&aJk (okL s.links) s.links.length):=by
   unfold fK;rw [hb2];rfl
  rw [e];simp only [Bool.and_eq_true,decide_eq_true_eq] at hb2;unfold awS;simp only [go_sem,simprocAttr];refine aE (fun (k:Nat) σ => sP 1 (.map (tEs (rH ((s.files.take k).map FileR.name)))) (bD 23 (aC k) (aW [5,24,25,26,27,28,29,30,31,32,33,34,35,36,37,38,39] (aX σ)))) (fun k=>k≤s.files.length ∧ ∀ i,i<k→okF s.files i=true) (fun k=>s.files.length - k) 0 (aA ?_) ⟨Nat.zero_le _,by omega⟩ ?_
  ·simp only [go_sem,simprocAttr];exact ⟨by simp,rfl,by simp⟩
  ·rintro k ⟨hk,hi⟩;refine aD _ ?_;simp only [go_sem,simprocAttr];refine ⟨fun hlt=>?_,fun hge=>?_⟩
   ·simp only [bxx] at hlt;have hkl:k<s.files.length:=by omega
    unfold awS;simp only [go_sem,simprocAttr];refine ⟨⟨by omega,by omega⟩,_,xW _,?_⟩;obtain ⟨n,hn⟩:∃ n,n=(s.files.getD k default).name:=⟨_,rfl⟩
    have eO:okF s.files k=(bB n && !sZ n ((s.files.take k).map FileR.name)):=by unfold okF;rw [← hn]
    rw [← hn];cases hm:sZ n ((s.files.take k).map FileR.name) with
    | true =>
     simp only [go_sem,simprocAttr,zP,hm];rw [nH hkl (by rw [eO,hm,Bool.not_true,Bool.and_false])];rfl
    | false =>
     simp only [go_sem,simprocAttr,zP,hm];refine ⟨fun h=>?_,fun h=>?_⟩
     ·have hv:bB n=false:=by simpa using h
      rw [nH hkl (by rw [eO,hv,Bool.false_and])];unfold awS;simp only [go_sem,simprocAttr]
     ·have hv:bB n=true:=by simpa using h
      unfold awS;simp only [go_sem,simprocAttr];refine ⟨k+1,aA ?_,⟨by omega,upto hi (by rw [eO,hm,hv];rfl)⟩,by omega⟩;simp only [go_sem,simprocAttr];rw [Az,bE hkl,List.map_append,List.map_singleton, ← hn,aZ (show k<9223372036854775807 by omega)];simp
   ·simp only [bxx] at hge;have:k=s.files.length:=by omega
    subst this;unfold awS;simp only [go_sem,simprocAttr];rw [wF.2 hi,Bool.true_and];refine aE (fun (k:Nat) σ => sP 2 (.map (tEs (rH ((s.links.take k).map LinkR.media)))) (bD 45 (aC k) (aW [8,46,47,48,49,50,51,52,53,54,55,56,57,58,59,60,61,62,63,64,65,66,67,68,69,70,71,72,73,74,75,76,77,78,79,80] (aX σ)))) (fun k=>k≤s.links.length ∧ ∀ i,i<k→okL s.links i=true) (fun k=>s.links.length - k) 0 (aA ?_) ⟨Nat.zero_le _,by omega⟩ ?_
    ·simp only [go_sem,simprocAttr];exact ⟨by simp,rfl,by simp,by simp⟩
    ·rintro k ⟨hk,hi⟩;refine aD _ ?_;simp only [go_sem,simprocAttr];refine ⟨fun hlt=>?_,fun hge=>?_⟩
     ·simp only [bxx] at hlt;have hkl:k<s.links.length:=by omega
      obtain ⟨l,hl⟩:∃ l,l=s.links.getD k default:=⟨_,rfl⟩
      have eO:okL s.links k=(bB l.media && !sZ l.media ((s.links.take k).map LinkR.media)&&bB l.file&&(emp l.proxy||bB l.proxy) && !(l.proxy.toList==l.media.toList)):=by unfold okL;rw [← hl]
      unfold awS;simp only [go_sem,simprocAttr];rw [← hl];refine ⟨⟨by omega,by omega⟩,_,xW _,?_⟩;simp only [go_sem,simprocAttr];cases hm:sZ l.media ((s.links.take k).map LinkR.media) with
      | true =>
       rw [nH hkl (by rw [eO,hm,Bool.not_true,Bool.and_false,Bool.false_and,Bool.false_and,Bool.false_and])];cases hv:bB l.media with
       | false =>
        simp only [go_sem,simprocAttr,zP,hm];refine ⟨aT false,fun h=>h.elim,?_⟩;simp only [go_sem,simprocAttr];refine ⟨aT false,fun h=>h.elim,?_⟩;simp only [go_sem,simprocAttr]
       | true =>
        simp only [go_sem,simprocAttr,zP,hm];refine ⟨aT false,fun h=>h.elim,?_⟩;simp only [go_sem,simprocAttr];refine ⟨aT false,fun h=>h.elim,?_⟩;simp only [go_sem,simprocAttr]
      | false =>
       cases hv:bB l.media with
       | false =>
        rw [nH hkl (by rw [eO,hv,Bool.false_and,Bool.false_and,Bool.false_and,Bool.false_and])];simp only [go_sem,simprocAttr,zP,hm];refine ⟨aT false,fun h=>h.elim,?_⟩;simp only [go_sem,simprocAttr];refine ⟨aT false,fun h=>h.elim,?_⟩;simp only [go_sem,simprocAttr]
       | true =>
        simp only [go_sem,simprocAttr,zP,hm];refine ⟨_,xW _,?_⟩;simp only [go_sem,simprocAttr];cases hf2:bB l.file with
        | false =>
         rw [nH hkl (by rw [eO,hf2,Bool.and_false,Bool.false_and,Bool.false_and])];simp only [go_sem,simprocAttr];refine ⟨aT false,fun h=>h.elim,?_⟩;simp only [go_sem,simprocAttr]
        | true =>
         simp only [go_sem,simprocAttr];refine ⟨_,cPx _,?_⟩;simp only [go_sem,simprocAttr];have e3:okL s.links k = !(!(emp l.proxy||bB l.proxy)||l.proxy.toList==l.media.toList):=by
          rw [eO,hm,hv,hf2];cases (emp l.proxy||bB l.proxy)<;>cases (l.proxy.toList==l.media.toList)<;>rfl
         refine ⟨fun h=>?_,fun h=>?_⟩
         ·rw [nH hkl (by rw [e3,h];rfl)];unfold awS;simp only [go_sem,simprocAttr]
         ·unfold awS;simp only [go_sem,simprocAttr];refine ⟨k+1,aA ?_,⟨by omega,upto hi (by rw [e3,h];rfl)⟩,by omega⟩;simp only [go_sem,simprocAttr];rw [Az,bE hkl,List.map_append,List.map_singleton, ← hl,aZ (show k<9223372036854775807 by omega)];simp
     ·simp only [bxx] at hge;have:k=s.links.length:=by omega
      subst this;rw [wF.2 hi];unfold awS;simp only [go_sem,simprocAttr]
open Go.RowKit
set_option maxRecDepth 4000
theorem toList_eq {a b:ByteArray}:(a.toList==b.toList)=true ↔ a=b:=by
 rw [beq_iff_eq];exact ⟨fun h=>ByteArray.ext (Array.ext' (by simpa [ByteArray.toList_eq] using h)),fun h=>by rw [h]⟩
theorem aEh {α : Type} [Inhabited α] {p : α → Bool} {l:List α}:∀ {k:Nat},k≤l.length→(∀ i,i<k→p (l.getD i default)=false)→idx p l=bC p (l.drop k) k
 | 0,_,_=>rfl
 | k+1,hk,h=>by
  rw [vX (by omega) (h k (by omega))];exact aEh (by omega) fun i hi=>h i (by omega)
theorem idx_least {α : Type} [Inhabited α] {p : α → Bool} {l:List α} {k:Nat} (hk:k<l.length) (hp:p (l.getD k default)=true):idx p l=k ∨ ∃ i,i<k∧p (l.getD i default)=true∧idx p l=i:=by
 induction k using Nat.strongRecOn with
 | ind k ih =>
  by_cases h:∃ i,i<k∧p (l.getD i default)=true
  ·obtain ⟨i,hi,hpi⟩:=h;rcases ih i hi (by omega) hpi with h1 | ⟨j,hj,hpj,h1⟩
   ·exact .inr ⟨i,hi,hpi,h1⟩
   ·exact .inr ⟨j,by omega,hpj,h1⟩
  ·refine .inl ?_;rw [aEh (k:=k) (by omega) fun i hi=>by
    cases e:p (l.getD i default) with
    | false=>rfl
    | true=>exact absurd ⟨i,hi,e⟩ h]
   exact zW hk hp
theorem Qt {α : Type} [Inhabited α] {l:List α} {nm : α → ByteArray} {n:ByteArray} {k:Nat} (hk:k≤l.length):sZ n ((l.take k).map nm)=true ↔ ∃ i,i<k∧nm (l.getD i default)=n:=by
 rw [sY,List.mem_map];constructor
 ·rintro ⟨x,hx,rfl⟩;obtain ⟨i,hi,rfl⟩:=List.getElem_of_mem hx;rw [List.length_take] at hi;exact ⟨i,by omega,by rw [List.getElem_take,aK (by omega)]⟩
 ·rintro ⟨i,hi,rfl⟩;refine ⟨l.getD i default,?_,rfl⟩;rw [aK (by omega:i<l.length)];exact List.mem_iff_getElem.2 ⟨i,by rw [List.length_take];omega,by rw [List.getElem_take]⟩
theorem aEj {α : Type} [Inhabited α] {l:List α} {nm : α → ByteArray} {k:Nat} (hk:k<l.length) :
  (idx (fun x : α => (nm x).toList==(nm (l.getD k default)).toList) l != (k:Int))=sZ (nm (l.getD k default)) ((l.take k).map nm):=by
 rw [Bool.eq_iff_iff,bne_iff_ne,Qt (by omega)];constructor
 ·intro h;rcases idx_least (p:=fun x : α => (nm x).toList==(nm (l.getD k default)).toList) hk (by simp) with h1 | ⟨i,hi,hp,_⟩
  ·exact absurd h1 h
  ·exact ⟨i,hi,toList_eq.1 hp⟩
 ·rintro ⟨i,hi,hn⟩;rcases idx_least (p:=fun x : α => (nm x).toList==(nm (l.getD k default)).toList) (k:=i) (by omega) (toList_eq.2 hn) with h1 | ⟨j,hj,_,h1⟩
  ·rw [h1];omega
  ·rw [h1];omega
theorem aNv {fs:List FileR} {k:Nat} (hk:k<fs.length):(hZ fs (fs.getD k default).name != (k:Int))=sZ (fs.getD k default).name ((fs.take k).map FileR.name):=aEj (nm:=FileR.name) hk
theorem aNd {ls:List LinkR} {k:Nat} (hk:k<ls.length):(kP ls (ls.getD k default).media != (k:Int))=sZ (ls.getD k default).media ((ls.take k).map LinkR.media):=aEj (nm:=LinkR.media) hk
theorem aSz {a b:ByteArray}:emp a=true→bB b=true→(a.toList==b.toList)=false:=by
 intro h1 h2;rw [Bool.eq_false_iff];intro h3;have e1:a=⟨#[]⟩:=toList_eq.1 h1;have e2:=toList_eq.1 h3;rw [← e2,e1] at h2;revert h2;decide
theorem Tk (s:StateR) (hf:s.files.length≤maxLen) (hlk:s.links.length≤maxLen):aS Tryz.prog 61 [fE s] (aT (fK s)):=by
 refine aH Tryz.X61 Tryz.func61 rfl Tryz.ntmps61 (by rw [Tryz.results61]) (aD _ ?_);simp only [go_sem,simprocAttr];refine aE (fun (k:Nat) σ => bD 3 (aC k) (aW [6,7,8,9,10,11,12,13,14,15,16,17,18,19,20,21,22,23,24,25,26,27,28,29,30,31,32] (aX σ))) (fun k=>k≤s.files.length ∧ ∀ i,i<k→okF s.files i=true) (fun k=>s.files.length - k) 0 (aA ?_) ⟨Nat.zero_le _,by omega⟩ ?_
 ·simp only [go_sem,simprocAttr];simp
 ·rintro k ⟨hk,hi⟩;refine aD _ ?_;simp only [go_sem,simprocAttr];refine ⟨fun hlt=>?_,fun hge=>?_⟩
  ·simp only [bxx] at hlt;have hkl:k<s.files.length:=by omega
   have hon:=aNv hkl;obtain ⟨n,hn⟩:∃ n,n=(s.files.getD k default).name:=⟨_,rfl⟩
   have eO:okF s.files k=(bB n && !sZ n ((s.files.take k).map FileR.name)):=by unfold okF;rw [← hn]
   rw [← hn] at hon;have stop:okF s.files k=false→fK s=false:=fun h=>by
    unfold fK;rw [nH hkl h,Bool.and_false,Bool.false_and]
   unfold awS;simp only [go_sem,simprocAttr];refine bZ [0,1,2,3,4,5,6,7,8,9,10,11,12,13,14,15,16,17,18,19] .done rfl (by kernel_rfl) (by kernel_rfl) (by decide) ?_;simp only [go_sem,simprocAttr];rw [← hn];refine ⟨⟨by omega,by omega⟩,_,uR _,?_⟩;simp only [go_sem,simprocAttr];cases hv:bB n with
   | false =>
    simp only [go_sem,simprocAttr];refine ⟨fun h=>h.elim,aC 0,fun h=>h.elim,?_⟩;simp only [go_sem,simprocAttr];rw [stop (by rw [eO,hv,Bool.false_and])]
   | true =>
    simp only [go_sem,simprocAttr];rw [← hn];refine ⟨⟨by omega,by omega⟩,_,aJ8 s n hf,?_⟩;simp only [go_sem,simprocAttr];rw [hon];refine ⟨fun h=>?_,fun h=>?_⟩
    ·rw [stop (by rw [eO,hv,h];rfl)];unfold awS;simp only [go_sem,simprocAttr]
    ·unfold awS;simp only [go_sem,simprocAttr];refine ⟨k+1,aA ?_,⟨by omega,upto hi (by rw [eO,hv,h];rfl)⟩,by omega⟩;simp only [go_sem,simprocAttr];simp [cJ (show k<s.files.length by omega) hf]
  ·simp only [bxx] at hge;have:k=s.files.length:=by omega
   subst this;have hF:=wF.2 hi;unfold awS;simp only [go_sem,simprocAttr];refine aE (fun (k:Nat) σ => bD 4 (aC k) (aW [5,33,34,35,36,37,38,39,40,41,42,43,44,45,46,47,48,49,50,51,52,53,54,55,56,57,58,59,60,61,62,63,64,65,66,67,68,69,70,71,72,73,74,75,76,77,78,79,80] (aX σ))) (fun k=>k≤s.links.length ∧ ∀ i,i<k→okL s.links i=true) (fun k=>s.links.length - k) 0 (aA ?_) ⟨Nat.zero_le _,by omega⟩ ?_
   ·simp only [go_sem,simprocAttr];simp
   ·rintro k ⟨hk,hi⟩;refine aD _ ?_;simp only [go_sem,simprocAttr];refine ⟨fun hlt=>?_,fun hge=>?_⟩
    ·simp only [bxx] at hlt;have hkl:k<s.links.length:=by omega
     have hon:=aNd hkl;obtain ⟨l,hl⟩:∃ l,l=s.links.getD k default:=⟨_,rfl⟩
     have eO:okL s.links k=(bB l.media && !sZ l.media ((s.links.take k).map LinkR.media)&&bB l.file&&(emp l.proxy||bB l.proxy) && !(l.proxy.toList==l.media.toList)):=by unfold okL;rw [← hl]
     rw [← hl] at hon;have stop:okL s.links k=false→fK s=false:=fun h=>by
      unfold fK;rw [nH hkl h,Bool.and_false]
     unfold awS;simp only [go_sem,simprocAttr];rw [← hl];refine ⟨⟨by omega,by omega⟩,_,uR _,?_⟩;simp only [go_sem,simprocAttr];refine ⟨_,fun _=>uR _,?_⟩;simp only [go_sem,simprocAttr];refine ⟨_,fun _=>Tm s _ hlk,?_⟩;simp only [go_sem,simprocAttr];refine ⟨_,fun _=>uR _,?_⟩;simp only [go_sem,simprocAttr];refine brW (b := !(okL s.links k)) ?_ ⟨fun h=>?_,fun h=>?_⟩
     ·rw [eO,hon];have hE:(l.proxy.toList==(⟨#[]⟩:ByteArray).toList)=emp l.proxy:=rfl;have h3:=aSz (a:=l.proxy) (b:=l.media);rw [hE];generalize bB l.media=A at *;generalize sZ l.media ((s.links.take k).map LinkR.media)=M at *;generalize bB l.file=B at *;generalize emp l.proxy=E at *;generalize bB l.proxy=P at *;generalize (l.proxy.toList==l.media.toList)=Q at *;clear hE eO stop hon;revert h3;cases A<;>cases M<;>cases B<;>cases E<;>cases P<;>cases Q<;>simp
     ·rw [stop (by simpa only [Bool.not_eq_true'] using h)];unfold awS;simp only [go_sem,simprocAttr]
     ·unfold awS;simp only [go_sem,simprocAttr];refine ⟨k+1,aA ?_,⟨by omega,upto hi (by simpa only [Bool.not_eq_false'] using h)⟩,by omega⟩;simp only [go_sem,simprocAttr];simp [cJ (show k<s.links.length by omega) hlk]
    ·simp only [bxx] at hge;have:k=s.links.length:=by omega
     subst this;have hL:=wF.2 hi;have e:fK s=(decide ((s.files.length:Int)≤32)&&decide ((s.links.length:Int)≤16)):=by
      unfold fK;rw [hF,hL,Bool.and_true,Bool.and_true]
     rw [e];unfold awS;simp only [go_sem,simprocAttr]
theorem aKt {α : Type} [Inhabited α] {l:List α} {x : α} (h:x∈l):∃ i, ∃ _:i<l.length,l.getD i default=x:=by
 obtain ⟨i,hi,rfl⟩:=List.getElem_of_mem h;exact ⟨i,hi,aK hi⟩
structure EventR where
 kind:Int
 media:ByteArray
 file:ByteArray
 proxy:ByteArray
 sum:Int
 deriving Inhabited
structure OutR where
 media:ByteArray
 status:Int
 deriving Inhabited
def Zk (s:ByteArray):Bool:=emp s||bB s
def jL (e:EventR):Bool :=
 if e.kind=1 then bB e.file&&emp e.media&&emp e.proxy
 else if e.kind=2 then bB e.file&&emp e.media&&emp e.proxy&&(e.sum==0)
 else if e.kind=3∨e.kind=4 then bB e.media&&bB e.file&&emp e.proxy&&(e.sum==0)
 else if e.kind=5 then bB e.media&&Zk e.proxy&&emp e.file&&(e.sum==0)
 else false
def qX (fs:List FileR) (s:ByteArray):Bool:=decide (0≤hZ fs s)&&(gM fs (hZ fs s)).present
def dH (s:StateR) (nm:ByteArray) (sum:Int):Int×StateR :=
 if 0≤hZ s.files nm then (0,⟨s.files.set (hZ s.files nm).toNat ⟨nm,sum,true⟩,s.links⟩)
 else if 32≤s.files.length then (18,s)
 else (0,⟨s.files ++ [⟨nm,sum,true⟩],s.links⟩)
def gJ (s:StateR) (nm:ByteArray):Int×StateR :=
 if qX s.files nm then (0,⟨s.files.set (hZ s.files nm).toNat { gM s.files (hZ s.files nm) with present:=false },s.links⟩) else (7,s)
def cD (s:StateR) (md nm:ByteArray):Int×StateR :=
 if 0≤kP s.links md then (8,s)
 else if qX s.files nm then
  if 16≤s.links.length then (18,s)
  else (0,⟨s.files,s.links ++ [⟨md,nm,(gM s.files (hZ s.files nm)).sum,⟨#[]⟩⟩]⟩)
 else (7,s)
def kL (s:StateR) (md nm:ByteArray):Int×StateR :=
 if kP s.links md<0 || !qX s.files nm then (7,s)
 else (0,⟨s.files,s.links.set (kP s.links md).toNat { s.links.getD (kP s.links md).toNat default with file:=nm,sum:=(gM s.files (hZ s.files nm)).sum }⟩)
def jA (s:StateR) (md px:ByteArray):Int×StateR :=
 if px.toList==md.toList then (1,s)
 else if kP s.links md<0||(!emp px&&decide (kP s.links px<0)) then (7,s)
 else (0,⟨s.files,s.links.set (kP s.links md).toNat { s.links.getD (kP s.links md).toNat default with proxy:=px }⟩)
def bP (s:StateR) (e:EventR):Int×StateR :=
 if e.kind=1 then dH s e.file e.sum
 else if e.kind=2 then gJ s e.file
 else if e.kind=3 then cD s e.media e.file
 else if e.kind=4 then kL s e.media e.file
 else jA s e.media e.proxy
def Ma (s t:StateR) (l:LinkR):Option OutR :=
 if status t l.media != status s l.media then some ⟨l.media,status t l.media⟩ else none
def sU (s t:StateR) (k:Nat):List OutR:=(t.links.take k).filterMap (Ma s t)
def Fe (s t:StateR):List OutR:=t.links.filterMap (Ma s t)
theorem Kt {s t:StateR} {k:Nat} (h:k<t.links.length):sU s t (k+1)=sU s t k++(Ma s t (t.links.getD k default)).toList:=by
 unfold sU;rw [List.take_succ_eq_append_getElem h,List.filterMap_append,aK h];cases hh:Ma s t t.links[k]<;>simp [hh]
theorem Qe (s t:StateR) (k:Nat):(sU s t k).length≤k:=by
 unfold sU;exact Nat.le_trans (List.length_filterMap_le _ _) (List.length_take_le _ _)
def eW (s:StateR) (e:EventR):StateR×List OutR×Int :=
 if fK s&&jL e then
  if (bP s e).1=0 then ((bP s e).2,Fe s (bP s e).2,0) else (⟨[],[]⟩,[],(bP s e).1)
 else (⟨[],[]⟩,[],1)
def gV (acc:StateR×List OutR×List Int) (e:EventR):StateR×List OutR×List Int :=
 if (eW acc.1 e).2.2=0 then ((eW acc.1 e).1,acc.2.1++(eW acc.1 e).2.1,acc.2.2 ++ [0]) else (acc.1,acc.2.1,acc.2.2 ++ [(eW acc.1 e).2.2])
def bR (s:StateR) (l:List EventR):StateR×List OutR×List Int:=l.foldl gV (s,[],[])
def runS (s:StateR) (l:List EventR):StateR×List OutR×List Int :=
 if fK s then bR s l else (⟨[],[]⟩,[],List.replicate l.length 1)
def gZ {α : Type} (key : α → ByteArray) (n:ByteArray) : α → Bool:=fun x=>decide (key x=n)
theorem Cx {α : Type} {p q : α → Bool} (h:∀ x,p x=q x) (l:List α) (k:Nat):bC p l k=bC q l k:=by rw [funext h]
theorem Ab (fs:List FileR) (n:ByteArray):hZ fs n=bC (gZ FileR.name n) fs 0:=by
 unfold hZ idx gZ aEv;exact Cx (fun x=>gB _ _) _ _
theorem vP (ls:List LinkR) (n:ByteArray):kP ls n=bC (gZ LinkR.media n) ls 0:=by
 unfold kP idx gZ aE0;exact Cx (fun x=>gB _ _) _ _
section
variable {α : Type} {key : α → ByteArray}
def qV (key : α → ByteArray) (xs:List α) (n:ByteArray):Option α := xs.find? (gZ key n)
theorem qB (x : α) (xs:List α) (n:ByteArray):qV key (x::xs) n=if key x=n then some x else qV key xs n:=by
 unfold qV gZ;rw [List.find?_cons]
 by_cases h:key x=n<;>simp [h]
theorem Qy:∀ {xs:List α} {k:Nat} {n:ByteArray},bC (gZ key n) xs k<0 ↔ qV key xs n=none
 | [],k,n=>by simp [bC,qV]
 | x::r,k,n=>by
  rw [qB];unfold bC
  by_cases h:key x=n
  ·simp [gZ,h]
  ·simp only [gZ,h,decide_false,Bool.false_eq_true,if_false];exact Qy
theorem Fv [Inhabited α]:∀ {xs:List α} {k:Nat} {n:ByteArray}, ¬ bC (gZ key n) xs k<0→qV key xs n=some (xs.getD ((bC (gZ key n) xs k).toNat - k) default)∧(k:Int)≤bC (gZ key n) xs k
 | [],k,n,h=>by simp [bC] at h
 | x::r,k,n,h=>by
  rw [qB];unfold bC at h ⊢
  by_cases h1:key x=n
  ·simp [gZ,h1]
  ·simp only [gZ,h1,decide_false,Bool.false_eq_true,if_false] at h ⊢;obtain ⟨e1,e2⟩:=Fv (k:=k+1) h;refine ⟨?_,by omega⟩;rw [e1];have:(bC (gZ key n) r (k+1)).toNat - k=(bC (gZ key n) r (k+1)).toNat - (k+1)+1:=by omega
   change _=some ((x::r).getD ((bC (gZ key n) r (k+1)).toNat - k) default);rw [this,List.getD_cons_succ]
theorem look_set [Inhabited α] (y : α):∀ {xs:List α} {k:Nat} {m:ByteArray},key y=m → ¬ bC (gZ key m) xs k<0 → ∀ n,qV key (xs.set ((bC (gZ key m) xs k).toNat - k) y) n=if m=n then some y else qV key xs n
 | [],k,m,_,h=>by simp [bC] at h
 | x::r,k,m,hy,h=>by
  intro n
  by_cases h1:key x=m
  ·have e:(bC (gZ key m) (x::r) k).toNat - k=0:=by simp [bC,gZ,h1]
   rw [e,List.set_cons_zero,qB,qB,hy,h1];split<;>rfl
  ·have e0:bC (gZ key m) (x::r) k=bC (gZ key m) r (k+1):=by simp [bC,gZ,h1]
   rw [e0] at h ⊢;have e2:=(Fv h).2;have:(bC (gZ key m) r (k+1)).toNat - k=(bC (gZ key m) r (k+1)).toNat - (k+1)+1:=by omega
   rw [this,List.set_cons_succ,qB,qB,look_set y hy h]
   by_cases h2:key x=n
   ·subst h2;rw [if_pos rfl,if_pos rfl,if_neg (fun h=>h1 h.symm)]
   ·simp [h2]
theorem Xk (y : α) {m:ByteArray} (hy:key y=m) {xs:List α} (h:qV key xs m=none) (n:ByteArray):qV key (xs ++ [y]) n=if m=n then some y else qV key xs n:=by
 unfold qV at *;rw [List.find?_append]
 by_cases h1:m=n
 ·subst h1;simp [h,gZ,hy]
 ·have:gZ key n y=false:=by simp [gZ,hy,h1]
  simp [this,h1]
theorem vM {xs:List α} {n:ByteArray} {x : α} (h:qV key xs n=some x):key x=n∧x∈xs:=by
 unfold qV at h;exact ⟨by simpa [gZ] using List.find?_some h,List.mem_of_find?_eq_some h⟩
theorem Xm {xs:List α} {n:ByteArray} (h:qV key xs n=none):∀ x∈xs,key x≠n:=by
 intro x hx e;have:=List.find?_eq_none.1 h x hx;simp [gZ,e] at this
theorem Ew [Inhabited α] {xs:List α} {m:ByteArray} {y : α} (hy:key y=m) (h : ¬ bC (gZ key m) xs 0<0):(xs.set (bC (gZ key m) xs 0).toNat y).map key=xs.map key:=by
 rw [List.map_set];obtain ⟨e1,_⟩:=Fv h;obtain ⟨e2,_⟩:=vM e1;rcases idxFrom_range (gZ key m) xs 0 with h3 | h3
 ·rw [h3] at h;omega
 ·have hj:(bC (gZ key m) xs 0).toNat<xs.length:=by omega
  have:xs.getD ((bC (gZ key m) xs 0).toNat - 0) default=xs[(bC (gZ key m) xs 0).toNat]:=by simp [List.getD_eq_getElem?_getD,hj]
  rw [this] at e2;rw [hy];have e3:m=(xs.map key)[(bC (gZ key m) xs 0).toNat]'(by simpa using hj):=by rw [List.getElem_map];exact e2.symm
  conv=>lhs;arg 3;rw [e3]
  exact List.set_getElem_self _
end
abbrev uE (fs:List FileR) (n:ByteArray):Option FileR:=qV FileR.name fs n
abbrev nC (ls:List LinkR) (n:ByteArray):Option LinkR:=qV LinkR.media ls n
def statL (f:Option FileR) (sum:Int):Int :=
 match f with
 | none=>3
 | some f=>if !f.present then 3 else if f.sum != sum then 2 else 1
def aJx (fs:List FileR) (l:Option LinkR):Int :=
 match l with
 | none=>0
 | some l=>statL (uE fs l.file) l.sum
theorem vZ {fs:List FileR} {n:ByteArray}:hZ fs n<0 ↔ uE fs n=none:=by rw [Ab];exact Qy
theorem aE1 {fs:List LinkR} {n:ByteArray}:kP fs n<0 ↔ nC fs n=none:=by rw [vP];exact Qy
theorem vY {fs:List FileR} {n:ByteArray} (h : ¬ hZ fs n<0):uE fs n=some (gM fs (hZ fs n)):=by
 rw [Ab] at h ⊢;exact (Fv h).1
theorem Rd {fs:List LinkR} {n:ByteArray} (h : ¬ kP fs n<0):nC fs n=some (fs.getD (kP fs n).toNat default):=by
 rw [vP] at h ⊢;exact (Fv h).1
theorem aC4 (s:StateR) (n:ByteArray):status s n=aJx s.files (nC s.links n):=by
 obtain ⟨fs,ls⟩:=s;unfold status;simp only;split
 ·rename_i h;rw [aE1.1 h];rfl
 ·rename_i h;rw [Rd h];unfold aJx jE statL;simp only
  by_cases h1:hZ fs (ls.getD (kP ls n).toNat default).file<0
  ·rw [vZ.1 h1,decide_eq_true h1];rfl
  ·rw [vY h1,decide_eq_false h1];rfl
theorem Eb (fs:List FileR) (n:ByteArray):qX fs n=match uE fs n with | none=>false | some f=>f.present:=by
 unfold qX
 by_cases h1:hZ fs n<0
 ·rw [vZ.1 h1];simp [h1];omega
 ·rw [vY h1];simp;omega
structure Ok (s:StateR):Prop where
 nf:s.files.length≤32
 nl:s.links.length≤16
 fk:(s.files.map FileR.name).Nodup
 lk:(s.links.map LinkR.media).Nodup
 fn:∀ f∈s.files,bB f.name=true
 ln:∀ l∈s.links,bB l.media=true∧bB l.file=true∧(emp l.proxy=true∨(bB l.proxy=true∧l.proxy≠l.media))
theorem xJ {α : Type} [Inhabited α] {xs:List α} {key : α → ByteArray}:(xs.map key).Nodup ↔ ∀ k,k<xs.length→sZ (key (xs.getD k default)) ((xs.take k).map key)=false:=by
 rw [List.nodup_iff_pairwise_ne,List.pairwise_iff_getElem];constructor
 ·intro h k hk;rw [Bool.eq_false_iff];intro hm;obtain ⟨i,hi,hn⟩:=(Qt (by omega)).1 hm;have:=h i k (by rw [List.length_map];omega) (by rw [List.length_map];omega) hi;rw [List.getElem_map,List.getElem_map, ← aK (by omega), ← aK hk] at this;exact this hn
 ·intro h i j hi hj hij e;rw [List.length_map] at hi hj;rw [List.getElem_map,List.getElem_map, ← aK hi, ← aK hj] at e;have:=h j hj;rw [(Qt (by omega)).2 ⟨i,hij,e⟩] at this;cases this
theorem Dp (s:StateR):fK s=true ↔ Ok s:=by
 unfold fK;simp only [Bool.and_eq_true,decide_eq_true_eq,wF];constructor
 ·rintro ⟨⟨⟨h3,h4⟩,h1⟩,h2⟩;refine ⟨by omega,by omega,xJ.2 fun k hk=>?_,xJ.2 fun k hk=>?_,fun f hf=>?_,fun l hl=>?_⟩
  ·have:=h1 k hk;simp only [okF,Bool.and_eq_true,Bool.not_eq_true'] at this;exact this.2
  ·have:=h2 k hk;simp only [okL,Bool.and_eq_true,Bool.not_eq_true'] at this;exact this.1.1.1.2
  ·obtain ⟨k,hk,rfl⟩:=aKt hf;have:=h1 k hk;simp only [okF,Bool.and_eq_true] at this;exact this.1
  ·obtain ⟨k,hk,rfl⟩:=aKt hl;have:=h2 k hk;simp only [okL,Bool.and_eq_true,Bool.or_eq_true,Bool.not_eq_true',gB,decide_eq_false_iff_not] at this;refine ⟨this.1.1.1.1,this.1.1.2,?_⟩;rcases this.1.2 with h | h
   ·exact .inl h
   ·exact .inr ⟨h,this.2⟩
 ·rintro ⟨h3,h4,h5,h6,h7,h8⟩;refine ⟨⟨⟨by omega,by omega⟩,fun k hk=>?_⟩,fun k hk=>?_⟩
  ·simp only [okF,Bool.and_eq_true,Bool.not_eq_true'];exact ⟨h7 _ (aP hk),xJ.1 h5 k hk⟩
  ·have:=h8 (s.links.getD k default) (aP hk);simp only [okL,Bool.and_eq_true,Bool.or_eq_true,Bool.not_eq_true'];refine ⟨⟨⟨⟨this.1,xJ.1 h6 k hk⟩,this.2.1⟩,?_⟩,?_⟩
   ·rcases this.2.2 with h | h
    ·exact .inl h
    ·exact .inr h.1
   ·rcases this.2.2 with h | h
    ·exact aSz h this.1
    ·rw [gB,decide_eq_false_iff_not];exact h.2
theorem emp_iff (s:ByteArray):emp s=decide (s=⟨#[]⟩):=gB s ⟨#[]⟩
theorem mem_set_or {α : Type} {l:List α} {i:Nat} {a x : α} (h:x∈l.set i a):x∈l∨x=a:=by
 rcases List.mem_or_eq_of_mem_set h with h | h
 ·exact .inl h
 ·exact .inr h
theorem aJg {s:StateR} {nm:ByteArray} {sum:Int} (hs:Ok s) (hn:bB nm=true) (h0:(dH s nm sum).1=0) :
  Ok (dH s nm sum).2∧(dH s nm sum).2.links=s.links∧(dH s nm sum).2.files.length≤s.files.length+1 ∧ ∀ n,uE (dH s nm sum).2.files n=if nm=n then some ⟨nm,sum,true⟩ else uE s.files n:=by
 unfold dH at h0 ⊢
 by_cases h : 0≤hZ s.files nm
 ·simp only [if_pos h];rw [Ab] at h ⊢;have h' : ¬ bC (gZ FileR.name nm) s.files 0<0:=by omega
  refine ⟨⟨?_,hs.nl,?_,hs.lk,?_,hs.ln⟩,trivial,by simp,fun n=>?_⟩
  ·simpa using hs.nf
  ·show ((s.files.set _ _).map FileR.name).Nodup
   rw [Ew (key:=FileR.name) (m:=nm) rfl h'];exact hs.fk
  ·intro f hf;rcases mem_set_or hf with hf | rfl
   ·exact hs.fn f hf
   ·exact hn
  ·exact look_set (key:=FileR.name) ⟨nm,sum,true⟩ (m:=nm) rfl (k:=0) h' n
 ·simp only [if_neg h] at h0 ⊢
  by_cases h1 : 32≤s.files.length
  ·simp [if_pos h1] at h0
  ·simp only [if_neg h1];have hno:uE s.files nm=none:=vZ.1 (by omega);refine ⟨⟨?_,hs.nl,?_,hs.lk,?_,hs.ln⟩,trivial,by simp,fun n=>?_⟩
   ·simp;omega
   ·simp only [List.map_append,List.map_cons,List.map_nil];rw [List.nodup_append];refine ⟨hs.fk,by simp,?_⟩;intro a ha b hb;simp at hb;subst hb;obtain ⟨f,hf,rfl⟩:=List.mem_map.1 ha;exact Xm hno f hf
   ·intro f hf;rcases List.mem_append.1 hf with hf | hf
    ·exact hs.fn f hf
    ·simp at hf;subst hf;exact hn
   ·exact Xk (key:=FileR.name) ⟨nm,sum,true⟩ rfl hno n
theorem aNk {s:StateR} {nm:ByteArray} (hs:Ok s) (h0:(gJ s nm).1=0) :
  Ok (gJ s nm).2∧(gJ s nm).2.links=s.links∧(gJ s nm).2.files.length≤s.files.length+1 ∧ ∃ f,uE s.files nm=some f∧f.present=true ∧ ∀ n,uE (gJ s nm).2.files n=if nm=n then some { f with present:=false } else uE s.files n:=by
 unfold gJ at h0 ⊢;cases hb:qX s.files nm with
 | false=>simp [hb] at h0
 | true =>
  simp only [if_true];rw [Eb] at hb
  by_cases hi:hZ s.files nm<0
  ·rw [vZ.1 hi] at hb;cases hb
  have ha:=vY hi;rw [ha] at hb;simp only at hb;obtain ⟨hk,hm⟩:=vM ha;refine ⟨⟨?_,hs.nl,?_,hs.lk,?_,hs.ln⟩,trivial,by simp,_,ha,hb,fun n=>?_⟩
  ·simpa using hs.nf
  ·show ((s.files.set _ _).map FileR.name).Nodup
   rw [Ab] at hi hk ⊢;rw [Ew (key:=FileR.name) ?_ hi]
   ·exact hs.fk
   ·exact hk
  ·intro f hf;rcases mem_set_or hf with hf | rfl
   ·exact hs.fn f hf
   ·show bB (gM s.files (hZ s.files nm)).name=true
    exact hs.fn _ hm
  ·rw [Ab] at hi hk ⊢;refine look_set (key:=FileR.name) _ ?_ (k:=0) hi n;exact hk
theorem aF8 {s:StateR} {md nm:ByteArray} (hs:Ok s) (hm:bB md=true) (hn:bB nm=true) (h0:(cD s md nm).1=0) :
  Ok (cD s md nm).2∧(cD s md nm).2.files=s.files∧(cD s md nm).2.links.length≤s.links.length+1∧nC s.links md=none ∧ ∃ f,uE s.files nm=some f∧f.present=true ∧
   ∀ n,nC (cD s md nm).2.links n=if md=n then some ⟨md,nm,f.sum,⟨#[]⟩⟩ else nC s.links n:=by
 unfold cD at h0 ⊢
 by_cases h : 0≤kP s.links md
 ·simp [if_pos h] at h0
 simp only [if_neg h] at h0 ⊢;cases hb:qX s.files nm with
 | false=>simp [hb] at h0
 | true =>
  simp only [hb,if_true] at h0 ⊢
  by_cases h1 : 16≤s.links.length
  ·simp [if_pos h1] at h0
  simp only [if_neg h1];have hno:nC s.links md=none:=aE1.1 (by omega);rw [Eb] at hb
  by_cases hi:hZ s.files nm<0
  ·rw [vZ.1 hi] at hb;cases hb
  have ha:=vY hi;rw [ha] at hb;refine ⟨⟨hs.nf,?_,hs.fk,?_,hs.fn,?_⟩,trivial,by simp,hno,_,ha,hb,fun n=>?_⟩
  ·simp;omega
  ·simp only [List.map_append,List.map_cons,List.map_nil];rw [List.nodup_append];refine ⟨hs.lk,by simp,?_⟩;intro a ha b hb;simp at hb;subst hb;obtain ⟨f,hf,rfl⟩:=List.mem_map.1 ha;exact Xm hno f hf
  ·intro l hl;rcases List.mem_append.1 hl with hl | hl
   ·exact hs.ln l hl
   ·simp at hl;subst hl;exact ⟨hm,hn, .inl (by rw [emp_iff];rfl)⟩
  ·exact Xk (key:=LinkR.media) _ rfl hno n
theorem aH4 {s:StateR} {md nm:ByteArray} (hs:Ok s) (hm:bB md=true) (hn:bB nm=true) (h0:(kL s md nm).1=0) :
  Ok (kL s md nm).2∧(kL s md nm).2.files=s.files∧(kL s md nm).2.links.length≤s.links.length+1 ∧ ∃ l f,nC s.links md=some l∧uE s.files nm=some f∧f.present=true ∧
   ∀ n,nC (kL s md nm).2.links n=if md=n then some { l with file:=nm,sum:=f.sum } else nC s.links n:=by
 unfold kL at h0 ⊢
 by_cases h:kP s.links md<0
 ·simp [h] at h0
 cases hb:qX s.files nm with
 | false=>simp [hb] at h0
 | true =>
  simp only [hb,h,decide_false,Bool.not_true,Bool.or_self,Bool.false_eq_true,if_false] at h0 ⊢;rw [Eb] at hb
  by_cases hi:hZ s.files nm<0
  ·rw [vZ.1 hi] at hb;cases hb
  have ha:=vY hi;rw [ha] at hb;have hl:=Rd h;obtain ⟨hk,hmem⟩:=vM hl;refine ⟨⟨hs.nf,?_,hs.fk,?_,hs.fn,?_⟩,trivial,by simp,_,_,hl,ha,hb,fun n=>?_⟩
  ·simpa using hs.nl
  ·show ((s.links.set _ _).map LinkR.media).Nodup
   rw [vP] at h hk ⊢;rw [Ew (key:=LinkR.media) ?_ h]
   ·exact hs.lk
   ·exact hk
  ·intro l hl;rcases mem_set_or hl with hl | rfl
   ·exact hs.ln l hl
   ·have:=hs.ln _ hmem;exact ⟨this.1,hn,this.2.2⟩
  ·rw [vP] at h hk ⊢;refine look_set (key:=LinkR.media) _ ?_ (k:=0) h n;exact hk
theorem aJe {s:StateR} {md px:ByteArray} (hs:Ok s) (hp:Zk px=true) (h0:(jA s md px).1=0) :
  Ok (jA s md px).2∧(jA s md px).2.files=s.files∧(jA s md px).2.links.length≤s.links.length+1 ∧ ∃ l,nC s.links md=some l ∧
   ∀ n,nC (jA s md px).2.links n=if md=n then some { l with proxy:=px } else nC s.links n:=by
 unfold jA at h0 ⊢;rw [gB] at h0 ⊢
 by_cases he:px=md
 ·simp [he] at h0
 simp only [he,decide_false,Bool.false_eq_true,if_false] at h0 ⊢
 by_cases h:kP s.links md<0
 ·simp [h] at h0
 cases hb:(!emp px&&decide (kP s.links px<0)) with
 | true=>simp [hb] at h0
 | false =>
  simp only [h,hb,decide_false,Bool.or_self,Bool.false_eq_true,if_false] at h0 ⊢;have hl:=Rd h;obtain ⟨hk,hmem⟩:=vM hl;refine ⟨⟨hs.nf,?_,hs.fk,?_,hs.fn,?_⟩,trivial,by simp,_,hl,fun n=>?_⟩
  ·simpa using hs.nl
  ·show ((s.links.set _ _).map LinkR.media).Nodup
   rw [vP] at h hk ⊢;rw [Ew (key:=LinkR.media) ?_ h]
   ·exact hs.lk
   ·exact hk
  ·intro l hl;rcases mem_set_or hl with hl | rfl
   ·exact hs.ln l hl
   ·have:=hs.ln _ hmem;refine ⟨this.1,this.2.1,?_⟩;unfold Zk at hp;rw [Bool.or_eq_true] at hp;rcases hp with hp | hp
    ·exact .inl hp
    ·exact .inr ⟨hp,fun e=>he (e.trans hk)⟩
  ·rw [vP] at h hk ⊢;refine look_set (key:=LinkR.media) _ ?_ (k:=0) h n;exact hk
structure StepOk (s:StateR) (e:EventR) (t:StateR):Prop where
 ok:Ok t
 nf:t.files.length≤s.files.length+1
 nl:t.links.length≤s.links.length+1
 keep:∀ n,nC s.links n≠none→nC t.links n≠none
 new:∀ n,nC t.links n≠none→nC s.links n≠none∨e.media=n
theorem Dn {s:StateR} {e:EventR} (hs:Ok s) (he:jL e=true) (h0:(bP s e).1=0):StepOk s e (bP s e).2:=by
 unfold bP at h0 ⊢;unfold jL at he
 by_cases h1:e.kind=1
 ·simp only [if_pos h1] at h0 he ⊢;simp only [Bool.and_eq_true] at he;obtain ⟨q1,q2,q3,q4⟩:=aJg hs he.1.1 h0;exact ⟨q1,q3,by rw [q2];omega,fun n h=>by rw [q2];exact h,fun n h=>by rw [q2] at h;exact .inl h⟩
 simp only [if_neg h1] at h0 he ⊢
 by_cases h2:e.kind=2
 ·simp only [if_pos h2] at h0 he ⊢;obtain ⟨q1,q2,q3,q4⟩:=aNk hs h0;exact ⟨q1,q3,by rw [q2];omega,fun n h=>by rw [q2];exact h,fun n h=>by rw [q2] at h;exact .inl h⟩
 simp only [if_neg h2] at h0 he ⊢
 by_cases h3:e.kind=3
 ·simp only [if_pos h3] at h0 ⊢;rw [if_pos (.inl h3)] at he;simp only [Bool.and_eq_true] at he;obtain ⟨q1,q2,q3,q4,f,q5,q6,q7⟩:=aF8 hs he.1.1.1 he.1.1.2 h0;refine ⟨q1,by rw [q2];omega,q3,fun n h=>?_,fun n h=>?_⟩
  ·rw [q7];split
   ·simp
   ·exact h
  ·by_cases hm:e.media=n
   ·exact .inr hm
   ·rw [q7,if_neg hm] at h;exact .inl h
 simp only [if_neg h3] at h0 ⊢
 by_cases h4:e.kind=4
 ·simp only [if_pos h4] at h0 ⊢;rw [if_pos (.inr h4)] at he;simp only [Bool.and_eq_true] at he;obtain ⟨q1,q2,q3,l,f,q4,q5,q6,q7⟩:=aH4 hs he.1.1.1 he.1.1.2 h0;refine ⟨q1,by rw [q2];omega,q3,fun n h=>?_,fun n h=>?_⟩
  ·rw [q7];split
   ·simp
   ·exact h
  ·by_cases hm:e.media=n
   ·exact .inr hm
   ·rw [q7,if_neg hm] at h;exact .inl h
 simp only [if_neg h4] at h0 ⊢;rw [if_neg (by rintro (h | h)<;>contradiction)] at he
 by_cases h5:e.kind=5
 ·rw [if_pos h5] at he;simp only [Bool.and_eq_true] at he;obtain ⟨q1,q2,q3,l,q4,q7⟩:=aJe hs he.1.1.2 h0;refine ⟨q1,by rw [q2];omega,q3,fun n h=>?_,fun n h=>?_⟩
  ·rw [q7];split
   ·simp
   ·exact h
  ·by_cases hm:e.media=n
   ·exact .inr hm
   ·rw [q7,if_neg hm] at h;exact .inl h
 ·rw [if_neg h5] at he;cases he
theorem aJw {s:StateR} {e:EventR} (hs:Ok s) (he:jL e=true) (h0:(bP s e).1=0):eW s e=((bP s e).2,Fe s (bP s e).2,0):=by
 unfold eW;rw [(Dp s).2 hs,he,if_pos h0];rfl
theorem aC2 {s:StateR} {e:EventR} (hs:Ok s) (h:(eW s e).2.2=0):jL e=true∧(bP s e).1=0:=by
 unfold eW at h;rw [(Dp s).2 hs] at h;cases he:jL e with
 | false=>simp [he] at h
 | true =>
  refine ⟨rfl,?_⟩
  by_cases h0:(bP s e).1=0
  ·exact h0
  ·simp [he,h0] at h
theorem Zq {s:StateR} {e:EventR} (hs:Ok s) (h:(eW s e).2.2=0):StepOk s e (eW s e).1∧(eW s e).2.1=Fe s (eW s e).1:=by
 obtain ⟨he,h0⟩:=aC2 hs h;rw [aJw hs he h0];exact ⟨Dn hs he h0,rfl⟩
theorem aHd:Ok ⟨[],[]⟩:=⟨by simp,by simp,by simp,by simp,by simp,by simp⟩
open Go.RowKit
set_option maxRecDepth 4000
theorem sE {α : Type} (c : α → List T) {L:List α} {j:Nat} (x : α) {r:List V} (h:r=(c x).map V.t):(aL (L.map c)).set j r=aL ((L.set j x).map c):=by
 rw [h];unfold aL;rw [List.map_set,List.map_set]
theorem aDp {xs:List (List V)} {k:Nat} (h:k<xs.length) (d:List T) (r:List V):mN d (xs.set k r) k=r:=by
 unfold mN;rw [List.getElem?_set_self h];rfl
theorem Hn {α : Type} (c : α → List T) {L:List α} {j:Nat} (x : α) {r:List T} (h:r=c x):(L.map c).set j r=(L.set j x).map c:=by
 rw [h,List.map_set]
theorem yX {α : Type} (c : α → List T) (l:List α) (k:Nat) (r:List V):((aL (l.map c)).set k r).length=l.length:=by
 unfold aL;rw [List.length_set,List.length_map,List.length_map]
theorem vC {α : Type} (c : α → List T) {l:List α} {k:Nat} (h:k<l.length) (d:List T) (r:List V):mN d ((aL (l.map c)).set k r) k=r :=
 aDp (by unfold aL;rw [List.length_map,List.length_map];exact h) d r
open Go.RowKit
set_option maxRecDepth 4000
def EventR.c (e:EventR):List T:=[ti e.kind,gN e.media,gN e.file,gN e.proxy,tu e.sum]
abbrev Hb (e:EventR):V := .agg [aC e.kind,bT e.media,bT e.file,bT e.proxy,yF e.sum]
@[go_sem] theorem EventR.ct (e:EventR):(EventR.c e).map V.t = [aC e.kind,bT e.media,bT e.file,bT e.proxy,yF e.sum]:=rfl
@[go_sem] theorem EventR.cl (e:EventR):(EventR.c e).length=5:=rfl
@[go_sem] abbrev Zp (l:List EventR):T := .list 5 (EventR.c default) (l.map EventR.c)
def OutR.c (o:OutR):List T:=[gN o.media,ti o.status]
@[go_sem] theorem OutR.ct (o:OutR):(OutR.c o).map V.t = [bT o.media,aC o.status]:=rfl
@[go_sem] theorem OutR.cl (o:OutR):(OutR.c o).length=2:=rfl
@[go_sem] abbrev aQ5 (l:List OutR):T := .list 2 (OutR.c default) (l.map OutR.c)
@[go_sem] abbrev RowF (l:List FileR):Blk := .row 153 3 (FileR.c default) (aL (l.map FileR.c))
@[go_sem] abbrev RowL (l:List LinkR):Blk := .row 135 4 (LinkR.c default) (aL (l.map LinkR.c))
abbrev stH (s:StateR):Heap:=[(2,RowL s.links),(1,RowF s.files),(0, .box [.own 1, .own 2])]
abbrev stK (s:StateR):Heap:=[(4,RowL s.links),(3,RowF s.files),(0, .box [.own 3, .own 4])]
theorem aNw {fs:List FileR} {n:ByteArray} {k:Nat} (h:hZ fs n=k):(fs.getD k default).name=n:=by
 have h0 : ¬ hZ fs n<0:=by omega
 have:=(vM (vY h0)).1;unfold gM at this;rw [h,Int.toNat_natCast] at this;exact this
theorem cChange (s:StateR) (e:EventR) (hf:s.files.length≤32) (hl:s.links.length≤16) (he : 1≤e.kind∧e.kind≤5) :
  CIO Tryz.prog 189 3 (stH s) [.own 0,Hb e] (aC (bP s e).1) (stK (bP s e).2) 5:=by
 refine mC Tryz.X189 Tryz.func189 rfl Tryz.ntmps189 (by rw [Tryz.results189]) (aD _ ?_);simp only [go_sem,simprocAttr];refine aR 14 .done rfl (by kernel_rfl) (by kernel_rfl) (by decide) ?_;simp only [go_sem,simprocAttr];have hf':s.files.length≤maxLen:=by unfold maxLen;omega
 have hl':s.links.length≤maxLen:=by unfold maxLen;omega
 refine ⟨_,Tm s _ hl',rfl,?_⟩;simp only [go_sem,simprocAttr];refine ⟨_,aJ8 s _ hf',rfl,?_⟩;simp only [go_sem,simprocAttr];refine ⟨by kernel_rfl,?_⟩;obtain ⟨x,hx⟩:∃ x,x=hZ s.files e.file:=⟨_,rfl⟩
 obtain ⟨y,hy⟩:∃ y,y=kP s.links e.media:=⟨_,rfl⟩
 rw [← hx, ← hy];have hr:x = -1 ∨ ∃ k:Nat,k<s.files.length∧x=k:=by rw [hx];exact fidx_range _ _
 have hq:y = -1 ∨ ∃ k:Nat,k<s.links.length∧y=k:=by rw [hy];exact lidx_range _ _
 have hB:qX s.files e.file=(decide (x ≥ 0)&&(s.files.getD x.toNat default).present):=by unfold qX gM;rw [← hx]
 refine ⟨fun h=>?_,fun h=>?_,fun h1=>?_,fun h1=>?_⟩
 ·simp only [bxx] at h;rcases hr with hr | ⟨k,hk,hr⟩<;>omega
 ·simp only [bxx] at h;rcases hr with hr | ⟨k,hk,hr⟩<;>omega
 ·simp only [bxx] at h1;have eP:bP s e=dH s e.file e.sum:=by unfold bP;rw [if_pos h1]
  rw [eP];unfold awS;simp only [go_sem,simprocAttr];refine ⟨fun h2=>?_,fun h2=>?_⟩
  ·simp only [bxx] at h2;obtain ⟨k,hk,rfl⟩:∃ k:Nat,k<s.files.length∧x=k:=by
    rcases hr with hr | hr
    ·omega
    ·exact hr
   have eA:dH s e.file e.sum=(0,⟨s.files.set k ⟨e.file,e.sum,true⟩,s.links⟩):=by
    unfold dH;rw [← hx,if_pos (by omega),Int.toNat_natCast]
   rw [eA];unfold awS;simp only [go_sem,simprocAttr];refine aR 18 .done rfl (by kernel_rfl) (by kernel_rfl) (by decide) ?_;have hn:=vC FileR.c hk;have hnm:=aNw hx.symm;simp only [go_sem,simprocAttr,yX,hn,List.set_set];refine ⟨⟨by omega,by omega⟩,hk,⟨by omega,by omega⟩,hk,by kernel_rfl,?_⟩;rw [hnm,sE FileR.c ⟨e.file,e.sum,true⟩ (by rfl)];refine aJ [(4,some 2),(3,some 1),(0,some 0)] ?_;simp only [go_sem,simprocAttr];simp
  ·simp only [bxx] at h2;have h32:((s.files.length:Int)==32)=decide (32≤s.files.length):=by
    rw [Bool.eq_iff_iff,beq_iff_eq,decide_eq_true_eq];omega
   unfold awS;simp only [go_sem,simprocAttr,gH,List.length_map];rw [h32];refine ⟨fun h3=>?_,fun h3=>?_⟩
   ·simp only [bxx] at h3;have eA:dH s e.file e.sum=(18,s):=by
     unfold dH;rw [← hx,if_neg (by omega),if_pos h3]
    rw [eA];unfold awS;simp only [go_sem,simprocAttr];refine aJ [(4,some 2),(3,some 1),(0,some 0)] ?_;simp only [go_sem,simprocAttr];simp
   ·simp only [bxx] at h3;have eA:dH s e.file e.sum=(0,⟨s.files ++ [⟨e.file,e.sum,true⟩],s.links⟩):=by
     unfold dH;rw [← hx,if_neg (by omega),if_neg h3]
    rw [eA];unfold awS;simp only [go_sem,simprocAttr];refine aR 15 .done rfl (by kernel_rfl) (by kernel_rfl) (by decide) ?_;simp only [go_sem,simprocAttr];refine ⟨⟨by unfold maxLen;omega,by omega⟩,by kernel_rfl,?_⟩;refine aJ [(4,some 2),(3,some 29),(0,some 0)] ?_;simp only [go_sem,simprocAttr];rw [List.map_append];simp;rfl
 ·simp only [bxx] at h1;unfold awS;simp only [go_sem,simprocAttr];refine ⟨fun h2=>?_,fun h2=>?_⟩
  ·simp only [bxx] at h2;have eP:bP s e=gJ s e.file:=by unfold bP;rw [if_neg h1,if_pos h2]
   rw [eP];unfold awS;simp only [go_sem,simprocAttr];refine ⟨fun h3=>?_,fun h3=>?_⟩
   ·have eL:gJ s e.file=(7,s):=by
     unfold gJ;rw [hB,nt h3];rfl
    rw [eL];unfold awS;simp only [go_sem,simprocAttr];refine aJ [(4,some 2),(3,some 1),(0,some 0)] ?_;simp only [go_sem,simprocAttr];simp
   ·have h4:=nf h3;obtain ⟨k,hk,rfl⟩:∃ k:Nat,k<s.files.length∧x=k:=by
     rcases hr with hr | hr
     ·rw [hr] at h4;cases h4
     ·exact hr
    have eL:gJ s e.file=(0,⟨s.files.set k { s.files.getD k default with present:=false },s.links⟩):=by
     unfold gJ gM;rw [hB,h4, ← hx,Int.toNat_natCast];rfl
    rw [eL];unfold awS;simp only [go_sem,simprocAttr];refine ⟨⟨by omega,by omega⟩,hk,?_⟩;rw [Hn FileR.c { s.files.getD k default with present:=false } (by rfl)];refine aJ [(4,some 2),(3,some 1),(0,some 0)] ?_;simp only [go_sem,simprocAttr];simp
  ·simp only [bxx] at h2;unfold awS;simp only [go_sem,simprocAttr];refine ⟨fun h3=>?_,fun h3=>?_⟩
   ·simp only [bxx] at h3;have eP:bP s e=cD s e.media e.file:=by unfold bP;rw [if_neg h1,if_neg h2,if_pos h3]
    rw [eP];unfold awS;simp only [go_sem,simprocAttr];refine ⟨fun h4=>?_,fun h4=>?_⟩
    ·simp only [bxx] at h4;have eC:cD s e.media e.file=(8,s):=by
      unfold cD;rw [← hy,if_pos h4]
     rw [eC];unfold awS;simp only [go_sem,simprocAttr];refine aJ [(4,some 2),(3,some 1),(0,some 0)] ?_;simp only [go_sem,simprocAttr];simp
    ·simp only [bxx] at h4;unfold awS;simp only [go_sem,simprocAttr];refine ⟨fun h5=>?_,fun h5=>?_⟩
     ·have eC:cD s e.media e.file=(7,s):=by
       unfold cD;rw [← hy,if_neg (by omega),hB,nt h5];rfl
      rw [eC];unfold awS;simp only [go_sem,simprocAttr];refine aJ [(4,some 2),(3,some 1),(0,some 0)] ?_;simp only [go_sem,simprocAttr];simp
     ·have h6:=nf h5;obtain ⟨k,hk,rfl⟩:∃ k:Nat,k<s.files.length∧x=k:=by
       rcases hr with hr | hr
       ·rw [hr] at h6;cases h6
       ·exact hr
      have h16:((s.links.length:Int)==16)=decide (16≤s.links.length):=by
       rw [Bool.eq_iff_iff,beq_iff_eq,decide_eq_true_eq];omega
      unfold awS;simp only [go_sem,simprocAttr,gH,List.length_map];rw [h16];refine ⟨fun h7=>?_,fun h7=>?_⟩
      ·simp only [bxx] at h7;have eC:cD s e.media e.file=(18,s):=by
        unfold cD;rw [← hy,if_neg (by omega),hB,h6,if_pos rfl,if_pos h7]
       rw [eC];unfold awS;simp only [go_sem,simprocAttr];refine aJ [(4,some 2),(3,some 1),(0,some 0)] ?_;simp only [go_sem,simprocAttr];simp
      ·simp only [bxx] at h7;have eC:cD s e.media e.file=(0,⟨s.files,s.links ++ [⟨e.media,e.file,(s.files.getD k default).sum,⟨#[]⟩⟩]⟩):=by
        unfold cD gM;rw [← hy, ← hx,if_neg (by omega),hB,h6,if_pos rfl,if_neg h7,Int.toNat_natCast]
       rw [eC];unfold awS;simp only [go_sem,simprocAttr];refine aR 23 .done rfl (by kernel_rfl) (by kernel_rfl) (by decide) ?_;simp only [go_sem,simprocAttr];refine ⟨⟨by omega,by omega⟩,hk,⟨by unfold maxLen;omega,by omega⟩,by kernel_rfl,?_⟩;refine aJ [(4,some 37),(3,some 1),(0,some 0)] ?_;simp only [go_sem,simprocAttr];rw [List.map_append];simp;rfl
   ·simp only [bxx] at h3;unfold awS;simp only [go_sem,simprocAttr];refine ⟨fun h4=>?_,fun h4=>?_⟩
    ·simp only [bxx] at h4;have eP:bP s e=kL s e.media e.file:=by unfold bP;rw [if_neg h1,if_neg h2,if_neg h3,if_pos h4]
     rw [eP];unfold awS;simp only [go_sem,simprocAttr];refine ⟨fun h5=>?_,fun h5=>?_⟩
     ·have eC:kL s e.media e.file=(7,s):=by
       unfold kL;rw [hB, ← hy,if_pos h5]
      rw [eC];unfold awS;simp only [go_sem,simprocAttr];refine aJ [(4,some 2),(3,some 1),(0,some 0)] ?_;simp only [go_sem,simprocAttr];simp
     ·have h5':=h5;rw [Bool.or_eq_false_iff,decide_eq_false_iff_not] at h5';have h6:=nf h5'.2;obtain ⟨k,hk,rfl⟩:∃ k:Nat,k<s.files.length∧x=k:=by
       rcases hr with hr | hr
       ·rw [hr] at h6;cases h6
       ·exact hr
      obtain ⟨j,hj,rfl⟩:∃ k:Nat,k<s.links.length∧y=k:=by
       rcases hq with hq | hq
       ·omega
       ·exact hq
      have eC:kL s e.media e.file=(0,⟨s.files,s.links.set j { s.links.getD j default with file:=e.file,sum:=(s.files.getD k default).sum }⟩):=by
       unfold kL gM;rw [hB, ← hy,h5, ← hx,Int.toNat_natCast,Int.toNat_natCast];rfl
      rw [eC];unfold awS;simp only [go_sem,simprocAttr];have hn:=vC LinkR.c hj;refine aR 26 .done rfl (by kernel_rfl) (by kernel_rfl) (by decide) ?_;simp only [go_sem,simprocAttr,yX,hn,List.set_set];refine ⟨⟨by omega,by omega⟩,hk,⟨by omega,by omega⟩,hj,⟨by omega,by omega⟩,hj,by kernel_rfl,?_⟩;rw [sE LinkR.c { s.links.getD j default with file:=e.file,sum:=(s.files.getD k default).sum } (by rfl)];refine aJ [(4,some 2),(3,some 1),(0,some 0)] ?_;simp only [go_sem,simprocAttr];simp
    ·simp only [bxx] at h4;have h5:e.kind=5:=by omega
     have eP:bP s e=jA s e.media e.proxy:=by unfold bP;rw [if_neg h1,if_neg h2,if_neg h3,if_neg h4]
     rw [eP];have h5':(e.kind==5)=true:=by rw [h5];rfl
     unfold awS;simp only [go_sem,simprocAttr];rw [h5'];simp only [go_sem,simprocAttr];refine ⟨?_,fun h=>h.elim⟩;unfold awS;simp only [go_sem,simprocAttr];refine ⟨fun h6=>?_,fun h6=>?_⟩
     ·have eC:jA s e.media e.proxy=(1,s):=by
       unfold jA;rw [if_pos h6]
      rw [eC];unfold awS;simp only [go_sem,simprocAttr];refine aJ [(4,some 2),(3,some 1),(0,some 0)] ?_;simp only [go_sem,simprocAttr];simp
     ·unfold awS;simp only [go_sem,simprocAttr];refine aR 16 .done rfl (by kernel_rfl) (by kernel_rfl) (by decide) ?_;simp only [go_sem,simprocAttr];refine ⟨_,fun _=>Tm s _ hl',rfl,?_⟩;simp only [go_sem,simprocAttr];refine ⟨by kernel_rfl,?_⟩;refine brW (b:=decide (y<0)||(!emp e.proxy&&decide (kP s.links e.proxy<0))) ?_ ⟨fun h7=>?_,fun h7=>?_⟩
      ·rfl
      ·have eC:jA s e.media e.proxy=(7,s):=by
        unfold jA;rw [h6,if_neg (by decide), ← hy,if_pos h7]
       rw [eC];unfold awS;simp only [go_sem,simprocAttr];refine aJ [(4,some 2),(3,some 1),(0,some 0)] ?_;simp only [go_sem,simprocAttr];simp
      ·have h7':=h7;rw [Bool.or_eq_false_iff,decide_eq_false_iff_not] at h7';obtain ⟨j,hj,rfl⟩:∃ k:Nat,k<s.links.length∧y=k:=by
        rcases hq with hq | hq
        ·omega
        ·exact hq
       have eC:jA s e.media e.proxy=(0,⟨s.files,s.links.set j { s.links.getD j default with proxy:=e.proxy }⟩):=by
        unfold jA;rw [h6,if_neg (by decide), ← hy,h7,Int.toNat_natCast];rfl
       rw [eC];unfold awS;simp only [go_sem,simprocAttr];refine aR 10 .done rfl (by kernel_rfl) (by kernel_rfl) (by decide) ?_;simp only [go_sem,simprocAttr];refine ⟨⟨by omega,by omega⟩,hj,by kernel_rfl,?_⟩;rw [sE LinkR.c { s.links.getD j default with proxy:=e.proxy } (by rfl)];refine aJ [(4,some 2),(3,some 1),(0,some 0)] ?_;simp only [go_sem,simprocAttr];simp
