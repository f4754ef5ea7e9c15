/- Proved here: What the frames of a film are, in plain Lean, for use in the proofs of the given statements; conditions stand in each theorem. -/
import Derived.Test.YtkjdkbmfaamhaaaGreatY3
import Derived.Test.YtkjdkbmfaamhaaaGreatZK
import Derived.Test.YtkjdkbmfaamhaaaGreatYD
import Derived.Test.YtkjdkbmfaamhaaaGreatZX
set_option linter.unusedSimpArgs false
set_option linter.unusedVariables false
set_option linter.unusedSectionVars false
set_option linter.unnecessarySimpa false
namespace Go.Proofs.YtkjdkbmfaamhaaaGreat
open Go.RowKit
set_option maxRecDepth 4000
def denP (s:SourceR):Nat:=s.pos.den.toNat
def denS (s:SourceR):Nat:=s.speed.den.toNat
def baseS (s:SourceR):Nat:=Nat.lcm (denP s) (denS s)
def atS (s:SourceR):Int:=s.pos.num*((baseS s / denP s:Nat):Int)
def stepS (s:SourceR):Int:=s.speed.num*((baseS s / denS s:Nat):Int)
def posS (s:SourceR) (k:Int):Int:=atS s+k*stepS s
def gcdQ (num den:Int):Int:=((Nat.gcd num.natAbs den.natAbs:Nat):Int)
def redX:ExprR→ExprR
 | .mk op media frame num den param text args=>redE op media frame num den param text args
def shareE (op param num den:Int) (a b:ExprR):ExprR := .mk op ⟨#[]⟩ 0 (num / gcdQ num den) (den / gcdQ num den) param ⟨#[]⟩ [a,b]
def picE (R:ExprR→ExprR) (F:SourceR→Int→ExprR) (s:SourceR) (k:Int):ExprR :=
 if s.kind=0 then zeroE
 else if s.smooth=true∧posS s k % (baseS s:Int)≠0 then
  R (shareE 2 0 (posS s k % (baseS s:Int)) (baseS s) (F s (posS s k / (baseS s:Int))) (F s (posS s k / (baseS s:Int)+1)))
 else F s (posS s k / (baseS s:Int))
def clipE (R:ExprR→ExprR) (F:SourceR→Int→ExprR) (c:ClipR) (k:Int):ExprR :=
 if c.kind=1 then picE R F c.a k
 else if c.kind=5 then .mk 5 ⟨#[]⟩ 0 0 0 0 c.text [picE R F c.a k]
 else if c.kind=4 then R (.mk 4 ⟨#[]⟩ 0 0 0 c.param ⟨#[]⟩ [picE R F c.a k,picE R F c.b k])
 else R (shareE c.kind c.param (c.off+k+1) (c.total+1) (picE R F c.a k) (picE R F c.b k))
def hitT (t:List ClipR) (n:Int):Option (ClipR×Int) :=
 if 0≤n∧(findL t 0 n).2.2=true∧(t.getD (findL t 0 n).1.toNat default).kind≠0 then some (t.getD (findL t 0 n).1.toNat default,(findL t 0 n).2.1) else none
def topT (n:Int):List (List ClipR)→Option (ClipR×Int)
 | []=>none
 | t::ts=>match hitT t n with
  | some r=>some r
  | none=>topT n ts
def medFr (p:ProjR) (n:ByteArray):Int:=match medOf p.media n with
 | some m=>m.frames
 | none=>0
def leafE (p:ProjR) (G:ByteArray→Int→ExprR) (s:SourceR) (i:Int):ExprR :=
 if s.kind=2 then G s.name i
 else if i<0∨medFr p s.name≤i then zeroE else .mk 1 s.name i 0 0 0 ⟨#[]⟩ []
def showE (R:ExprR→ExprR) (F:SourceR→Int→ExprR):Option (ClipR×Int)→ExprR
 | some x=>clipE R F x.1 x.2
 | none=>zeroE
def vidsOf (p:ProjR) (n:ByteArray):List (List ClipR):=((seqOf p.seqs n).getD default).video
def filmE (R:ExprR→ExprR) (p:ProjR):Nat→ByteArray→Int→ExprR
 | 0,_,_=>zeroE
 | d+1,name,n=>showE R (leafE p (filmE R p d)) (topT n (vidsOf p name).reverse)
def goodE (e:ExprR):Prop:=validE e=true∧e.fit
structure FilmOk (p:ProjR):Prop where
 small:smallB p=true
 fit:p.fit
 med:∀ m∈p.media,medOk m=true
 seq:∀ s∈p.seqs,seqOk s=true
 compl:∀ s∈p.seqs,complS p s=true
 uniq:(p.media.map MediumR.name).Nodup∧(p.seqs.map SequenceR.name).Nodup
 wk:∀ s∈p.seqs, ¬ Wk p 5 s.name
open Go.RowKit
set_option maxRecDepth 4000
open Go.RowKit
set_option maxRecDepth 4000
theorem mem_at0 {α : Type} [Inhabited α] {l:List α} {x : α} (h:x∈l):∃ i,i<l.length∧l.getD i default=x:=by
 obtain ⟨i,hi,rfl⟩:=List.getElem_of_mem h
 exact ⟨i,hi,getD_of_lt hi⟩
structure Layered (p:ProjR):Prop where
 small:smallB p=true
 ok:(p.media.all medOk&&p.seqs.all seqOk)=true
 nm:(p.media.map MediumR.name).Nodup
 ns:(p.seqs.map SequenceR.name).Nodup
 le:p.seqs.length≤5
 m1:∀ j,j<p.seqs.length → ∀ x∈srcsOf (p.seqs.getD j default),x.kind=1 → ∃ i,i<p.media.length∧(p.media.getD i default).name=x.name
 s2:∀ j,j<p.seqs.length → ∀ x∈srcsOf (p.seqs.getD j default),x.kind=2 → ∃ i,i<j∧(p.seqs.getD i default).name=x.name
theorem layered_net {p:ProjR} (h:Layered p):NetOk p:=by
 refine ⟨h.ns,fun s hs x hx hk=>?_⟩
 obtain ⟨j,hj,rfl⟩:=mem_at0 hs
 obtain ⟨i,hi,hn⟩:=h.s2 j hj x hx hk
 have e:sIdx p (p.seqs.getD i default).name=(i:Int):=fIdx_nodup h.ns (by omega)
 rw [← hn,e]
 omega
theorem layered_walk {p:ProjR} (h:Layered p):∀ (d j:Nat),j<p.seqs.length→Wk p d (p.seqs.getD j default).name→d≤j:=by
 intro d
 induction d with
 | zero=>intro j _ _;omega
 | succ d ih =>
  rintro j hj ⟨m,hm,hw⟩
  obtain ⟨x,hx,hk,rfl⟩:=(mem_inner (layered_net h) hj).1 hm
  obtain ⟨i,hi,hn⟩:=h.s2 j hj x hx hk
  rw [← hn] at hw
  have:=ih i (by omega) hw
  omega
theorem layered_valid {p:ProjR} (h:Layered p):validP p=0:=by
 have hN:=layered_net h
 have hC:p.seqs.all (complR p)=true:=by
  refine all_done (d:=default) fun j hj=>?_
  unfold complR
  refine List.all_eq_true.2 fun x hx=>?_
  unfold thereR
  by_cases k1:x.kind=1
  ·obtain ⟨i,hi,hn⟩:=h.m1 j hj x hx k1
   have e:mIdx p (p.media.getD i default).name=(i:Int):=fIdx_nodup h.nm hi
   rw [← hn,e,k1]
   have : ¬ (i:Int)<0:=by omega
   simp [this]
  ·by_cases k2:x.kind=2
   ·obtain ⟨i,hi,hn⟩:=h.s2 j hj x hx k2
    have e:sIdx p (p.seqs.getD i default).name=(i:Int):=fIdx_nodup h.ns (by omega)
    rw [← hn,e,k2]
    have : ¬ (i:Int)<0:=by omega
    simp [this]
   ·simp [k1,k2]
 have dep:∀ j,j<p.seqs.length→depR p (j:Int)≤j+1:=fun j hj=>by
  obtain ⟨d1,_,_⟩:=depR_facts hN hj
  rcases Nat.lt_or_ge (j+1) (depR p (j:Int)) with h1 | h1
  ·have:=layered_walk h (j+1) j hj (d1 (j+1) h1)
   omega
  ·exact h1
 have hle:=h.le
 exact (refSays p).s0 h.small h.ok (fun i hi=>uniqM_of h.nm hi) (fun i hi=>uniqS_of h.ns hi) hC (fun i hi=>by have:=dep i hi;omega) (fun i hi=>by have:=dep i hi;omega)
def tSeq (n:ByteArray) (ts:List (List ClipR)):SequenceR:=⟨n,⟨25,1⟩,16,16,ts,[],[],0⟩
end Go.Proofs.YtkjdkbmfaamhaaaGreat
