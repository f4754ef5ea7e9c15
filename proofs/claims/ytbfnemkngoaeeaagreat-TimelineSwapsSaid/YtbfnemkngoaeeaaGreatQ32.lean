/- Proved here: What the frames of a film are, in plain Lean; conditions stand in each theorem. -/
import Derived.Test.YtbfnemkngoaeeaaGreatQ29
import Derived.Test.YtbfnemkngoaeeaaGreatQ18
import Derived.Test.YtbfnemkngoaeeaaGreatQ31
import Derived.Test.YtbfnemkngoaeeaaGreatQ17
set_option linter.unusedSimpArgs false
set_option linter.unusedVariables false
set_option linter.unusedSectionVars false
set_option linter.unnecessarySimpa false
namespace Go.Proofs.YtbfnemkngoaeeaaGreat
open Go.RowKit
set_option maxRecDepth 4000
def denP (s:SourceR):Nat:=s.pos.den.toNat
def denS (s:SourceR):Nat:=s.speed.den.toNat
def qP (s:SourceR):Nat:=Nat.lcm (denP s) (denS s)
def atS (s:SourceR):Int:=s.pos.num*((qP s / denP s:Nat):Int)
def Dm (s:SourceR):Int:=s.speed.num*((qP s / denS s:Nat):Int)
def aKh (s:SourceR) (k:Int):Int:=atS s+k*Dm s
def gcdQ (num den:Int):Int:=((Nat.gcd num.natAbs den.natAbs:Nat):Int)
def redX:ExprR→ExprR
 | .mk op media frame num den param text args=>redE op media frame num den param text args
def aJt (op param num den:Int) (a b:ExprR):ExprR := .mk op ⟨#[]⟩ 0 (num / gcdQ num den) (den / gcdQ num den) param ⟨#[]⟩ [a,b]
def aG2 (R:ExprR→ExprR) (F:SourceR→Int→ExprR) (s:SourceR) (k:Int):ExprR :=
 if s.kind=0 then uM
 else if s.smooth=true∧aKh s k % (qP s:Int)≠0 then
  R (aJt 2 0 (aKh s k % (qP s:Int)) (qP s) (F s (aKh s k / (qP s:Int))) (F s (aKh s k / (qP s:Int)+1)))
 else F s (aKh s k / (qP s:Int))
def clipE (R:ExprR→ExprR) (F:SourceR→Int→ExprR) (c:ClipR) (k:Int):ExprR :=
 if c.kind=1 then aG2 R F c.a k
 else if c.kind=5 then .mk 5 ⟨#[]⟩ 0 0 0 0 c.text [aG2 R F c.a k]
 else if c.kind=4 then R (.mk 4 ⟨#[]⟩ 0 0 0 c.param ⟨#[]⟩ [aG2 R F c.a k,aG2 R F c.b k])
 else R (aJt c.kind c.param (c.off+k+1) (c.total+1) (aG2 R F c.a k) (aG2 R F c.b k))
def hitT (t:List ClipR) (n:Int):Option (ClipR×Int) :=
 if 0≤n∧(uE t 0 n).2.2=true∧(t.getD (uE t 0 n).1.toNat default).kind≠0 then some (t.getD (uE t 0 n).1.toNat default,(uE t 0 n).2.1) else none
def topT (n:Int):List (List ClipR)→Option (ClipR×Int)
 | []=>none
 | t::ts=>match hitT t n with
  | some r=>some r
  | none=>topT n ts
def medFr (p:ProjR) (n:ByteArray):Int:=match jY p.media n with
 | some m=>m.frames
 | none=>0
def leafE (p:ProjR) (G:ByteArray→Int→ExprR) (s:SourceR) (i:Int):ExprR :=
 if s.kind=2 then G s.name i
 else if i<0∨medFr p s.name≤i then uM else .mk 1 s.name i 0 0 0 ⟨#[]⟩ []
def showE (R:ExprR→ExprR) (F:SourceR→Int→ExprR):Option (ClipR×Int)→ExprR
 | some x=>clipE R F x.1 x.2
 | none=>uM
def vidsOf (p:ProjR) (n:ByteArray):List (List ClipR):=((eR p.seqs n).getD default).video
def filmE (R:ExprR→ExprR) (p:ProjR):Nat→ByteArray→Int→ExprR
 | 0,_,_=>uM
 | d+1,name,n=>showE R (leafE p (filmE R p d)) (topT n (vidsOf p name).reverse)
def goodE (e:ExprR):Prop:=aAr e=true∧e.fit
structure FilmOk (p:ProjR):Prop where
 small:cK p=true
 fit:p.fit
 med:∀ m∈p.media,dH m=true
 seq:∀ s∈p.seqs,cL s=true
 compl:∀ s∈p.seqs,fR p s=true
 uniq:(p.media.map MediumR.name).Nodup∧(p.seqs.map SequenceR.name).Nodup
 wk:∀ s∈p.seqs, ¬ Wk p 5 s.name
open Go.RowKit
set_option maxRecDepth 4000
theorem Rb {p:ProjR} (hf:p.fit) (h:cB p=0):FilmOk p:=by
 unfold cB at h;split at h
 ·cases h
 ·rename_i a1;split at h
  ·cases h
  ·rename_i a2;split at h
   ·cases h
   ·rename_i a3;split at h
    ·cases h
    ·rename_i a4;split at h
     ·cases h
     ·rename_i a5;split at h
      ·cases h
      ·rename_i a6;rw [Bool.not_eq_false] at a1 a2 a3 a4 a5 a6;have hO:=a2;rw [Bool.and_eq_true,List.all_eq_true,List.all_eq_true] at a2;have hlen:p.seqs.length≤16:=by
        have:=a1;unfold cK at this;simp only [Bool.and_eq_true,decide_eq_true_eq] at this;omega
       refine ⟨a1,hf,a2.1,a2.2,fun s hs=>List.all_eq_true.1 a4 s hs,(zW p).1 a3,fun s hs hw=>?_⟩;obtain ⟨c1,c2⟩:=wF hlen (Hp a1 hO a4) p.seqs [] (fun s hs=>hs) (Zh p) (fun _ h=>absurd h (Int.lt_irrefl 0));obtain ⟨e1,e2,e3⟩:=c2 a5;have hv:=e3 s hs;have hd:=List.all_eq_true.1 a6 s hs;unfold wB at hd;rw [decide_eq_true_eq] at hd;exact e1.dn _ hv (aF4 (by omega) hw)
open Go.RowKit
set_option maxRecDepth 4000
structure Layered (p:ProjR):Prop where
 small:cK p=true
 ok:(p.media.all dH&&p.seqs.all cL)=true
 nm:(p.media.map MediumR.name).Nodup
 ns:(p.seqs.map SequenceR.name).Nodup
 le:p.seqs.length≤5
 m1:∀ j,j<p.seqs.length → ∀ x∈eA (p.seqs.getD j default),x.kind=1 → ∃ i,i<p.media.length∧(p.media.getD i default).name=x.name
 s2:∀ j,j<p.seqs.length → ∀ x∈eA (p.seqs.getD j default),x.kind=2 → ∃ i,i<j∧(p.seqs.getD i default).name=x.name
def tSeq (n:ByteArray) (ts:List (List ClipR)):SequenceR:=⟨n,⟨25,1⟩,16,16,ts,[],[],0⟩
end Go.Proofs.YtbfnemkngoaeeaaGreat
