/- Proved here: What is collected is what can be reached, in plain Lean; conditions stand in each theorem. -/
import Derived.Test.YtbfnemkngoaeeaaGreatQ36
import Derived.Test.YtbfnemkngoaeeaaGreatQ45
import Derived.Test.YtbfnemkngoaeeaaGreatQ40
import Derived.Test.YtbfnemkngoaeeaaGreatQ27
import Derived.Test.YtbfnemkngoaeeaaGreatQ31
import Derived.Test.YtbfnemkngoaeeaaGreatQ32
set_option linter.unusedSimpArgs false
set_option linter.unusedVariables false
set_option linter.unusedSectionVars false
set_option linter.unnecessarySimpa false
namespace Go.Proofs.YtbfnemkngoaeeaaGreat
open Go.RowKit
set_option maxRecDepth 4000
def StpU (p:ProjR):Nat→ByteArray→ByteArray→Prop
 | 0,n,m=>n=m
 | k+1,n,m => ∃ x∈eT p n,StpU p k x m
def RchU (p:ProjR) (n m:ByteArray):Prop := ∃ k,StpU p k n m
theorem RchU.refl {p:ProjR} (n:ByteArray):RchU p n n:=⟨0,rfl⟩
abbrev Pr:=List ByteArray×List ByteArray
structure CollOk (p:ProjR) (l:List ByteArray) (r r':Pr):Prop where
 s1:∀ x∈r.1,x∈r'.1
 s2:∀ x∈r.2,x∈r'.2
 all:∀ n∈l,n∈r'.2
 cl:∀ x∈r'.2,x∈r.2∨(∀ y∈eT p x,y∈r'.2) ∧ ∀ m∈aD7 p x 1,m∈r'.1
 r2:∀ x∈r'.2,x∈r.2 ∨ ∃ n∈l,RchU p n x
 r1:∀ m∈r'.1,m∈r.1 ∨ ∃ n∈l, ∃ x,RchU p n x∧m∈aD7 p x 1
structure UInv (s:StateR) (p:ProjR) (K1:List ByteArray) (a:ProjR×List ByteArray):Prop where
 lay:Layered a.1
 fit:a.1.fit
 med:a.1.media=p.media
 seq:(eR a.1.seqs s0N).isSome=true
 on:∀ n∈(Gy a.1 s0N).1,status s n=1∨n∈(Gy p s0N).1
 lf:∀ n∈(Gy a.1 s0N).1,n∈K1→n∈a.2
 sub:∀ n∈a.2,n∈K1
def usesX (m:ByteArray) (x:SourceR):Bool:=x.kind==1&&x.name.toList==m.toList
def usesS (p:ProjR) (m:ByteArray) (i:Nat):Bool:=(eA (p.seqs.getD i default)).any (usesX m)
def usI (p:ProjR) (K:IM):Nat→IM
 | 0=>K
 | i+1=>aGh p (usI p K i) (usI p K i) i
def usT (p:ProjR) (n:Int):Nat→IM
 | 0=>[n]
 | t+1=>usI p (usT p n t) p.seqs.length
def usesI (p:ProjR) (m:ByteArray) (K:IM):Nat→Bool
 | 0=>false
 | i+1=>usesI p m K i||(decide ((i:Int)∈usI p K i)&&usesS p m i)
def usesT (p:ProjR) (m:ByteArray) (n:Int):Nat→Bool
 | 0=>false
 | t+1=>usesT p m n t||usesI p m (usT p n t) p.seqs.length
def Rgood (p:ProjR) (n:ByteArray) (K:IM):Prop := ∀ j∈K, ∃ k,k<p.seqs.length∧j=(k:Int)∧RchU p n (p.seqs.getD k default).name
theorem StpU.snoc {p:ProjR}:∀ {k:Nat} {n x m:ByteArray},StpU p k n x→m∈eT p x→StpU p (k+1) n m
 | 0,n,x,m,h,hm=>by
  rw [← (show n=x from h)] at hm;exact ⟨m,hm,rfl⟩
 | k+1,n,x,m,⟨y,h1,h2⟩,hm=>⟨y,h1,StpU.snoc h2 hm⟩
end Go.Proofs.YtbfnemkngoaeeaaGreat
