/- Proved here: Contracts of the functions that make clips from a tape, for use in the proofs of the given statements; conditions stand in each theorem. -/
import Derived.Test.YtmbmmijdmdoalaaZE
import Derived.Test.YtmbmmijdmdoalaaZI
set_option linter.unusedSimpArgs false
set_option linter.unusedVariables false
set_option linter.unusedSectionVars false
set_option linter.unnecessarySimpa false
namespace Go.Proofs.Ytmbmmijdmdoalaa
open Go.RowKit
set_option maxRecDepth 4000
def tapeV (L:List Int) (k:Nat):Int:=if k<L.length then L.getD k 0 else (k:Int)*7+3
def tapeN (L:List Int) (k:Nat) (n:Int):Int:=((tapeV L k).tmod n+n).tmod n
abbrev tapeB (L:List Int) (k:Nat):List V:=[.t (tints L),vint (k:Int)]
def dens:List Int:=[1,1,1,2,3,1001]
def ratR (p q:Int):RatR:=if p=0 then ⟨0,1⟩ else ⟨p / (Nat.gcd p.natAbs q.natAbs:Nat),q / (Nat.gcd p.natAbs q.natAbs:Nat)⟩
def ratAt (L:List Int) (k:Nat) (n:Int):RatR:=ratR (tapeN L k n) (dens.getD (tapeN L (k+1) 6).toNat 0)
def speeds:List (Int×Int):=[(1,1),(1,1),(1,1),(0,1),(-1,1),(1,2),(2,1),(800,1001),(-3,2)]
def speedAt (L:List Int) (k:Nat):RatR:=⟨(speeds.getD (tapeN L k 9).toNat (0,0)).1,(speeds.getD (tapeN L k 9).toNat (0,0)).2⟩
def nameB (p:ByteArray) (i:Int):ByteArray:=p++Utf8.encode (48+i)
end Go.Proofs.Ytmbmmijdmdoalaa
