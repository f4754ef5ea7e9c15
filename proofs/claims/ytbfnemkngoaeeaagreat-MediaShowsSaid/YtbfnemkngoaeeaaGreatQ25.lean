/- Proved here: Contracts of the functions that make tracks from a tape; conditions stand in each theorem. -/
import Derived.Test.YtbfnemkngoaeeaaGreatQ24
import Derived.Test.YtbfnemkngoaeeaaGreatQ06
import Derived.Test.YtbfnemkngoaeeaaGreatQ22
set_option linter.unusedSimpArgs false
set_option linter.unusedVariables false
set_option linter.unusedSectionVars false
set_option linter.unnecessarySimpa false
namespace Go.Proofs.YtbfnemkngoaeeaaGreat
open Go.RowKit
set_option maxRecDepth 4000
abbrev StT (L:List Int) (c:Nat) (es:List ClipR) (k:Nat) (σ : St):St :=
 {fr:=(σ.fr.set 9 (.own 1)).set 10 (aC c),h:=[(1,Hu es),(0, .box [.t (bY L),aC k])],nx:=2 }
open Go.RowKit
set_option maxRecDepth 4000
def eqT:List ClipR→List ClipR→Bool
 | [],[]=>true
 | c::l,d::m=>c.eqb d&&eqT l m
 | _,_=>false
def sameT (a b:List ClipR):Bool:=bC a&&bC b&&eqT (jU a) (jU b)
end Go.Proofs.YtbfnemkngoaeeaaGreat
