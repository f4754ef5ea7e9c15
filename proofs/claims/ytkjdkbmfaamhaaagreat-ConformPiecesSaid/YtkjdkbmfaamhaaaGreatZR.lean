/- Proved here: Contracts of the functions that make tracks from a tape, for use in the proofs of the given statements; conditions stand in each theorem. -/
import Derived.Test.YtkjdkbmfaamhaaaGreatZQ
import Derived.Test.YtkjdkbmfaamhaaaGreatZG
import Derived.Test.YtkjdkbmfaamhaaaGreatZN
set_option linter.unusedSimpArgs false
set_option linter.unusedVariables false
set_option linter.unusedSectionVars false
set_option linter.unnecessarySimpa false
namespace Go.Proofs.YtkjdkbmfaamhaaaGreat
open Go.RowKit
set_option maxRecDepth 4000
abbrev StT (L:List Int) (c:Nat) (es:List ClipR) (k:Nat) (σ : St):St :=
 {fr:=(σ.fr.set 9 (.own 1)).set 10 (vint c),h:=[(1,RowC es),(0, .box [.t (tints L),vint k])],nx:=2 }
open Go.RowKit
set_option maxRecDepth 4000
def eqT:List ClipR→List ClipR→Bool
 | [],[]=>true
 | c::l,d::m=>c.eqb d&&eqT l m
 | _,_=>false
def sameT (a b:List ClipR):Bool:=vTrack a&&vTrack b&&eqT (normT a) (normT b)
end Go.Proofs.YtkjdkbmfaamhaaaGreat
