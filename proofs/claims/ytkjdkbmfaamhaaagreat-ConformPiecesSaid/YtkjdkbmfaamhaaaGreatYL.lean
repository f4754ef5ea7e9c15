/- Proved here: Frames of films, the program: shares, the search, sources, for use in the proofs of the given statements; conditions stand in each theorem. -/
import Derived.Test.YtkjdkbmfaamhaaaGreatYK
import Derived.Test.YtkjdkbmfaamhaaaGreatYP
import Derived.Test.YtkjdkbmfaamhaaaGreatZG
set_option linter.unusedSimpArgs false
set_option linter.unusedVariables false
set_option linter.unusedSectionVars false
set_option linter.unnecessarySimpa false
namespace Go.Proofs.YtkjdkbmfaamhaaaGreat
open Go.RowKit
set_option maxRecDepth 4000
theorem wNU {n:Nat} (h:n<18446744073709551616):IntKind.u64.wrap (n:Int)=n:=wrapU64 (by omega) (by omega)
abbrev capN (n:Int):V := .elem 1 [ti n] [[ti n]] 0 0
abbrev capL (t:List ClipR):V := .elem 3 (layC t) [layC t] 0 0
end Go.Proofs.YtkjdkbmfaamhaaaGreat
