/- Proved here: What the statement about frames computes, for use in the proofs of the given statements; conditions stand in each theorem. -/
import Derived.Test.YtmbmmijdmdoalaaGreatYO
import Derived.Test.YtmbmmijdmdoalaaGreatZTPj
import Derived.Test.YtmbmmijdmdoalaaGreatYP
set_option linter.unusedSimpArgs false
set_option linter.unusedVariables false
set_option linter.unusedSectionVars false
set_option linter.unnecessarySimpa false
namespace Go.Proofs.YtmbmmijdmdoalaaGreat
open Go.RowKit
set_option maxRecDepth 4000
theorem int_nth {ps:List Int} {k:Nat} (h:k<ps.length) (d:List T):nth d (ps.map intC) k = [ti (ps.getD k default)]:=by
 unfold nth
 rw [List.getElem?_map,List.getElem?_eq_getElem h,getD_of_lt h]
 rfl
end Go.Proofs.YtmbmmijdmdoalaaGreat
