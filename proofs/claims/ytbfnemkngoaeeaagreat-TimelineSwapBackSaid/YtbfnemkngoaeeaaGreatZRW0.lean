/- Proved here: Rows of which one element is changed, for use in the proofs of the given statements; conditions stand in each theorem. -/
import Derived.Test.YtbfnemkngoaeeaaGreatZH
set_option linter.unusedSimpArgs false
set_option linter.unusedVariables false
set_option linter.unusedSectionVars false
set_option linter.unnecessarySimpa false
namespace Go.Proofs.YtbfnemkngoaeeaaGreat
open Go.RowKit
set_option maxRecDepth 4000
theorem rows_setG {α : Type} (c : α → List T) {L:List α} {j:Nat} (x : α) {r:List V} (h:r=(c x).map V.t):(tRows (L.map c)).set j r=tRows ((L.set j x).map c):=by
 rw [h]
 unfold tRows
 rw [List.map_set,List.map_set]
theorem nthV_set {xs:List (List V)} {k:Nat} (h:k<xs.length) (d:List T) (r:List V):nthV d (xs.set k r) k=r:=by
 unfold nthV
 rw [List.getElem?_set_self h]
 rfl
end Go.Proofs.YtbfnemkngoaeeaaGreat
