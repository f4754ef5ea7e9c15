/- Proved here: Contracts of the functions that copy captions and lists of media and sequences, for use in the proofs of the given statements; conditions stand in each theorem. -/
import Derived.Test.YtmbmmijdmdoalaaGreatYF
import Derived.Test.YtmbmmijdmdoalaaGreatZL
set_option linter.unusedSimpArgs false
set_option linter.unusedVariables false
set_option linter.unusedSectionVars false
set_option linter.unnecessarySimpa false
namespace Go.Proofs.YtmbmmijdmdoalaaGreat
open Go.RowKit
set_option maxRecDepth 4000
theorem set_same {α : Type} {l:List α} {k:Nat} {x : α} (h:k<l.length) (hx:l[k]=x):l.set k x=l:=by
 refine List.ext_getElem (by simp) fun i h1 h2=>?_
 rw [List.getElem_set]
 split
 ·rename_i e
  subst e
  exact hx.symm
 ·rfl
end Go.Proofs.YtmbmmijdmdoalaaGreat
