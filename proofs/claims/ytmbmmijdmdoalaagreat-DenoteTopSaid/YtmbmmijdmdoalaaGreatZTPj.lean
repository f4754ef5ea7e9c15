/- Proved here: What the statement about valid projects computes, for use in the proofs of the given statements; conditions stand in each theorem. -/
import Derived.Test.YtmbmmijdmdoalaaGreatYH
import Derived.Test.YtmbmmijdmdoalaaGreatYD
import Derived.Test.YtmbmmijdmdoalaaGreatYG
import Derived.Test.YtmbmmijdmdoalaaGreatZN
set_option linter.unusedSimpArgs false
set_option linter.unusedVariables false
set_option linter.unusedSectionVars false
set_option linter.unnecessarySimpa false
namespace Go.Proofs.YtmbmmijdmdoalaaGreat
open Go.RowKit
set_option maxRecDepth 4000
end Go.Proofs.YtmbmmijdmdoalaaGreat
