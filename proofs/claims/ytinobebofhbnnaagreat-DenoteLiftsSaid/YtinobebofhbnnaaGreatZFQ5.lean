/- Proved here: What the statement about frames computes, for use in the proofs of the given statements; conditions stand in each theorem. -/
import Derived.Test.YtinobebofhbnnaaGreatYO
import Derived.Test.YtinobebofhbnnaaGreatZTPj
import Derived.Test.YtinobebofhbnnaaGreatYP
set_option linter.unusedSimpArgs false
set_option linter.unusedVariables false
set_option linter.unusedSectionVars false
set_option linter.unnecessarySimpa false
namespace Go.Proofs.YtinobebofhbnnaaGreat
open Go.RowKit
set_option maxRecDepth 4000
end Go.Proofs.YtinobebofhbnnaaGreat
