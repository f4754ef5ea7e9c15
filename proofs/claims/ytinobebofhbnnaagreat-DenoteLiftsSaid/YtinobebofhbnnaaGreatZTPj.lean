/- Proved here: What the statement about valid projects computes, for use in the proofs of the given statements; conditions stand in each theorem. -/
import Derived.Test.YtinobebofhbnnaaGreatYH
import Derived.Test.YtinobebofhbnnaaGreatYD
import Derived.Test.YtinobebofhbnnaaGreatYG
import Derived.Test.YtinobebofhbnnaaGreatZN
set_option linter.unusedSimpArgs false
set_option linter.unusedVariables false
set_option linter.unusedSectionVars false
set_option linter.unnecessarySimpa false
namespace Go.Proofs.YtinobebofhbnnaaGreat
open Go.RowKit
set_option maxRecDepth 4000
end Go.Proofs.YtinobebofhbnnaaGreat
