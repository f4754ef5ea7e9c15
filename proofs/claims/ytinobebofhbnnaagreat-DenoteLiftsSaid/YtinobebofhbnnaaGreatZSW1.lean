/- Proved here: Contracts of the functions that copy captions and lists of media and sequences, for use in the proofs of the given statements; conditions stand in each theorem. -/
import Derived.Test.YtinobebofhbnnaaGreatYF
import Derived.Test.YtinobebofhbnnaaGreatZL
set_option linter.unusedSimpArgs false
set_option linter.unusedVariables false
set_option linter.unusedSectionVars false
set_option linter.unnecessarySimpa false
namespace Go.Proofs.YtinobebofhbnnaaGreat
open Go.RowKit
set_option maxRecDepth 4000
end Go.Proofs.YtinobebofhbnnaaGreat
