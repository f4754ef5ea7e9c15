/- Proved here: Plain laws of the simplified expression, for use in the proofs of the given statements; conditions stand in each theorem. -/
import Derived.Test.YtmbmmijdmdoalaaGreatY2
import Derived.Test.YtmbmmijdmdoalaaGreatY3
set_option linter.unusedSimpArgs false
set_option linter.unusedVariables false
set_option linter.unusedSectionVars false
set_option linter.unnecessarySimpa false
namespace Go.Proofs.YtmbmmijdmdoalaaGreat
open Go.RowKit
set_option maxRecDepth 4000
mutual
def leastE:ExprR→Bool
 | .mk op _ _ _ _ _ _ args => !((args.length==2&&eqE (args.getD 0 default) (args.getD 1 default))||(op==4&&opE (args.getD 0 default)==0))&&leastEs args
def leastEs:List ExprR→Bool
 | []=>true
 | e::es=>leastE e&&leastEs es
end
open Go.RowKit
set_option maxRecDepth 4000
end Go.Proofs.YtmbmmijdmdoalaaGreat
