/- Proved here: The simplified expression, for use in the proofs of the given statements; conditions stand in each theorem. -/
import Derived.Test.YtmbmmijdmdoalaaGreatY1
import Derived.Test.YtmbmmijdmdoalaaGreatZV
set_option linter.unusedSimpArgs false
set_option linter.unusedVariables false
set_option linter.unusedSectionVars false
set_option linter.unnecessarySimpa false
namespace Go.Proofs.YtmbmmijdmdoalaaGreat
open Go.RowKit
set_option maxRecDepth 4000
def opE:ExprR→Int
 | .mk op .. => op
def zeroE:ExprR := .mk 0 ⟨#[]⟩ 0 0 0 0 ⟨#[]⟩ []
def redE (op:Int) (media:ByteArray) (frame num den param:Int) (text:ByteArray) (args:List ExprR):ExprR :=
 match args with
 | [x,y]=>if eqE x y=true then x else if (op==4&&opE x==0)=true then (if decide (param > 16)=true then y else zeroE) else .mk op media frame num den param text [x,y]
 | args => .mk op media frame num den param text args
mutual
def simE:ExprR→ExprR
 | .mk op media frame num den param text args=>redE op media frame num den param text (simEs args)
def simEs:List ExprR→List ExprR
 | []=>[]
 | e::es=>simE e::simEs es
end
open Go.RowKit
set_option maxRecDepth 4000
def simpE (e:ExprR):ExprR:=if validE e=true then simE e else zeroE
end Go.Proofs.YtmbmmijdmdoalaaGreat
