/- Proved here: When two expressions are the same by the reference, for use in the proofs of the given statements; conditions stand in each theorem. -/
import Derived.Test.YtkjdkbmfaamhaaaGreatY1
set_option linter.unusedSimpArgs false
set_option linter.unusedVariables false
set_option linter.unusedSectionVars false
set_option linter.unnecessarySimpa false
namespace Go.Proofs.YtkjdkbmfaamhaaaGreat
open Go.RowKit
set_option maxRecDepth 4000
def headEqE (op:Int) (media:ByteArray) (frame num den param:Int) (text:ByteArray) (n:Int) (op2:Int) (media2:ByteArray) (frame2 num2 den2 param2:Int) (text2:ByteArray) (n2:Int):Bool :=
 op==op2&&(media.toList==media2.toList)&&frame==frame2&&num==num2&&den==den2&&param==param2&&(text.toList==text2.toList)&&n==n2
open Go.RowKit
set_option maxRecDepth 4000
def bareB (op:Int) (media:ByteArray) (frame num den param:Int) (text:ByteArray):Bool :=
 !((!(op==1)&&(!(noB media)||frame != 0))||(!(op==2||op==3)&&(num != 0||den != 0)))&&((op==3||op==4||param==0)&&(op==5||noB text))
def opsOk (op:Int) (media:ByteArray) (frame num den param:Int) (text:ByteArray):Bool :=
 if (op==0)=true then true
 else if (op==1)=true then vName media&&decide (0≤frame)&&decide (frame<2147483647)
 else if (op==2||op==3)=true then shareB num den&&decide (0≤param)&&decide (param≤3)
 else if (op==4)=true then decide (0≤param)&&decide (param≤255)
 else if (op==5)=true then vLine text
 else false
def manyE (op:Int):Int:=if (op==2||op==3||op==4)=true then 2 else if (op==5)=true then 1 else 0
open Go.RowKit
set_option maxRecDepth 4000
mutual
def leastE:ExprR→Bool
 | .mk op _ _ _ _ _ _ args => !((args.length==2&&eqE (args.getD 0 default) (args.getD 1 default))||(op==4&&opE (args.getD 0 default)==0))&&leastEs args
def leastEs:List ExprR→Bool
 | []=>true
 | e::es=>leastE e&&leastEs es
end
open Go.RowKit
set_option maxRecDepth 4000
end Go.Proofs.YtkjdkbmfaamhaaaGreat
