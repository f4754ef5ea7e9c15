/- Proved here: Plain laws of the simplified expression, for use in the proofs of the given statements; conditions stand in each theorem. -/
import Derived.Test.YtmbmmijdmdoalaaGreatY2
import Derived.Test.YtmbmmijdmdoalaaGreatY3
set_option linter.unusedSimpArgs false
set_option linter.unusedVariables false
set_option linter.unusedSectionVars false
set_option linter.unnecessarySimpa false
namespace Go.Proofs.YtmbmmijdmdoalaaGreat
open Go.RowKit
set_option maxRecDepth 4000
theorem validE_mk {op:Int} {media:ByteArray} {frame num den param:Int} {text:ByteArray} {args:List ExprR} (h:fieldsOk op media frame num den param text args.length=true) (h2:∀ e∈args,validE e=true) :
  validE (.mk op media frame num den param text args)=true:=by
 unfold validE
 rw [Bool.and_eq_true,validEs_eq,List.all_eq_true]
 exact ⟨h,h2⟩
mutual
def leastE:ExprR→Bool
 | .mk op _ _ _ _ _ _ args => !((args.length==2&&eqE (args.getD 0 default) (args.getD 1 default))||(op==4&&opE (args.getD 0 default)==0))&&leastEs args
def leastEs:List ExprR→Bool
 | []=>true
 | e::es=>leastE e&&leastEs es
end
theorem validE_zero:validE zeroE=true:=by simp [zeroE,validE,validEs,fieldsOk,noB]
theorem simE_zero:simE zeroE=zeroE:=by simp only [zeroE,simE,simEs];rfl
open Go.RowKit
set_option maxRecDepth 4000
theorem cRSameE (a b:ExprR):CPure Tryz.prog 66 [vexpr a,vexpr b] (vbool (eqE a b)):=cRSameE1 _ a b (Nat.lt_succ_self _)
end Go.Proofs.YtmbmmijdmdoalaaGreat
