/- Proved here: A medium with another name, as cells; conditions stand in each theorem. -/
import Derived.Test.YtbfnemkngoaeeaaGreatQ13
set_option linter.unusedSimpArgs false
set_option linter.unusedVariables false
set_option linter.unusedSectionVars false
set_option linter.unnecessarySimpa false
namespace Go.Proofs.YtbfnemkngoaeeaaGreat
open Go.RowKit
set_option maxRecDepth 4000
theorem Pf:∀ l:List T,Go.Proofs.YtbfnemkngoaeeaaGreat.tCells (l.map V.t)=some l
 | []=>rfl
 | x::l=>by simp only [List.map_cons,tCells,Pf l];rfl
@[go_sem] theorem vmed_tCells (m:MediumR):Go.Proofs.YtbfnemkngoaeeaaGreat.tCells (dZ m)=some (MediumR.c m):=by
 exact Pf _
@[go_sem] theorem vmed_get0 (m:MediumR):(dZ m)[0]? = some (bM m.name):=rfl
@[go_sem] theorem vmed_put0 (m:MediumR) (n:ByteArray):List.take 0 (dZ m) ++ [V.t (.lit (.string n))]++List.drop 1 (dZ m)=dZ { m with name:=n }:=rfl
@[go_sem] theorem vmed_put0' (m:MediumR) (n:ByteArray):V.t (.lit (.string n))::List.drop 1 (dZ m)=dZ { m with name:=n }:=rfl
@[go_sem] theorem vmed_put137 (m:MediumR) (x:Int):List.take 137 (dZ m) ++ [V.t (.lit (.int .i64 x))]++List.drop 138 (dZ m)=dZ { m with frames:=x }:=rfl
end Go.Proofs.YtbfnemkngoaeeaaGreat
