/- Proved here: A medium with another name, as cells, for use in the proofs of the given statements; conditions stand in each theorem. -/
import Derived.Test.YtbfnemkngoaeeaaGreatZU
set_option linter.unusedSimpArgs false
set_option linter.unusedVariables false
set_option linter.unusedSectionVars false
set_option linter.unnecessarySimpa false
namespace Go.Proofs.YtbfnemkngoaeeaaGreat
open Go.RowKit
set_option maxRecDepth 4000
theorem tCells_map:∀ l:List T,Go.Proofs.YtbfnemkngoaeeaaGreat.tCells (l.map V.t)=some l
 | []=>rfl
 | x::l=>by simp only [List.map_cons,tCells,tCells_map l];rfl
@[go_sem] theorem vmed_tCells (m:MediumR):Go.Proofs.YtbfnemkngoaeeaaGreat.tCells (vmed m)=some (MediumR.c m):=by
 exact tCells_map _
@[go_sem] theorem vmed_get0 (m:MediumR):(vmed m)[0]? = some (vstr m.name):=rfl
@[go_sem] theorem vmed_put0 (m:MediumR) (n:ByteArray):List.take 0 (vmed m) ++ [V.t (.lit (.string n))]++List.drop 1 (vmed m)=vmed { m with name:=n }:=rfl
@[go_sem] theorem vmed_put0' (m:MediumR) (n:ByteArray):V.t (.lit (.string n))::List.drop 1 (vmed m)=vmed { m with name:=n }:=rfl
@[go_sem] theorem vmed_put137 (m:MediumR) (x:Int):List.take 137 (vmed m) ++ [V.t (.lit (.int .i64 x))]++List.drop 138 (vmed m)=vmed { m with frames:=x }:=rfl
end Go.Proofs.YtbfnemkngoaeeaaGreat
