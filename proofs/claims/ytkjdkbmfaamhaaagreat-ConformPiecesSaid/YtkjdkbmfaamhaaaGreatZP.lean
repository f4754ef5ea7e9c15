/- Proved here: How the arguments of the timeline's statements are read by the abstract machine, for use in the proofs of the given statements; conditions stand in each theorem. -/
import Derived.Test.YtkjdkbmfaamhaaaGreatZG
import Derived.Test.YtkjdkbmfaamhaaaGreatZI
set_option linter.unusedSimpArgs false
set_option linter.unusedVariables false
set_option linter.unusedSectionVars false
set_option linter.unnecessarySimpa false
namespace Go.Proofs.YtkjdkbmfaamhaaaGreat
open Go.RowKit
set_option maxRecDepth 4000
open Go.ChangeShapes Go.WideShapes
abbrev I64s := { n:Int // I64 n }
abbrev RatF := { r:RatR // r.fit }
abbrev SourceF := { s:SourceR // s.fit }
abbrev ClipF := { c:ClipR // c.fit }
theorem oChan:Opens Tryz.prog 3 intC:=opens_int (k := .i64) Tryz.underlying3
theorem oInts:Opens Tryz.prog 22 fun l:List Int=>[tints l]:=opens_slice (intC 0) Tryz.underlying22 oChan (by kernel_rfl) (fun _=>rfl) (by decide)
abbrev TrackF := { t:List ClipR // ∀ c∈t,c.fit }
theorem aInts:OpensV Tryz.prog 22 fun l:List Int => .t (tints l):=opensV_slice Tryz.underlying22 oInts
end Go.Proofs.YtkjdkbmfaamhaaaGreat
