/- Proved here: How the arguments of the timeline's statements are read by the abstract machine, for use in the proofs of the given statements; conditions stand in each theorem. -/
import Derived.Test.YtmbmmijdmdoalaaZG
import Derived.Test.YtmbmmijdmdoalaaZI
set_option linter.unusedSimpArgs false
set_option linter.unusedVariables false
set_option linter.unusedSectionVars false
set_option linter.unnecessarySimpa false
namespace Go.Proofs.Ytmbmmijdmdoalaa
open Go.RowKit
set_option maxRecDepth 4000
open Go.ChangeShapes Go.WideShapes
abbrev I64s := { n:Int // I64 n }
abbrev RatF := { r:RatR // r.fit }
abbrev SourceF := { s:SourceR // s.fit }
abbrev ClipF := { c:ClipR // c.fit }
abbrev TrackF := { t:List ClipR // ∀ c∈t,c.fit }
end Go.Proofs.Ytmbmmijdmdoalaa
