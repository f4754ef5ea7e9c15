/- Proved here: Join of two tracks, program and reference, for use in the proofs of the given statements; conditions stand in each theorem. -/
import Derived.Test.YtmbmmijdmdoalaaGreatZJN
import Derived.Test.YtmbmmijdmdoalaaGreatZR
import Derived.Test.YtmbmmijdmdoalaaGreatZH23
set_option linter.unusedSimpArgs false
set_option linter.unusedVariables false
set_option linter.unusedSectionVars false
set_option linter.unnecessarySimpa false
namespace Go.Proofs.YtmbmmijdmdoalaaGreat
open Go.RowKit
set_option maxRecDepth 4000
def joinT (a b:List ClipR):List ClipR×Int :=
 if (!vTrack a || !vTrack b)=true then ([],1)
 else if decide (totL a+totL b > 2147483647)=true then ([],2)
 else if decide ((packP (a++b)).length > 64)=true then ([],5) else (packP (a++b),0)
abbrev vte (r:List ClipR×Int):V := .tup [.t (tclips r.1),vint r.2]
end Go.Proofs.YtmbmmijdmdoalaaGreat
