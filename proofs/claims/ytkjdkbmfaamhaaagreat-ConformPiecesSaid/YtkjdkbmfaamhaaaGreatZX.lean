/- Proved here: Contracts of the functions that find a frame in a track, for use in the proofs of the given statements; conditions stand in each theorem. -/
import Derived.Test.YtkjdkbmfaamhaaaGreatZJ
set_option linter.unusedSimpArgs false
set_option linter.unusedVariables false
set_option linter.unusedSectionVars false
set_option linter.unnecessarySimpa false
namespace Go.Proofs.YtkjdkbmfaamhaaaGreat
open Go.RowKit
set_option maxRecDepth 4000
def findL:List ClipR→Nat→Int→Int×Int×Bool
 | [],_,_=>(0,0,false)
 | c::l,i,n=>if n<c.len then (i,n,true) else findL l (i+1) (n - c.len)
theorem totL_nil:totL []=0:=rfl
abbrev vfind (r:Int×Int×Bool):V := .tup [vint r.1,vint r.2.1,vbool r.2.2]
def findT (t:List ClipR) (n:Int):Int×Int×Bool:=if vTrack t=true∧0≤n then findL t 0 n else (0,0,false)
end Go.Proofs.YtkjdkbmfaamhaaaGreat
