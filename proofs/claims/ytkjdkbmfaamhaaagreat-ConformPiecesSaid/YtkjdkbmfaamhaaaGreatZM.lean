/- Proved here: Contracts of the functions that pack a track, for use in the proofs of the given statements; conditions stand in each theorem. -/
import Derived.Test.YtkjdkbmfaamhaaaGreatZL
set_option linter.unusedSimpArgs false
set_option linter.unusedVariables false
set_option linter.unusedSectionVars false
set_option linter.unnecessarySimpa false
namespace Go.Proofs.YtkjdkbmfaamhaaaGreat
open Go.RowKit
set_option maxRecDepth 4000
def addLast:List ClipR→Int→List ClipR
 | [],_=>[]
 | [c],n=>[{ c with len:=c.len+n }]
 | c::d::l,n=>c::addLast (d::l) n
def packB (t:List ClipR) (k:Nat):Bool:=decide (0<k)&&contC (t.getD (k - 1) default) (t.getD k default)
def packGo (t:List ClipR):Nat→List ClipR
 | 0=>[]
 | k+1=>if packB t k=true then addLast (packGo t k) (t.getD k default).len else packGo t k ++ [t.getD k default]
def packP (t:List ClipR):List ClipR:=packGo t t.length
abbrev RowC (l:List ClipR):Blk := .row 66 22 (ClipR.c default) (tRows (l.map ClipR.c))
open Go.RowKit
set_option maxRecDepth 4000
theorem toQ_int (n:Int):toQ ⟨n,1⟩=(n:Rat):=by
 unfold toQ
 simp only [Int.toNat_one]
 rw [Rat.mkRat_one]
theorem movedS_kind {s:SourceR} {n:Int}:(movedS s n).kind=s.kind:=by unfold movedS;split<;>rfl
theorem isZ_kind {s:SourceR} (h:s.kind≠0):s.isZ=false:=by
 unfold SourceR.isZ
 rw [Bool.eq_false_iff,ne_eq,SourceR.eqb_iff]
 rintro rfl;exact h rfl
open Go.RowKit
set_option maxRecDepth 4000
def packT (t:List ClipR):List ClipR:=if vTrack t=true then packP t else []
def gapLast (o:List ClipR):Bool:=decide (0<o.length)&&(o.getD (o.length - 1) default).kind==0
def cleanL (o:List ClipR):List ClipR:=if gapLast o=true then o.take (o.length - 1) else o
def normT (t:List ClipR):List ClipR:=cleanL (packT t)
end Go.Proofs.YtkjdkbmfaamhaaaGreat
