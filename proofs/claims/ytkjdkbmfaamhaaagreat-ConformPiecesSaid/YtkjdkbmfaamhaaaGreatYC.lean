/- Proved here: What the reference asks of media, sequences and a project's sizes, for use in the proofs of the given statements; conditions stand in each theorem. -/
import Derived.Test.YtkjdkbmfaamhaaaGreatZU
set_option linter.unusedSimpArgs false
set_option linter.unusedVariables false
set_option linter.unusedSectionVars false
set_option linter.unnecessarySimpa false
namespace Go.Proofs.YtkjdkbmfaamhaaaGreat
open Go.RowKit
set_option maxRecDepth 4000
def fIdx {α : Type} (q : α → Bool) (l:List α):Int:=if l.any q then (l.findIdx q:Nat) else -1
theorem fIdx_hit {α : Type} [Inhabited α] {q : α → Bool} {l:List α} {k:Nat} (hk:k<l.length) (hi:∀ i,i<k→q (l.getD i default)=false) (h:q (l.getD k default)=true):fIdx q l=(k:Int):=by
 have h1:l.any q=true:=by
  rw [List.any_eq_true]
  exact ⟨_,mem_getD hk,h⟩
 unfold fIdx
 rw [if_pos h1]
 congr 1
 have:=findIdx_hit (l:=l) (p:=fun m => !q m) (k:=k) hk (fun i h'=>by rw [hi i h'];rfl) (by rw [h];rfl)
 simpa using this
open Go.RowKit
set_option maxRecDepth 4000
def srcsF (l:List ClipR):List SourceR:=(l.flatMap fun c=>[c.a,c.b]).filter fun x => !x.isZ
def srcsOf (s:SequenceR):List SourceR:=srcsF (clipsOf s)
abbrev tsrcs (l:List SourceR):T := .list 7 (SourceR.c default) (l.map SourceR.c)
abbrev RowS (l:List SourceR):Blk := .row 64 7 (SourceR.c default) (tRows (l.map SourceR.c))
abbrev RowTr (l:List (List (List ClipR))):Blk := .row 59 1 [.lit (.slice none 0 0)] (tRows (l.map fun x=>[ttracks x]))
end Go.Proofs.YtkjdkbmfaamhaaaGreat
