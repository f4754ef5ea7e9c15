/- Proved here: What the reference asks of media, sequences and a project's sizes; conditions stand in each theorem. -/
import Derived.Test.YtbfnemkngoaeeaaGreatQ13
set_option linter.unusedSimpArgs false
set_option linter.unusedVariables false
set_option linter.unusedSectionVars false
set_option linter.unnecessarySimpa false
namespace Go.Proofs.YtbfnemkngoaeeaaGreat
open Go.RowKit
set_option maxRecDepth 4000
def Hf {α : Type} (q : α → Bool) (l:List α):Int:=if l.any q then (l.findIdx q:Nat) else -1
theorem aVd {α : Type} [Inhabited α] {q : α → Bool} {l:List α} {k:Nat} (hk:k<l.length) (hi:∀ i,i<k→q (l.getD i default)=false) (h:q (l.getD k default)=true):Hf q l=(k:Int):=by
 have h1:l.any q=true:=by
  rw [List.any_eq_true];exact ⟨_,aW hk,h⟩
 unfold Hf;rw [if_pos h1];congr 1;have:=Aq (l:=l) (p:=fun m => !q m) (k:=k) hk (fun i h'=>by rw [hi i h'];rfl) (by rw [h];rfl);simpa using this
open Go.RowKit
set_option maxRecDepth 4000
def Wm (l:List ClipR):List SourceR:=(l.flatMap fun c=>[c.a,c.b]).filter fun x => !x.isZ
def kQ (s:SequenceR):List SourceR:=Wm (dF s)
abbrev tsrcs (l:List SourceR):T := .list 7 (SourceR.c default) (l.map SourceR.c)
abbrev RowS (l:List SourceR):Blk := .row 101 7 (SourceR.c default) (aL (l.map SourceR.c))
abbrev RowTr (l:List (List (List ClipR))):Blk := .row 112 1 [.lit (.slice none 0 0)] (aL (l.map fun x=>[gF x]))
end Go.Proofs.YtbfnemkngoaeeaaGreat
