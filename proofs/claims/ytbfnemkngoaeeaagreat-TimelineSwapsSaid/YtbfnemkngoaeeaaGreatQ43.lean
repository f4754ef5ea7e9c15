/- Proved here: Frames of films, the program: shares, the search, sources; conditions stand in each theorem. -/
import Derived.Test.YtbfnemkngoaeeaaGreatQ41
import Derived.Test.YtbfnemkngoaeeaaGreatQ42
import Derived.Test.YtbfnemkngoaeeaaGreatQ06
import Derived.Test.YtbfnemkngoaeeaaGreatQ18
set_option linter.unusedSimpArgs false
set_option linter.unusedVariables false
set_option linter.unusedSectionVars false
set_option linter.unnecessarySimpa false
namespace Go.Proofs.YtbfnemkngoaeeaaGreat
open Go.RowKit
set_option maxRecDepth 4000
abbrev capN (n:Int):V := .elem 1 [ti n] [[ti n]] 0 0
abbrev capL (t:List ClipR):V := .elem 3 (layC t) [layC t] 0 0
abbrev vpair (c:ClipR):V := .agg [aC c.a.kind,bP c.a.name,aC c.a.pos.num,aC c.a.pos.den,aC c.a.speed.num,aC c.a.speed.den,aP c.a.smooth,aC (qP c.a),aC (atS c.a),aC (Dm c.a),
 aC c.b.kind,bP c.b.name,aC c.b.pos.num,aC c.b.pos.den,aC c.b.speed.num,aC c.b.speed.den,aP c.b.smooth,aC (qP c.b),aC (atS c.b),aC (Dm c.b)]
open Go.RowKit
set_option maxRecDepth 4000
@[go_sem] theorem pairC_l (c:ClipR):(aDs c).length=20:=rfl
@[go_sem] theorem pairC_t (c:ClipR):(aDs c).map V.t = [aC c.a.kind,bP c.a.name,aC c.a.pos.num,aC c.a.pos.den,aC c.a.speed.num,aC c.a.speed.den,aP c.a.smooth,aC (qP c.a),aC (atS c.a),aC (Dm c.a),
 aC c.b.kind,bP c.b.name,aC c.b.pos.num,aC c.b.pos.den,aC c.b.speed.num,aC c.b.speed.den,aP c.b.smooth,aC (qP c.b),aC (atS c.b),aC (Dm c.b)]:=rfl
open Go.RowKit
set_option maxRecDepth 4000
def frameR (p:ProjR) (name:ByteArray) (n:Int):ExprR×Int :=
 if cB p≠0 then (uM,cB p) else
 match eR p.seqs name with
 | none=>(uM,7)
 | some _=>(filmE redX p 5 name n,0)
theorem aLt {α : Type} [Inhabited α] {nm : α → ByteArray} {n:ByteArray} {l:List α} {x : α} (hnd:(l.map nm).Nodup) (h:gD nm n l=some x):∃ k,k<l.length∧qH (fun y=>(nm y).toList==n.toList) l=(k:Int)∧l.getD k default=x:=by
 obtain ⟨h1,h2⟩:=mE h;obtain ⟨i,hi,he⟩:=List.getElem_of_mem h1;have:=qG hnd hi;rw [aU hi,he,h2] at this;exact ⟨i,hi,this,by rw [aU hi,he]⟩
open Go.RowKit
set_option maxRecDepth 4000
end Go.Proofs.YtbfnemkngoaeeaaGreat
