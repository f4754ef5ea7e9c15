/- Proved here: The index of a project's frames: places, layers, maps, for use in the proofs of the given statements; conditions stand in each theorem. -/
import Derived.Test.YtkjdkbmfaamhaaaGreatYJ
import Derived.Test.YtkjdkbmfaamhaaaGreatY6
set_option linter.unusedSimpArgs false
set_option linter.unusedVariables false
set_option linter.unusedSectionVars false
set_option linter.unnecessarySimpa false
namespace Go.Proofs.YtkjdkbmfaamhaaaGreat
open Go.RowKit
set_option maxRecDepth 4000
def placC (s:SourceR):List T:=[ti s.kind,tstr s.name,ti s.pos.num,ti s.pos.den,ti s.speed.num,ti s.speed.den,tbl s.smooth,ti (baseS s),ti (atS s),ti (stepS s)]
abbrev vplace (s:SourceR):V := .agg [vint s.kind,vstr s.name,vint s.pos.num,vint s.pos.den,vint s.speed.num,vint s.speed.den,vbool s.smooth,vint (baseS s),vint (atS s),vint (stepS s)]
@[go_sem] theorem placC_t (s:SourceR):(placC s).map V.t = [vint s.kind,vstr s.name,vint s.pos.num,vint s.pos.den,vint s.speed.num,vint s.speed.den,vbool s.smooth,vint (baseS s),vint (atS s),vint (stepS s)]:=rfl
def endsT (t:List ClipR):List Int:=(List.range t.length).map fun i=>totL (t.take (i+1))
def pairC (c:ClipR):List T:=placC c.a++placC c.b
abbrev tpairs (l:List (List T)):T := .list 20 ((placC zSource)++(placC zSource)) l
def layC (t:List ClipR):List T:=[tclips t,tints (endsT t),tpairs (t.map pairC)]
abbrev vlay (t:List ClipR):V := .agg [.t (tclips t), .t (tints (endsT t)), .t (tpairs (t.map pairC))]
abbrev zLayT:List T:=[.lit (.slice none 0 0), .lit (.slice none 0 0), .lit (.slice none 0 0)]
def fmC (m:MediumR):Bool×List T:=(false,[ti m.frames])
def lyC (s:SequenceR):Bool×List T:=(false,[.list 3 zLayT (s.video.map layC)])
def frM (l:List MediumR):List Ent:=mapOf MediumR.name fmC l
def lyM (l:List SequenceR):List Ent:=mapOf SequenceR.name lyC l
abbrev vix (p:ProjR):V := .agg [.t (.map (frM p.media)), .t (.map (lyM p.seqs))]
theorem kinds_fr (l:List MediumR):kindsT .string (frM l)=true:=kindsT_str (mapOf_str _ _ _)
theorem kinds_ly (l:List SequenceR):kindsT .string (lyM l)=true:=kindsT_str (mapOf_str _ _ _)
theorem lend_fr (l:List MediumR) (h:Heap) (n:Nat):lendE (lendC h n) (tEs (frM l))=some (frM l):=lendE_t _ (lendC_t h n) _ (entsOk_mapOf _ _ (fun _=>rfl) _)
theorem lend_ly (l:List SequenceR) (h:Heap) (n:Nat):lendE (lendC h n) (tEs (lyM l))=some (lyM l):=lendE_t _ (lendC_t h n) _ (entsOk_mapOf _ _ (fun _=>rfl) _)
attribute [go_sem] kinds_fr kinds_ly lend_fr lend_ly
def rowsK (v:List (List ClipR)) (k:Nat):List (List T):=(v.take k).map layC++List.replicate (v.length - k) zLayT
end Go.Proofs.YtkjdkbmfaamhaaaGreat
