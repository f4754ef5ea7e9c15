/- Proved here: A medium with another name, as cells; conditions stand in each theorem. -/
import Derived.Test.YtbfnemkngoaeeaaGreatQ15
import Derived.Test.YtbfnemkngoaeeaaGreatQ32
import Derived.Test.YtbfnemkngoaeeaaGreatQ35
set_option linter.unusedSimpArgs false
set_option linter.unusedVariables false
set_option linter.unusedSectionVars false
set_option linter.unnecessarySimpa false
namespace Go.Proofs.YtbfnemkngoaeeaaGreat
open Go.RowKit
set_option maxRecDepth 4000
theorem He:∀ l:List T,Go.Proofs.YtbfnemkngoaeeaaGreat.tCells (l.map V.t)=some l
 | []=>rfl
 | x::l=>by simp only [List.map_cons,tCells,He l];rfl
@[go_sem] theorem vmed_tCells (m:MediumR):Go.Proofs.YtbfnemkngoaeeaaGreat.tCells (dA m)=some (MediumR.c m):=by
 exact He _
@[go_sem] theorem vmed_get0 (m:MediumR):(dA m)[0]? = some (bP m.name):=rfl
@[go_sem] theorem vmed_put0 (m:MediumR) (n:ByteArray):List.take 0 (dA m) ++ [V.t (.lit (.string n))]++List.drop 1 (dA m)=dA { m with name:=n }:=rfl
@[go_sem] theorem vmed_put0' (m:MediumR) (n:ByteArray):V.t (.lit (.string n))::List.drop 1 (dA m)=dA { m with name:=n }:=rfl
@[go_sem] theorem vmed_put137 (m:MediumR) (x:Int):List.take 137 (dA m) ++ [V.t (.lit (.int .i64 x))]++List.drop 138 (dA m)=dA { m with frames:=x }:=rfl
def Xq (s:SourceR):List T:=[ti s.kind,eX s.name,ti s.pos.num,ti s.pos.den,ti s.speed.num,ti s.speed.den,tbl s.smooth,ti (qP s),ti (atS s),ti (Dm s)]
abbrev vplace (s:SourceR):V := .agg [aC s.kind,bP s.name,aC s.pos.num,aC s.pos.den,aC s.speed.num,aC s.speed.den,aP s.smooth,aC (qP s),aC (atS s),aC (Dm s)]
@[go_sem] theorem placC_t (s:SourceR):(Xq s).map V.t = [aC s.kind,bP s.name,aC s.pos.num,aC s.pos.den,aC s.speed.num,aC s.speed.den,aP s.smooth,aC (qP s),aC (atS s),aC (Dm s)]:=rfl
def endsT (t:List ClipR):List Int:=(List.range t.length).map fun i=>eG (t.take (i+1))
def aDs (c:ClipR):List T:=Xq c.a++Xq c.b
abbrev aJe (l:List (List T)):T := .list 20 ((Xq zSource)++(Xq zSource)) l
def layC (t:List ClipR):List T:=[dD t,bN (endsT t),aJe (t.map aDs)]
abbrev vlay (t:List ClipR):V := .agg [.t (dD t), .t (bN (endsT t)), .t (aJe (t.map aDs))]
abbrev zLayT:List T:=[.lit (.slice none 0 0), .lit (.slice none 0 0), .lit (.slice none 0 0)]
def fmC (m:MediumR):Bool×List T:=(false,[ti m.frames])
def lyC (s:SequenceR):Bool×List T:=(false,[.list 3 zLayT (s.video.map layC)])
def frM (l:List MediumR):List Ent:=gR MediumR.name fmC l
def lyM (l:List SequenceR):List Ent:=gR SequenceR.name lyC l
abbrev vix (p:ProjR):V := .agg [.t (.map (frM p.media)), .t (.map (lyM p.seqs))]
theorem aLn (l:List MediumR):mF .string (frM l)=true:=qB (jG _ _ _)
theorem aLm (l:List SequenceR):mF .string (lyM l)=true:=qB (jG _ _ _)
theorem lend_fr (l:List MediumR) (h:Heap) (n:Nat):kM (aR h n) (tEs (frM l))=some (frM l):=xK _ (fF h n) _ (nX _ _ (fun _=>rfl) _)
theorem lend_ly (l:List SequenceR) (h:Heap) (n:Nat):kM (aR h n) (tEs (lyM l))=some (lyM l):=xK _ (fF h n) _ (nX _ _ (fun _=>rfl) _)
attribute [go_sem] aLn aLm lend_fr lend_ly
def rowsK (v:List (List ClipR)) (k:Nat):List (List T):=(v.take k).map layC++List.replicate (v.length - k) zLayT
end Go.Proofs.YtbfnemkngoaeeaaGreat
