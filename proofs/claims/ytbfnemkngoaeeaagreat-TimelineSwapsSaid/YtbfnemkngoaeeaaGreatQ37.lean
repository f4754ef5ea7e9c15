/- Proved here: Plain facts on lists that are searched by a key, and on the states of media, their steps and runs; conditions stand in each theorem. -/
import Derived.Test.YtbfnemkngoaeeaaGreatQ36
import Derived.Test.YtbfnemkngoaeeaaGreatQ07
set_option linter.unusedSimpArgs false
set_option linter.unusedVariables false
set_option linter.unusedSectionVars false
set_option linter.unnecessarySimpa false
namespace Go.Proofs.YtbfnemkngoaeeaaGreat
open Go.RowKit
set_option maxRecDepth 4000
structure EventR where
 kind:Int
 media:ByteArray
 file:ByteArray
 proxy:ByteArray
 sum:Int
 deriving Inhabited
structure OutR where
 media:ByteArray
 status:Int
 deriving Inhabited
def validPx (s:ByteArray):Bool:=emp s||cG s
def validEv (e:EventR):Bool :=
 if e.kind=1 then cG e.file&&emp e.media&&emp e.proxy
 else if e.kind=2 then cG e.file&&emp e.media&&emp e.proxy&&(e.sum==0)
 else if e.kind=3∨e.kind=4 then cG e.media&&cG e.file&&emp e.proxy&&(e.sum==0)
 else if e.kind=5 then cG e.media&&validPx e.proxy&&emp e.file&&(e.sum==0)
 else false
def aLu (fs:List FileR) (s:ByteArray):Bool:=decide (0≤Lc fs s)&&(Cx fs (Lc fs s)).present
def arriveS (s:StateR) (nm:ByteArray) (sum:Int):Int×StateR :=
 if 0≤Lc s.files nm then (0,⟨s.files.set (Lc s.files nm).toNat ⟨nm,sum,true⟩,s.links⟩)
 else if 32≤s.files.length then (18,s)
 else (0,⟨s.files ++ [⟨nm,sum,true⟩],s.links⟩)
def leaveS (s:StateR) (nm:ByteArray):Int×StateR :=
 if aLu s.files nm then (0,⟨s.files.set (Lc s.files nm).toNat { Cx s.files (Lc s.files nm) with present:=false },s.links⟩) else (7,s)
def aMe (s:StateR) (md nm:ByteArray):Int×StateR :=
 if 0≤Fj s.links md then (8,s)
 else if aLu s.files nm then
  if 16≤s.links.length then (18,s)
  else (0,⟨s.files,s.links ++ [⟨md,nm,(Cx s.files (Lc s.files nm)).sum,⟨#[]⟩⟩]⟩)
 else (7,s)
def relinkS (s:StateR) (md nm:ByteArray):Int×StateR :=
 if Fj s.links md<0 || !aLu s.files nm then (7,s)
 else (0,⟨s.files,s.links.set (Fj s.links md).toNat { s.links.getD (Fj s.links md).toNat default with file:=nm,sum:=(Cx s.files (Lc s.files nm)).sum }⟩)
def attachS (s:StateR) (md px:ByteArray):Int×StateR :=
 if px.toList==md.toList then (1,s)
 else if Fj s.links md<0||(!emp px&&decide (Fj s.links px<0)) then (7,s)
 else (0,⟨s.files,s.links.set (Fj s.links md).toNat { s.links.getD (Fj s.links md).toNat default with proxy:=px }⟩)
def An (s:StateR) (e:EventR):Int×StateR :=
 if e.kind=1 then arriveS s e.file e.sum
 else if e.kind=2 then leaveS s e.file
 else if e.kind=3 then aMe s e.media e.file
 else if e.kind=4 then relinkS s e.media e.file
 else attachS s e.media e.proxy
def outF (s t:StateR) (l:LinkR):Option OutR :=
 if status t l.media != status s l.media then some ⟨l.media,status t l.media⟩ else none
def outsTo (s t:StateR) (k:Nat):List OutR:=(t.links.take k).filterMap (outF s t)
def outsS (s t:StateR):List OutR:=t.links.filterMap (outF s t)
def aDy (s:StateR) (e:EventR):StateR×List OutR×Int :=
 if Sg s&&validEv e then
  if (An s e).1=0 then ((An s e).2,outsS s (An s e).2,0) else (⟨[],[]⟩,[],(An s e).1)
 else (⟨[],[]⟩,[],1)
def runStep (acc:StateR×List OutR×List Int) (e:EventR):StateR×List OutR×List Int :=
 if (aDy acc.1 e).2.2=0 then ((aDy acc.1 e).1,acc.2.1++(aDy acc.1 e).2.1,acc.2.2 ++ [0]) else (acc.1,acc.2.1,acc.2.2 ++ [(aDy acc.1 e).2.2])
def aD9 (s:StateR) (l:List EventR):StateR×List OutR×List Int:=l.foldl runStep (s,[],[])
def runS (s:StateR) (l:List EventR):StateR×List OutR×List Int :=
 if Sg s then aD9 s l else (⟨[],[]⟩,[],List.replicate l.length 1)
def keyP {α : Type} (key : α → ByteArray) (n:ByteArray) : α → Bool:=fun x=>decide (key x=n)
section
variable {α : Type} {key : α → ByteArray}
def lookK (key : α → ByteArray) (xs:List α) (n:ByteArray):Option α := xs.find? (keyP key n)
end
abbrev aLz (fs:List FileR) (n:ByteArray):Option FileR:=lookK FileR.name fs n
abbrev Qp (ls:List LinkR) (n:ByteArray):Option LinkR:=lookK LinkR.media ls n
def statL (f:Option FileR) (sum:Int):Int :=
 match f with
 | none=>3
 | some f=>if !f.present then 3 else if f.sum != sum then 2 else 1
def statusL (fs:List FileR) (l:Option LinkR):Int :=
 match l with
 | none=>0
 | some l=>statL (aLz fs l.file) l.sum
structure Ok (s:StateR):Prop where
 nf:s.files.length≤32
 nl:s.links.length≤16
 fk:(s.files.map FileR.name).Nodup
 lk:(s.links.map LinkR.media).Nodup
 fn:∀ f∈s.files,cG f.name=true
 ln:∀ l∈s.links,cG l.media=true∧cG l.file=true∧(emp l.proxy=true∨(cG l.proxy=true∧l.proxy≠l.media))
structure StepOk (s:StateR) (e:EventR) (t:StateR):Prop where
 ok:Ok t
 nf:t.files.length≤s.files.length+1
 nl:t.links.length≤s.links.length+1
 keep:∀ n,Qp s.links n≠none→Qp t.links n≠none
 new:∀ n,Qp t.links n≠none→Qp s.links n≠none∨e.media=n
open Go.RowKit
set_option maxRecDepth 4000
theorem Pp {α : Type} (c : α → List T) {L:List α} {j:Nat} (x : α) {r:List V} (h:r=(c x).map V.t):(aK (L.map c)).set j r=aK ((L.set j x).map c):=by
 rw [h];unfold aK;rw [List.map_set,List.map_set]
theorem Xx {xs:List (List V)} {k:Nat} (h:k<xs.length) (d:List T) (r:List V):jW d (xs.set k r) k=r:=by
 unfold jW;rw [List.getElem?_set_self h];rfl
theorem aK1 {α : Type} (c : α → List T) (l:List α) (k:Nat) (r:List V):((aK (l.map c)).set k r).length=l.length:=by
 unfold aK;rw [List.length_set,List.length_map,List.length_map]
theorem aK0 {α : Type} (c : α → List T) {l:List α} {k:Nat} (h:k<l.length) (d:List T) (r:List V):jW d ((aK (l.map c)).set k r) k=r :=
 Xx (by unfold aK;rw [List.length_map,List.length_map];exact h) d r
open Go.RowKit
set_option maxRecDepth 4000
def EventR.c (e:EventR):List T:=[ti e.kind,eX e.media,eX e.file,eX e.proxy,tu e.sum]
abbrev vevent (e:EventR):V := .agg [aC e.kind,bP e.media,bP e.file,bP e.proxy,dB e.sum]
@[go_sem] theorem EventR.ct (e:EventR):(EventR.c e).map V.t = [aC e.kind,bP e.media,bP e.file,bP e.proxy,dB e.sum]:=rfl
@[go_sem] theorem EventR.cl (e:EventR):(EventR.c e).length=5:=rfl
@[go_sem] abbrev tevents (l:List EventR):T := .list 5 (EventR.c default) (l.map EventR.c)
def OutR.c (o:OutR):List T:=[eX o.media,ti o.status]
@[go_sem] theorem OutR.ct (o:OutR):(OutR.c o).map V.t = [bP o.media,aC o.status]:=rfl
@[go_sem] theorem OutR.cl (o:OutR):(OutR.c o).length=2:=rfl
@[go_sem] abbrev touts (l:List OutR):T := .list 2 (OutR.c default) (l.map OutR.c)
@[go_sem] abbrev RowF (l:List FileR):Blk := .row 153 3 (FileR.c default) (aK (l.map FileR.c))
@[go_sem] abbrev RowL (l:List LinkR):Blk := .row 135 4 (LinkR.c default) (aK (l.map LinkR.c))
abbrev stH (s:StateR):Heap:=[(2,RowL s.links),(1,RowF s.files),(0, .box [.own 1, .own 2])]
abbrev stK (s:StateR):Heap:=[(4,RowL s.links),(3,RowF s.files),(0, .box [.own 3, .own 4])]
end Go.Proofs.YtbfnemkngoaeeaaGreat
