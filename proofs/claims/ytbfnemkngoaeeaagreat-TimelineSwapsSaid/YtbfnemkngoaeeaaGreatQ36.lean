/- Proved here: The media that a sequence needs, as the program collects them; conditions stand in each theorem. -/
import Derived.Test.YtbfnemkngoaeeaaGreatQ15
import Derived.Test.YtbfnemkngoaeeaaGreatQ32
import Derived.Test.YtbfnemkngoaeeaaGreatQ35
import Derived.Test.YtbfnemkngoaeeaaGreatQ19
import Derived.Test.YtbfnemkngoaeeaaGreatQ30
set_option linter.unusedSimpArgs false
set_option linter.unusedVariables false
set_option linter.unusedSectionVars false
set_option linter.unnecessarySimpa false
namespace Go.Proofs.YtbfnemkngoaeeaaGreat
open Go.RowKit
set_option maxRecDepth 4000
def aD7 (p:ProjR) (n:ByteArray) (kind:Int):List ByteArray:=tM ((eR p.seqs n).getD default) kind
def aLa (n:ByteArray) (l:List ByteArray):Bool:=(gD (fun m:ByteArray=>m) n l).isSome
def collF (p:ProjR):Nat→ByteArray→List ByteArray×List ByteArray→List ByteArray×List ByteArray
 | 0,_,r=>r
 | f+1,n,r=>if aLa n r.2=true then r else (aD7 p n 2).foldl (fun r x=>collF p f x r) (r.1++aD7 p n 1,r.2 ++ [n])
def Gy (p:ProjR) (name:ByteArray):List ByteArray×Int :=
 if cB p≠0 then ([],cB p) else
 match eR p.seqs name with
 | none=>([],7)
 | some _=>(mW (pS (collF p 5 name ([],[])).1),0)
abbrev vuses (r:List ByteArray×Int):V := .tup [.t (uU r.1),aC r.2]
structure FileR where
 name:ByteArray
 sum:Int
 present:Bool
 deriving Inhabited
structure LinkR where
 media:ByteArray
 file:ByteArray
 sum:Int
 proxy:ByteArray
 deriving Inhabited
structure StateR where
 files:List FileR
 links:List LinkR
 deriving Inhabited
def FileR.c (f:FileR):List T:=[eX f.name,tu f.sum,tbl f.present]
def LinkR.c (l:LinkR):List T:=[eX l.media,eX l.file,tu l.sum,eX l.proxy]
abbrev vfile (f:FileR):V := .agg [bP f.name,dB f.sum,aP f.present]
abbrev vlink (l:LinkR):V := .agg [bP l.media,bP l.file,dB l.sum,bP l.proxy]
@[go_sem] theorem FileR.ct (f:FileR):(FileR.c f).map V.t = [bP f.name,dB f.sum,aP f.present]:=rfl
@[go_sem] theorem LinkR.ct (l:LinkR):(LinkR.c l).map V.t = [bP l.media,bP l.file,dB l.sum,bP l.proxy]:=rfl
@[go_sem] theorem FileR.cl (f:FileR):(FileR.c f).length=3:=rfl
@[go_sem] theorem LinkR.cl (l:LinkR):(LinkR.c l).length=4:=rfl
@[go_sem] abbrev Cd (l:List FileR):T := .list 3 (FileR.c default) (l.map FileR.c)
@[go_sem] abbrev Cc (l:List LinkR):T := .list 4 (LinkR.c default) (l.map LinkR.c)
abbrev vstate (s:StateR):V := .agg [.t (Cd s.files), .t (Cc s.links)]
def fileP (n:ByteArray) (f:FileR):Bool:=f.name.toList==n.toList
def linkP (n:ByteArray) (l:LinkR):Bool:=l.media.toList==n.toList
def Lc (fs:List FileR) (n:ByteArray):Int:=idx (fileP n) fs
def Fj (ls:List LinkR) (n:ByteArray):Int:=idx (linkP n) ls
abbrev nmP (s:ByteArray):V := .elem 1 [eX s] [[eX s]] 0 0
open Go.RowKit
set_option maxRecDepth 4000
def Cx (fs:List FileR) (i:Int):FileR:=fs.getD i.toNat default
def aJk (fs:List FileR) (l:LinkR):Int :=
 if (decide (Lc fs l.file<0) || !(Cx fs (Lc fs l.file)).present)=true then 3 else if ((Cx fs (Lc fs l.file)).sum != l.sum)=true then 2 else 1
def status (s:StateR) (n:ByteArray):Int :=
 if Fj s.links n<0 then 0 else aJk s.files (s.links.getD (Fj s.links n).toNat default)
def Fv (s:StateR) (n:ByteArray):ByteArray :=
 if Fj s.links n<0 then ⟨#[]⟩ else (s.links.getD (Fj s.links n).toNat default).proxy
open Go.RowKit
set_option maxRecDepth 4000
def allR (p:Nat→Bool) (n:Nat):Bool:=(List.range n).all p
def okF (fs:List FileR) (i:Nat):Bool:=cG (fs.getD i default).name && !aLa (fs.getD i default).name ((fs.take i).map FileR.name)
def okL (ls:List LinkR) (i:Nat):Bool :=
 cG (ls.getD i default).media && !aLa (ls.getD i default).media ((ls.take i).map LinkR.media)&&cG (ls.getD i default).file&&(emp (ls.getD i default).proxy||cG (ls.getD i default).proxy) &&
 !((ls.getD i default).proxy.toList==(ls.getD i default).media.toList)
def Sg (s:StateR):Bool:=decide ((s.files.length:Int)≤32)&&decide ((s.links.length:Int)≤16)&&allR (okF s.files) s.files.length&&allR (okL s.links) s.links.length
open Go.RowKit
set_option maxRecDepth 4000
end Go.Proofs.YtbfnemkngoaeeaaGreat
