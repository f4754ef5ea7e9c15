/- Proved here: the library function maps.Keys of this program (names to names) is the library's; conditions stand in each theorem. -/
import Derived.Shelf.SlIter.Nil
import Derived.Shelf.SortM.Plain
import Derived.Shelf.SortM.SortNone
import Derived.Test.YtbfnemkngoaeeaaGreatProg
import Derived.Test.YtbfnemkngoaeeaaGreatQ14
import Derived.Test.YtbfnemkngoaeeaaGreatQ38
import Derived.Test.YtbfnemkngoaeeaaGreatQ39
import Derived.Test.YtbfnemkngoaeeaaGreatQ06
set_option linter.unusedSimpArgs false
set_option linter.unusedVariables false
set_option linter.unusedSectionVars false
set_option linter.unnecessarySimpa false
namespace Go.Proofs.YtbfnemkngoaeeaaGreat
open Go.Proofs Go.RowKit Go.Maps Go.Sort Go.Shelf
def keysLayS_ren:Go.Shelf.Ren:=⟨fun | 7=>60 | 10=>130 | n=>n,fun | 23=>127 | 26=>9 | 3=>9 | 28=>132 | 0=>0 | 27=>131 | 33=>206 | 4=>4 | n=>n,fun | n=>n⟩
open Go.RowKit
set_option maxRecDepth 4000
open Go.Maps Go.Sort Go.Shelf Go.WideShapes
open Go.RowKit
set_option maxRecDepth 4000
def unus (s:StateR) (L:List ByteArray):List ByteArray:=L.filter fun n=>decide (status s n≠1)
def resStep (s:StateR) (a:ProjR×List ByteArray) (n:ByteArray):ProjR×List ByteArray :=
 if status s (Fv s n)=1∧(eY a.1 n (Fv s n)).2=0 then ((eY a.1 n (Fv s n)).1,a.2) else (a.1,a.2 ++ [n])
def resF (s:StateR) (p:ProjR) (K:List ByteArray):ProjR×List ByteArray:=K.foldl (resStep s) (p,[])
def resolveP (s:StateR) (p:ProjR) (name:ByteArray):ProjR×List ByteArray×Int :=
 if Sg s=false then (⟨[],[]⟩,[],1) else
 if (Gy p name).2≠0 then (⟨[],[]⟩,[],(Gy p name).2) else
 ((resF s p (mW (unus s (Gy p name).1))).1,mW (resF s p (mW (unus s (Gy p name).1))).2,0)
def prxT (s:StateR) (L:List ByteArray):List Ent:=L.map fun n=>(.string n,false,[eX (Fv s n)])
def leftB (s:StateR) (p:ProjR) (K:List ByteArray) (k:Nat) (n:ByteArray):Bool := !aLa n (K.take k)||aLa n (resF s p (K.take k)).2
def left (s:StateR) (p:ProjR) (U K:List ByteArray) (k:Nat):List ByteArray:=U.filter (leftB s p K k)
open Go.RowKit
set_option maxRecDepth 4000
abbrev vresolve (r:ProjR×List ByteArray×Int):V := .tup [eD r.1, .t (uU r.2.1),aC r.2.2]
end Go.Proofs.YtbfnemkngoaeeaaGreat
