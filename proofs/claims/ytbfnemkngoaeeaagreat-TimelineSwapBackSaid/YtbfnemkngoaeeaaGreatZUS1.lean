/- Proved here: The media that a sequence needs, as the program collects them, for use in the proofs of the given statements; conditions stand in each theorem. -/
import Derived.Test.YtbfnemkngoaeeaaGreatZU
import Derived.Test.YtbfnemkngoaeeaaGreatYJ
import Derived.Test.YtbfnemkngoaeeaaGreatY6
set_option linter.unusedSimpArgs false
set_option linter.unusedVariables false
set_option linter.unusedSectionVars false
set_option linter.unnecessarySimpa false
namespace Go.Proofs.YtbfnemkngoaeeaaGreat
open Go.RowKit
set_option maxRecDepth 4000
def shown (p:ProjR) (n:ByteArray) (kind:Int):List ByteArray:=namedS ((seqOf p.seqs n).getD default) kind
def memB (n:ByteArray) (l:List ByteArray):Bool:=(lastOf (fun m:ByteArray=>m) n l).isSome
def collF (p:ProjR):Nat→ByteArray→List ByteArray×List ByteArray→List ByteArray×List ByteArray
 | 0,_,r=>r
 | f+1,n,r=>if memB n r.2=true then r else (shown p n 2).foldl (fun r x=>collF p f x r) (r.1++shown p n 1,r.2 ++ [n])
def usesP (p:ProjR) (name:ByteArray):List ByteArray×Int :=
 if validP p≠0 then ([],validP p) else
 match seqOf p.seqs name with
 | none=>([],7)
 | some _=>(sortN (once (collF p 5 name ([],[])).1),0)
abbrev vuses (r:List ByteArray×Int):V := .tup [.t (tstrs r.1),vint r.2]
end Go.Proofs.YtbfnemkngoaeeaaGreat
