/- Proved here: What the reference's Uses answers; conditions stand in each theorem. -/
import Derived.Test.YtbfnemkngoaeeaaGreatQ46
import Derived.Test.YtbfnemkngoaeeaaGreatQ06
import Derived.Test.YtbfnemkngoaeeaaGreatQ36
import Derived.Test.YtbfnemkngoaeeaaGreatQ14
import Derived.Test.YtbfnemkngoaeeaaGreatQ44
import Derived.Test.YtbfnemkngoaeeaaGreatQ40
import Derived.Test.YtbfnemkngoaeeaaGreatQ45
set_option linter.unusedSimpArgs false
set_option linter.unusedVariables false
set_option linter.unusedSectionVars false
set_option linter.unnecessarySimpa false
namespace Go.Proofs.YtbfnemkngoaeeaaGreat
open Go.RowKit
set_option maxRecDepth 4000
def ltB (a b:ByteArray):Bool:=Go.Op.bytesLess a.toList b.toList
def atL (O:List ByteArray) (m:ByteArray):Nat:=O.findIdx (fun x => !ltB x m)
def insL (O:List ByteArray) (m:ByteArray):List ByteArray:=O.take (atL O m) ++ [m]++O.drop (atL O m)
def refU (p:ProjR) (n:Int):Nat→List ByteArray
 | 0=>[]
 | k+1=>if usesT p (p.media.getD k default).name n (p.seqs.length+1)=true then insL (refU p n k) (p.media.getD k default).name else refU p n k
def refUses (p:ProjR) (name:ByteArray):List ByteArray×Int :=
 if cB p≠0 then ([],cB p) else if tA p name<0 then ([],7) else (refU p (tA p name) p.media.length,0)
open Go.Sort
def Asc (O:List ByteArray):Prop:=O.Pairwise fun a b=>ltB a b=true
open Go.RowKit
set_option maxRecDepth 4000
end Go.Proofs.YtbfnemkngoaeeaaGreat
