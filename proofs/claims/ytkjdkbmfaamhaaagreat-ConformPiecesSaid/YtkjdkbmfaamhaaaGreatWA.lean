/- Proved here: A contract that yields blocks of one's own, read as one that yields values, for use in the proofs of the given statements; conditions stand in each theorem. -/
import Derived.Test.YtkjdkbmfaamhaaaGreatZQ
import Derived.Test.YtkjdkbmfaamhaaaGreatZG
import Derived.Test.YtkjdkbmfaamhaaaGreatZY
import Derived.Test.YtkjdkbmfaamhaaaGreatZI
import Derived.Test.YtkjdkbmfaamhaaaGreatZS
import Derived.Test.YtkjdkbmfaamhaaaGreatZR
set_option linter.unusedSimpArgs false
set_option linter.unusedVariables false
set_option linter.unusedSectionVars false
set_option linter.unnecessarySimpa false
namespace Go.Proofs.YtkjdkbmfaamhaaaGreat
open Go.RowKit
set_option maxRecDepth 4000
def giveI (P:Program) (σ : St) (d:Option Tmp) (f:FuncId) (xs:List V) (K:St→Prop) (h:Option Heap):Prop :=
 match h with
 | some h=>ICall P { σ with h:=h } d f (V.ress h xs) K
 | none=>False
attribute [go_sem] giveI
open Go.RowKit
set_option maxRecDepth 4000
open Go.Lib
def zClipV:Value := .agg #[.int .i64 0, .int .i64 0, .int .i64 0, .string ⟨#[]⟩, .int .i64 0, .int .i64 0, .int .i64 0, .int .i64 0, .bool false, .int .i64 0, .string ⟨#[]⟩, .int .i64 0, .int .i64 0, .int .i64 0, .int .i64 0, .bool false, .int .i64 0, .int .i64 0, .int .i64 0, .string ⟨#[]⟩, .int .i64 0, .slice none 0 0]
open Go.RowKit
set_option maxRecDepth 4000
structure Trk (t:List ClipR):Prop where
 len:t.length≤200
 ok:∀ i,i<t.length→vClip (t.getD i default)=true
 tot:totL t≤2147483647
open Go.RowKit
set_option maxRecDepth 4000
def joinT (a b:List ClipR):List ClipR×Int :=
 if (!vTrack a || !vTrack b)=true then ([],1)
 else if decide (totL a+totL b > 2147483647)=true then ([],2)
 else if decide ((packP (a++b)).length > 64)=true then ([],5) else (packP (a++b),0)
abbrev vte (r:List ClipR×Int):V := .tup [.t (tclips r.1),vint r.2]
end Go.Proofs.YtkjdkbmfaamhaaaGreat
