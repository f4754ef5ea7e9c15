/- Proved here: How arguments of small integer kinds are read by the abstract machine, for use in the proofs of the given statements; conditions stand in each theorem. -/
import Derived.Test.YtbfnemkngoaeeaaGreatZP
set_option linter.unusedSimpArgs false
set_option linter.unusedVariables false
set_option linter.unusedSectionVars false
set_option linter.unnecessarySimpa false
namespace Go.Proofs.YtbfnemkngoaeeaaGreat
open Go.RowKit
set_option maxRecDepth 4000
open Go.ChangeShapes Go.WideShapes
abbrev IntK (k:IntKind) := { n:Int // k.min≤n∧n≤k.max }
theorem opens_intK {P:Program} {t:TypeId} {k:IntKind} (ht:P.underlying t=some (.int k)):Opens P t fun n:IntK k=>[.lit (.int k n.1)]:=by
 intro H enc w spare held n cs x hx
 obtain ⟨b,rfl,_,hw⟩:=DataW.trod_int ht hx
 simp only [Lit.wf,Bool.and_eq_true,decide_eq_true_eq] at hw
 exact ⟨⟨b,hw⟩, .lit _ rfl trivial,trivial⟩
theorem opensV_intK {P:Program} {t:TypeId} {k:IntKind} (ht:P.underlying t=some (.int k)):OpensV P t fun n:IntK k => .t (.lit (.int k n.1)):=by
 rintro H enc w spare held val d p hv ⟨n,hn⟩
 obtain ⟨b,rfl⟩:=okWide_int ht hv
 obtain ⟨a,ha⟩:=opens_intK ht enc w spare held n _ _ hn
 exact ⟨a,one_cell rfl ha⟩
open Go.RowKit
set_option maxRecDepth 4000
open Go.ChangeShapes Go.WideShapes
open Go.RowKit
set_option maxRecDepth 4000
open Go.ChangeShapes Go.WideShapes
theorem aU64:OpensV Tryz.prog 67 fun n:IntK .u64 => .t (.lit (.int .u64 n.1)):=opensV_intK Tryz.underlying67
end Go.Proofs.YtbfnemkngoaeeaaGreat
