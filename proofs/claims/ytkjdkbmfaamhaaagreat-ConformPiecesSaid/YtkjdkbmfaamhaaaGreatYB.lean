/- Proved here: How arguments of small integer kinds are read by the abstract machine, for use in the proofs of the given statements; conditions stand in each theorem. -/
import Derived.Test.YtkjdkbmfaamhaaaGreatZP
set_option linter.unusedSimpArgs false
set_option linter.unusedVariables false
set_option linter.unusedSectionVars false
set_option linter.unnecessarySimpa false
namespace Go.Proofs.YtkjdkbmfaamhaaaGreat
open Go.RowKit
set_option maxRecDepth 4000
open Go.ChangeShapes Go.WideShapes
abbrev IntK (k:IntKind) := { n:Int // k.min≤n∧n≤k.max }
theorem opens_intK {P:Program} {t:TypeId} {k:IntKind} (ht:P.underlying t=some (.int k)):Opens P t fun n:IntK k=>[.lit (.int k n.1)]:=by
 intro H enc w spare held n cs x hx
 obtain ⟨b,rfl,_,hw⟩:=DataW.trod_int ht hx
 simp only [Lit.wf,Bool.and_eq_true,decide_eq_true_eq] at hw
 exact ⟨⟨b,hw⟩, .lit _ rfl trivial,trivial⟩
theorem opensV_intK {P:Program} {t:TypeId} {k:IntKind} (ht:P.underlying t=some (.int k)):OpensV P t fun n:IntK k => .t (.lit (.int k n.1)):=by
 rintro H enc w spare held val d p hv ⟨n,hn⟩
 obtain ⟨b,rfl⟩:=okWide_int ht hv
 obtain ⟨a,ha⟩:=opens_intK ht enc w spare held n _ _ hn
 exact ⟨a,one_cell rfl ha⟩
theorem u8_b (n:IntK .u8) : 0≤n.1∧n.1≤255:=n.2
theorem aU8:OpensV Tryz.prog 5 fun n:IntK .u8 => .t (.lit (.int .u8 n.1)):=opensV_intK Tryz.underlying5
open Go.RowKit
set_option maxRecDepth 4000
open Go.ChangeShapes Go.WideShapes
theorem u16_b (n:IntK .u16) : 0≤n.1∧n.1≤65535:=n.2
theorem aU16:OpensV Tryz.prog 47 fun n:IntK .u16 => .t (.lit (.int .u16 n.1)):=opensV_intK Tryz.underlying47
end Go.Proofs.YtkjdkbmfaamhaaaGreat
