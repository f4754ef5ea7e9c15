/- Proved here: How the arguments of the timeline's statements are read by the abstract machine, for use in the proofs of the given statements; conditions stand in each theorem. -/
import Derived.Test.YtjmoncjecpckhaaGreatZG
import Derived.Test.YtjmoncjecpckhaaGreatZI
set_option linter.unusedSimpArgs false
set_option linter.unusedVariables false
set_option linter.unusedSectionVars false
set_option linter.unnecessarySimpa false
namespace Go.Proofs.YtjmoncjecpckhaaGreat
open Go.RowKit
set_option maxRecDepth 4000
open Go.ChangeShapes Go.WideShapes
abbrev I64s := { n:Int // I64 n }
theorem wf_i64 {n:Int} (h:(Lit.int .i64 n).wf=true):I64 n:=by
 have e1:IntKind.i64.min = -9223372036854775808:=by decide
 have e2:IntKind.i64.max=9223372036854775807:=by decide
 simp only [Lit.wf,Bool.and_eq_true,decide_eq_true_eq,e1,e2] at h
 exact h
theorem opens_i64 {P:Program} {t:TypeId} (ht:P.underlying t=some (.int .i64)):Opens P t fun n:I64s=>[ti n.1]:=by
 intro H enc w spare held n cs x hx
 obtain ⟨b,rfl,_,hw⟩:=DataW.trod_int ht hx
 exact ⟨⟨b,wf_i64 hw⟩, .lit _ rfl trivial,trivial⟩
theorem opensV_i64 {P:Program} {t:TypeId} (ht:P.underlying t=some (.int .i64)):OpensV P t fun n:I64s=>vint n.1:=by
 rintro H enc w spare held val d p hv ⟨n,hn⟩
 obtain ⟨b,rfl⟩:=okWide_int ht hv
 obtain ⟨a,ha⟩:=opens_i64 ht enc w spare held n _ _ hn
 exact ⟨a,one_cell rfl ha⟩
abbrev RatF := { r:RatR // r.fit }
abbrev SourceF := { s:SourceR // s.fit }
abbrev ClipF := { c:ClipR // c.fit }
theorem oChan:Opens Tryz.prog 3 intC:=opens_int (k := .i64) Tryz.underlying3
theorem oInts:Opens Tryz.prog 22 fun l:List Int=>[tints l]:=opens_slice (intC 0) Tryz.underlying22 oChan (by kernel_rfl) (fun _=>rfl) (by decide)
abbrev TrackF := { t:List ClipR // ∀ c∈t,c.fit }
theorem aInts:OpensV Tryz.prog 22 fun l:List Int => .t (tints l):=opensV_slice Tryz.underlying22 oInts
theorem aInt:OpensV Tryz.prog 3 fun n:I64s=>vint n.1:=opensV_i64 Tryz.underlying3
end Go.Proofs.YtjmoncjecpckhaaGreat
