/- Proved here: How the arguments of the timeline's statements are read by the abstract machine, for use in the proofs of the given statements; conditions stand in each theorem. -/
import Derived.Test.YtmbmmijdmdoalaaGreatZG
import Derived.Test.YtmbmmijdmdoalaaGreatZI
set_option linter.unusedSimpArgs false
set_option linter.unusedVariables false
set_option linter.unusedSectionVars false
set_option linter.unnecessarySimpa false
namespace Go.Proofs.YtmbmmijdmdoalaaGreat
open Go.RowKit
set_option maxRecDepth 4000
open Go.ChangeShapes Go.WideShapes
abbrev I64s := { n:Int // I64 n }
theorem wf_i64 {n:Int} (h:(Lit.int .i64 n).wf=true):I64 n:=by
 have e1:IntKind.i64.min = -9223372036854775808:=by decide
 have e2:IntKind.i64.max=9223372036854775807:=by decide
 simp only [Lit.wf,Bool.and_eq_true,decide_eq_true_eq,e1,e2] at h
 exact h
theorem opens_i64 {P:Program} {t:TypeId} (ht:P.underlying t=some (.int .i64)):Opens P t fun n:I64s=>[ti n.1]:=by
 intro H enc w spare held n cs x hx
 obtain ⟨b,rfl,_,hw⟩:=DataW.trod_int ht hx
 exact ⟨⟨b,wf_i64 hw⟩, .lit _ rfl trivial,trivial⟩
abbrev RatF := { r:RatR // r.fit }
abbrev SourceF := { s:SourceR // s.fit }
abbrev ClipF := { c:ClipR // c.fit }
theorem oI64:Opens Tryz.prog 2 fun n:I64s=>[ti n.1]:=opens_i64 Tryz.underlying2
theorem oInt:Opens Tryz.prog 3 fun n:I64s=>[ti n.1]:=opens_i64 Tryz.underlying3
theorem oChan:Opens Tryz.prog 3 intC:=opens_int (k := .i64) Tryz.underlying3
theorem oStr:Opens Tryz.prog 9 fun s:ByteArray=>[.lit (.string s)]:=opens_string Tryz.underlying9
theorem oBool:Opens Tryz.prog 4 fun b:Bool=>[.lit (.bool b)]:=opens_bool Tryz.underlying4
theorem oInts:Opens Tryz.prog 26 fun l:List Int=>[tints l]:=opens_slice (intC 0) Tryz.underlying26 oChan (by kernel_rfl) (fun _=>rfl) (by decide)
theorem oRat:Opens Tryz.prog 70 fun r:RatF=>r.1.c :=
 Opens.map (fun x:I64s×I64s×Unit=>⟨⟨x.1.1,x.2.1.1⟩,x.1.2,x.2.1.2⟩) (fun _=>rfl) (opens_struct Tryz.underlying70 (by kernel_rfl) (opensF_cons oI64 (opensF_cons oI64 opensF_nil)))
theorem oSource:Opens Tryz.prog 90 fun s:SourceF=>s.1.c :=
 Opens.map (fun x:I64s×ByteArray×RatF×RatF×Bool×Unit=>⟨⟨x.1.1,x.2.1,x.2.2.1.1,x.2.2.2.1.1,x.2.2.2.2.1⟩,x.1.2,x.2.2.1.2,x.2.2.2.1.2⟩) (fun _=>rfl)
  (opens_struct Tryz.underlying90 (by kernel_rfl) (opensF_cons oInt (opensF_cons oStr (opensF_cons oRat (opensF_cons oRat (opensF_cons oBool opensF_nil))))))
theorem oClip:Opens Tryz.prog 92 fun c:ClipF=>c.1.c :=
 Opens.map (fun x:I64s×I64s×SourceF×SourceF×I64s×I64s×I64s×ByteArray×I64s×List Int×Unit =>
   ⟨⟨x.1.1,x.2.1.1,x.2.2.1.1,x.2.2.2.1.1,x.2.2.2.2.1.1,x.2.2.2.2.2.1.1,x.2.2.2.2.2.2.1.1,x.2.2.2.2.2.2.2.1,x.2.2.2.2.2.2.2.2.1.1,x.2.2.2.2.2.2.2.2.2.1⟩,
    x.1.2,x.2.1.2,x.2.2.1.2,x.2.2.2.1.2,x.2.2.2.2.1.2,x.2.2.2.2.2.1.2,x.2.2.2.2.2.2.1.2,x.2.2.2.2.2.2.2.2.1.2⟩) (fun _=>rfl)
  (opens_struct Tryz.underlying92 (by kernel_rfl) (opensF_cons oI64 (opensF_cons oInt (opensF_cons oSource (opensF_cons oSource (opensF_cons oI64 (opensF_cons oI64 (opensF_cons oInt (opensF_cons oStr (opensF_cons oInt (opensF_cons oInts opensF_nil)))))))))))
abbrev TrackF := { t:List ClipR // ∀ c∈t,c.fit }
theorem oClips:Opens Tryz.prog 85 fun l:List ClipF=>[.list 22 (ClipR.c default) (l.map fun c=>c.1.c)] :=
 opens_slice (k:=22) (ClipR.c default) Tryz.underlying85 oClip (by kernel_rfl) (fun _=>rfl) (by decide)
theorem oTrack:Opens Tryz.prog 85 fun t:TrackF=>[tclips t.1] :=
 Opens.map (fun l:List ClipF=>(⟨l.map (·.1),fun c hc=>by obtain ⟨x,_,rfl⟩:=List.mem_map.1 hc;exact x.2⟩:TrackF)) (fun l=>by show [T.list 22 _ (List.map ClipR.c (List.map _ l))]=_;rw [List.map_map];rfl) oClips
theorem aInts:OpensV Tryz.prog 26 fun l:List Int => .t (tints l):=opensV_slice Tryz.underlying26 oInts
theorem aStr:OpensV Tryz.prog 9 fun s:ByteArray=>vstr s:=opensV_string Tryz.underlying9
end Go.Proofs.YtmbmmijdmdoalaaGreat
