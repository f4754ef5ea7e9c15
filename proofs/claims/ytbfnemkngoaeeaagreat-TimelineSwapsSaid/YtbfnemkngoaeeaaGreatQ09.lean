/- Proved here: How the arguments of the timeline's statements are read by the abstract machine; conditions stand in each theorem. -/
import Derived.Test.YtbfnemkngoaeeaaGreatQ06
import Derived.Test.YtbfnemkngoaeeaaGreatQ08
set_option linter.unusedSimpArgs false
set_option linter.unusedVariables false
set_option linter.unusedSectionVars false
set_option linter.unnecessarySimpa false
namespace Go.Proofs.YtbfnemkngoaeeaaGreat
open Go.RowKit
set_option maxRecDepth 4000
open Go.ChangeShapes Go.WideShapes
abbrev pA := { n:Int // I64 n }
theorem wf_i64 {n:Int} (h:(Lit.int .i64 n).wf=true):I64 n:=by
 have e1:IntKind.i64.min = -9223372036854775808:=by decide
 have e2:IntKind.i64.max=9223372036854775807:=by decide
 simp only [Lit.wf,Bool.and_eq_true,decide_eq_true_eq,e1,e2] at h;exact h
theorem Qe {P:Program} {t:TypeId} (ht:P.underlying t=some (.int .i64)):Opens P t fun n:pA=>[ti n.1]:=by
 intro H enc w spare held n cs x hx;obtain ⟨b,rfl,_,hw⟩:=DataW.trod_int ht hx;exact ⟨⟨b,wf_i64 hw⟩, .lit _ rfl trivial,trivial⟩
abbrev aNz := { r:RatR // r.fit }
abbrev Va := { s:SourceR // s.fit }
abbrev aP0 := { c:ClipR // c.fit }
theorem Tq:Opens Tryz.prog 2 fun n:pA=>[ti n.1]:=Qe Tryz.underlying2
theorem Fg:Opens Tryz.prog 3 fun n:pA=>[ti n.1]:=Qe Tryz.underlying3
theorem oChan:Opens Tryz.prog 3 Be:=Qd (k := .i64) Tryz.underlying3
theorem aKz:Opens Tryz.prog 9 fun s:ByteArray=>[.lit (.string s)]:=Aq Tryz.underlying9
theorem oBool:Opens Tryz.prog 4 fun b:Bool=>[.lit (.bool b)]:=aBj Tryz.underlying4
theorem oInts:Opens Tryz.prog 22 fun l:List Int=>[bN l]:=gB (Be 0) Tryz.underlying22 oChan (by kernel_rfl) (fun _=>rfl) (by decide)
theorem oRat:Opens Tryz.prog 30 fun r:aNz=>r.1.c :=
 Opens.map (fun x:pA×pA×Unit=>⟨⟨x.1.1,x.2.1.1⟩,x.1.2,x.2.1.2⟩) (fun _=>rfl) (eP Tryz.underlying30 (by kernel_rfl) (aM Tq (aM Tq gC)))
theorem aDu:Opens Tryz.prog 101 fun s:Va=>s.1.c :=
 Opens.map (fun x:pA×ByteArray×aNz×aNz×Bool×Unit=>⟨⟨x.1.1,x.2.1,x.2.2.1.1,x.2.2.2.1.1,x.2.2.2.2.1⟩,x.1.2,x.2.2.1.2,x.2.2.2.1.2⟩) (fun _=>rfl)
  (eP Tryz.underlying101 (by kernel_rfl) (aM Fg (aM aKz (aM oRat (aM oRat (aM oBool gC))))))
theorem oClip:Opens Tryz.prog 103 fun c:aP0=>c.1.c :=
 Opens.map (fun x:pA×pA×Va×Va×pA×pA×pA×ByteArray×pA×List Int×Unit =>
   ⟨⟨x.1.1,x.2.1.1,x.2.2.1.1,x.2.2.2.1.1,x.2.2.2.2.1.1,x.2.2.2.2.2.1.1,x.2.2.2.2.2.2.1.1,x.2.2.2.2.2.2.2.1,x.2.2.2.2.2.2.2.2.1.1,x.2.2.2.2.2.2.2.2.2.1⟩,
    x.1.2,x.2.1.2,x.2.2.1.2,x.2.2.2.1.2,x.2.2.2.2.1.2,x.2.2.2.2.2.1.2,x.2.2.2.2.2.2.1.2,x.2.2.2.2.2.2.2.2.1.2⟩) (fun _=>rfl)
  (eP Tryz.underlying103 (by kernel_rfl) (aM Tq (aM Fg (aM aDu (aM aDu (aM Tq (aM Tq (aM Fg (aM aKz (aM Fg (aM oInts gC)))))))))))
abbrev De := { t:List ClipR // ∀ c∈t,c.fit }
theorem oClips:Opens Tryz.prog 27 fun l:List aP0=>[.list 22 (ClipR.c default) (l.map fun c=>c.1.c)] :=
 gB (k:=22) (ClipR.c default) Tryz.underlying27 oClip (by kernel_rfl) (fun _=>rfl) (by decide)
theorem oTrack:Opens Tryz.prog 27 fun t:De=>[dD t.1] :=
 Opens.map (fun l:List aP0=>(⟨l.map (·.1),fun c hc=>by obtain ⟨x,_,rfl⟩:=List.mem_map.1 hc;exact x.2⟩:De)) (fun l=>by show [T.list 22 _ (List.map ClipR.c (List.map _ l))]=_;rw [List.map_map];rfl) oClips
theorem aInts:zS Tryz.prog 22 fun l:List Int => .t (bN l):=Tm Tryz.underlying22 oInts
theorem aStr:zS Tryz.prog 9 fun s:ByteArray=>bP s:=Mz Tryz.underlying9
end Go.Proofs.YtbfnemkngoaeeaaGreat
