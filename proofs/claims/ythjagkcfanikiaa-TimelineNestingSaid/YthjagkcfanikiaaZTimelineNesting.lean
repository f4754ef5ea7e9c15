/- Proved: 'TimelineNesting' returns true for every input, and its arguments read as they did; no condition is laid on them. -/
import Derived.Test.YthjagkcfanikiaaRows
import Derived.Test.YthjagkcfanikiaaZG
import Derived.Test.YthjagkcfanikiaaZN2
set_option linter.unusedSimpArgs false
set_option linter.unusedVariables false
set_option linter.unusedSectionVars false
namespace Go.Proofs.Ythjagkcfanikiaa.timelineNesting
open Go.ChangeShapes Go.WideShapes Go.ChangeAt Go.RowKit
set_option linter.unusedVariables false

theorem own : ownKnob Try.prog.godebug = none := by kernel_rfl
theorem laidOut : laidOutB Try.prog = true := by kernel_rfl
theorem opens : OpensVs Try.prog [3, 3] fun a : I64s × I64s × Unit => [vint a.1.1, vint a.2.1.1] := opensVs_cons aInt (opensVs_cons aInt opensVs_nil)
theorem contract (a : I64s × I64s × Unit) : CPure Try.prog 4 [vint a.1.1, vint a.2.1.1] (vbool true) := nest4 _ _ a.1.2 a.2.1.2
set_option maxRecDepth 100000 in
theorem lifted (os : Os) (started : os.Started) (H : Type) (enc : TypeId × Value → H) :
    ReturnsInHanded {} Try.checked os 4 .any (Rows.timelineNestingSpec.pre6 enc Try.prog Try.f4 Rows.timelineNestingRow.domain false) (Rows.timelineNestingSpec.post enc Try.prog Try.f4 false true false false) := by
  refine returnsInHanded_of_change (C := Try.checked) own started (by kernel_rfl) Try.func4
    (ChangeSpec.witness6 (enc := enc) (C := Try.checked) false ⟨#[], #[.int .i64 0, .int .i64 0], []⟩ 8 (by kernel_rfl) (by kernel_rfl) (by kernel_rfl) (by kernel_rfl)) ?_
  intro W base args ds gs before hval0 hW hcnd _
  have hval : ∀ (j : Nat) t v, Try.f4.params[j]? = some t → args[j]? = some v → Value.okWide Try.prog W .any base t v := hval0
  have hW' := hW
  obtain ⟨p, q, hA0, hV, rfl, hfz, hnd⟩ := hW
  have hA : DataW.TrodAll enc Try.prog W 0 (fun _ => true) true Try.f4.params.toList args.toList ds p := hA0
  rw [Try.params4] at hA hval
  have hopen := opens enc W (fun _ => true) true _ ds p (fun j t v h1 h2 => hval j t v (by simpa using h1) (by simpa using h2)) hA
  have hkeep := fun W' (hb : Below W.heap.size W W') => trodAll_keep laidOut hb (of_decide_eq_true (by kernel_rfl)) hA
  obtain ⟨v0, vs0, d0, ds0, p0, q0, hargs0, rfl, rfl, h0, r0⟩ := trodAll_cons hA
  obtain ⟨v1, vs1, d1, ds1, p1, q1, hargs1, rfl, rfl, h1, r1⟩ := trodAll_cons r0
  obtain ⟨rfl, rfl, rfl⟩ := trodAll_nil r1
  obtain ⟨rfl, rfl⟩ := trodVars_none hV
  obtain ⟨a, ha⟩ := hopen
  clear hA0 hval0
  refine ((contract a).2 W (allS W) args.toList (fun _ h => h) ha).mono fun e W' => ?_
  rintro ⟨v, S', rfl, _, _, _, hv, bel⟩
  obtain rfl : v = .bool true := (rdV_lit_inv hv).1
  exact ⟨_, rfl, _, _, _, [], _, [], hW', trodAll_mk1 (shut_bool Try.underlying4 _), hkeep W' bel, rfl, bel.frame _, fun h => by cases h⟩

theorem named : Try.pinned.checked.prog.funcNamed Rows.timelineNestingRow.func = some 4 := by kernel_rfl
theorem joined : joinedFacts Try.pinned.checked.prog 4 Try.f4 Rows.timelineNestingSpec Rows.timelineNestingRow = true := by kernel_rfl
theorem inst : Try.f4.isInstance Try.pinned.checked.prog Rows.timelineNestingRow.origin Rows.timelineNestingRow.targs := of_decide_eq_true (by kernel_rfl)
theorem over : Rows.timelineNestingRow.holds Try.pinned (OpenSpec.ofChange Rows.timelineNestingSpec) :=
  OpenClaim.holds_of_wide 4 Try.f4 rfl rfl rfl rfl rfl rfl rfl ⟨rfl, rfl, rfl, rfl, rfl⟩ rfl rfl rfl rfl rfl named Try.func4 joined
    inst (by unfold Func.isWrapper; first | (rw [if_pos (by decide +kernel)]; kernel_rfl) | (rw [if_neg (by decide +kernel)]; exact ⟨rfl, rfl⟩))
    (fun os started H enc _ => lifted os started H enc)

/-- THE STATEMENT -/
theorem proved : Rows.TimelineNestingSaid := over
end Go.Proofs.Ythjagkcfanikiaa.timelineNesting
