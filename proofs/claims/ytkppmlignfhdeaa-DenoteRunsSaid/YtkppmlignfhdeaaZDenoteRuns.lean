/- Proved: 'DenoteRuns' returns true for every input, and its arguments read as they did; no condition is laid on them. -/
import Derived.Test.YtkppmlignfhdeaaRows
import Derived.Test.YtkppmlignfhdeaaZG
import Derived.Test.YtkppmlignfhdeaaZOE
import Derived.Test.YtkppmlignfhdeaaYB
import Derived.Test.YtkppmlignfhdeaaZD6
set_option linter.unusedSimpArgs false
set_option linter.unusedVariables false
set_option linter.unusedSectionVars false
namespace Go.Proofs.Ytkppmlignfhdeaa.denoteRuns
open Go.ChangeShapes Go.WideShapes Go.ChangeAt Go.RowKit
set_option linter.unusedVariables false

theorem own : ownKnob Try.prog.godebug = none := by kernel_rfl
theorem laidOut : laidOutB Try.prog = true := by kernel_rfl
theorem opens : OpensVs Try.prog [23, 22] fun a : ExprsF × List Int × Unit => [.t (texprs a.1.1), .t (tints a.2.1)] := opensVs_cons aExprs (opensVs_cons aInts opensVs_nil)
theorem bytes : Try.checked.prog.bytesOf 25 = 96 := by kernel_rfl
theorem contract (a : ExprsF × List Int × Unit) (hl : a.1.1.length ≤ 1500000000000) : CPure Try.prog 4 [.t (texprs a.1.1), .t (tints a.2.1)] (vbool true) := denRuns _ _ a.1.2 hl
set_option maxRecDepth 100000 in
theorem lifted (os : Os) (started : os.Started) (H : Type) (enc : TypeId × Value → H) :
    ReturnsInHanded {} Try.checked os 4 .any (Rows.denoteRunsSpec.pre6 enc Try.prog Try.f4 Rows.denoteRunsRow.domain false) (Rows.denoteRunsSpec.post enc Try.prog Try.f4 false true false false) := by
  refine returnsInHanded_of_change_sized (C := Try.checked) own started (by kernel_rfl) Try.func4
    (ChangeSpec.witness6 (enc := enc) (C := Try.checked) false ⟨#[], #[.slice none 0 0, .slice none 0 0], []⟩ 8 (by kernel_rfl) (by kernel_rfl) (by kernel_rfl) (by kernel_rfl)) ?_
  intro W base args ds gs before hval0 hW hcnd hsz _
  have hval : ∀ (j : Nat) t v, Try.f4.params[j]? = some t → args[j]? = some v → Value.okWide Try.prog W .any base t v := hval0
  have hW' := hW
  obtain ⟨p, q, hA0, hV, rfl, hfz, hnd⟩ := hW
  have hA : DataW.TrodAll enc Try.prog W 0 (fun _ => true) true Try.f4.params.toList args.toList ds p := hA0
  rw [Try.params4] at hA hval
  have hopen := opens enc W (fun _ => true) true _ ds p (fun j t v h1 h2 => hval j t v (by simpa using h1) (by simpa using h2)) hA
  have hkeep := fun W' (hb : Below W.heap.size W W') => trodAll_keep laidOut hb (of_decide_eq_true (by kernel_rfl)) hA
  obtain ⟨v0, vs0, d0, ds0, p0, q0, hargs0, rfl, rfl, h0, r0⟩ := trodAll_cons hA
  obtain ⟨v1, vs1, d1, ds1, p1, q1, hargs1, rfl, rfl, h1, r1⟩ := trodAll_cons r0
  obtain ⟨rfl, rfl, rfl⟩ := trodAll_nil r1
  obtain ⟨rfl, rfl⟩ := trodVars_none hV
  obtain ⟨a, ha⟩ := hopen
  clear hA0 hval0
  have hb := slice_bound (B := 96) Try.underlying23 h0 (by have ha' := ha; rw [hargs0] at ha'; simp only [RdVs] at ha'; exact ha'.1) (fun el sp h => by
    have := sized_slice hsz (j := 0) (t := 23) (e := 25) (elems := el) (spare := sp) (by rw [Try.params4]; rfl) (by rw [h]; rfl) Try.underlying23
    rw [bytes] at this
    exact this)
  have hl : a.1.1.length ≤ 1500000000000 := by
    simp only [List.length_map, reachBytes] at hb
    omega
  refine ((contract a hl).2 W (allS W) args.toList (fun _ h => h) ha).mono fun e W' => ?_
  rintro ⟨v, S', rfl, _, _, _, hv, bel⟩
  obtain rfl : v = .bool true := (rdV_lit_inv hv).1
  exact ⟨_, rfl, _, _, _, [], _, [], hW', trodAll_mk1 (shut_bool Try.underlying4 _), hkeep W' bel, rfl, bel.frame _, fun h => by cases h⟩

theorem named : Try.pinned.checked.prog.funcNamed Rows.denoteRunsRow.func = some 4 := by kernel_rfl
theorem joined : joinedFacts Try.pinned.checked.prog 4 Try.f4 Rows.denoteRunsSpec Rows.denoteRunsRow = true := by kernel_rfl
theorem inst : Try.f4.isInstance Try.pinned.checked.prog Rows.denoteRunsRow.origin Rows.denoteRunsRow.targs := of_decide_eq_true (by kernel_rfl)
theorem over : Rows.denoteRunsRow.holds Try.pinned (OpenSpec.ofChange Rows.denoteRunsSpec) :=
  OpenClaim.holds_of_wide 4 Try.f4 rfl rfl rfl rfl rfl rfl rfl ⟨rfl, rfl, rfl, rfl, rfl⟩ rfl rfl rfl rfl rfl named Try.func4 joined
    inst (by unfold Func.isWrapper; first | (rw [if_pos (by decide +kernel)]; kernel_rfl) | (rw [if_neg (by decide +kernel)]; exact ⟨rfl, rfl⟩))
    (fun os started H enc _ => lifted os started H enc)

/-- THE STATEMENT -/
theorem proved : Rows.DenoteRunsSaid := over
end Go.Proofs.Ytkppmlignfhdeaa.denoteRuns
