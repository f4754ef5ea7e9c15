/- Proved: 'DenoteCovers' returns true for every input, and its arguments read as they did; no condition is laid on them. -/
import Derived.Test.YtkppmlignfhdeaaRows
import Derived.Test.YtkppmlignfhdeaaZG
import Derived.Test.YtkppmlignfhdeaaZOE
import Derived.Test.YtkppmlignfhdeaaYA
set_option linter.unusedSimpArgs false
set_option linter.unusedVariables false
set_option linter.unusedSectionVars false
namespace Go.Proofs.Ytkppmlignfhdeaa.denoteCovers
open Go.ChangeShapes Go.WideShapes Go.ChangeAt Go.RowKit
set_option linter.unusedVariables false

theorem own : ownKnob Try.prog.godebug = none := by kernel_rfl
theorem laidOut : laidOutB Try.prog = true := by kernel_rfl
theorem opens : OpensVs Try.prog [22] fun a : List Int × Unit => [.t (tints a.1)] := opensVs_cons aInts opensVs_nil
theorem contract (a : List Int × Unit) : CPure Try.prog 5 [.t (tints a.1)] (vbool true) := denCovers _
set_option maxRecDepth 100000 in
theorem lifted (os : Os) (started : os.Started) (H : Type) (enc : TypeId × Value → H) :
    ReturnsInHanded {} Try.checked os 5 .any (Rows.denoteCoversSpec.pre6 enc Try.prog Try.f5 Rows.denoteCoversRow.domain false) (Rows.denoteCoversSpec.post enc Try.prog Try.f5 false true false false) := by
  refine returnsInHanded_of_change (C := Try.checked) own started (by kernel_rfl) Try.func5
    (ChangeSpec.witness6 (enc := enc) (C := Try.checked) false ⟨#[], #[.slice none 0 0], []⟩ 8 (by kernel_rfl) (by kernel_rfl) (by kernel_rfl) (by kernel_rfl)) ?_
  intro W base args ds gs before hval0 hW hcnd _
  have hval : ∀ (j : Nat) t v, Try.f5.params[j]? = some t → args[j]? = some v → Value.okWide Try.prog W .any base t v := hval0
  have hW' := hW
  obtain ⟨p, q, hA0, hV, rfl, hfz, hnd⟩ := hW
  have hA : DataW.TrodAll enc Try.prog W 0 (fun _ => true) true Try.f5.params.toList args.toList ds p := hA0
  rw [Try.params5] at hA hval
  have hopen := opens enc W (fun _ => true) true _ ds p (fun j t v h1 h2 => hval j t v (by simpa using h1) (by simpa using h2)) hA
  have hkeep := fun W' (hb : Below W.heap.size W W') => trodAll_keep laidOut hb (of_decide_eq_true (by kernel_rfl)) hA
  obtain ⟨v0, vs0, d0, ds0, p0, q0, hargs0, rfl, rfl, h0, r0⟩ := trodAll_cons hA
  obtain ⟨rfl, rfl, rfl⟩ := trodAll_nil r0
  obtain ⟨rfl, rfl⟩ := trodVars_none hV
  obtain ⟨a, ha⟩ := hopen
  clear hA0 hval0
  refine ((contract a).2 W (allS W) args.toList (fun _ h => h) ha).mono fun e W' => ?_
  rintro ⟨v, S', rfl, _, _, _, hv, bel⟩
  obtain rfl : v = .bool true := (rdV_lit_inv hv).1
  exact ⟨_, rfl, _, _, _, [], _, [], hW', trodAll_mk1 (shut_bool Try.underlying4 _), hkeep W' bel, rfl, bel.frame _, fun h => by cases h⟩

theorem named : Try.pinned.checked.prog.funcNamed Rows.denoteCoversRow.func = some 5 := by kernel_rfl
theorem joined : joinedFacts Try.pinned.checked.prog 5 Try.f5 Rows.denoteCoversSpec Rows.denoteCoversRow = true := by kernel_rfl
theorem inst : Try.f5.isInstance Try.pinned.checked.prog Rows.denoteCoversRow.origin Rows.denoteCoversRow.targs := of_decide_eq_true (by kernel_rfl)
theorem over : Rows.denoteCoversRow.holds Try.pinned (OpenSpec.ofChange Rows.denoteCoversSpec) :=
  OpenClaim.holds_of_wide 5 Try.f5 rfl rfl rfl rfl rfl rfl rfl ⟨rfl, rfl, rfl, rfl, rfl⟩ rfl rfl rfl rfl rfl named Try.func5 joined
    inst (by unfold Func.isWrapper; first | (rw [if_pos (by decide +kernel)]; kernel_rfl) | (rw [if_neg (by decide +kernel)]; exact ⟨rfl, rfl⟩))
    (fun os started H enc _ => lifted os started H enc)

/-- THE STATEMENT -/
theorem proved : Rows.DenoteCoversSaid := over
end Go.Proofs.Ytkppmlignfhdeaa.denoteCovers
