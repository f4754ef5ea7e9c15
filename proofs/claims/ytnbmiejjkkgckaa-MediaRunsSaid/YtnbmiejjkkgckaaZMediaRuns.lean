/- Proved: 'MediaRuns' returns true for every input, and its arguments read as they did; no condition is laid on them. -/
import Derived.Test.YtnbmiejjkkgckaaRows
import Derived.Test.YtnbmiejjkkgckaaZ1
import Derived.Test.YtnbmiejjkkgckaaZWMediaRuns
set_option linter.unusedSimpArgs false
set_option linter.unusedVariables false
namespace Go.Proofs.Ytnbmiejjkkgckaa.mediaRuns
open Go.ChangeShapes Go.WideShapes Go.ChangeAt Go.RowKit
set_option linter.unusedVariables false

theorem own : ownKnob Try.prog.godebug = none := by kernel_rfl
theorem laidOut : laidOutB Try.prog = true := by kernel_rfl
theorem opens : OpensVs Try.prog [30, 31, 45] fun a : StateR × List Int × EventR × Unit => [vstate a.1, .t (tints a.2.1), vevent a.2.2.1] := opensVs_cons a30 (opensVs_cons a31 (opensVs_cons a45 opensVs_nil))
theorem contract (a : StateR × List Int × EventR × Unit) : CPure Try.prog 5 [vstate a.1, .t (tints a.2.1), vevent a.2.2.1] (vbool true) := runs5 _ _ _
set_option maxRecDepth 100000 in
theorem lifted (os : Os) (started : os.Started) (H : Type) (enc : TypeId × Value → H) :
    ReturnsInHanded {} Try.checked os 5 .any (Rows.mediaRunsSpec.pre6 enc Try.prog Try.f5 Rows.mediaRunsRow.domain false) (Rows.mediaRunsSpec.post enc Try.prog Try.f5 false true false false) := by
  refine returnsInHanded_of_change (C := Try.checked) own started (by kernel_rfl) Try.func5
    (ChangeSpec.witness6 (enc := enc) (C := Try.checked) false ⟨#[], #[.agg #[.slice none 0 0, .slice none 0 0], .slice none 0 0, .agg #[.int .i64 0, .string ⟨#[]⟩, .string ⟨#[]⟩, .string ⟨#[]⟩, .int .u64 0]], []⟩ 8 (by kernel_rfl) (by kernel_rfl) (by kernel_rfl) (by kernel_rfl)) ?_
  intro W base args ds gs before hval0 hW hcnd _
  have hval : ∀ (j : Nat) t v, Try.f5.params[j]? = some t → args[j]? = some v → Value.okWide Try.prog W .any base t v := hval0
  have hW' := hW
  obtain ⟨p, q, hA0, hV, rfl, hfz, hnd⟩ := hW
  have hA : DataW.TrodAll enc Try.prog W 0 (fun _ => true) true Try.f5.params.toList args.toList ds p := hA0
  rw [Try.params5] at hA hval
  have hopen := opens enc W (fun _ => true) true _ ds p (fun j t v h1 h2 => hval j t v (by simpa using h1) (by simpa using h2)) hA
  have hkeep := fun W' (hb : Below W.heap.size W W') => trodAll_keep laidOut hb (of_decide_eq_true (by kernel_rfl)) hA
  obtain ⟨v0, vs0, d0, ds0, p0, q0, hargs0, rfl, rfl, h0, r0⟩ := trodAll_cons hA
  obtain ⟨v1, vs1, d1, ds1, p1, q1, hargs1, rfl, rfl, h1, r1⟩ := trodAll_cons r0
  obtain ⟨v2, vs2, d2, ds2, p2, q2, hargs2, rfl, rfl, h2, r2⟩ := trodAll_cons r1
  obtain ⟨rfl, rfl, rfl⟩ := trodAll_nil r2
  obtain ⟨rfl, rfl⟩ := trodVars_none hV
  obtain ⟨a, ha⟩ := hopen
  clear hA0 hval0
  refine ((contract a).2 W (allS W) args.toList (fun _ h => h) ha).mono fun e W' => ?_
  rintro ⟨v, S', rfl, _, _, _, hv, bel⟩
  obtain rfl : v = .bool true := (rdV_lit_inv hv).1
  exact ⟨_, rfl, _, _, _, [], _, [], hW', trodAll_mk1 (shut_bool Try.underlying4 _), hkeep W' bel, rfl, bel.frame _, fun h => by cases h⟩

theorem over : Rows.mediaRunsRow.holds Try.pinned (OpenSpec.ofChange Rows.mediaRunsSpec) :=
  OpenClaim.holds_of_wide 5 Try.f5 rfl rfl rfl rfl rfl rfl rfl ⟨rfl, rfl, rfl, rfl, rfl⟩ rfl rfl rfl rfl rfl (by kernel_rfl) Try.func5 (by kernel_rfl)
    (of_decide_eq_true (by kernel_rfl)) (by unfold Func.isWrapper; first | (rw [if_pos (by decide +kernel)]; kernel_rfl) | (rw [if_neg (by decide +kernel)]; exact ⟨rfl, rfl⟩))
    (fun os started H enc _ => lifted os started H enc)

/-- THE STATEMENT -/
theorem proved : Rows.MediaRunsSaid := over
end Go.Proofs.Ytnbmiejjkkgckaa.mediaRuns
