/- Proved: 'TimelineJoins' returns true for every input, and its arguments read as they did; no condition is laid on them. -/
import Derived.Test.YtkppmlignfhdeaaGreatRows
import Derived.Test.YtkppmlignfhdeaaGreatZG
import Derived.Test.YtkppmlignfhdeaaGreatZP
import Derived.Test.YtkppmlignfhdeaaGreatZU4
set_option linter.unusedSimpArgs false
set_option linter.unusedVariables false
set_option linter.unusedSectionVars false
namespace Go.Proofs.YtkppmlignfhdeaaGreat.timelineJoins
open Go.ChangeShapes Go.WideShapes Go.ChangeAt Go.RowKit
set_option linter.unusedVariables false

theorem own : ownKnob Tryz.prog.godebug = none := by kernel_rfl
theorem laidOut : laidOutB Tryz.prog = true := by kernel_rfl
theorem opens : OpensVs Tryz.prog [46, 46, 25, 25] fun a : TrackF × TrackF × List Int × List Int × Unit => [.t (tclips a.1.1), .t (tclips a.2.1.1), .t (tints a.2.2.1), .t (tints a.2.2.2.1)] := opensVs_cons aTrack (opensVs_cons aTrack (opensVs_cons aInts (opensVs_cons aInts opensVs_nil)))
theorem contract (a : TrackF × TrackF × List Int × List Int × Unit) : CPure Tryz.prog 6 [.t (tclips a.1.1), .t (tclips a.2.1.1), .t (tints a.2.2.1), .t (tints a.2.2.2.1)] (vbool true) := joins14 _ _ _ _ a.1.2 a.2.1.2
set_option maxRecDepth 100000 in
theorem lifted (os : Os) (started : os.Started) (H : Type) (enc : TypeId × Value → H) :
    ReturnsInHanded {} Tryz.checked os 6 .any (Rows.timelineJoinsSpec.pre6 enc Tryz.prog Tryz.f6 Rows.timelineJoinsRow.domain false) (Rows.timelineJoinsSpec.post enc Tryz.prog Tryz.f6 false true false false) := by
  refine returnsInHanded_of_change (C := Tryz.checked) own started (by kernel_rfl) Tryz.func6
    (ChangeSpec.witness6 (enc := enc) (C := Tryz.checked) false ⟨#[], #[.slice none 0 0, .slice none 0 0, .slice none 0 0, .slice none 0 0], []⟩ 8 (by kernel_rfl) (by kernel_rfl) (by kernel_rfl) (by kernel_rfl)) ?_
  intro W base args ds gs before hval0 hW hcnd _
  have hval : ∀ (j : Nat) t v, Tryz.f6.params[j]? = some t → args[j]? = some v → Value.okWide Tryz.prog W .any base t v := hval0
  have hW' := hW
  obtain ⟨p, q, hA0, hV, rfl, hfz, hnd⟩ := hW
  have hA : DataW.TrodAll enc Tryz.prog W 0 (fun _ => true) true Tryz.f6.params.toList args.toList ds p := hA0
  rw [Tryz.params6] at hA hval
  have hopen := opens enc W (fun _ => true) true _ ds p (fun j t v h1 h2 => hval j t v (by simpa using h1) (by simpa using h2)) hA
  have hkeep := fun W' (hb : Below W.heap.size W W') => trodAll_keep laidOut hb (of_decide_eq_true (by kernel_rfl)) hA
  obtain ⟨v0, vs0, d0, ds0, p0, q0, hargs0, rfl, rfl, h0, r0⟩ := trodAll_cons hA
  obtain ⟨v1, vs1, d1, ds1, p1, q1, hargs1, rfl, rfl, h1, r1⟩ := trodAll_cons r0
  obtain ⟨v2, vs2, d2, ds2, p2, q2, hargs2, rfl, rfl, h2, r2⟩ := trodAll_cons r1
  obtain ⟨v3, vs3, d3, ds3, p3, q3, hargs3, rfl, rfl, h3, r3⟩ := trodAll_cons r2
  obtain ⟨rfl, rfl, rfl⟩ := trodAll_nil r3
  obtain ⟨rfl, rfl⟩ := trodVars_none hV
  obtain ⟨a, ha⟩ := hopen
  clear hA0 hval0
  refine ((contract a).2 W (allS W) args.toList (fun _ h => h) ha).mono fun e W' => ?_
  rintro ⟨v, S', rfl, _, _, _, hv, bel⟩
  obtain rfl : v = .bool true := (rdV_lit_inv hv).1
  exact ⟨_, rfl, _, _, _, [], _, [], hW', trodAll_mk1 (shut_bool Tryz.underlying4 _), hkeep W' bel, rfl, bel.frame _, fun h => by cases h⟩

theorem named : Tryz.pinned.checked.prog.funcNamed Rows.timelineJoinsRow.func = some 6 := by kernel_rfl
theorem joined : joinedFacts Tryz.pinned.checked.prog 6 Tryz.f6 Rows.timelineJoinsSpec Rows.timelineJoinsRow = true := by kernel_rfl
theorem inst : Tryz.f6.isInstance Tryz.pinned.checked.prog Rows.timelineJoinsRow.origin Rows.timelineJoinsRow.targs := of_decide_eq_true (by kernel_rfl)
theorem over : Rows.timelineJoinsRow.holds Tryz.pinned (OpenSpec.ofChange Rows.timelineJoinsSpec) :=
  OpenClaim.holds_of_wide 6 Tryz.f6 rfl rfl rfl rfl rfl rfl rfl ⟨rfl, rfl, rfl, rfl, rfl⟩ rfl rfl rfl rfl rfl named Tryz.func6 joined
    inst (by unfold Func.isWrapper; first | (rw [if_pos (by decide +kernel)]; kernel_rfl) | (rw [if_neg (by decide +kernel)]; exact ⟨rfl, rfl⟩))
    (fun os started H enc _ => lifted os started H enc)

/-- THE STATEMENT -/
theorem proved : Rows.TimelineJoinsSaid := over
end Go.Proofs.YtkppmlignfhdeaaGreat.timelineJoins
