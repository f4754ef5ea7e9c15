/- Proved here: The walk of a law, for use in the proofs of the given statements; conditions stand in each theorem. -/
import Derived.Test.YtnbmiejjkkgckaaZZ
import Derived.Test.YtnbmiejjkkgckaaZT
set_option linter.unusedSimpArgs false
set_option linter.unusedVariables false
set_option linter.unusedSimpArgs false
set_option linter.unusedVariables false
namespace Go.Proofs.Ytnbmiejjkkgckaa
open Go.RowKit
set_option maxRecDepth 4000
theorem ev1_end (L : List Int) (k : Nat) : (ev1 L k).2 ≤ k + 5 := by
  unfold ev1
  simp only
  split
  · exact Nat.le_refl _
  · split
    · simp only; omega
    · split <;> simp only <;> omega
theorem evGo_end (L : List Int) : ∀ (c k : Nat), (evGo L c k).2 ≤ k + 5 * c
  | 0, k => Nat.le_refl _
  | c + 1, k => by
    have h1 := ev1_end L k
    have h2 := evGo_end L c (ev1 L k).2
    show (evGo L c (ev1 L k).2).2 ≤ _
    omega
theorem evs_end (L : List Int) (k : Nat) {n : Int} (h1 : 0 ≤ n) : (evs17 L k n).2 ≤ k + 1 + 5 * n.toNat := by
  have h2 := evGo_end L (tapeN L k (n + 1)).toNat (k + 1)
  have h3 := tapeN_lt (L := L) (k := k) (show 1 ≤ n + 1 by omega)
  unfold evs17
  omega
theorem reports7 (L : List Int) : CPure Try.prog 7 [.t (tints L)] (vbool true) := by
  refine cpure_of Try.xen7 Try.func7 rfl Try.ntmps7 (by rw [Try.results7]) (awp_facts fun hf => aw_ok _ ?_)
  simp only [go_sem, ne_eq, not_true_eq_false, or_false, false_or, or_self, Nat.reduceGT, Nat.reducePow, Nat.reduceLT, ↓reduceIte, Nat.reduceAdd, Nat.reduceMul, Nat.reduceSub, Nat.reduceMod, Nat.reduceLeDiff, Nat.reduceEqDiff, Nat.reduceBEq, reduceCtorEq, imp_self, implies_true, beq_self_eq_true, bne_self_eq_false, Bool.not_false, Bool.not_true, beq_true, beq_false, Bool.or_self, Bool.false_or, Bool.or_false, Bool.true_or, Bool.false_and, Bool.and_false]
  refine icall_mk (made12 L 6 (by omega) (by omega)) rfl ?_
  obtain ⟨m1, m2, m3, m4⟩ := made_plain L (n := 6) (by omega) (by omega)
  generalize (runS ⟨[], []⟩ (evs17 L 0 6).1).1 = s at *
  simp only [go_sem, ne_eq, not_true_eq_false, or_false, false_or, or_self, Nat.reduceGT, Nat.reducePow, Nat.reduceLT, ↓reduceIte, Nat.reduceAdd, Nat.reduceMul, Nat.reduceSub, Nat.reduceMod, Nat.reduceLeDiff, Nat.reduceEqDiff, Nat.reduceBEq, reduceCtorEq, imp_self, implies_true, beq_self_eq_true, bne_self_eq_false, Bool.not_false, Bool.not_true, beq_true, beq_false, Bool.or_self, Bool.false_or, Bool.or_false, Bool.true_or, Bool.false_and, Bool.and_false]
  have hk := evs_end L 0 (n := 6) (by omega)
  have hl := evs_len L (evs17 L 0 6).2 (n := 12) (by omega)
  have hfol := fun n => run_follow m1 (evs17 L (evs17 L 0 6).2 12).1 n
  refine drawC_of 12 .done rfl (by kernel_rfl) (by kernel_rfl) (by decide) ?_
  simp only [go_sem, ne_eq, not_true_eq_false, or_false, false_or, or_self, Nat.reduceGT, Nat.reducePow, Nat.reduceLT, ↓reduceIte, Nat.reduceAdd, Nat.reduceMul, Nat.reduceSub, Nat.reduceMod, Nat.reduceLeDiff, Nat.reduceEqDiff, Nat.reduceBEq, reduceCtorEq, imp_self, implies_true, beq_self_eq_true, bne_self_eq_false, Bool.not_false, Bool.not_true, beq_true, beq_false, Bool.or_self, Bool.false_or, Bool.or_false, Bool.true_or, Bool.false_and, Bool.and_false]
  refine bcall (events17 L (evs17 L 0 6).2 12 (by omega) (by omega) (by omega)) rfl rfl rfl ?_
  simp only [go_sem, ne_eq, not_true_eq_false, or_false, false_or, or_self, Nat.reduceGT, Nat.reducePow, Nat.reduceLT, ↓reduceIte, Nat.reduceAdd, Nat.reduceMul, Nat.reduceSub, Nat.reduceMod, Nat.reduceLeDiff, Nat.reduceEqDiff, Nat.reduceBEq, reduceCtorEq, imp_self, implies_true, beq_self_eq_true, bne_self_eq_false, Bool.not_false, Bool.not_true, beq_true, beq_false, Bool.or_self, Bool.false_or, Bool.or_false, Bool.true_or, Bool.false_and, Bool.and_false]
  refine ⟨_, run22 s (evs17 L (evs17 L 0 6).2 12).1 (by omega), ?_⟩
  generalize runS s (evs17 L (evs17 L 0 6).2 12).1 = r at *
  simp only [go_sem, ne_eq, not_true_eq_false, or_false, false_or, or_self, Nat.reduceGT, Nat.reducePow, Nat.reduceLT, ↓reduceIte, Nat.reduceAdd, Nat.reduceMul, Nat.reduceSub, Nat.reduceMod, Nat.reduceLeDiff, Nat.reduceEqDiff, Nat.reduceBEq, reduceCtorEq, imp_self, implies_true, beq_self_eq_true, bne_self_eq_false, Bool.not_false, Bool.not_true, beq_true, beq_false, Bool.or_self, Bool.false_or, Bool.or_false, Bool.true_or, Bool.false_and, Bool.and_false]
  refine ⟨by kernel_rfl, ?_⟩
  refine awp_loop_f (fun (k : Nat) σ => setS 28 (vint k) σ) (fun k => k ≤ 5) (fun k => 5 - k) 0 (weak_self ?_) (Nat.zero_le _) ?_
  · simp only [go_sem, ne_eq, not_true_eq_false, or_false, false_or, or_self, Nat.reduceGT, Nat.reducePow, Nat.reduceLT, ↓reduceIte, Nat.reduceAdd, Nat.reduceMul, Nat.reduceSub, Nat.reduceMod, Nat.reduceLeDiff, Nat.reduceEqDiff, Nat.reduceBEq, reduceCtorEq, imp_self, implies_true, beq_self_eq_true, bne_self_eq_false, Bool.not_false, Bool.not_true, beq_true, beq_false, Bool.or_self, Bool.false_or, Bool.or_false, Bool.true_or, Bool.false_and, Bool.and_false]
    simp
  rintro k hk
  refine aw_ok _ ?_
  simp only [go_sem, ne_eq, not_true_eq_false, or_false, false_or, or_self, Nat.reduceGT, Nat.reducePow, Nat.reduceLT, ↓reduceIte, Nat.reduceAdd, Nat.reduceMul, Nat.reduceSub, Nat.reduceMod, Nat.reduceLeDiff, Nat.reduceEqDiff, Nat.reduceBEq, reduceCtorEq, imp_self, implies_true, beq_self_eq_true, bne_self_eq_false, Bool.not_false, Bool.not_true, beq_true, beq_false, Bool.or_self, Bool.false_or, Bool.or_false, Bool.true_or, Bool.false_and, Bool.and_false]
  refine ⟨fun hlt => ?_, fun hge => ?_⟩
  all_goals simp only [decide_eq_true_eq, decide_eq_false_iff_not, Int.ofNat_lt] at *
  · unfold awS
    simp only [go_sem, ne_eq, not_true_eq_false, or_false, false_or, or_self, Nat.reduceGT, Nat.reducePow, Nat.reduceLT, ↓reduceIte, Nat.reduceAdd, Nat.reduceMul, Nat.reduceSub, Nat.reduceMod, Nat.reduceLeDiff, Nat.reduceEqDiff, Nat.reduceBEq, reduceCtorEq, imp_self, implies_true, beq_self_eq_true, bne_self_eq_false, Bool.not_false, Bool.not_true, beq_true, beq_false, Bool.or_self, Bool.false_or, Bool.or_false, Bool.true_or, Bool.false_and, Bool.and_false]
    refine ⟨⟨by omega, by omega⟩, hlt, ?_⟩
    generalize [_, _, _, _, _].getD k _ = n
    refine ⟨_, status15 s n, ?_⟩
    have hn := hfol n
    generalize status s.files s.links n = st0 at *
    simp only [go_sem, ne_eq, not_true_eq_false, or_false, false_or, or_self, Nat.reduceGT, Nat.reducePow, Nat.reduceLT, ↓reduceIte, Nat.reduceAdd, Nat.reduceMul, Nat.reduceSub, Nat.reduceMod, Nat.reduceLeDiff, Nat.reduceEqDiff, Nat.reduceBEq, reduceCtorEq, imp_self, implies_true, beq_self_eq_true, bne_self_eq_false, Bool.not_false, Bool.not_true, beq_true, beq_false, Bool.or_self, Bool.false_or, Bool.or_false, Bool.true_or, Bool.false_and, Bool.and_false]
    refine awp_loop_f (fun (x : Int × Nat) σ => setS 37 (vint x.2) (setS 10 (vint x.1) σ)) (fun x => x.2 ≤ r.2.1.length ∧ follow n x.1 (r.2.1.drop x.2) = some (status r.1.files r.1.links n)) (fun x => r.2.1.length - x.2) (st0, 0) (weak_self ?_) ⟨Nat.zero_le _, hn⟩ ?_
    · simp only [go_sem, ne_eq, not_true_eq_false, or_false, false_or, or_self, Nat.reduceGT, Nat.reducePow, Nat.reduceLT, ↓reduceIte, Nat.reduceAdd, Nat.reduceMul, Nat.reduceSub, Nat.reduceMod, Nat.reduceLeDiff, Nat.reduceEqDiff, Nat.reduceBEq, reduceCtorEq, imp_self, implies_true, beq_self_eq_true, bne_self_eq_false, Bool.not_false, Bool.not_true, beq_true, beq_false, Bool.or_self, Bool.false_or, Bool.or_false, Bool.true_or, Bool.false_and, Bool.and_false]
      simp
    rintro ⟨st, j⟩ ⟨hj, hfo⟩
    refine awp_facts fun hf2 => aw_ok _ ?_
    simp only at hj hfo
    have hm : r.2.1.length ≤ maxLen := by
      simp only [go_sem, factsT, List.length_map] at hf2
      omega
    clear hf2
    simp only [go_sem, ne_eq, not_true_eq_false, or_false, false_or, or_self, Nat.reduceGT, Nat.reducePow, Nat.reduceLT, ↓reduceIte, Nat.reduceAdd, Nat.reduceMul, Nat.reduceSub, Nat.reduceMod, Nat.reduceLeDiff, Nat.reduceEqDiff, Nat.reduceBEq, reduceCtorEq, imp_self, implies_true, beq_self_eq_true, bne_self_eq_false, Bool.not_false, Bool.not_true, beq_true, beq_false, Bool.or_self, Bool.false_or, Bool.or_false, Bool.true_or, Bool.false_and, Bool.and_false]
    refine ⟨fun hlt => ?_, fun hge => ?_⟩
    all_goals simp only [decide_eq_true_eq, decide_eq_false_iff_not, Int.ofNat_lt] at *
    · unfold awS
      simp only [go_sem, ne_eq, not_true_eq_false, or_false, false_or, or_self, Nat.reduceGT, Nat.reducePow, Nat.reduceLT, ↓reduceIte, Nat.reduceAdd, Nat.reduceMul, Nat.reduceSub, Nat.reduceMod, Nat.reduceLeDiff, Nat.reduceEqDiff, Nat.reduceBEq, reduceCtorEq, imp_self, implies_true, beq_self_eq_true, bne_self_eq_false, Bool.not_false, Bool.not_true, beq_true, beq_false, Bool.or_self, Bool.false_or, Bool.or_false, Bool.true_or, Bool.false_and, Bool.and_false]
      rw [List.drop_eq_getElem_cons hlt] at hfo
      have hg : r.2.1.getD j default = r.2.1[j] := by simp [List.getD_eq_getElem?_getD, hlt]
      rw [hg]
      generalize r.2.1[j] = o at *
      simp only [follow] at hfo
      refine ⟨⟨by omega, by omega⟩, fun hne => ?_, fun heq => ?_⟩
      all_goals simp only [beq_bytesL, Bool.not_eq_true', Bool.not_eq_false', decide_eq_true_eq, decide_eq_false_iff_not] at *
      · rw [if_neg hne] at hfo
        unfold awS
        simp only [go_sem, ne_eq, not_true_eq_false, or_false, false_or, or_self, Nat.reduceGT, Nat.reducePow, Nat.reduceLT, ↓reduceIte, Nat.reduceAdd, Nat.reduceMul, Nat.reduceSub, Nat.reduceMod, Nat.reduceLeDiff, Nat.reduceEqDiff, Nat.reduceBEq, reduceCtorEq, imp_self, implies_true, beq_self_eq_true, bne_self_eq_false, Bool.not_false, Bool.not_true, beq_true, beq_false, Bool.or_self, Bool.false_or, Bool.or_false, Bool.true_or, Bool.false_and, Bool.and_false]
        refine ⟨(st, j + 1), weak_self ?_, ⟨by simp only; omega, hfo⟩, by simp only; omega⟩
        simp only [go_sem, ne_eq, not_true_eq_false, or_false, false_or, or_self, Nat.reduceGT, Nat.reducePow, Nat.reduceLT, ↓reduceIte, Nat.reduceAdd, Nat.reduceMul, Nat.reduceSub, Nat.reduceMod, Nat.reduceLeDiff, Nat.reduceEqDiff, Nat.reduceBEq, reduceCtorEq, imp_self, implies_true, beq_self_eq_true, bne_self_eq_false, Bool.not_false, Bool.not_true, beq_true, beq_false, Bool.or_self, Bool.false_or, Bool.or_false, Bool.true_or, Bool.false_and, Bool.and_false]
        simp [wrap_of hlt hm]
      · rw [if_pos heq] at hfo
        unfold awS
        simp only [go_sem, ne_eq, not_true_eq_false, or_false, false_or, or_self, Nat.reduceGT, Nat.reducePow, Nat.reduceLT, ↓reduceIte, Nat.reduceAdd, Nat.reduceMul, Nat.reduceSub, Nat.reduceMod, Nat.reduceLeDiff, Nat.reduceEqDiff, Nat.reduceBEq, reduceCtorEq, imp_self, implies_true, beq_self_eq_true, bne_self_eq_false, Bool.not_false, Bool.not_true, beq_true, beq_false, Bool.or_self, Bool.false_or, Bool.or_false, Bool.true_or, Bool.false_and, Bool.and_false]
        refine ⟨fun h1 => ?_, fun h1 => ?_⟩
        all_goals simp only [beq_iff_eq, beq_eq_false_iff_ne, ne_eq] at h1
        · rw [if_pos h1] at hfo; cases hfo
        · rw [if_neg h1] at hfo
          unfold awS
          simp only [go_sem, ne_eq, not_true_eq_false, or_false, false_or, or_self, Nat.reduceGT, Nat.reducePow, Nat.reduceLT, ↓reduceIte, Nat.reduceAdd, Nat.reduceMul, Nat.reduceSub, Nat.reduceMod, Nat.reduceLeDiff, Nat.reduceEqDiff, Nat.reduceBEq, reduceCtorEq, imp_self, implies_true, beq_self_eq_true, bne_self_eq_false, Bool.not_false, Bool.not_true, beq_true, beq_false, Bool.or_self, Bool.false_or, Bool.or_false, Bool.true_or, Bool.false_and, Bool.and_false]
          refine ⟨(o.status, j + 1), weak_self ?_, ⟨by simp only; omega, hfo⟩, by simp only; omega⟩
          simp only [go_sem, ne_eq, not_true_eq_false, or_false, false_or, or_self, Nat.reduceGT, Nat.reducePow, Nat.reduceLT, ↓reduceIte, Nat.reduceAdd, Nat.reduceMul, Nat.reduceSub, Nat.reduceMod, Nat.reduceLeDiff, Nat.reduceEqDiff, Nat.reduceBEq, reduceCtorEq, imp_self, implies_true, beq_self_eq_true, bne_self_eq_false, Bool.not_false, Bool.not_true, beq_true, beq_false, Bool.or_self, Bool.false_or, Bool.or_false, Bool.true_or, Bool.false_and, Bool.and_false]
          simp [wrap_of hlt hm]
    · unfold awS
      simp only [go_sem, ne_eq, not_true_eq_false, or_false, false_or, or_self, Nat.reduceGT, Nat.reducePow, Nat.reduceLT, ↓reduceIte, Nat.reduceAdd, Nat.reduceMul, Nat.reduceSub, Nat.reduceMod, Nat.reduceLeDiff, Nat.reduceEqDiff, Nat.reduceBEq, reduceCtorEq, imp_self, implies_true, beq_self_eq_true, bne_self_eq_false, Bool.not_false, Bool.not_true, beq_true, beq_false, Bool.or_self, Bool.false_or, Bool.or_false, Bool.true_or, Bool.false_and, Bool.and_false]
      refine ⟨_, status15 r.1 n, ?_⟩
      rw [List.drop_eq_nil_of_le (by omega)] at hfo
      simp only [follow] at hfo
      injection hfo with hfo
      subst hfo
      simp only [go_sem, ne_eq, not_true_eq_false, or_false, false_or, or_self, Nat.reduceGT, Nat.reducePow, Nat.reduceLT, ↓reduceIte, Nat.reduceAdd, Nat.reduceMul, Nat.reduceSub, Nat.reduceMod, Nat.reduceLeDiff, Nat.reduceEqDiff, Nat.reduceBEq, reduceCtorEq, imp_self, implies_true, beq_self_eq_true, bne_self_eq_false, Bool.not_false, Bool.not_true, beq_true, beq_false, Bool.or_self, Bool.false_or, Bool.or_false, Bool.true_or, Bool.false_and, Bool.and_false]
      refine ⟨k + 1, weak_self ?_, by omega, by omega⟩
      simp only [go_sem, ne_eq, not_true_eq_false, or_false, false_or, or_self, Nat.reduceGT, Nat.reducePow, Nat.reduceLT, ↓reduceIte, Nat.reduceAdd, Nat.reduceMul, Nat.reduceSub, Nat.reduceMod, Nat.reduceLeDiff, Nat.reduceEqDiff, Nat.reduceBEq, reduceCtorEq, imp_self, implies_true, beq_self_eq_true, bne_self_eq_false, Bool.not_false, Bool.not_true, beq_true, beq_false, Bool.or_self, Bool.false_or, Bool.or_false, Bool.true_or, Bool.false_and, Bool.and_false]
      simp [wrap64 (x := (k : Int) + 1) (by omega) (by omega)]
  · unfold awS
    simp only [go_sem, ne_eq, not_true_eq_false, or_false, false_or, or_self, Nat.reduceGT, Nat.reducePow, Nat.reduceLT, ↓reduceIte, Nat.reduceAdd, Nat.reduceMul, Nat.reduceSub, Nat.reduceMod, Nat.reduceLeDiff, Nat.reduceEqDiff, Nat.reduceBEq, reduceCtorEq, imp_self, implies_true, beq_self_eq_true, bne_self_eq_false, Bool.not_false, Bool.not_true, beq_true, beq_false, Bool.or_self, Bool.false_or, Bool.or_false, Bool.true_or, Bool.false_and, Bool.and_false]
    refine ⟨_, awake11, ?_⟩
    simp only [go_sem, ne_eq, not_true_eq_false, or_false, false_or, or_self, Nat.reduceGT, Nat.reducePow, Nat.reduceLT, ↓reduceIte, Nat.reduceAdd, Nat.reduceMul, Nat.reduceSub, Nat.reduceMod, Nat.reduceLeDiff, Nat.reduceEqDiff, Nat.reduceBEq, reduceCtorEq, imp_self, implies_true, beq_self_eq_true, bne_self_eq_false, Bool.not_false, Bool.not_true, beq_true, beq_false, Bool.or_self, Bool.false_or, Bool.or_false, Bool.true_or, Bool.false_and, Bool.and_false]
end Go.Proofs.Ytnbmiejjkkgckaa
