/- Proved here: The walk of a law, for use in the proofs of the given statements; conditions stand in each theorem. -/
import Derived.Test.YtnbmiejjkkgckaaZZ
set_option linter.unusedSimpArgs false
set_option linter.unusedVariables false
namespace Go.Proofs.Ytnbmiejjkkgckaa
open Go.RowKit
set_option maxRecDepth 4000
abbrev vu64 (n : Int) : V := .t (.lit (.int .u64 n))
theorem returns6 (L : List Int) (sum other : Int) : CPure Try.prog 6 [.t (tints L), vu64 sum, vu64 other] (vbool true) := by
  refine cpure_of Try.xen6 Try.func6 rfl Try.ntmps6 (by rw [Try.results6]) (awp_facts fun hf => aw_ok _ ?_)
  simp only [go_sem, ne_eq, not_true_eq_false, or_false, false_or, or_self, Nat.reduceGT, Nat.reducePow, Nat.reduceLT, ↓reduceIte, Nat.reduceAdd, Nat.reduceMul, Nat.reduceSub, Nat.reduceMod, Nat.reduceLeDiff, Nat.reduceEqDiff, Nat.reduceBEq, reduceCtorEq, imp_self, implies_true, beq_self_eq_true, bne_self_eq_false, Bool.not_false, Bool.not_true, beq_true, beq_false, Bool.or_self, Bool.false_or, Bool.or_false, Bool.true_or, Bool.false_and, Bool.and_false]
  refine icall_mk (made12 L 10 (by omega) (by omega)) rfl ?_
  obtain ⟨m1, m2, m3, m4⟩ := made_plain L (n := 10) (by omega) (by omega)
  generalize (runS ⟨[], []⟩ (evs17 L 0 10).1).1 = s at *
  simp only [go_sem, ne_eq, not_true_eq_false, or_false, false_or, or_self, Nat.reduceGT, Nat.reducePow, Nat.reduceLT, ↓reduceIte, Nat.reduceAdd, Nat.reduceMul, Nat.reduceSub, Nat.reduceMod, Nat.reduceLeDiff, Nat.reduceEqDiff, Nat.reduceBEq, reduceCtorEq, imp_self, implies_true, beq_self_eq_true, bne_self_eq_false, Bool.not_false, Bool.not_true, beq_true, beq_false, Bool.or_self, Bool.false_or, Bool.or_false, Bool.true_or, Bool.false_and, Bool.and_false]
  refine lcall_give ?_
  simp only [go_sem, ne_eq, not_true_eq_false, or_false, false_or, or_self, Nat.reduceGT, Nat.reducePow, Nat.reduceLT, ↓reduceIte, Nat.reduceAdd, Nat.reduceMul, Nat.reduceSub, Nat.reduceMod, Nat.reduceLeDiff, Nat.reduceEqDiff, Nat.reduceBEq, reduceCtorEq, imp_self, implies_true, beq_self_eq_true, bne_self_eq_false, Bool.not_false, Bool.not_true, beq_true, beq_false, Bool.or_self, Bool.false_or, Bool.or_false, Bool.true_or, Bool.false_and, Bool.and_false]
  obtain ⟨a, b, c, d, r, oA, oB, oC, oD, oR, e1, e2, e3, e4, e5, s1, s2, s3, s4, s5⟩ := returns_plain m1 (by omega) (by omega) m4 sum other
  refine ⟨_, run22 s [⟨1, ⟨#[]⟩, bOwn, ⟨#[]⟩, sum⟩, ⟨3, bMine, bOwn, ⟨#[]⟩, 0⟩] (by simp), ?_⟩
  rw [e1]
  simp only [go_sem, ne_eq, not_true_eq_false, or_false, false_or, or_self, Nat.reduceGT, Nat.reducePow, Nat.reduceLT, ↓reduceIte, Nat.reduceAdd, Nat.reduceMul, Nat.reduceSub, Nat.reduceMod, Nat.reduceLeDiff, Nat.reduceEqDiff, Nat.reduceBEq, reduceCtorEq, imp_self, implies_true, beq_self_eq_true, bne_self_eq_false, Bool.not_false, Bool.not_true, beq_true, beq_false, Bool.or_self, Bool.false_or, Bool.or_false, Bool.true_or, Bool.false_and, Bool.and_false]
  refine ⟨_, step18 a ⟨2, ⟨#[]⟩, bOwn, ⟨#[]⟩, 0⟩, ?_⟩
  rw [e2]
  simp only [go_sem, ne_eq, not_true_eq_false, or_false, false_or, or_self, Nat.reduceGT, Nat.reducePow, Nat.reduceLT, ↓reduceIte, Nat.reduceAdd, Nat.reduceMul, Nat.reduceSub, Nat.reduceMod, Nat.reduceLeDiff, Nat.reduceEqDiff, Nat.reduceBEq, reduceCtorEq, imp_self, implies_true, beq_self_eq_true, bne_self_eq_false, Bool.not_false, Bool.not_true, beq_true, beq_false, Bool.or_self, Bool.false_or, Bool.or_false, Bool.true_or, Bool.false_and, Bool.and_false]
  refine ⟨_, step18 b ⟨1, ⟨#[]⟩, bOwn, ⟨#[]⟩, sum⟩, ?_⟩
  rw [e3]
  simp only [go_sem, ne_eq, not_true_eq_false, or_false, false_or, or_self, Nat.reduceGT, Nat.reducePow, Nat.reduceLT, ↓reduceIte, Nat.reduceAdd, Nat.reduceMul, Nat.reduceSub, Nat.reduceMod, Nat.reduceLeDiff, Nat.reduceEqDiff, Nat.reduceBEq, reduceCtorEq, imp_self, implies_true, beq_self_eq_true, bne_self_eq_false, Bool.not_false, Bool.not_true, beq_true, beq_false, Bool.or_self, Bool.false_or, Bool.or_false, Bool.true_or, Bool.false_and, Bool.and_false]
  refine ⟨_, step18 b ⟨1, ⟨#[]⟩, bOwn, ⟨#[]⟩, other⟩, ?_⟩
  rw [e4]
  simp only [go_sem, ne_eq, not_true_eq_false, or_false, false_or, or_self, Nat.reduceGT, Nat.reducePow, Nat.reduceLT, ↓reduceIte, Nat.reduceAdd, Nat.reduceMul, Nat.reduceSub, Nat.reduceMod, Nat.reduceLeDiff, Nat.reduceEqDiff, Nat.reduceBEq, reduceCtorEq, imp_self, implies_true, beq_self_eq_true, bne_self_eq_false, Bool.not_false, Bool.not_true, beq_true, beq_false, Bool.or_self, Bool.false_or, Bool.or_false, Bool.true_or, Bool.false_and, Bool.and_false]
  refine ⟨_, step18 d ⟨4, bMine, bOwn, ⟨#[]⟩, 0⟩, ?_⟩
  rw [e5]
  simp only [go_sem, ne_eq, not_true_eq_false, or_false, false_or, or_self, Nat.reduceGT, Nat.reducePow, Nat.reduceLT, ↓reduceIte, Nat.reduceAdd, Nat.reduceMul, Nat.reduceSub, Nat.reduceMod, Nat.reduceLeDiff, Nat.reduceEqDiff, Nat.reduceBEq, reduceCtorEq, imp_self, implies_true, beq_self_eq_true, bne_self_eq_false, Bool.not_false, Bool.not_true, beq_true, beq_false, Bool.or_self, Bool.false_or, Bool.or_false, Bool.true_or, Bool.false_and, Bool.and_false]
  refine lcall_lend ?_
  simp only [go_sem, ne_eq, not_true_eq_false, or_false, false_or, or_self, Nat.reduceGT, Nat.reducePow, Nat.reduceLT, ↓reduceIte, Nat.reduceAdd, Nat.reduceMul, Nat.reduceSub, Nat.reduceMod, Nat.reduceLeDiff, Nat.reduceEqDiff, Nat.reduceBEq, reduceCtorEq, imp_self, implies_true, beq_self_eq_true, bne_self_eq_false, Bool.not_false, Bool.not_true, beq_true, beq_false, Bool.or_self, Bool.false_or, Bool.or_false, Bool.true_or, Bool.false_and, Bool.and_false]
  refine ⟨_, errnos24 [0, 0], rfl, ?_⟩
  simp only [go_sem, ne_eq, not_true_eq_false, or_false, false_or, or_self, Nat.reduceGT, Nat.reducePow, Nat.reduceLT, ↓reduceIte, Nat.reduceAdd, Nat.reduceMul, Nat.reduceSub, Nat.reduceMod, Nat.reduceLeDiff, Nat.reduceEqDiff, Nat.reduceBEq, reduceCtorEq, imp_self, implies_true, beq_self_eq_true, bne_self_eq_false, Bool.not_false, Bool.not_true, beq_true, beq_false, Bool.or_self, Bool.false_or, Bool.or_false, Bool.true_or, Bool.false_and, Bool.and_false]
  refine ⟨fun h => ?_, fun h => ?_⟩
  all_goals simp only [beq_iff_eq, beq_eq_false_iff_ne, ne_eq] at h
  all_goals first | rw [if_pos h] at s4 | rw [if_neg h] at s4
  all_goals
    unfold awS
    simp only [go_sem, ne_eq, not_true_eq_false, or_false, false_or, or_self, Nat.reduceGT, Nat.reducePow, Nat.reduceLT, ↓reduceIte, Nat.reduceAdd, Nat.reduceMul, Nat.reduceSub, Nat.reduceMod, Nat.reduceLeDiff, Nat.reduceEqDiff, Nat.reduceBEq, reduceCtorEq, imp_self, implies_true, beq_self_eq_true, bne_self_eq_false, Bool.not_false, Bool.not_true, beq_true, beq_false, Bool.or_self, Bool.false_or, Bool.or_false, Bool.true_or, Bool.false_and, Bool.and_false]
    refine ⟨_, status15 a bMine, ?_⟩
    rw [s1]
    simp only [go_sem, ne_eq, not_true_eq_false, or_false, false_or, or_self, Nat.reduceGT, Nat.reducePow, Nat.reduceLT, ↓reduceIte, Nat.reduceAdd, Nat.reduceMul, Nat.reduceSub, Nat.reduceMod, Nat.reduceLeDiff, Nat.reduceEqDiff, Nat.reduceBEq, reduceCtorEq, imp_self, implies_true, beq_self_eq_true, bne_self_eq_false, Bool.not_false, Bool.not_true, beq_true, beq_false, Bool.or_self, Bool.false_or, Bool.or_false, Bool.true_or, Bool.false_and, Bool.and_false]
    refine ⟨_, status15 b bMine, ?_⟩
    rw [s2]
    simp only [go_sem, ne_eq, not_true_eq_false, or_false, false_or, or_self, Nat.reduceGT, Nat.reducePow, Nat.reduceLT, ↓reduceIte, Nat.reduceAdd, Nat.reduceMul, Nat.reduceSub, Nat.reduceMod, Nat.reduceLeDiff, Nat.reduceEqDiff, Nat.reduceBEq, reduceCtorEq, imp_self, implies_true, beq_self_eq_true, bne_self_eq_false, Bool.not_false, Bool.not_true, beq_true, beq_false, Bool.or_self, Bool.false_or, Bool.or_false, Bool.true_or, Bool.false_and, Bool.and_false]
    refine ⟨_, status15 c bMine, ?_⟩
    rw [s3]
    simp only [go_sem, ne_eq, not_true_eq_false, or_false, false_or, or_self, Nat.reduceGT, Nat.reducePow, Nat.reduceLT, ↓reduceIte, Nat.reduceAdd, Nat.reduceMul, Nat.reduceSub, Nat.reduceMod, Nat.reduceLeDiff, Nat.reduceEqDiff, Nat.reduceBEq, reduceCtorEq, imp_self, implies_true, beq_self_eq_true, bne_self_eq_false, Bool.not_false, Bool.not_true, beq_true, beq_false, Bool.or_self, Bool.false_or, Bool.or_false, Bool.true_or, Bool.false_and, Bool.and_false]
    refine ⟨_, status15 d bMine, ?_⟩
    rw [s4]
    simp only [go_sem, ne_eq, not_true_eq_false, or_false, false_or, or_self, Nat.reduceGT, Nat.reducePow, Nat.reduceLT, ↓reduceIte, Nat.reduceAdd, Nat.reduceMul, Nat.reduceSub, Nat.reduceMod, Nat.reduceLeDiff, Nat.reduceEqDiff, Nat.reduceBEq, reduceCtorEq, imp_self, implies_true, beq_self_eq_true, bne_self_eq_false, Bool.not_false, Bool.not_true, beq_true, beq_false, Bool.or_self, Bool.false_or, Bool.or_false, Bool.true_or, Bool.false_and, Bool.and_false]
    refine ⟨_, status15 r bMine, ?_⟩
    rw [s5]
    simp only [go_sem, ne_eq, not_true_eq_false, or_false, false_or, or_self, Nat.reduceGT, Nat.reducePow, Nat.reduceLT, ↓reduceIte, Nat.reduceAdd, Nat.reduceMul, Nat.reduceSub, Nat.reduceMod, Nat.reduceLeDiff, Nat.reduceEqDiff, Nat.reduceBEq, reduceCtorEq, imp_self, implies_true, beq_self_eq_true, bne_self_eq_false, Bool.not_false, Bool.not_true, beq_true, beq_false, Bool.or_self, Bool.false_or, Bool.or_false, Bool.true_or, Bool.false_and, Bool.and_false]
    refine ⟨_, awake11, ?_⟩
    simp only [go_sem, ne_eq, not_true_eq_false, or_false, false_or, or_self, Nat.reduceGT, Nat.reducePow, Nat.reduceLT, ↓reduceIte, Nat.reduceAdd, Nat.reduceMul, Nat.reduceSub, Nat.reduceMod, Nat.reduceLeDiff, Nat.reduceEqDiff, Nat.reduceBEq, reduceCtorEq, imp_self, implies_true, beq_self_eq_true, bne_self_eq_false, Bool.not_false, Bool.not_true, beq_true, beq_false, Bool.or_self, Bool.false_or, Bool.or_false, Bool.true_or, Bool.false_and, Bool.and_false]
end Go.Proofs.Ytnbmiejjkkgckaa
