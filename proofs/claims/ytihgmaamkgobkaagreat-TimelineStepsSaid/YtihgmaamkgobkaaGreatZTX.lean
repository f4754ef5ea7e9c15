/- Proved here: 'TimelineSteps' returns true, for use in the proofs of the given statements; conditions stand in each theorem. -/
import Derived.Test.YtihgmaamkgobkaaGreatZR
import Derived.Test.YtihgmaamkgobkaaGreatZQ
set_option linter.unusedSimpArgs false
set_option linter.unusedVariables false
set_option linter.unusedSectionVars false
set_option linter.unusedSimpArgs false
set_option linter.unusedVariables false
set_option linter.unnecessarySimpa false
namespace Go.Proofs.YtihgmaamkgobkaaGreat
open Go.RowKit
set_option maxRecDepth 4000
theorem steps8 (L : List Int) (m n : Int) (hm : I64 m) (hn : I64 n) : CPure Tryz.prog 8 [.t (tints L), vint m, vint n] (vbool true) := by
  have hc := clipAt_nice L 0 3 2 (by omega) (by omega)
  refine cpure_of Tryz.xen8 Tryz.func8 rfl Tryz.ntmps8 (by rw [Tryz.results8]) (aw_ok _ ?_)
  simp only [go_sem, Nat.reduceGT, Nat.reducePow, Nat.reduceLT, ↓reduceIte, Nat.reduceAdd, Nat.reduceMul, Nat.reduceSub, Nat.reduceMod, Nat.reduceLeDiff, Nat.reduceEqDiff, Nat.reduceBEq, reduceCtorEq]
  refine icall_box (cClip L 0 3 2 (by omega) ⟨by omega, by omega⟩ ⟨by omega, by omega⟩) rfl rfl rfl ?_
  generalize clipAt L 0 3 2 = M at hc
  obtain ⟨c, kq⟩ := M
  simp only at hc
  obtain ⟨p0, p7⟩ := and7 m
  obtain ⟨q0, q7⟩ := and7 n
  have h9 := hc.l9
  simp only [go_sem, Nat.reduceGT, Nat.reducePow, Nat.reduceLT, ↓reduceIte, Nat.reduceAdd, Nat.reduceMul, Nat.reduceSub, Nat.reduceMod, Nat.reduceLeDiff, Nat.reduceEqDiff, Nat.reduceBEq, reduceCtorEq]
  generalize bits .and .i64 m 7 = p at *
  generalize bits .and .i64 n 7 = q at *
  rw [wrap64 (x := p + q) (by omega) (by omega)]
  refine ⟨fun h => ?_, fun h => ?_⟩
  · unfold awS
    simp only [go_sem, Nat.reduceGT, Nat.reducePow, Nat.reduceLT, ↓reduceIte, Nat.reduceAdd, Nat.reduceMul, Nat.reduceSub, Nat.reduceMod, Nat.reduceLeDiff, Nat.reduceEqDiff, Nat.reduceBEq, reduceCtorEq]
    refine ⟨_, cAwake, ?_⟩
    simp only [go_sem, Nat.reduceGT, Nat.reducePow, Nat.reduceLT, ↓reduceIte, Nat.reduceAdd, Nat.reduceMul, Nat.reduceSub, Nat.reduceMod, Nat.reduceLeDiff, Nat.reduceEqDiff, Nat.reduceBEq, reduceCtorEq]
  · simp only [decide_eq_true_eq, decide_eq_false_iff_not, beq_iff_eq, bne_iff_ne, ne_eq, beq_eq_false_iff_ne, Bool.not_eq_true', Bool.not_eq_true, Bool.not_eq_false', Bool.or_eq_true, Bool.and_eq_true, Bool.or_eq_false_iff, Bool.and_eq_false_iff, Bool.false_eq_true, Bool.not_eq_eq_eq_not, Bool.not_true, Bool.not_false] at h
    obtain ⟨a1, a2⟩ := nice_adv hc (n := p) p0 (by omega)
    obtain ⟨b1, b2⟩ := nice_adv hc (n := p + q) (by omega) (by omega)
    have ab := nice_adv2 hc p0 q0 (by omega)
    have hd := headC_ok hc.ok (n := p + 1) (by omega) (by omega)
    have fa := advR_fit hc.fit hc.ok (n := p) p0 (by omega)
    have fb := advR_fit hc.fit hc.ok (n := p + q) (by omega) (by omega)
    have vh := headR_ok hc.ok (n := p + 1) (by omega) (by omega)
    have fh := fit_len hc.fit (n := p + 1) (by omega) (by omega)
    have k1 := cAdvance c p hc.fit ⟨by omega, by omega⟩
    have k2 := cAdvance (advR c p) q fa ⟨by omega, by omega⟩
    have k3 := cAdvance c (p + q) hc.fit ⟨by omega, by omega⟩
    have k4 := cHead c (p + 1) hc.fit ⟨by omega, by omega⟩
    rw [a1] at k1
    rw [ab] at k2
    rw [b1] at k3
    rw [hd] at k4
    unfold awS
    simp only [go_sem, Nat.reduceGT, Nat.reducePow, Nat.reduceLT, ↓reduceIte, Nat.reduceAdd, Nat.reduceMul, Nat.reduceSub, Nat.reduceMod, Nat.reduceLeDiff, Nat.reduceEqDiff, Nat.reduceBEq, reduceCtorEq]
    refine ⟨_, k1, ?_⟩
    simp only [go_sem, Nat.reduceGT, Nat.reducePow, Nat.reduceLT, ↓reduceIte, Nat.reduceAdd, Nat.reduceMul, Nat.reduceSub, Nat.reduceMod, Nat.reduceLeDiff, Nat.reduceEqDiff, Nat.reduceBEq, reduceCtorEq]
    refine ⟨_, k2, ?_⟩
    simp only [go_sem, Nat.reduceGT, Nat.reducePow, Nat.reduceLT, ↓reduceIte, Nat.reduceAdd, Nat.reduceMul, Nat.reduceSub, Nat.reduceMod, Nat.reduceLeDiff, Nat.reduceEqDiff, Nat.reduceBEq, reduceCtorEq, wrap64 (x := p + q) (by omega) (by omega)]
    refine ⟨_, k3, ?_⟩
    simp only [go_sem, Nat.reduceGT, Nat.reducePow, Nat.reduceLT, ↓reduceIte, Nat.reduceAdd, Nat.reduceMul, Nat.reduceSub, Nat.reduceMod, Nat.reduceLeDiff, Nat.reduceEqDiff, Nat.reduceBEq, reduceCtorEq, wrap64 (x := p + 1) (by omega) (by omega)]
    refine ⟨_, k4, ?_⟩
    simp only [go_sem, Nat.reduceGT, Nat.reducePow, Nat.reduceLT, ↓reduceIte, Nat.reduceAdd, Nat.reduceMul, Nat.reduceSub, Nat.reduceMod, Nat.reduceLeDiff, Nat.reduceEqDiff, Nat.reduceBEq, reduceCtorEq, beq_self_eq_true]
    refine ⟨_, cSameClip _ _, ?_⟩
    simp only [go_sem, Nat.reduceGT, Nat.reducePow, Nat.reduceLT, ↓reduceIte, Nat.reduceAdd, Nat.reduceMul, Nat.reduceSub, Nat.reduceMod, Nat.reduceLeDiff, Nat.reduceEqDiff, Nat.reduceBEq, reduceCtorEq, beq_self_eq_true, eqb_self]
    refine ⟨_, cPClip _ fb, ?_⟩
    simp only [go_sem, Nat.reduceGT, Nat.reducePow, Nat.reduceLT, ↓reduceIte, Nat.reduceAdd, Nat.reduceMul, Nat.reduceSub, Nat.reduceMod, Nat.reduceLeDiff, Nat.reduceEqDiff, Nat.reduceBEq, reduceCtorEq, beq_self_eq_true, eqb_self, b2]
    refine ⟨_, cPClip _ fh, ?_⟩
    simp only [go_sem, Nat.reduceGT, Nat.reducePow, Nat.reduceLT, ↓reduceIte, Nat.reduceAdd, Nat.reduceMul, Nat.reduceSub, Nat.reduceMod, Nat.reduceLeDiff, Nat.reduceEqDiff, Nat.reduceBEq, reduceCtorEq, beq_self_eq_true, eqb_self, b2, vh]
    refine ⟨_, fun _ => cAwake, ?_⟩
    simp only [go_sem, Nat.reduceGT, Nat.reducePow, Nat.reduceLT, ↓reduceIte, Nat.reduceAdd, Nat.reduceMul, Nat.reduceSub, Nat.reduceMod, Nat.reduceLeDiff, Nat.reduceEqDiff, Nat.reduceBEq, reduceCtorEq, beq_self_eq_true, wrap64 (x := p + 1) (by omega) (by omega)]
end Go.Proofs.YtihgmaamkgobkaaGreat
