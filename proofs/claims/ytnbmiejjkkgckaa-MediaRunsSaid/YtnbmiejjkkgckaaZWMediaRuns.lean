/- Proved here: The walk of a law, for use in the proofs of the given statements; conditions stand in each theorem. -/
import Derived.Test.YtnbmiejjkkgckaaZZ
import Derived.Test.YtnbmiejjkkgckaaZ3
import Derived.Test.YtnbmiejjkkgckaaZ2
set_option linter.unusedSimpArgs false
set_option linter.unusedVariables false
set_option linter.unusedSimpArgs false
set_option linter.unusedVariables false
namespace Go.Proofs.Ytnbmiejjkkgckaa
open Go.RowKit
set_option maxRecDepth 4000
theorem nil_args {w : World} {E : Env} {xs : List V} {vs : List Value} (h : RdVs w E (.agg [.t (.lit (.slice none 0 0)), .t (.lit (.slice none 0 0))] :: xs) vs) : RdVs w E (vstate ⟨[], []⟩ :: xs) vs := by
  cases vs with
  | nil => simp only [RdVs] at h
  | cons v vs =>
    simp only [RdVs] at h ⊢
    refine ⟨?_, h.2⟩
    have h1 := h.1
    simp only [RdV, RdVs] at h1 ⊢
    obtain ⟨us, rfl, h2, h3⟩ := h1
    refine ⟨us, rfl, ?_, h3⟩
    obtain ⟨l⟩ := us
    rcases l with _ | ⟨x, _ | ⟨y, _ | ⟨z, l⟩⟩⟩ <;> simp only [RdVs, RdV, and_false, and_true] at h2 ⊢
    exact ⟨wkE_ok (a := .lit (.slice none 0 0)) rfl h2.1, wkE_ok (a := .lit (.slice none 0 0)) rfl h2.2⟩
set_option maxHeartbeats 8000000 in
theorem runs5 (raw : StateR) (L : List Int) (e : EventR) : CPure Try.prog 5 [vstate raw, .t (tints L), vevent e] (vbool true) := by
  obtain ⟨m1, m2, m3, m4⟩ := made_plain L (n := 10) (by omega) (by omega)
  have hmk := made12 L 10 (by omega) (by omega)
  generalize (runS ⟨[], []⟩ (evs17 L 0 10).1).1 = s at *
  have hk := evs_end L 0 (n := 10) (by omega)
  have hev := events17io L (evs17 L 0 10).2 8 (by omega) (by omega) (by omega)
  have hl := evs_len L (evs17 L 0 10).2 (n := 8) (by omega)
  generalize (evs17 L (evs17 L 0 10).2 8) = es at *
  generalize (evs17 L 0 10).2 = k0 at *
  refine cpure_of Try.xen5 Try.func5 rfl Try.ntmps5 (by rw [Try.results5]) (awp_facts fun hf => aw_ok _ ?_)
  simp only [go_sem, ne_eq, not_true_eq_false, or_false, false_or, or_self, Nat.reduceGT, Nat.reducePow, Nat.reduceLT, ↓reduceIte, Nat.reduceAdd, Nat.reduceMul, Nat.reduceSub, Nat.reduceMod, Nat.reduceLeDiff, Nat.reduceEqDiff, Nat.reduceBEq, reduceCtorEq, imp_self, implies_true, beq_self_eq_true, bne_self_eq_false, Bool.not_false, Bool.not_true, beq_true, beq_false, Bool.or_self, Bool.false_or, Bool.or_false, Bool.true_or, Bool.false_and, Bool.and_false]
  refine icall_mk hmk rfl ?_
  simp only [go_sem, ne_eq, not_true_eq_false, or_false, false_or, or_self, Nat.reduceGT, Nat.reducePow, Nat.reduceLT, ↓reduceIte, Nat.reduceAdd, Nat.reduceMul, Nat.reduceSub, Nat.reduceMod, Nat.reduceLeDiff, Nat.reduceEqDiff, Nat.reduceBEq, reduceCtorEq, imp_self, implies_true, beq_self_eq_true, bne_self_eq_false, Bool.not_false, Bool.not_true, beq_true, beq_false, Bool.or_self, Bool.false_or, Bool.or_false, Bool.true_or, Bool.false_and, Bool.and_false]
  refine drawC_of 6 .done rfl (by kernel_rfl) (by kernel_rfl) (by decide) ?_
  simp only [go_sem, ne_eq, not_true_eq_false, or_false, false_or, or_self, Nat.reduceGT, Nat.reducePow, Nat.reduceLT, ↓reduceIte, Nat.reduceAdd, Nat.reduceMul, Nat.reduceSub, Nat.reduceMod, Nat.reduceLeDiff, Nat.reduceEqDiff, Nat.reduceBEq, reduceCtorEq, imp_self, implies_true, beq_self_eq_true, bne_self_eq_false, Bool.not_false, Bool.not_true, beq_true, beq_false, Bool.or_self, Bool.false_or, Bool.or_false, Bool.true_or, Bool.false_and, Bool.and_false]
  refine bcall_io hev rfl rfl rfl rfl ?_
  simp only [go_sem, ne_eq, not_true_eq_false, or_false, false_or, or_self, Nat.reduceGT, Nat.reducePow, Nat.reduceLT, ↓reduceIte, Nat.reduceAdd, Nat.reduceMul, Nat.reduceSub, Nat.reduceMod, Nat.reduceLeDiff, Nat.reduceEqDiff, Nat.reduceBEq, reduceCtorEq, imp_self, implies_true, beq_self_eq_true, bne_self_eq_false, Bool.not_false, Bool.not_true, beq_true, beq_false, Bool.or_self, Bool.false_or, Bool.or_false, Bool.true_or, Bool.false_and, Bool.and_false]
  refine ⟨⟨by unfold maxLen; omega, by omega⟩, by kernel_rfl, ?_⟩
  have e0 : ∀ f : EventR, [T.lit (.int .i64 f.kind), T.lit (.string f.media), T.lit (.string f.file), T.lit (.string f.proxy), T.lit (.int .u64 f.sum)] = EventR.c f := fun _ => rfl
  have a0 : ∀ (xs : List EventR) (y : EventR), xs.map EventR.c ++ [EventR.c y] = (xs ++ [y]).map EventR.c := fun _ _ => by simp
  simp only [e0, a0]
  obtain ⟨l, hll⟩ : ∃ l, l = es.1 ++ [e] := ⟨_, rfl⟩
  have hlen : l.length ≤ 9 := by rw [hll]; simp; omega
  rw [← hll]
  have c3 : ((3 : Nat) : Int) = 3 := rfl
  have w1 : IntKind.i64.wrap (0 + 1) = 1 := by decide
  have w2 : IntKind.i64.wrap (1 + 1) = 2 := by decide
  have w3 : IntKind.i64.wrap (2 + 1) = 3 := by decide
  refine awp_loopL ?_
  refine awpL_step (aw_ok _ ?_)
  simp only [go_sem, ne_eq, not_true_eq_false, or_false, false_or, or_self, Nat.reduceGT, Nat.reducePow, Nat.reduceLT, ↓reduceIte, Nat.reduceAdd, Nat.reduceMul, Nat.reduceSub, Nat.reduceMod, Nat.reduceLeDiff, Nat.reduceEqDiff, Nat.reduceBEq, reduceCtorEq, imp_self, implies_true, beq_self_eq_true, bne_self_eq_false, Bool.not_false, Bool.not_true, beq_true, beq_false, Bool.or_self, Bool.false_or, Bool.or_false, Bool.true_or, Bool.false_and, Bool.and_false, nth, Option.getD_some, w1, w2, w3, c3, Int.reduceLT, decide_true, decide_false, Int.reduceToNat, Int.reduceLE, Nat.reduceLT, forall_const, false_implies, true_implies]
  refine awp_loop_f (fun (j : Nat) σ => setS 47 (vint j) (deadS [12, 13, 14, 15, 16, 17, 18, 19, 20, 21, 22, 23, 48, 49, 50, 51, 52, 53, 54, 55, 56, 57, 58, 59, 60, 61, 62, 63, 64, 65, 66, 67, 68, 69, 70, 71, 72, 73, 74, 75, 76, 77, 78, 79, 80, 81, 82, 83, 84, 85] (cleanS σ))) (fun j => j ≤ l.length) (fun j => l.length - j) 0 (weak_self ?_) (Nat.zero_le _) ?_
  · simp only [go_sem, ne_eq, not_true_eq_false, or_false, false_or, or_self, Nat.reduceGT, Nat.reducePow, Nat.reduceLT, ↓reduceIte, Nat.reduceAdd, Nat.reduceMul, Nat.reduceSub, Nat.reduceMod, Nat.reduceLeDiff, Nat.reduceEqDiff, Nat.reduceBEq, reduceCtorEq, imp_self, implies_true, beq_self_eq_true, bne_self_eq_false, Bool.not_false, Bool.not_true, beq_true, beq_false, Bool.or_self, Bool.false_or, Bool.or_false, Bool.true_or, Bool.false_and, Bool.and_false]
    try simp
  rintro j hj
  refine aw_ok _ ?_
  simp only [go_sem, ne_eq, not_true_eq_false, or_false, false_or, or_self, Nat.reduceGT, Nat.reducePow, Nat.reduceLT, ↓reduceIte, Nat.reduceAdd, Nat.reduceMul, Nat.reduceSub, Nat.reduceMod, Nat.reduceLeDiff, Nat.reduceEqDiff, Nat.reduceBEq, reduceCtorEq, imp_self, implies_true, beq_self_eq_true, bne_self_eq_false, Bool.not_false, Bool.not_true, beq_true, beq_false, Bool.or_self, Bool.false_or, Bool.or_false, Bool.true_or, Bool.false_and, Bool.and_false]
  refine ⟨fun hlt => ?_, fun hge => ?_⟩
  · simp only [decide_eq_true_eq, Int.ofNat_lt] at hlt
    unfold awS
    simp only [go_sem, ne_eq, not_true_eq_false, or_false, false_or, or_self, Nat.reduceGT, Nat.reducePow, Nat.reduceLT, ↓reduceIte, Nat.reduceAdd, Nat.reduceMul, Nat.reduceSub, Nat.reduceMod, Nat.reduceLeDiff, Nat.reduceEqDiff, Nat.reduceBEq, reduceCtorEq, imp_self, implies_true, beq_self_eq_true, bne_self_eq_false, Bool.not_false, Bool.not_true, beq_true, beq_false, Bool.or_self, Bool.false_or, Bool.or_false, Bool.true_or, Bool.false_and, Bool.and_false]
    first | refine ⟨⟨by omega, by omega⟩, hlt, ?_⟩ | refine ⟨⟨by omega, by omega⟩, ?_⟩
    generalize l.getD j default = v
    refine ⟨_, step18 raw v, ?_⟩
    obtain ⟨r, hr⟩ : ∃ r, stepS raw v = r := ⟨_, rfl⟩
    rw [hr]
    simp only [go_sem, ne_eq, not_true_eq_false, or_false, false_or, or_self, Nat.reduceGT, Nat.reducePow, Nat.reduceLT, ↓reduceIte, Nat.reduceAdd, Nat.reduceMul, Nat.reduceSub, Nat.reduceMod, Nat.reduceLeDiff, Nat.reduceEqDiff, Nat.reduceBEq, reduceCtorEq, imp_self, implies_true, beq_self_eq_true, bne_self_eq_false, Bool.not_false, Bool.not_true, beq_true, beq_false, Bool.or_self, Bool.false_or, Bool.or_false, Bool.true_or, Bool.false_and, Bool.and_false]
    refine ⟨_, step19 raw v, ?_⟩
    rw [hr]
    simp only [go_sem, ne_eq, not_true_eq_false, or_false, false_or, or_self, Nat.reduceGT, Nat.reducePow, Nat.reduceLT, ↓reduceIte, Nat.reduceAdd, Nat.reduceMul, Nat.reduceSub, Nat.reduceMod, Nat.reduceLeDiff, Nat.reduceEqDiff, Nat.reduceBEq, reduceCtorEq, imp_self, implies_true, beq_self_eq_true, bne_self_eq_false, Bool.not_false, Bool.not_true, beq_true, beq_false, Bool.or_self, Bool.false_or, Bool.or_false, Bool.true_or, Bool.false_and, Bool.and_false, bne_self_eq_false]
    refine ⟨_, same20 r.1, ?_⟩
    simp only [go_sem, ne_eq, not_true_eq_false, or_false, false_or, or_self, Nat.reduceGT, Nat.reducePow, Nat.reduceLT, ↓reduceIte, Nat.reduceAdd, Nat.reduceMul, Nat.reduceSub, Nat.reduceMod, Nat.reduceLeDiff, Nat.reduceEqDiff, Nat.reduceBEq, reduceCtorEq, imp_self, implies_true, beq_self_eq_true, bne_self_eq_false, Bool.not_false, Bool.not_true, beq_true, beq_false, Bool.or_self, Bool.false_or, Bool.or_false, Bool.true_or, Bool.false_and, Bool.and_false, bne_self_eq_false]
    refine ⟨_, outs21 r.2.1, ?_⟩
    simp only [go_sem, ne_eq, not_true_eq_false, or_false, false_or, or_self, Nat.reduceGT, Nat.reducePow, Nat.reduceLT, ↓reduceIte, Nat.reduceAdd, Nat.reduceMul, Nat.reduceSub, Nat.reduceMod, Nat.reduceLeDiff, Nat.reduceEqDiff, Nat.reduceBEq, reduceCtorEq, imp_self, implies_true, beq_self_eq_true, bne_self_eq_false, Bool.not_false, Bool.not_true, beq_true, beq_false, Bool.or_self, Bool.false_or, Bool.or_false, Bool.true_or, Bool.false_and, Bool.and_false, bne_self_eq_false]
    refine ⟨j + 1, weak_self ?_, by omega, by omega⟩
    simp only [go_sem, ne_eq, not_true_eq_false, or_false, false_or, or_self, Nat.reduceGT, Nat.reducePow, Nat.reduceLT, ↓reduceIte, Nat.reduceAdd, Nat.reduceMul, Nat.reduceSub, Nat.reduceMod, Nat.reduceLeDiff, Nat.reduceEqDiff, Nat.reduceBEq, reduceCtorEq, imp_self, implies_true, beq_self_eq_true, bne_self_eq_false, Bool.not_false, Bool.not_true, beq_true, beq_false, Bool.or_self, Bool.false_or, Bool.or_false, Bool.true_or, Bool.false_and, Bool.and_false]
    simp [wrap64 (x := (j : Int) + 1) (by omega) (by omega)]
  unfold awS
  simp only [go_sem, ne_eq, not_true_eq_false, or_false, false_or, or_self, Nat.reduceGT, Nat.reducePow, Nat.reduceLT, ↓reduceIte, Nat.reduceAdd, Nat.reduceMul, Nat.reduceSub, Nat.reduceMod, Nat.reduceLeDiff, Nat.reduceEqDiff, Nat.reduceBEq, reduceCtorEq, imp_self, implies_true, beq_self_eq_true, bne_self_eq_false, Bool.not_false, Bool.not_true, beq_true, beq_false, Bool.or_self, Bool.false_or, Bool.or_false, Bool.true_or, Bool.false_and, Bool.and_false]
  clear hj
  refine lcall_give ?_
  simp only [go_sem, ne_eq, not_true_eq_false, or_false, false_or, or_self, Nat.reduceGT, Nat.reducePow, Nat.reduceLT, ↓reduceIte, Nat.reduceAdd, Nat.reduceMul, Nat.reduceSub, Nat.reduceMod, Nat.reduceLeDiff, Nat.reduceEqDiff, Nat.reduceBEq, reduceCtorEq, imp_self, implies_true, beq_self_eq_true, bne_self_eq_false, Bool.not_false, Bool.not_true, beq_true, beq_false, Bool.or_self, Bool.false_or, Bool.or_false, Bool.true_or, Bool.false_and, Bool.and_false]
  refine ⟨_, run22 raw l (by omega), ?_⟩
  obtain ⟨rr, hrr⟩ : ∃ r, runS raw l = r := ⟨_, rfl⟩
  rw [hrr]
  simp only [go_sem, ne_eq, not_true_eq_false, or_false, false_or, or_self, Nat.reduceGT, Nat.reducePow, Nat.reduceLT, ↓reduceIte, Nat.reduceAdd, Nat.reduceMul, Nat.reduceSub, Nat.reduceMod, Nat.reduceLeDiff, Nat.reduceEqDiff, Nat.reduceBEq, reduceCtorEq, imp_self, implies_true, beq_self_eq_true, bne_self_eq_false, Bool.not_false, Bool.not_true, beq_true, beq_false, Bool.or_self, Bool.false_or, Bool.or_false, Bool.true_or, Bool.false_and, Bool.and_false]
  refine lcall_give ?_
  simp only [go_sem, ne_eq, not_true_eq_false, or_false, false_or, or_self, Nat.reduceGT, Nat.reducePow, Nat.reduceLT, ↓reduceIte, Nat.reduceAdd, Nat.reduceMul, Nat.reduceSub, Nat.reduceMod, Nat.reduceLeDiff, Nat.reduceEqDiff, Nat.reduceBEq, reduceCtorEq, imp_self, implies_true, beq_self_eq_true, bne_self_eq_false, Bool.not_false, Bool.not_true, beq_true, beq_false, Bool.or_self, Bool.false_or, Bool.or_false, Bool.true_or, Bool.false_and, Bool.and_false]
  refine ⟨_, run23 raw l (by omega), ?_⟩
  rw [hrr]
  simp only [go_sem, ne_eq, not_true_eq_false, or_false, false_or, or_self, Nat.reduceGT, Nat.reducePow, Nat.reduceLT, ↓reduceIte, Nat.reduceAdd, Nat.reduceMul, Nat.reduceSub, Nat.reduceMod, Nat.reduceLeDiff, Nat.reduceEqDiff, Nat.reduceBEq, reduceCtorEq, imp_self, implies_true, beq_self_eq_true, bne_self_eq_false, Bool.not_false, Bool.not_true, beq_true, beq_false, Bool.or_self, Bool.false_or, Bool.or_false, Bool.true_or, Bool.false_and, Bool.and_false]
  refine ⟨_, errnos24 rr.2.2, ?_⟩
  simp only [go_sem, ne_eq, not_true_eq_false, or_false, false_or, or_self, Nat.reduceGT, Nat.reducePow, Nat.reduceLT, ↓reduceIte, Nat.reduceAdd, Nat.reduceMul, Nat.reduceSub, Nat.reduceMod, Nat.reduceLeDiff, Nat.reduceEqDiff, Nat.reduceBEq, reduceCtorEq, imp_self, implies_true, beq_self_eq_true, bne_self_eq_false, Bool.not_false, Bool.not_true, beq_true, beq_false, Bool.or_self, Bool.false_or, Bool.or_false, Bool.true_or, Bool.false_and, Bool.and_false]
  refine ⟨_, same20 rr.1, ?_⟩
  simp only [go_sem, ne_eq, not_true_eq_false, or_false, false_or, or_self, Nat.reduceGT, Nat.reducePow, Nat.reduceLT, ↓reduceIte, Nat.reduceAdd, Nat.reduceMul, Nat.reduceSub, Nat.reduceMod, Nat.reduceLeDiff, Nat.reduceEqDiff, Nat.reduceBEq, reduceCtorEq, imp_self, implies_true, beq_self_eq_true, bne_self_eq_false, Bool.not_false, Bool.not_true, beq_true, beq_false, Bool.or_self, Bool.false_or, Bool.or_false, Bool.true_or, Bool.false_and, Bool.and_false]
  refine ⟨_, outs21 rr.2.1, ?_⟩
  simp only [go_sem, ne_eq, not_true_eq_false, or_false, false_or, or_self, Nat.reduceGT, Nat.reducePow, Nat.reduceLT, ↓reduceIte, Nat.reduceAdd, Nat.reduceMul, Nat.reduceSub, Nat.reduceMod, Nat.reduceLeDiff, Nat.reduceEqDiff, Nat.reduceBEq, reduceCtorEq, imp_self, implies_true, beq_self_eq_true, bne_self_eq_false, Bool.not_false, Bool.not_true, beq_true, beq_false, Bool.or_self, Bool.false_or, Bool.or_false, Bool.true_or, Bool.false_and, Bool.and_false]
  refine awpL_step (aw_ok _ ?_)
  simp only [go_sem, ne_eq, not_true_eq_false, or_false, false_or, or_self, Nat.reduceGT, Nat.reducePow, Nat.reduceLT, ↓reduceIte, Nat.reduceAdd, Nat.reduceMul, Nat.reduceSub, Nat.reduceMod, Nat.reduceLeDiff, Nat.reduceEqDiff, Nat.reduceBEq, reduceCtorEq, imp_self, implies_true, beq_self_eq_true, bne_self_eq_false, Bool.not_false, Bool.not_true, beq_true, beq_false, Bool.or_self, Bool.false_or, Bool.or_false, Bool.true_or, Bool.false_and, Bool.and_false, nth, Option.getD_some, w1, w2, w3, c3, Int.reduceLT, decide_true, decide_false, Int.reduceToNat, Int.reduceLE, Nat.reduceLT, forall_const, false_implies, true_implies]
  refine awp_loop_f (fun (j : Nat) σ => setS 47 (vint j) (deadS [12, 13, 14, 15, 16, 17, 18, 19, 20, 21, 22, 23, 48, 49, 50, 51, 52, 53, 54, 55, 56, 57, 58, 59, 60, 61, 62, 63, 64, 65, 66, 67, 68, 69, 70, 71, 72, 73, 74, 75, 76, 77, 78, 79, 80, 81, 82, 83, 84, 85] (cleanS σ))) (fun j => j ≤ l.length) (fun j => l.length - j) 0 (weak_self ?_) (Nat.zero_le _) ?_
  · simp only [go_sem, ne_eq, not_true_eq_false, or_false, false_or, or_self, Nat.reduceGT, Nat.reducePow, Nat.reduceLT, ↓reduceIte, Nat.reduceAdd, Nat.reduceMul, Nat.reduceSub, Nat.reduceMod, Nat.reduceLeDiff, Nat.reduceEqDiff, Nat.reduceBEq, reduceCtorEq, imp_self, implies_true, beq_self_eq_true, bne_self_eq_false, Bool.not_false, Bool.not_true, beq_true, beq_false, Bool.or_self, Bool.false_or, Bool.or_false, Bool.true_or, Bool.false_and, Bool.and_false]
    try simp
  rintro j hj
  refine aw_ok _ ?_
  simp only [go_sem, ne_eq, not_true_eq_false, or_false, false_or, or_self, Nat.reduceGT, Nat.reducePow, Nat.reduceLT, ↓reduceIte, Nat.reduceAdd, Nat.reduceMul, Nat.reduceSub, Nat.reduceMod, Nat.reduceLeDiff, Nat.reduceEqDiff, Nat.reduceBEq, reduceCtorEq, imp_self, implies_true, beq_self_eq_true, bne_self_eq_false, Bool.not_false, Bool.not_true, beq_true, beq_false, Bool.or_self, Bool.false_or, Bool.or_false, Bool.true_or, Bool.false_and, Bool.and_false]
  refine ⟨fun hlt => ?_, fun hge => ?_⟩
  · simp only [decide_eq_true_eq, Int.ofNat_lt] at hlt
    unfold awS
    simp only [go_sem, ne_eq, not_true_eq_false, or_false, false_or, or_self, Nat.reduceGT, Nat.reducePow, Nat.reduceLT, ↓reduceIte, Nat.reduceAdd, Nat.reduceMul, Nat.reduceSub, Nat.reduceMod, Nat.reduceLeDiff, Nat.reduceEqDiff, Nat.reduceBEq, reduceCtorEq, imp_self, implies_true, beq_self_eq_true, bne_self_eq_false, Bool.not_false, Bool.not_true, beq_true, beq_false, Bool.or_self, Bool.false_or, Bool.or_false, Bool.true_or, Bool.false_and, Bool.and_false]
    first | refine ⟨⟨by omega, by omega⟩, hlt, ?_⟩ | refine ⟨⟨by omega, by omega⟩, ?_⟩
    generalize l.getD j default = v
    refine ⟨_, step18 s v, ?_⟩
    obtain ⟨r, hr⟩ : ∃ r, stepS s v = r := ⟨_, rfl⟩
    rw [hr]
    simp only [go_sem, ne_eq, not_true_eq_false, or_false, false_or, or_self, Nat.reduceGT, Nat.reducePow, Nat.reduceLT, ↓reduceIte, Nat.reduceAdd, Nat.reduceMul, Nat.reduceSub, Nat.reduceMod, Nat.reduceLeDiff, Nat.reduceEqDiff, Nat.reduceBEq, reduceCtorEq, imp_self, implies_true, beq_self_eq_true, bne_self_eq_false, Bool.not_false, Bool.not_true, beq_true, beq_false, Bool.or_self, Bool.false_or, Bool.or_false, Bool.true_or, Bool.false_and, Bool.and_false]
    refine ⟨_, step19 s v, ?_⟩
    rw [hr]
    simp only [go_sem, ne_eq, not_true_eq_false, or_false, false_or, or_self, Nat.reduceGT, Nat.reducePow, Nat.reduceLT, ↓reduceIte, Nat.reduceAdd, Nat.reduceMul, Nat.reduceSub, Nat.reduceMod, Nat.reduceLeDiff, Nat.reduceEqDiff, Nat.reduceBEq, reduceCtorEq, imp_self, implies_true, beq_self_eq_true, bne_self_eq_false, Bool.not_false, Bool.not_true, beq_true, beq_false, Bool.or_self, Bool.false_or, Bool.or_false, Bool.true_or, Bool.false_and, Bool.and_false, bne_self_eq_false]
    refine ⟨_, same20 r.1, ?_⟩
    simp only [go_sem, ne_eq, not_true_eq_false, or_false, false_or, or_self, Nat.reduceGT, Nat.reducePow, Nat.reduceLT, ↓reduceIte, Nat.reduceAdd, Nat.reduceMul, Nat.reduceSub, Nat.reduceMod, Nat.reduceLeDiff, Nat.reduceEqDiff, Nat.reduceBEq, reduceCtorEq, imp_self, implies_true, beq_self_eq_true, bne_self_eq_false, Bool.not_false, Bool.not_true, beq_true, beq_false, Bool.or_self, Bool.false_or, Bool.or_false, Bool.true_or, Bool.false_and, Bool.and_false, bne_self_eq_false]
    refine ⟨_, outs21 r.2.1, ?_⟩
    simp only [go_sem, ne_eq, not_true_eq_false, or_false, false_or, or_self, Nat.reduceGT, Nat.reducePow, Nat.reduceLT, ↓reduceIte, Nat.reduceAdd, Nat.reduceMul, Nat.reduceSub, Nat.reduceMod, Nat.reduceLeDiff, Nat.reduceEqDiff, Nat.reduceBEq, reduceCtorEq, imp_self, implies_true, beq_self_eq_true, bne_self_eq_false, Bool.not_false, Bool.not_true, beq_true, beq_false, Bool.or_self, Bool.false_or, Bool.or_false, Bool.true_or, Bool.false_and, Bool.and_false, bne_self_eq_false]
    refine ⟨j + 1, weak_self ?_, by omega, by omega⟩
    simp only [go_sem, ne_eq, not_true_eq_false, or_false, false_or, or_self, Nat.reduceGT, Nat.reducePow, Nat.reduceLT, ↓reduceIte, Nat.reduceAdd, Nat.reduceMul, Nat.reduceSub, Nat.reduceMod, Nat.reduceLeDiff, Nat.reduceEqDiff, Nat.reduceBEq, reduceCtorEq, imp_self, implies_true, beq_self_eq_true, bne_self_eq_false, Bool.not_false, Bool.not_true, beq_true, beq_false, Bool.or_self, Bool.false_or, Bool.or_false, Bool.true_or, Bool.false_and, Bool.and_false]
    simp [wrap64 (x := (j : Int) + 1) (by omega) (by omega)]
  unfold awS
  simp only [go_sem, ne_eq, not_true_eq_false, or_false, false_or, or_self, Nat.reduceGT, Nat.reducePow, Nat.reduceLT, ↓reduceIte, Nat.reduceAdd, Nat.reduceMul, Nat.reduceSub, Nat.reduceMod, Nat.reduceLeDiff, Nat.reduceEqDiff, Nat.reduceBEq, reduceCtorEq, imp_self, implies_true, beq_self_eq_true, bne_self_eq_false, Bool.not_false, Bool.not_true, beq_true, beq_false, Bool.or_self, Bool.false_or, Bool.or_false, Bool.true_or, Bool.false_and, Bool.and_false]
  clear hj
  refine lcall_give ?_
  simp only [go_sem, ne_eq, not_true_eq_false, or_false, false_or, or_self, Nat.reduceGT, Nat.reducePow, Nat.reduceLT, ↓reduceIte, Nat.reduceAdd, Nat.reduceMul, Nat.reduceSub, Nat.reduceMod, Nat.reduceLeDiff, Nat.reduceEqDiff, Nat.reduceBEq, reduceCtorEq, imp_self, implies_true, beq_self_eq_true, bne_self_eq_false, Bool.not_false, Bool.not_true, beq_true, beq_false, Bool.or_self, Bool.false_or, Bool.or_false, Bool.true_or, Bool.false_and, Bool.and_false]
  refine ⟨_, run22 s l (by omega), ?_⟩
  obtain ⟨rr, hrr⟩ : ∃ r, runS s l = r := ⟨_, rfl⟩
  rw [hrr]
  simp only [go_sem, ne_eq, not_true_eq_false, or_false, false_or, or_self, Nat.reduceGT, Nat.reducePow, Nat.reduceLT, ↓reduceIte, Nat.reduceAdd, Nat.reduceMul, Nat.reduceSub, Nat.reduceMod, Nat.reduceLeDiff, Nat.reduceEqDiff, Nat.reduceBEq, reduceCtorEq, imp_self, implies_true, beq_self_eq_true, bne_self_eq_false, Bool.not_false, Bool.not_true, beq_true, beq_false, Bool.or_self, Bool.false_or, Bool.or_false, Bool.true_or, Bool.false_and, Bool.and_false]
  refine lcall_give ?_
  simp only [go_sem, ne_eq, not_true_eq_false, or_false, false_or, or_self, Nat.reduceGT, Nat.reducePow, Nat.reduceLT, ↓reduceIte, Nat.reduceAdd, Nat.reduceMul, Nat.reduceSub, Nat.reduceMod, Nat.reduceLeDiff, Nat.reduceEqDiff, Nat.reduceBEq, reduceCtorEq, imp_self, implies_true, beq_self_eq_true, bne_self_eq_false, Bool.not_false, Bool.not_true, beq_true, beq_false, Bool.or_self, Bool.false_or, Bool.or_false, Bool.true_or, Bool.false_and, Bool.and_false]
  refine ⟨_, run23 s l (by omega), ?_⟩
  rw [hrr]
  simp only [go_sem, ne_eq, not_true_eq_false, or_false, false_or, or_self, Nat.reduceGT, Nat.reducePow, Nat.reduceLT, ↓reduceIte, Nat.reduceAdd, Nat.reduceMul, Nat.reduceSub, Nat.reduceMod, Nat.reduceLeDiff, Nat.reduceEqDiff, Nat.reduceBEq, reduceCtorEq, imp_self, implies_true, beq_self_eq_true, bne_self_eq_false, Bool.not_false, Bool.not_true, beq_true, beq_false, Bool.or_self, Bool.false_or, Bool.or_false, Bool.true_or, Bool.false_and, Bool.and_false]
  refine ⟨_, errnos24 rr.2.2, ?_⟩
  simp only [go_sem, ne_eq, not_true_eq_false, or_false, false_or, or_self, Nat.reduceGT, Nat.reducePow, Nat.reduceLT, ↓reduceIte, Nat.reduceAdd, Nat.reduceMul, Nat.reduceSub, Nat.reduceMod, Nat.reduceLeDiff, Nat.reduceEqDiff, Nat.reduceBEq, reduceCtorEq, imp_self, implies_true, beq_self_eq_true, bne_self_eq_false, Bool.not_false, Bool.not_true, beq_true, beq_false, Bool.or_self, Bool.false_or, Bool.or_false, Bool.true_or, Bool.false_and, Bool.and_false]
  refine ⟨_, same20 rr.1, ?_⟩
  simp only [go_sem, ne_eq, not_true_eq_false, or_false, false_or, or_self, Nat.reduceGT, Nat.reducePow, Nat.reduceLT, ↓reduceIte, Nat.reduceAdd, Nat.reduceMul, Nat.reduceSub, Nat.reduceMod, Nat.reduceLeDiff, Nat.reduceEqDiff, Nat.reduceBEq, reduceCtorEq, imp_self, implies_true, beq_self_eq_true, bne_self_eq_false, Bool.not_false, Bool.not_true, beq_true, beq_false, Bool.or_self, Bool.false_or, Bool.or_false, Bool.true_or, Bool.false_and, Bool.and_false]
  refine ⟨_, outs21 rr.2.1, ?_⟩
  simp only [go_sem, ne_eq, not_true_eq_false, or_false, false_or, or_self, Nat.reduceGT, Nat.reducePow, Nat.reduceLT, ↓reduceIte, Nat.reduceAdd, Nat.reduceMul, Nat.reduceSub, Nat.reduceMod, Nat.reduceLeDiff, Nat.reduceEqDiff, Nat.reduceBEq, reduceCtorEq, imp_self, implies_true, beq_self_eq_true, bne_self_eq_false, Bool.not_false, Bool.not_true, beq_true, beq_false, Bool.or_self, Bool.false_or, Bool.or_false, Bool.true_or, Bool.false_and, Bool.and_false]
  refine awpL_step (aw_ok _ ?_)
  simp only [go_sem, ne_eq, not_true_eq_false, or_false, false_or, or_self, Nat.reduceGT, Nat.reducePow, Nat.reduceLT, ↓reduceIte, Nat.reduceAdd, Nat.reduceMul, Nat.reduceSub, Nat.reduceMod, Nat.reduceLeDiff, Nat.reduceEqDiff, Nat.reduceBEq, reduceCtorEq, imp_self, implies_true, beq_self_eq_true, bne_self_eq_false, Bool.not_false, Bool.not_true, beq_true, beq_false, Bool.or_self, Bool.false_or, Bool.or_false, Bool.true_or, Bool.false_and, Bool.and_false, nth, Option.getD_some, w1, w2, w3, c3, Int.reduceLT, decide_true, decide_false, Int.reduceToNat, Int.reduceLE, Nat.reduceLT, forall_const, false_implies, true_implies]
  refine awp_loop_f (fun (j : Nat) σ => setS 47 (vint j) (deadS [12, 13, 14, 15, 16, 17, 18, 19, 20, 21, 22, 23, 48, 49, 50, 51, 52, 53, 54, 55, 56, 57, 58, 59, 60, 61, 62, 63, 64, 65, 66, 67, 68, 69, 70, 71, 72, 73, 74, 75, 76, 77, 78, 79, 80, 81, 82, 83, 84, 85] (cleanS σ))) (fun j => j ≤ l.length) (fun j => l.length - j) 0 (weak_self ?_) (Nat.zero_le _) ?_
  · simp only [go_sem, ne_eq, not_true_eq_false, or_false, false_or, or_self, Nat.reduceGT, Nat.reducePow, Nat.reduceLT, ↓reduceIte, Nat.reduceAdd, Nat.reduceMul, Nat.reduceSub, Nat.reduceMod, Nat.reduceLeDiff, Nat.reduceEqDiff, Nat.reduceBEq, reduceCtorEq, imp_self, implies_true, beq_self_eq_true, bne_self_eq_false, Bool.not_false, Bool.not_true, beq_true, beq_false, Bool.or_self, Bool.false_or, Bool.or_false, Bool.true_or, Bool.false_and, Bool.and_false]
    try simp
  rintro j hj
  refine aw_ok _ ?_
  simp only [go_sem, ne_eq, not_true_eq_false, or_false, false_or, or_self, Nat.reduceGT, Nat.reducePow, Nat.reduceLT, ↓reduceIte, Nat.reduceAdd, Nat.reduceMul, Nat.reduceSub, Nat.reduceMod, Nat.reduceLeDiff, Nat.reduceEqDiff, Nat.reduceBEq, reduceCtorEq, imp_self, implies_true, beq_self_eq_true, bne_self_eq_false, Bool.not_false, Bool.not_true, beq_true, beq_false, Bool.or_self, Bool.false_or, Bool.or_false, Bool.true_or, Bool.false_and, Bool.and_false]
  refine ⟨fun hlt => ?_, fun hge => ?_⟩
  · simp only [decide_eq_true_eq, Int.ofNat_lt] at hlt
    unfold awS
    simp only [go_sem, ne_eq, not_true_eq_false, or_false, false_or, or_self, Nat.reduceGT, Nat.reducePow, Nat.reduceLT, ↓reduceIte, Nat.reduceAdd, Nat.reduceMul, Nat.reduceSub, Nat.reduceMod, Nat.reduceLeDiff, Nat.reduceEqDiff, Nat.reduceBEq, reduceCtorEq, imp_self, implies_true, beq_self_eq_true, bne_self_eq_false, Bool.not_false, Bool.not_true, beq_true, beq_false, Bool.or_self, Bool.false_or, Bool.or_false, Bool.true_or, Bool.false_and, Bool.and_false]
    first | refine ⟨⟨by omega, by omega⟩, hlt, ?_⟩ | refine ⟨⟨by omega, by omega⟩, ?_⟩
    generalize l.getD j default = v
    refine ⟨_, (step18 ⟨[], []⟩ v).of_args fun _ _ _ h => nil_args h, ?_⟩
    obtain ⟨r, hr⟩ : ∃ r, stepS ⟨[], []⟩ v = r := ⟨_, rfl⟩
    rw [hr]
    simp only [go_sem, ne_eq, not_true_eq_false, or_false, false_or, or_self, Nat.reduceGT, Nat.reducePow, Nat.reduceLT, ↓reduceIte, Nat.reduceAdd, Nat.reduceMul, Nat.reduceSub, Nat.reduceMod, Nat.reduceLeDiff, Nat.reduceEqDiff, Nat.reduceBEq, reduceCtorEq, imp_self, implies_true, beq_self_eq_true, bne_self_eq_false, Bool.not_false, Bool.not_true, beq_true, beq_false, Bool.or_self, Bool.false_or, Bool.or_false, Bool.true_or, Bool.false_and, Bool.and_false]
    refine ⟨_, (step19 ⟨[], []⟩ v).of_args fun _ _ _ h => nil_args h, ?_⟩
    rw [hr]
    simp only [go_sem, ne_eq, not_true_eq_false, or_false, false_or, or_self, Nat.reduceGT, Nat.reducePow, Nat.reduceLT, ↓reduceIte, Nat.reduceAdd, Nat.reduceMul, Nat.reduceSub, Nat.reduceMod, Nat.reduceLeDiff, Nat.reduceEqDiff, Nat.reduceBEq, reduceCtorEq, imp_self, implies_true, beq_self_eq_true, bne_self_eq_false, Bool.not_false, Bool.not_true, beq_true, beq_false, Bool.or_self, Bool.false_or, Bool.or_false, Bool.true_or, Bool.false_and, Bool.and_false, bne_self_eq_false]
    refine ⟨_, same20 r.1, ?_⟩
    simp only [go_sem, ne_eq, not_true_eq_false, or_false, false_or, or_self, Nat.reduceGT, Nat.reducePow, Nat.reduceLT, ↓reduceIte, Nat.reduceAdd, Nat.reduceMul, Nat.reduceSub, Nat.reduceMod, Nat.reduceLeDiff, Nat.reduceEqDiff, Nat.reduceBEq, reduceCtorEq, imp_self, implies_true, beq_self_eq_true, bne_self_eq_false, Bool.not_false, Bool.not_true, beq_true, beq_false, Bool.or_self, Bool.false_or, Bool.or_false, Bool.true_or, Bool.false_and, Bool.and_false, bne_self_eq_false]
    refine ⟨_, outs21 r.2.1, ?_⟩
    simp only [go_sem, ne_eq, not_true_eq_false, or_false, false_or, or_self, Nat.reduceGT, Nat.reducePow, Nat.reduceLT, ↓reduceIte, Nat.reduceAdd, Nat.reduceMul, Nat.reduceSub, Nat.reduceMod, Nat.reduceLeDiff, Nat.reduceEqDiff, Nat.reduceBEq, reduceCtorEq, imp_self, implies_true, beq_self_eq_true, bne_self_eq_false, Bool.not_false, Bool.not_true, beq_true, beq_false, Bool.or_self, Bool.false_or, Bool.or_false, Bool.true_or, Bool.false_and, Bool.and_false, bne_self_eq_false]
    refine ⟨j + 1, weak_self ?_, by omega, by omega⟩
    simp only [go_sem, ne_eq, not_true_eq_false, or_false, false_or, or_self, Nat.reduceGT, Nat.reducePow, Nat.reduceLT, ↓reduceIte, Nat.reduceAdd, Nat.reduceMul, Nat.reduceSub, Nat.reduceMod, Nat.reduceLeDiff, Nat.reduceEqDiff, Nat.reduceBEq, reduceCtorEq, imp_self, implies_true, beq_self_eq_true, bne_self_eq_false, Bool.not_false, Bool.not_true, beq_true, beq_false, Bool.or_self, Bool.false_or, Bool.or_false, Bool.true_or, Bool.false_and, Bool.and_false]
    simp [wrap64 (x := (j : Int) + 1) (by omega) (by omega)]
  unfold awS
  simp only [go_sem, ne_eq, not_true_eq_false, or_false, false_or, or_self, Nat.reduceGT, Nat.reducePow, Nat.reduceLT, ↓reduceIte, Nat.reduceAdd, Nat.reduceMul, Nat.reduceSub, Nat.reduceMod, Nat.reduceLeDiff, Nat.reduceEqDiff, Nat.reduceBEq, reduceCtorEq, imp_self, implies_true, beq_self_eq_true, bne_self_eq_false, Bool.not_false, Bool.not_true, beq_true, beq_false, Bool.or_self, Bool.false_or, Bool.or_false, Bool.true_or, Bool.false_and, Bool.and_false]
  clear hj
  refine lcall_give ?_
  simp only [go_sem, ne_eq, not_true_eq_false, or_false, false_or, or_self, Nat.reduceGT, Nat.reducePow, Nat.reduceLT, ↓reduceIte, Nat.reduceAdd, Nat.reduceMul, Nat.reduceSub, Nat.reduceMod, Nat.reduceLeDiff, Nat.reduceEqDiff, Nat.reduceBEq, reduceCtorEq, imp_self, implies_true, beq_self_eq_true, bne_self_eq_false, Bool.not_false, Bool.not_true, beq_true, beq_false, Bool.or_self, Bool.false_or, Bool.or_false, Bool.true_or, Bool.false_and, Bool.and_false]
  refine ⟨_, (run22 ⟨[], []⟩ l (by omega)).of_args fun _ _ _ h => nil_args h, ?_⟩
  obtain ⟨rr, hrr⟩ : ∃ r, runS ⟨[], []⟩ l = r := ⟨_, rfl⟩
  rw [hrr]
  simp only [go_sem, ne_eq, not_true_eq_false, or_false, false_or, or_self, Nat.reduceGT, Nat.reducePow, Nat.reduceLT, ↓reduceIte, Nat.reduceAdd, Nat.reduceMul, Nat.reduceSub, Nat.reduceMod, Nat.reduceLeDiff, Nat.reduceEqDiff, Nat.reduceBEq, reduceCtorEq, imp_self, implies_true, beq_self_eq_true, bne_self_eq_false, Bool.not_false, Bool.not_true, beq_true, beq_false, Bool.or_self, Bool.false_or, Bool.or_false, Bool.true_or, Bool.false_and, Bool.and_false]
  refine lcall_give ?_
  simp only [go_sem, ne_eq, not_true_eq_false, or_false, false_or, or_self, Nat.reduceGT, Nat.reducePow, Nat.reduceLT, ↓reduceIte, Nat.reduceAdd, Nat.reduceMul, Nat.reduceSub, Nat.reduceMod, Nat.reduceLeDiff, Nat.reduceEqDiff, Nat.reduceBEq, reduceCtorEq, imp_self, implies_true, beq_self_eq_true, bne_self_eq_false, Bool.not_false, Bool.not_true, beq_true, beq_false, Bool.or_self, Bool.false_or, Bool.or_false, Bool.true_or, Bool.false_and, Bool.and_false]
  refine ⟨_, run23_nil l (by omega), ?_⟩
  rw [hrr]
  simp only [go_sem, ne_eq, not_true_eq_false, or_false, false_or, or_self, Nat.reduceGT, Nat.reducePow, Nat.reduceLT, ↓reduceIte, Nat.reduceAdd, Nat.reduceMul, Nat.reduceSub, Nat.reduceMod, Nat.reduceLeDiff, Nat.reduceEqDiff, Nat.reduceBEq, reduceCtorEq, imp_self, implies_true, beq_self_eq_true, bne_self_eq_false, Bool.not_false, Bool.not_true, beq_true, beq_false, Bool.or_self, Bool.false_or, Bool.or_false, Bool.true_or, Bool.false_and, Bool.and_false]
  refine ⟨_, errnos24 rr.2.2, ?_⟩
  simp only [go_sem, ne_eq, not_true_eq_false, or_false, false_or, or_self, Nat.reduceGT, Nat.reducePow, Nat.reduceLT, ↓reduceIte, Nat.reduceAdd, Nat.reduceMul, Nat.reduceSub, Nat.reduceMod, Nat.reduceLeDiff, Nat.reduceEqDiff, Nat.reduceBEq, reduceCtorEq, imp_self, implies_true, beq_self_eq_true, bne_self_eq_false, Bool.not_false, Bool.not_true, beq_true, beq_false, Bool.or_self, Bool.false_or, Bool.or_false, Bool.true_or, Bool.false_and, Bool.and_false]
  refine ⟨_, same20 rr.1, ?_⟩
  simp only [go_sem, ne_eq, not_true_eq_false, or_false, false_or, or_self, Nat.reduceGT, Nat.reducePow, Nat.reduceLT, ↓reduceIte, Nat.reduceAdd, Nat.reduceMul, Nat.reduceSub, Nat.reduceMod, Nat.reduceLeDiff, Nat.reduceEqDiff, Nat.reduceBEq, reduceCtorEq, imp_self, implies_true, beq_self_eq_true, bne_self_eq_false, Bool.not_false, Bool.not_true, beq_true, beq_false, Bool.or_self, Bool.false_or, Bool.or_false, Bool.true_or, Bool.false_and, Bool.and_false]
  refine ⟨_, outs21 rr.2.1, ?_⟩
  simp only [go_sem, ne_eq, not_true_eq_false, or_false, false_or, or_self, Nat.reduceGT, Nat.reducePow, Nat.reduceLT, ↓reduceIte, Nat.reduceAdd, Nat.reduceMul, Nat.reduceSub, Nat.reduceMod, Nat.reduceLeDiff, Nat.reduceEqDiff, Nat.reduceBEq, reduceCtorEq, imp_self, implies_true, beq_self_eq_true, bne_self_eq_false, Bool.not_false, Bool.not_true, beq_true, beq_false, Bool.or_self, Bool.false_or, Bool.or_false, Bool.true_or, Bool.false_and, Bool.and_false]
  refine awpL_step (aw_ok _ ?_)
  simp only [go_sem, ne_eq, not_true_eq_false, or_false, false_or, or_self, Nat.reduceGT, Nat.reducePow, Nat.reduceLT, ↓reduceIte, Nat.reduceAdd, Nat.reduceMul, Nat.reduceSub, Nat.reduceMod, Nat.reduceLeDiff, Nat.reduceEqDiff, Nat.reduceBEq, reduceCtorEq, imp_self, implies_true, beq_self_eq_true, bne_self_eq_false, Bool.not_false, Bool.not_true, beq_true, beq_false, Bool.or_self, Bool.false_or, Bool.or_false, Bool.true_or, Bool.false_and, Bool.and_false, nth, Option.getD_some, w1, w2, w3, c3, Int.reduceLT, decide_true, decide_false, Int.reduceToNat, Int.reduceLE, Nat.reduceLT, forall_const, false_implies, true_implies]
  refine ⟨_, awake11, ?_⟩
  simp only [go_sem, ne_eq, not_true_eq_false, or_false, false_or, or_self, Nat.reduceGT, Nat.reducePow, Nat.reduceLT, ↓reduceIte, Nat.reduceAdd, Nat.reduceMul, Nat.reduceSub, Nat.reduceMod, Nat.reduceLeDiff, Nat.reduceEqDiff, Nat.reduceBEq, reduceCtorEq, imp_self, implies_true, beq_self_eq_true, bne_self_eq_false, Bool.not_false, Bool.not_true, beq_true, beq_false, Bool.or_self, Bool.false_or, Bool.or_false, Bool.true_or, Bool.false_and, Bool.and_false]
end Go.Proofs.Ytnbmiejjkkgckaa
