/- Proved here: The contract of the function that makes events, which yields a slice of the caller's own, for use in the proofs of the given statements; conditions stand in each theorem. -/
import Derived.Test.YtnbmiejjkkgckaaZT
import Derived.Test.YtnbmiejjkkgckaaZX
set_option linter.unusedSimpArgs false
set_option linter.unusedVariables false
set_option linter.unusedSimpArgs false
set_option linter.unusedVariables false
namespace Go.Proofs.Ytnbmiejjkkgckaa
open Go.RowKit
set_option maxRecDepth 4000
theorem events17io (L : List Int) (k : Nat) (n : Int) (hk : k ≤ 1024) (h1 : 0 ≤ n) (h2 : n ≤ 64) : CIO Try.prog 17 1 [(0, .box [.t (tints L), vint k])] [.own 0, vint n] (.own 1)
    [(1, .row 45 5 (EventR.c default) (tRows ((evs17 L k n).1.map EventR.c))), (0, .box [.t (tints L), vint (evs17 L k n).2])] 2 := by
  refine cio_of Try.xen17 Try.func17 rfl Try.ntmps17 (by rw [Try.results17]) (awp_facts fun hf => aw_ok _ ?_)
  have w1 : IntKind.i64.wrap (n + 1) = n + 1 := wrap64 (by omega) (by omega)
  simp only [go_sem, ne_eq, not_true_eq_false, or_false, false_or, or_self, Nat.reduceGT, Nat.reducePow, Nat.reduceLT, ↓reduceIte, Nat.reduceAdd, Nat.reduceMul, Nat.reduceSub, Nat.reduceMod, Nat.reduceLeDiff, Nat.reduceEqDiff, Nat.reduceBEq, reduceCtorEq, imp_self, implies_true, beq_self_eq_true, bne_self_eq_false, Bool.not_false, Bool.not_true, beq_true, beq_false, Bool.or_self, Bool.false_or, Bool.or_false, Bool.true_or, Bool.false_and, Bool.and_false, w1]
  refine icall_box (next32 L k (n + 1) (by omega) (by omega) (by omega)) rfl rfl rfl ?_
  obtain ⟨N, hN⟩ : ∃ N : Nat, tapeN L k (n + 1) = N := ⟨(tapeN L k (n + 1)).toNat, by have := (tapeN_lt (L := L) (k := k) (show 1 ≤ n + 1 by omega)).1; omega⟩
  have hNl : N ≤ 64 := by have := (tapeN_lt (L := L) (k := k) (show 1 ≤ n + 1 by omega)).2; omega
  simp only [go_sem, ne_eq, not_true_eq_false, or_false, false_or, or_self, Nat.reduceGT, Nat.reducePow, Nat.reduceLT, ↓reduceIte, Nat.reduceAdd, Nat.reduceMul, Nat.reduceSub, Nat.reduceMod, Nat.reduceLeDiff, Nat.reduceEqDiff, Nat.reduceBEq, reduceCtorEq, imp_self, implies_true, beq_self_eq_true, bne_self_eq_false, Bool.not_false, Bool.not_true, beq_true, beq_false, Bool.or_self, Bool.false_or, Bool.or_false, Bool.true_or, Bool.false_and, Bool.and_false, hN]
  refine awp_loop_f (fun (x : Nat × List EventR × Nat) σ => St17 L x.1 x.2.1 x.2.2 σ) (fun x => x.2.1.length + x.1 ≤ 64 ∧ x.2.2 + 5 * x.1 ≤ 4096 ∧ x.2.1 ++ (evGo L x.1 x.2.2).1 = (evs17 L k n).1 ∧ (evGo L x.1 x.2.2).2 = (evs17 L k n).2) (fun x => x.1) (N, [], k + 1) (weak_of [(1, none), (0, some 0)] ?_) ⟨by simp only [List.length_nil]; omega, by simp only; omega, ?_⟩ ?_
  · simp only [go_sem, ne_eq, not_true_eq_false, or_false, false_or, or_self, Nat.reduceGT, Nat.reducePow, Nat.reduceLT, ↓reduceIte, Nat.reduceAdd, Nat.reduceMul, Nat.reduceSub, Nat.reduceMod, Nat.reduceLeDiff, Nat.reduceEqDiff, Nat.reduceBEq, reduceCtorEq, imp_self, implies_true, beq_self_eq_true, bne_self_eq_false, Bool.not_false, Bool.not_true, beq_true, beq_false, Bool.or_self, Bool.false_or, Bool.or_false, Bool.true_or, Bool.false_and, Bool.and_false]
    simp
  · simp only [evs17, hN, Int.toNat_natCast, List.nil_append, and_self]
  · rintro ⟨c, es, q⟩ ⟨hc, hq, he1, he2⟩
    simp only at hc hq he1 he2
    refine aw_ok _ ?_
    simp only [go_sem, ne_eq, not_true_eq_false, or_false, false_or, or_self, Nat.reduceGT, Nat.reducePow, Nat.reduceLT, ↓reduceIte, Nat.reduceAdd, Nat.reduceMul, Nat.reduceSub, Nat.reduceMod, Nat.reduceLeDiff, Nat.reduceEqDiff, Nat.reduceBEq, reduceCtorEq, imp_self, implies_true, beq_self_eq_true, bne_self_eq_false, Bool.not_false, Bool.not_true, beq_true, beq_false, Bool.or_self, Bool.false_or, Bool.or_false, Bool.true_or, Bool.false_and, Bool.and_false]
    refine ⟨fun hlt => ?_, fun hge => ?_⟩
    all_goals simp only [decide_eq_true_eq, decide_eq_false_iff_not] at *
    · obtain ⟨c, rfl⟩ : ∃ c', c = c' + 1 := ⟨c - 1, by omega⟩
      simp only [evGo] at he1 he2
      unfold awS
      simp only [go_sem, ne_eq, not_true_eq_false, or_false, false_or, or_self, Nat.reduceGT, Nat.reducePow, Nat.reduceLT, ↓reduceIte, Nat.reduceAdd, Nat.reduceMul, Nat.reduceSub, Nat.reduceMod, Nat.reduceLeDiff, Nat.reduceEqDiff, Nat.reduceBEq, reduceCtorEq, imp_self, implies_true, beq_self_eq_true, bne_self_eq_false, Bool.not_false, Bool.not_true, beq_true, beq_false, Bool.or_self, Bool.false_or, Bool.or_false, Bool.true_or, Bool.false_and, Bool.and_false]
      refine icall_box (next32 L q 9 (by omega) (by omega) (by omega)) rfl rfl rfl ?_
      have t9 := tapeN_lt (L := L) (k := q) (n := 9) (by omega)
      simp only [go_sem, ne_eq, not_true_eq_false, or_false, false_or, or_self, Nat.reduceGT, Nat.reducePow, Nat.reduceLT, ↓reduceIte, Nat.reduceAdd, Nat.reduceMul, Nat.reduceSub, Nat.reduceMod, Nat.reduceLeDiff, Nat.reduceEqDiff, Nat.reduceBEq, reduceCtorEq, imp_self, implies_true, beq_self_eq_true, bne_self_eq_false, Bool.not_false, Bool.not_true, beq_true, beq_false, Bool.or_self, Bool.false_or, Bool.or_false, Bool.true_or, Bool.false_and, Bool.and_false]
      refine ⟨by omega, by omega, ?_⟩
      refine drawC_of 18 .done rfl (by kernel_rfl) (by kernel_rfl) (by decide) ?_
      simp only [go_sem, ne_eq, not_true_eq_false, or_false, false_or, or_self, Nat.reduceGT, Nat.reducePow, Nat.reduceLT, ↓reduceIte, Nat.reduceAdd, Nat.reduceMul, Nat.reduceSub, Nat.reduceMod, Nat.reduceLeDiff, Nat.reduceEqDiff, Nat.reduceBEq, reduceCtorEq, imp_self, implies_true, beq_self_eq_true, bne_self_eq_false, Bool.not_false, Bool.not_true, beq_true, beq_false, Bool.or_self, Bool.false_or, Bool.or_false, Bool.true_or, Bool.false_and, Bool.and_false]
      generalize hkd : [1, 1, 1, 2, 3, 3, 3, 4, 5].getD (tapeN L q 9).toNat (0 : Int) = kd
      refine bcall (next32 L (q + 1) 3 (by omega) (by omega) (by omega)) rfl rfl rfl ?_
      have t3 := tapeN_lt (L := L) (k := q + 1) (n := 3) (by omega)
      simp only [go_sem, ne_eq, not_true_eq_false, or_false, false_or, or_self, Nat.reduceGT, Nat.reducePow, Nat.reduceLT, ↓reduceIte, Nat.reduceAdd, Nat.reduceMul, Nat.reduceSub, Nat.reduceMod, Nat.reduceLeDiff, Nat.reduceEqDiff, Nat.reduceBEq, reduceCtorEq, imp_self, implies_true, beq_self_eq_true, bne_self_eq_false, Bool.not_false, Bool.not_true, beq_true, beq_false, Bool.or_self, Bool.false_or, Bool.or_false, Bool.true_or, Bool.false_and, Bool.and_false]
      refine ⟨by omega, by omega, ?_⟩
      generalize hff : [_, _, _].getD (tapeN L (q + 1) 3).toNat _ = ff
      refine bcall (next32 L (q + 2) 4 (by omega) (by omega) (by omega)) rfl rfl rfl ?_
      have t4 := tapeN_lt (L := L) (k := q + 2) (n := 4) (by omega)
      simp only [go_sem, ne_eq, not_true_eq_false, or_false, false_or, or_self, Nat.reduceGT, Nat.reducePow, Nat.reduceLT, ↓reduceIte, Nat.reduceAdd, Nat.reduceMul, Nat.reduceSub, Nat.reduceMod, Nat.reduceLeDiff, Nat.reduceEqDiff, Nat.reduceBEq, reduceCtorEq, imp_self, implies_true, beq_self_eq_true, bne_self_eq_false, Bool.not_false, Bool.not_true, beq_true, beq_false, Bool.or_self, Bool.false_or, Bool.or_false, Bool.true_or, Bool.false_and, Bool.and_false]
      refine ⟨by omega, by omega, ?_⟩
      generalize hmm : [_, _, _, _].getD (tapeN L (q + 2) 4).toNat _ = mm
      refine bcall (next32 L (q + 3) 4 (by omega) (by omega) (by omega)) rfl rfl rfl ?_
      have t5 := tapeN_lt (L := L) (k := q + 3) (n := 4) (by omega)
      simp only [go_sem, ne_eq, not_true_eq_false, or_false, false_or, or_self, Nat.reduceGT, Nat.reducePow, Nat.reduceLT, ↓reduceIte, Nat.reduceAdd, Nat.reduceMul, Nat.reduceSub, Nat.reduceMod, Nat.reduceLeDiff, Nat.reduceEqDiff, Nat.reduceBEq, reduceCtorEq, imp_self, implies_true, beq_self_eq_true, bne_self_eq_false, Bool.not_false, Bool.not_true, beq_true, beq_false, Bool.or_self, Bool.false_or, Bool.or_false, Bool.true_or, Bool.false_and, Bool.and_false]
      refine ⟨by omega, by omega, ?_⟩
      generalize hpp : [_, _, _, _].getD (tapeN L (q + 3) 4).toNat _ = pp
      have mxl : es.length + 1 ≤ maxLen := by unfold maxLen; omega
      have wc : IntKind.i64.wrap (((c + 1 : Nat) : Int) - 1) = (c : Int) := by rw [wrap64 (by omega) (by omega)]; omega
      have t6 := tapeN_lt (L := L) (k := q + 4) (n := 2) (by omega)
      have w6 : IntKind.i64.wrap (1 + tapeN L (q + 4) 2) = 1 + tapeN L (q + 4) 2 := wrap64 (by omega) (by omega)
      have w7 : IntKind.u64.wrap (1 + tapeN L (q + 4) 2) = 1 + tapeN L (q + 4) 2 := wrapU64 (by omega) (by omega)
      have hk15 : kd = 1 ∨ kd = 2 ∨ kd = 3 ∨ kd = 4 ∨ kd = 5 := by
        have : (tapeN L q 9).toNat = 0 ∨ (tapeN L q 9).toNat = 1 ∨ (tapeN L q 9).toNat = 2 ∨ (tapeN L q 9).toNat = 3 ∨ (tapeN L q 9).toNat = 4 ∨ (tapeN L q 9).toNat = 5 ∨ (tapeN L q 9).toNat = 6 ∨ (tapeN L q 9).toNat = 7 ∨ (tapeN L q 9).toNat = 8 := by omega
        rcases this with h | h | h | h | h | h | h | h | h <;> rw [h] at hkd <;> simp at hkd <;> omega
      refine ⟨by kernel_rfl, fun hk1 => ?_, fun hk1 => ?_⟩
      · unfold awS
        simp only [go_sem, ne_eq, not_true_eq_false, or_false, false_or, or_self, Nat.reduceGT, Nat.reducePow, Nat.reduceLT, ↓reduceIte, Nat.reduceAdd, Nat.reduceMul, Nat.reduceSub, Nat.reduceMod, Nat.reduceLeDiff, Nat.reduceEqDiff, Nat.reduceBEq, reduceCtorEq, imp_self, implies_true, beq_self_eq_true, bne_self_eq_false, Bool.not_false, Bool.not_true, beq_true, beq_false, Bool.or_self, Bool.false_or, Bool.or_false, Bool.true_or, Bool.false_and, Bool.and_false]
        refine icall_box (next32 L (q + 4) 2 (by omega) (by omega) (by omega)) rfl rfl rfl ?_
        simp only [go_sem, ne_eq, not_true_eq_false, or_false, false_or, or_self, Nat.reduceGT, Nat.reducePow, Nat.reduceLT, ↓reduceIte, Nat.reduceAdd, Nat.reduceMul, Nat.reduceSub, Nat.reduceMod, Nat.reduceLeDiff, Nat.reduceEqDiff, Nat.reduceBEq, reduceCtorEq, imp_self, implies_true, beq_self_eq_true, bne_self_eq_false, Bool.not_false, Bool.not_true, beq_true, beq_false, Bool.or_self, Bool.false_or, Bool.or_false, Bool.true_or, Bool.false_and, Bool.and_false, w6, w7]
        refine ⟨⟨mxl, by omega⟩, (c, es ++ [⟨kd, bNil, ff, bNil, 1 + tapeN L (q + 4) 2⟩], q + 5), weak_of [(1, some 23), (0, some 0)] ?_, ?_, by simp only; omega⟩
        · simp only [go_sem, ne_eq, not_true_eq_false, or_false, false_or, or_self, Nat.reduceGT, Nat.reducePow, Nat.reduceLT, ↓reduceIte, Nat.reduceAdd, Nat.reduceMul, Nat.reduceSub, Nat.reduceMod, Nat.reduceLeDiff, Nat.reduceEqDiff, Nat.reduceBEq, reduceCtorEq, imp_self, implies_true, beq_self_eq_true, bne_self_eq_false, Bool.not_false, Bool.not_true, beq_true, beq_false, Bool.or_self, Bool.false_or, Bool.or_false, Bool.true_or, Bool.false_and, Bool.and_false, wc]
          simp [EventR.c, bNil]
        · have hev : ev1 L q = (⟨kd, bNil, ff, bNil, 1 + tapeN L (q + 4) 2⟩, q + 5) := by
            unfold ev1 pickI pickB bF0 bF1 bF2 bM0 bM1 bM2 bSpare bNil
            simp only [hkd, hff, hmm, hpp]
            simp only [beq_iff_eq, beq_eq_false_iff_ne, ne_eq] at *
            subst hk1; rfl
          rw [hev] at he1 he2
          exact ⟨by simp only [List.length_append, List.length_cons, List.length_nil]; omega, by simp only; omega, by rw [← he1]; simp, he2⟩
      · unfold awS
        simp only [go_sem, ne_eq, not_true_eq_false, or_false, false_or, or_self, Nat.reduceGT, Nat.reducePow, Nat.reduceLT, ↓reduceIte, Nat.reduceAdd, Nat.reduceMul, Nat.reduceSub, Nat.reduceMod, Nat.reduceLeDiff, Nat.reduceEqDiff, Nat.reduceBEq, reduceCtorEq, imp_self, implies_true, beq_self_eq_true, bne_self_eq_false, Bool.not_false, Bool.not_true, beq_true, beq_false, Bool.or_self, Bool.false_or, Bool.or_false, Bool.true_or, Bool.false_and, Bool.and_false]
        refine ⟨fun hk2 => ?_, fun hk2 => ?_⟩
        · unfold awS
          simp only [go_sem, ne_eq, not_true_eq_false, or_false, false_or, or_self, Nat.reduceGT, Nat.reducePow, Nat.reduceLT, ↓reduceIte, Nat.reduceAdd, Nat.reduceMul, Nat.reduceSub, Nat.reduceMod, Nat.reduceLeDiff, Nat.reduceEqDiff, Nat.reduceBEq, reduceCtorEq, imp_self, implies_true, beq_self_eq_true, bne_self_eq_false, Bool.not_false, Bool.not_true, beq_true, beq_false, Bool.or_self, Bool.false_or, Bool.or_false, Bool.true_or, Bool.false_and, Bool.and_false]
          refine ⟨⟨mxl, by omega⟩, (c, es ++ [⟨kd, bNil, ff, bNil, 0⟩], q + 4), weak_of [(1, some 23), (0, some 0)] ?_, ?_, by simp only; omega⟩
          · simp only [go_sem, ne_eq, not_true_eq_false, or_false, false_or, or_self, Nat.reduceGT, Nat.reducePow, Nat.reduceLT, ↓reduceIte, Nat.reduceAdd, Nat.reduceMul, Nat.reduceSub, Nat.reduceMod, Nat.reduceLeDiff, Nat.reduceEqDiff, Nat.reduceBEq, reduceCtorEq, imp_self, implies_true, beq_self_eq_true, bne_self_eq_false, Bool.not_false, Bool.not_true, beq_true, beq_false, Bool.or_self, Bool.false_or, Bool.or_false, Bool.true_or, Bool.false_and, Bool.and_false, wc]
            simp [EventR.c, bNil]
          · have hev : ev1 L q = (⟨kd, bNil, ff, bNil, 0⟩, q + 4) := by
              unfold ev1 pickI pickB bF0 bF1 bF2 bM0 bM1 bM2 bSpare bNil
              simp only [hkd, hff, hmm, hpp]
              simp only [beq_iff_eq, beq_eq_false_iff_ne, ne_eq] at *
              subst hk2; rfl
            rw [hev] at he1 he2
            exact ⟨by simp only [List.length_append, List.length_cons, List.length_nil]; omega, by simp only; omega, by rw [← he1]; simp, he2⟩
        · unfold awS
          simp only [go_sem, ne_eq, not_true_eq_false, or_false, false_or, or_self, Nat.reduceGT, Nat.reducePow, Nat.reduceLT, ↓reduceIte, Nat.reduceAdd, Nat.reduceMul, Nat.reduceSub, Nat.reduceMod, Nat.reduceLeDiff, Nat.reduceEqDiff, Nat.reduceBEq, reduceCtorEq, imp_self, implies_true, beq_self_eq_true, bne_self_eq_false, Bool.not_false, Bool.not_true, beq_true, beq_false, Bool.or_self, Bool.false_or, Bool.or_false, Bool.true_or, Bool.false_and, Bool.and_false]
          refine ⟨fun hk3 => ?_, fun hk3 => ?_⟩
          · unfold awS
            simp only [go_sem, ne_eq, not_true_eq_false, or_false, false_or, or_self, Nat.reduceGT, Nat.reducePow, Nat.reduceLT, ↓reduceIte, Nat.reduceAdd, Nat.reduceMul, Nat.reduceSub, Nat.reduceMod, Nat.reduceLeDiff, Nat.reduceEqDiff, Nat.reduceBEq, reduceCtorEq, imp_self, implies_true, beq_self_eq_true, bne_self_eq_false, Bool.not_false, Bool.not_true, beq_true, beq_false, Bool.or_self, Bool.false_or, Bool.or_false, Bool.true_or, Bool.false_and, Bool.and_false, hk3]
            refine ⟨⟨mxl, by omega⟩, (c, es ++ [⟨kd, mm, ff, bNil, 0⟩], q + 4), weak_of [(1, some 23), (0, some 0)] ?_, ?_, by simp only; omega⟩
            · simp only [go_sem, ne_eq, not_true_eq_false, or_false, false_or, or_self, Nat.reduceGT, Nat.reducePow, Nat.reduceLT, ↓reduceIte, Nat.reduceAdd, Nat.reduceMul, Nat.reduceSub, Nat.reduceMod, Nat.reduceLeDiff, Nat.reduceEqDiff, Nat.reduceBEq, reduceCtorEq, imp_self, implies_true, beq_self_eq_true, bne_self_eq_false, Bool.not_false, Bool.not_true, beq_true, beq_false, Bool.or_self, Bool.false_or, Bool.or_false, Bool.true_or, Bool.false_and, Bool.and_false, wc]
              simp [EventR.c, bNil]
            · have hev : ev1 L q = (⟨kd, mm, ff, bNil, 0⟩, q + 4) := by
                unfold ev1 pickI pickB bF0 bF1 bF2 bM0 bM1 bM2 bSpare bNil
                simp only [hkd, hff, hmm, hpp]
                simp only [beq_iff_eq, beq_eq_false_iff_ne, ne_eq] at *
                subst hk3; rfl
              rw [hev] at he1 he2
              exact ⟨by simp only [List.length_append, List.length_cons, List.length_nil]; omega, by simp only; omega, by rw [← he1]; simp, he2⟩
          · unfold awS
            simp only [go_sem, ne_eq, not_true_eq_false, or_false, false_or, or_self, Nat.reduceGT, Nat.reducePow, Nat.reduceLT, ↓reduceIte, Nat.reduceAdd, Nat.reduceMul, Nat.reduceSub, Nat.reduceMod, Nat.reduceLeDiff, Nat.reduceEqDiff, Nat.reduceBEq, reduceCtorEq, imp_self, implies_true, beq_self_eq_true, bne_self_eq_false, Bool.not_false, Bool.not_true, beq_true, beq_false, Bool.or_self, Bool.false_or, Bool.or_false, Bool.true_or, Bool.false_and, Bool.and_false, hk3]
            refine ⟨fun hk4 => ?_, fun hk4 => ?_⟩
            · unfold awS
              simp only [go_sem, ne_eq, not_true_eq_false, or_false, false_or, or_self, Nat.reduceGT, Nat.reducePow, Nat.reduceLT, ↓reduceIte, Nat.reduceAdd, Nat.reduceMul, Nat.reduceSub, Nat.reduceMod, Nat.reduceLeDiff, Nat.reduceEqDiff, Nat.reduceBEq, reduceCtorEq, imp_self, implies_true, beq_self_eq_true, bne_self_eq_false, Bool.not_false, Bool.not_true, beq_true, beq_false, Bool.or_self, Bool.false_or, Bool.or_false, Bool.true_or, Bool.false_and, Bool.and_false, hk4]
              refine ⟨⟨mxl, by omega⟩, (c, es ++ [⟨kd, mm, ff, bNil, 0⟩], q + 4), weak_of [(1, some 23), (0, some 0)] ?_, ?_, by simp only; omega⟩
              · simp only [go_sem, ne_eq, not_true_eq_false, or_false, false_or, or_self, Nat.reduceGT, Nat.reducePow, Nat.reduceLT, ↓reduceIte, Nat.reduceAdd, Nat.reduceMul, Nat.reduceSub, Nat.reduceMod, Nat.reduceLeDiff, Nat.reduceEqDiff, Nat.reduceBEq, reduceCtorEq, imp_self, implies_true, beq_self_eq_true, bne_self_eq_false, Bool.not_false, Bool.not_true, beq_true, beq_false, Bool.or_self, Bool.false_or, Bool.or_false, Bool.true_or, Bool.false_and, Bool.and_false, wc]
                simp [EventR.c, bNil]
              · have hev : ev1 L q = (⟨kd, mm, ff, bNil, 0⟩, q + 4) := by
                  unfold ev1 pickI pickB bF0 bF1 bF2 bM0 bM1 bM2 bSpare bNil
                  simp only [hkd, hff, hmm, hpp]
                  simp only [beq_iff_eq, beq_eq_false_iff_ne, ne_eq] at *
                  subst hk4; rfl
                rw [hev] at he1 he2
                exact ⟨by simp only [List.length_append, List.length_cons, List.length_nil]; omega, by simp only; omega, by rw [← he1]; simp, he2⟩
            · unfold awS
              simp only [go_sem, ne_eq, not_true_eq_false, or_false, false_or, or_self, Nat.reduceGT, Nat.reducePow, Nat.reduceLT, ↓reduceIte, Nat.reduceAdd, Nat.reduceMul, Nat.reduceSub, Nat.reduceMod, Nat.reduceLeDiff, Nat.reduceEqDiff, Nat.reduceBEq, reduceCtorEq, imp_self, implies_true, beq_self_eq_true, bne_self_eq_false, Bool.not_false, Bool.not_true, beq_true, beq_false, Bool.or_self, Bool.false_or, Bool.or_false, Bool.true_or, Bool.false_and, Bool.and_false]
              refine ⟨fun hk5 => ?_, fun hk5 => ?_⟩
              · unfold awS
                simp only [go_sem, ne_eq, not_true_eq_false, or_false, false_or, or_self, Nat.reduceGT, Nat.reducePow, Nat.reduceLT, ↓reduceIte, Nat.reduceAdd, Nat.reduceMul, Nat.reduceSub, Nat.reduceMod, Nat.reduceLeDiff, Nat.reduceEqDiff, Nat.reduceBEq, reduceCtorEq, imp_self, implies_true, beq_self_eq_true, bne_self_eq_false, Bool.not_false, Bool.not_true, beq_true, beq_false, Bool.or_self, Bool.false_or, Bool.or_false, Bool.true_or, Bool.false_and, Bool.and_false, hk5]
                refine ⟨⟨mxl, by omega⟩, (c, es ++ [⟨kd, mm, bNil, pp, 0⟩], q + 4), weak_of [(1, some 23), (0, some 0)] ?_, ?_, by simp only; omega⟩
                · simp only [go_sem, ne_eq, not_true_eq_false, or_false, false_or, or_self, Nat.reduceGT, Nat.reducePow, Nat.reduceLT, ↓reduceIte, Nat.reduceAdd, Nat.reduceMul, Nat.reduceSub, Nat.reduceMod, Nat.reduceLeDiff, Nat.reduceEqDiff, Nat.reduceBEq, reduceCtorEq, imp_self, implies_true, beq_self_eq_true, bne_self_eq_false, Bool.not_false, Bool.not_true, beq_true, beq_false, Bool.or_self, Bool.false_or, Bool.or_false, Bool.true_or, Bool.false_and, Bool.and_false, wc]
                  simp [EventR.c, bNil]
                · have hev : ev1 L q = (⟨kd, mm, bNil, pp, 0⟩, q + 4) := by
                    unfold ev1 pickI pickB bF0 bF1 bF2 bM0 bM1 bM2 bSpare bNil
                    simp only [hkd, hff, hmm, hpp]
                    simp only [beq_iff_eq, beq_eq_false_iff_ne, ne_eq] at *
                    subst hk5; rfl
                  rw [hev] at he1 he2
                  exact ⟨by simp only [List.length_append, List.length_cons, List.length_nil]; omega, by simp only; omega, by rw [← he1]; simp, he2⟩
              · simp only [beq_eq_false_iff_ne, ne_eq] at *
                omega
    · unfold awS
      simp only [go_sem, ne_eq, not_true_eq_false, or_false, false_or, or_self, Nat.reduceGT, Nat.reducePow, Nat.reduceLT, ↓reduceIte, Nat.reduceAdd, Nat.reduceMul, Nat.reduceSub, Nat.reduceMod, Nat.reduceLeDiff, Nat.reduceEqDiff, Nat.reduceBEq, reduceCtorEq, imp_self, implies_true, beq_self_eq_true, bne_self_eq_false, Bool.not_false, Bool.not_true, beq_true, beq_false, Bool.or_self, Bool.false_or, Bool.or_false, Bool.true_or, Bool.false_and, Bool.and_false]
      have : c = 0 := by omega
      subst this
      simp only [evGo, List.append_nil] at he1 he2
      rw [he1, he2]
      refine weak_self ?_
      simp only [go_sem, ne_eq, not_true_eq_false, or_false, false_or, or_self, Nat.reduceGT, Nat.reducePow, Nat.reduceLT, ↓reduceIte, Nat.reduceAdd, Nat.reduceMul, Nat.reduceSub, Nat.reduceMod, Nat.reduceLeDiff, Nat.reduceEqDiff, Nat.reduceBEq, reduceCtorEq, imp_self, implies_true, beq_self_eq_true, bne_self_eq_false, Bool.not_false, Bool.not_true, beq_true, beq_false, Bool.or_self, Bool.false_or, Bool.or_false, Bool.true_or, Bool.false_and, Bool.and_false]
      try simp
end Go.Proofs.Ytnbmiejjkkgckaa
