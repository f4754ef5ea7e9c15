/- Proved here: Contracts of the functions that make states and events, for use in the proofs of the given statements; conditions stand in each theorem. -/
import Derived.Test.YtnbmiejjkkgckaaZR
import Derived.Test.YtnbmiejjkkgckaaZV
import Derived.Test.YtnbmiejjkkgckaaZT
set_option linter.unusedSimpArgs false
set_option linter.unusedVariables false
set_option linter.unusedSimpArgs false
set_option linter.unusedVariables false
namespace Go.Proofs.Ytnbmiejjkkgckaa
open Go.RowKit
set_option maxRecDepth 4000
def tapeV (L : List Int) (k : Nat) : Int := if k < L.length then L.getD k 0 else (k : Int) * 7 + 3
def tapeN (L : List Int) (k : Nat) (n : Int) : Int := ((tapeV L k).tmod n + n).tmod n
theorem wrap64 {x : Int} (h1 : -9223372036854775808 ≤ x) (h2 : x ≤ 9223372036854775807) : IntKind.i64.wrap x = x := by
  have e1 : (2 : Int) ^ IntKind.i64.bits = 18446744073709551616 := by decide
  have e2 : (2 : Int) ^ (IntKind.i64.bits - 1) = 9223372036854775808 := by decide
  unfold IntKind.wrap
  simp only [IntKind.signed, if_true, e1, e2, Bool.true_and, decide_eq_true_eq]
  split <;> omega
theorem tmod_abs (v : Int) {n : Int} (h1 : 1 ≤ n) : -n < v.tmod n ∧ v.tmod n < n := by
  have h3 := Int.tmod_lt_of_pos v (show 0 < n by omega)
  have h4 := Int.tmod_lt_of_pos (-v) (show 0 < n by omega)
  rw [Int.neg_tmod] at h4
  omega
theorem tapeN_lt {L : List Int} {k : Nat} {n : Int} (h1 : 1 ≤ n) : 0 ≤ tapeN L k n ∧ tapeN L k n < n := by
  have h3 := tmod_abs (tapeV L k) h1
  exact ⟨Int.tmod_nonneg _ (by omega), Int.tmod_lt_of_pos _ (by omega)⟩
theorem tape_wrap {v n : Int} (h1 : 1 ≤ n) (h2 : n ≤ 1048576) : IntKind.i64.wrap (v.tmod n + n) = v.tmod n + n := by
  have h3 := tmod_abs v h1
  exact wrap64 (by omega) (by omega)
theorem next32 (L : List Int) (k : Nat) (n : Int) (hk : k ≤ 1048576) (h1 : 1 ≤ n) (h2 : n ≤ 1048576) : CBox Try.prog 32 [.t (tints L), vint k] [vint n] (vint (tapeN L k n)) [.t (tints L), vint ((k + 1 : Nat) : Int)] := by
  refine cbox_of Try.xen32 Try.func32 rfl Try.ntmps32 (by rw [Try.results32]) (awp_facts fun hf => aw_ok _ ?_)
  have w1 : IntKind.i64.wrap ((k : Int) * 7) = (k : Int) * 7 := wrap64 (by omega) (by omega)
  have w2 : IntKind.i64.wrap ((k : Int) * 7 + 3) = (k : Int) * 7 + 3 := wrap64 (by omega) (by omega)
  have w3 : IntKind.i64.wrap ((k : Int) + 1) = (k : Int) + 1 := wrap64 (by omega) (by omega)
  have hn0 : n ≠ 0 := by omega
  simp only [go_sem, ne_eq, not_true_eq_false, or_false, false_or, or_self, Nat.reduceGT, Nat.reducePow, Nat.reduceLT, ↓reduceIte, Nat.reduceAdd, Nat.reduceMul, Nat.reduceSub, Nat.reduceMod, Nat.reduceLeDiff, Nat.reduceEqDiff, Nat.reduceBEq, reduceCtorEq, imp_self, implies_true, beq_self_eq_true, bne_self_eq_false, Bool.not_false, Bool.not_true, beq_true, beq_false, Bool.or_self, Bool.false_or, Bool.or_false, Bool.true_or, Bool.false_and, Bool.and_false]
  refine ⟨fun h => ?_, fun _ => ?_⟩
  · simp only [decide_eq_true_eq] at h; omega
  · unfold awS
    simp only [go_sem, ne_eq, not_true_eq_false, or_false, false_or, or_self, Nat.reduceGT, Nat.reducePow, Nat.reduceLT, ↓reduceIte, Nat.reduceAdd, Nat.reduceMul, Nat.reduceSub, Nat.reduceMod, Nat.reduceLeDiff, Nat.reduceEqDiff, Nat.reduceBEq, reduceCtorEq, imp_self, implies_true, beq_self_eq_true, bne_self_eq_false, Bool.not_false, Bool.not_true, beq_true, beq_false, Bool.or_self, Bool.false_or, Bool.or_false, Bool.true_or, Bool.false_and, Bool.and_false, w1, w2]
    refine drawR_of [0, 1, 2, 3, 4, 5, 6, 7, 8, 9] .done rfl (by kernel_rfl) (by kernel_rfl) (by decide) ?_
    simp only [go_sem, ne_eq, not_true_eq_false, or_false, false_or, or_self, Nat.reduceGT, Nat.reducePow, Nat.reduceLT, ↓reduceIte, Nat.reduceAdd, Nat.reduceMul, Nat.reduceSub, Nat.reduceMod, Nat.reduceLeDiff, Nat.reduceEqDiff, Nat.reduceBEq, reduceCtorEq, imp_self, implies_true, beq_self_eq_true, bne_self_eq_false, Bool.not_false, Bool.not_true, beq_true, beq_false, Bool.or_self, Bool.false_or, Bool.or_false, Bool.true_or, Bool.false_and, Bool.and_false, w1, w2]
    refine ⟨fun h => ?_, fun h => ?_⟩
    all_goals simp only [decide_eq_true_eq, decide_eq_false_iff_not, Int.ofNat_lt] at h
    · unfold awS
      simp only [go_sem, ne_eq, not_true_eq_false, or_false, false_or, or_self, Nat.reduceGT, Nat.reducePow, Nat.reduceLT, ↓reduceIte, Nat.reduceAdd, Nat.reduceMul, Nat.reduceSub, Nat.reduceMod, Nat.reduceLeDiff, Nat.reduceEqDiff, Nat.reduceBEq, reduceCtorEq, imp_self, implies_true, beq_self_eq_true, bne_self_eq_false, Bool.not_false, Bool.not_true, beq_true, beq_false, Bool.or_self, Bool.false_or, Bool.or_false, Bool.true_or, Bool.false_and, Bool.and_false]
      refine drawR_of [0, 1, 2, 3, 4, 5, 6, 7, 8, 9, 10] .done rfl (by kernel_rfl) (by kernel_rfl) (by decide) ?_
      simp only [go_sem, ne_eq, not_true_eq_false, or_false, false_or, or_self, Nat.reduceGT, Nat.reducePow, Nat.reduceLT, ↓reduceIte, Nat.reduceAdd, Nat.reduceMul, Nat.reduceSub, Nat.reduceMod, Nat.reduceLeDiff, Nat.reduceEqDiff, Nat.reduceBEq, reduceCtorEq, imp_self, implies_true, beq_self_eq_true, bne_self_eq_false, Bool.not_false, Bool.not_true, beq_true, beq_false, Bool.or_self, Bool.false_or, Bool.or_false, Bool.true_or, Bool.false_and, Bool.and_false, w3, tape_wrap h1 h2]
      refine ⟨⟨by omega, by omega⟩, hn0, hn0, ?_, ?_⟩
      · simp [tapeN, tapeV, if_pos h]
      · simp
    · unfold awS
      simp only [go_sem, ne_eq, not_true_eq_false, or_false, false_or, or_self, Nat.reduceGT, Nat.reducePow, Nat.reduceLT, ↓reduceIte, Nat.reduceAdd, Nat.reduceMul, Nat.reduceSub, Nat.reduceMod, Nat.reduceLeDiff, Nat.reduceEqDiff, Nat.reduceBEq, reduceCtorEq, imp_self, implies_true, beq_self_eq_true, bne_self_eq_false, Bool.not_false, Bool.not_true, beq_true, beq_false, Bool.or_self, Bool.false_or, Bool.or_false, Bool.true_or, Bool.false_and, Bool.and_false, w3, tape_wrap h1 h2]
      refine ⟨hn0, hn0, ?_, ?_⟩
      · simp [tapeN, tapeV, if_neg h]
      · simp
end Go.Proofs.Ytnbmiejjkkgckaa
/- Proved here: Contracts of the functions that make states and events, for use in the proofs of the given statements; conditions stand in each theorem. -/
set_option linter.unusedSimpArgs false
set_option linter.unusedVariables false
namespace Go.Proofs.Ytnbmiejjkkgckaa
open Go.RowKit
set_option maxRecDepth 4000
def bF0 : ByteArray := ⟨#[102, 48]⟩
def bF1 : ByteArray := ⟨#[102, 49]⟩
def bF2 : ByteArray := ⟨#[102, 50]⟩
def bM0 : ByteArray := ⟨#[109, 48]⟩
def bM1 : ByteArray := ⟨#[109, 49]⟩
def bM2 : ByteArray := ⟨#[109, 50]⟩
def bSpare : ByteArray := ⟨#[115, 112, 97, 114, 101]⟩
def bNil : ByteArray := ⟨#[]⟩
def pickI (l : List Int) (n : Int) : Int := l.getD n.toNat 0
def pickB (l : List ByteArray) (n : Int) : ByteArray := l.getD n.toNat bNil
def ev1 (L : List Int) (k : Nat) : EventR × Nat :=
  let kind := pickI [1, 1, 1, 2, 3, 3, 3, 4, 5] (tapeN L k 9)
  let f := pickB [bF0, bF1, bF2] (tapeN L (k + 1) 3)
  let m := pickB [bM0, bM1, bM2, bSpare] (tapeN L (k + 2) 4)
  let p := pickB [bNil, bSpare, bM1, bSpare] (tapeN L (k + 3) 4)
  if kind = 1 then (⟨1, bNil, f, bNil, 1 + tapeN L (k + 4) 2⟩, k + 5)
  else if kind = 2 then (⟨2, bNil, f, bNil, 0⟩, k + 4)
  else if kind = 5 then (⟨5, m, bNil, p, 0⟩, k + 4)
  else (⟨kind, m, f, bNil, 0⟩, k + 4)
def evGo (L : List Int) : Nat → Nat → List EventR × Nat
  | 0, k => ([], k)
  | c + 1, k => ((ev1 L k).1 :: (evGo L c (ev1 L k).2).1, (evGo L c (ev1 L k).2).2)
def evs17 (L : List Int) (k : Nat) (n : Int) : List EventR × Nat := evGo L (tapeN L k (n + 1)).toNat (k + 1)
abbrev St17 (L : List Int) (c : Nat) (es : List EventR) (k : Nat) (σ : St) : St :=
  { fr := (σ.fr.set 5 (.own 1)).set 6 (vint c), h := [(1, .row 45 5 (EventR.c default) (tRows (es.map EventR.c))), (0, .box [.t (tints L), vint k])], nx := 2 }
theorem wrapU64 {x : Int} (h1 : 0 ≤ x) (h2 : x ≤ 18446744073709551615) : IntKind.u64.wrap x = x := by
  have e1 : (2 : Int) ^ IntKind.u64.bits = 18446744073709551616 := by decide
  unfold IntKind.wrap
  simp only [IntKind.signed, e1, Bool.false_and, Bool.false_eq_true, if_false]
  omega
theorem events17 (L : List Int) (k : Nat) (n : Int) (hk : k ≤ 1024) (h1 : 0 ≤ n) (h2 : n ≤ 64) : CBox Try.prog 17 [.t (tints L), vint k] [vint n] (.t (tevents (evs17 L k n).1)) [.t (tints L), vint (evs17 L k n).2] := by
  refine cbox_of Try.xen17 Try.func17 rfl Try.ntmps17 (by rw [Try.results17]) (awp_facts fun hf => aw_ok _ ?_)
  have w1 : IntKind.i64.wrap (n + 1) = n + 1 := wrap64 (by omega) (by omega)
  simp only [go_sem, ne_eq, not_true_eq_false, or_false, false_or, or_self, Nat.reduceGT, Nat.reducePow, Nat.reduceLT, ↓reduceIte, Nat.reduceAdd, Nat.reduceMul, Nat.reduceSub, Nat.reduceMod, Nat.reduceLeDiff, Nat.reduceEqDiff, Nat.reduceBEq, reduceCtorEq, imp_self, implies_true, beq_self_eq_true, bne_self_eq_false, Bool.not_false, Bool.not_true, beq_true, beq_false, Bool.or_self, Bool.false_or, Bool.or_false, Bool.true_or, Bool.false_and, Bool.and_false, w1]
  refine icall_box (next32 L k (n + 1) (by omega) (by omega) (by omega)) rfl rfl rfl ?_
  obtain ⟨N, hN⟩ : ∃ N : Nat, tapeN L k (n + 1) = N := ⟨(tapeN L k (n + 1)).toNat, by have := (tapeN_lt (L := L) (k := k) (show 1 ≤ n + 1 by omega)).1; omega⟩
  have hNl : N ≤ 64 := by have := (tapeN_lt (L := L) (k := k) (show 1 ≤ n + 1 by omega)).2; omega
  simp only [go_sem, ne_eq, not_true_eq_false, or_false, false_or, or_self, Nat.reduceGT, Nat.reducePow, Nat.reduceLT, ↓reduceIte, Nat.reduceAdd, Nat.reduceMul, Nat.reduceSub, Nat.reduceMod, Nat.reduceLeDiff, Nat.reduceEqDiff, Nat.reduceBEq, reduceCtorEq, imp_self, implies_true, beq_self_eq_true, bne_self_eq_false, Bool.not_false, Bool.not_true, beq_true, beq_false, Bool.or_self, Bool.false_or, Bool.or_false, Bool.true_or, Bool.false_and, Bool.and_false, hN]
  refine awp_loop_f (fun (x : Nat × List EventR × Nat) σ => St17 L x.1 x.2.1 x.2.2 σ) (fun x => x.2.1.length + x.1 ≤ 64 ∧ x.2.2 + 5 * x.1 ≤ 4096 ∧ x.2.1 ++ (evGo L x.1 x.2.2).1 = (evs17 L k n).1 ∧ (evGo L x.1 x.2.2).2 = (evs17 L k n).2) (fun x => x.1) (N, [], k + 1) (weak_of [(1, none), (0, some 0)] ?_) ⟨by simp only [List.length_nil]; omega, by simp only; omega, ?_⟩ ?_
  · simp only [go_sem, ne_eq, not_true_eq_false, or_false, false_or, or_self, Nat.reduceGT, Nat.reducePow, Nat.reduceLT, ↓reduceIte, Nat.reduceAdd, Nat.reduceMul, Nat.reduceSub, Nat.reduceMod, Nat.reduceLeDiff, Nat.reduceEqDiff, Nat.reduceBEq, reduceCtorEq, imp_self, implies_true, beq_self_eq_true, bne_self_eq_false, Bool.not_false, Bool.not_true, beq_true, beq_false, Bool.or_self, Bool.false_or, Bool.or_false, Bool.true_or, Bool.false_and, Bool.and_false]
    simp
  · simp only [evs17, hN, Int.toNat_natCast, List.nil_append, and_self]
  · rintro ⟨c, es, q⟩ ⟨hc, hq, he1, he2⟩
    simp only at hc hq he1 he2
    refine aw_ok _ ?_
    simp only [go_sem, ne_eq, not_true_eq_false, or_false, false_or, or_self, Nat.reduceGT, Nat.reducePow, Nat.reduceLT, ↓reduceIte, Nat.reduceAdd, Nat.reduceMul, Nat.reduceSub, Nat.reduceMod, Nat.reduceLeDiff, Nat.reduceEqDiff, Nat.reduceBEq, reduceCtorEq, imp_self, implies_true, beq_self_eq_true, bne_self_eq_false, Bool.not_false, Bool.not_true, beq_true, beq_false, Bool.or_self, Bool.false_or, Bool.or_false, Bool.true_or, Bool.false_and, Bool.and_false]
    refine ⟨fun hlt => ?_, fun hge => ?_⟩
    all_goals simp only [decide_eq_true_eq, decide_eq_false_iff_not] at *
    · obtain ⟨c, rfl⟩ : ∃ c', c = c' + 1 := ⟨c - 1, by omega⟩
      simp only [evGo] at he1 he2
      unfold awS
      simp only [go_sem, ne_eq, not_true_eq_false, or_false, false_or, or_self, Nat.reduceGT, Nat.reducePow, Nat.reduceLT, ↓reduceIte, Nat.reduceAdd, Nat.reduceMul, Nat.reduceSub, Nat.reduceMod, Nat.reduceLeDiff, Nat.reduceEqDiff, Nat.reduceBEq, reduceCtorEq, imp_self, implies_true, beq_self_eq_true, bne_self_eq_false, Bool.not_false, Bool.not_true, beq_true, beq_false, Bool.or_self, Bool.false_or, Bool.or_false, Bool.true_or, Bool.false_and, Bool.and_false]
      refine icall_box (next32 L q 9 (by omega) (by omega) (by omega)) rfl rfl rfl ?_
      have t9 := tapeN_lt (L := L) (k := q) (n := 9) (by omega)
      simp only [go_sem, ne_eq, not_true_eq_false, or_false, false_or, or_self, Nat.reduceGT, Nat.reducePow, Nat.reduceLT, ↓reduceIte, Nat.reduceAdd, Nat.reduceMul, Nat.reduceSub, Nat.reduceMod, Nat.reduceLeDiff, Nat.reduceEqDiff, Nat.reduceBEq, reduceCtorEq, imp_self, implies_true, beq_self_eq_true, bne_self_eq_false, Bool.not_false, Bool.not_true, beq_true, beq_false, Bool.or_self, Bool.false_or, Bool.or_false, Bool.true_or, Bool.false_and, Bool.and_false]
      refine ⟨by omega, by omega, ?_⟩
      refine drawC_of 18 .done rfl (by kernel_rfl) (by kernel_rfl) (by decide) ?_
      simp only [go_sem, ne_eq, not_true_eq_false, or_false, false_or, or_self, Nat.reduceGT, Nat.reducePow, Nat.reduceLT, ↓reduceIte, Nat.reduceAdd, Nat.reduceMul, Nat.reduceSub, Nat.reduceMod, Nat.reduceLeDiff, Nat.reduceEqDiff, Nat.reduceBEq, reduceCtorEq, imp_self, implies_true, beq_self_eq_true, bne_self_eq_false, Bool.not_false, Bool.not_true, beq_true, beq_false, Bool.or_self, Bool.false_or, Bool.or_false, Bool.true_or, Bool.false_and, Bool.and_false]
      generalize hkd : [1, 1, 1, 2, 3, 3, 3, 4, 5].getD (tapeN L q 9).toNat (0 : Int) = kd
      refine bcall (next32 L (q + 1) 3 (by omega) (by omega) (by omega)) rfl rfl rfl ?_
      have t3 := tapeN_lt (L := L) (k := q + 1) (n := 3) (by omega)
      simp only [go_sem, ne_eq, not_true_eq_false, or_false, false_or, or_self, Nat.reduceGT, Nat.reducePow, Nat.reduceLT, ↓reduceIte, Nat.reduceAdd, Nat.reduceMul, Nat.reduceSub, Nat.reduceMod, Nat.reduceLeDiff, Nat.reduceEqDiff, Nat.reduceBEq, reduceCtorEq, imp_self, implies_true, beq_self_eq_true, bne_self_eq_false, Bool.not_false, Bool.not_true, beq_true, beq_false, Bool.or_self, Bool.false_or, Bool.or_false, Bool.true_or, Bool.false_and, Bool.and_false]
      refine ⟨by omega, by omega, ?_⟩
      generalize hff : [_, _, _].getD (tapeN L (q + 1) 3).toNat _ = ff
      refine bcall (next32 L (q + 2) 4 (by omega) (by omega) (by omega)) rfl rfl rfl ?_
      have t4 := tapeN_lt (L := L) (k := q + 2) (n := 4) (by omega)
      simp only [go_sem, ne_eq, not_true_eq_false, or_false, false_or, or_self, Nat.reduceGT, Nat.reducePow, Nat.reduceLT, ↓reduceIte, Nat.reduceAdd, Nat.reduceMul, Nat.reduceSub, Nat.reduceMod, Nat.reduceLeDiff, Nat.reduceEqDiff, Nat.reduceBEq, reduceCtorEq, imp_self, implies_true, beq_self_eq_true, bne_self_eq_false, Bool.not_false, Bool.not_true, beq_true, beq_false, Bool.or_self, Bool.false_or, Bool.or_false, Bool.true_or, Bool.false_and, Bool.and_false]
      refine ⟨by omega, by omega, ?_⟩
      generalize hmm : [_, _, _, _].getD (tapeN L (q + 2) 4).toNat _ = mm
      refine bcall (next32 L (q + 3) 4 (by omega) (by omega) (by omega)) rfl rfl rfl ?_
      have t5 := tapeN_lt (L := L) (k := q + 3) (n := 4) (by omega)
      simp only [go_sem, ne_eq, not_true_eq_false, or_false, false_or, or_self, Nat.reduceGT, Nat.reducePow, Nat.reduceLT, ↓reduceIte, Nat.reduceAdd, Nat.reduceMul, Nat.reduceSub, Nat.reduceMod, Nat.reduceLeDiff, Nat.reduceEqDiff, Nat.reduceBEq, reduceCtorEq, imp_self, implies_true, beq_self_eq_true, bne_self_eq_false, Bool.not_false, Bool.not_true, beq_true, beq_false, Bool.or_self, Bool.false_or, Bool.or_false, Bool.true_or, Bool.false_and, Bool.and_false]
      refine ⟨by omega, by omega, ?_⟩
      generalize hpp : [_, _, _, _].getD (tapeN L (q + 3) 4).toNat _ = pp
      have mxl : es.length + 1 ≤ maxLen := by unfold maxLen; omega
      have wc : IntKind.i64.wrap (((c + 1 : Nat) : Int) - 1) = (c : Int) := by rw [wrap64 (by omega) (by omega)]; omega
      have t6 := tapeN_lt (L := L) (k := q + 4) (n := 2) (by omega)
      have w6 : IntKind.i64.wrap (1 + tapeN L (q + 4) 2) = 1 + tapeN L (q + 4) 2 := wrap64 (by omega) (by omega)
      have w7 : IntKind.u64.wrap (1 + tapeN L (q + 4) 2) = 1 + tapeN L (q + 4) 2 := wrapU64 (by omega) (by omega)
      have hk15 : kd = 1 ∨ kd = 2 ∨ kd = 3 ∨ kd = 4 ∨ kd = 5 := by
        have : (tapeN L q 9).toNat = 0 ∨ (tapeN L q 9).toNat = 1 ∨ (tapeN L q 9).toNat = 2 ∨ (tapeN L q 9).toNat = 3 ∨ (tapeN L q 9).toNat = 4 ∨ (tapeN L q 9).toNat = 5 ∨ (tapeN L q 9).toNat = 6 ∨ (tapeN L q 9).toNat = 7 ∨ (tapeN L q 9).toNat = 8 := by omega
        rcases this with h | h | h | h | h | h | h | h | h <;> rw [h] at hkd <;> simp at hkd <;> omega
      refine ⟨by kernel_rfl, fun hk1 => ?_, fun hk1 => ?_⟩
      · unfold awS
        simp only [go_sem, ne_eq, not_true_eq_false, or_false, false_or, or_self, Nat.reduceGT, Nat.reducePow, Nat.reduceLT, ↓reduceIte, Nat.reduceAdd, Nat.reduceMul, Nat.reduceSub, Nat.reduceMod, Nat.reduceLeDiff, Nat.reduceEqDiff, Nat.reduceBEq, reduceCtorEq, imp_self, implies_true, beq_self_eq_true, bne_self_eq_false, Bool.not_false, Bool.not_true, beq_true, beq_false, Bool.or_self, Bool.false_or, Bool.or_false, Bool.true_or, Bool.false_and, Bool.and_false]
        refine icall_box (next32 L (q + 4) 2 (by omega) (by omega) (by omega)) rfl rfl rfl ?_
        simp only [go_sem, ne_eq, not_true_eq_false, or_false, false_or, or_self, Nat.reduceGT, Nat.reducePow, Nat.reduceLT, ↓reduceIte, Nat.reduceAdd, Nat.reduceMul, Nat.reduceSub, Nat.reduceMod, Nat.reduceLeDiff, Nat.reduceEqDiff, Nat.reduceBEq, reduceCtorEq, imp_self, implies_true, beq_self_eq_true, bne_self_eq_false, Bool.not_false, Bool.not_true, beq_true, beq_false, Bool.or_self, Bool.false_or, Bool.or_false, Bool.true_or, Bool.false_and, Bool.and_false, w6, w7]
        refine ⟨⟨mxl, by omega⟩, (c, es ++ [⟨kd, bNil, ff, bNil, 1 + tapeN L (q + 4) 2⟩], q + 5), weak_of [(1, some 23), (0, some 0)] ?_, ?_, by simp only; omega⟩
        · simp only [go_sem, ne_eq, not_true_eq_false, or_false, false_or, or_self, Nat.reduceGT, Nat.reducePow, Nat.reduceLT, ↓reduceIte, Nat.reduceAdd, Nat.reduceMul, Nat.reduceSub, Nat.reduceMod, Nat.reduceLeDiff, Nat.reduceEqDiff, Nat.reduceBEq, reduceCtorEq, imp_self, implies_true, beq_self_eq_true, bne_self_eq_false, Bool.not_false, Bool.not_true, beq_true, beq_false, Bool.or_self, Bool.false_or, Bool.or_false, Bool.true_or, Bool.false_and, Bool.and_false, wc]
          simp [EventR.c, bNil]
        · have hev : ev1 L q = (⟨kd, bNil, ff, bNil, 1 + tapeN L (q + 4) 2⟩, q + 5) := by
            unfold ev1 pickI pickB bF0 bF1 bF2 bM0 bM1 bM2 bSpare bNil
            simp only [hkd, hff, hmm, hpp]
            simp only [beq_iff_eq, beq_eq_false_iff_ne, ne_eq] at *
            subst hk1; rfl
          rw [hev] at he1 he2
          exact ⟨by simp only [List.length_append, List.length_cons, List.length_nil]; omega, by simp only; omega, by rw [← he1]; simp, he2⟩
      · unfold awS
        simp only [go_sem, ne_eq, not_true_eq_false, or_false, false_or, or_self, Nat.reduceGT, Nat.reducePow, Nat.reduceLT, ↓reduceIte, Nat.reduceAdd, Nat.reduceMul, Nat.reduceSub, Nat.reduceMod, Nat.reduceLeDiff, Nat.reduceEqDiff, Nat.reduceBEq, reduceCtorEq, imp_self, implies_true, beq_self_eq_true, bne_self_eq_false, Bool.not_false, Bool.not_true, beq_true, beq_false, Bool.or_self, Bool.false_or, Bool.or_false, Bool.true_or, Bool.false_and, Bool.and_false]
        refine ⟨fun hk2 => ?_, fun hk2 => ?_⟩
        · unfold awS
          simp only [go_sem, ne_eq, not_true_eq_false, or_false, false_or, or_self, Nat.reduceGT, Nat.reducePow, Nat.reduceLT, ↓reduceIte, Nat.reduceAdd, Nat.reduceMul, Nat.reduceSub, Nat.reduceMod, Nat.reduceLeDiff, Nat.reduceEqDiff, Nat.reduceBEq, reduceCtorEq, imp_self, implies_true, beq_self_eq_true, bne_self_eq_false, Bool.not_false, Bool.not_true, beq_true, beq_false, Bool.or_self, Bool.false_or, Bool.or_false, Bool.true_or, Bool.false_and, Bool.and_false]
          refine ⟨⟨mxl, by omega⟩, (c, es ++ [⟨kd, bNil, ff, bNil, 0⟩], q + 4), weak_of [(1, some 23), (0, some 0)] ?_, ?_, by simp only; omega⟩
          · simp only [go_sem, ne_eq, not_true_eq_false, or_false, false_or, or_self, Nat.reduceGT, Nat.reducePow, Nat.reduceLT, ↓reduceIte, Nat.reduceAdd, Nat.reduceMul, Nat.reduceSub, Nat.reduceMod, Nat.reduceLeDiff, Nat.reduceEqDiff, Nat.reduceBEq, reduceCtorEq, imp_self, implies_true, beq_self_eq_true, bne_self_eq_false, Bool.not_false, Bool.not_true, beq_true, beq_false, Bool.or_self, Bool.false_or, Bool.or_false, Bool.true_or, Bool.false_and, Bool.and_false, wc]
            simp [EventR.c, bNil]
          · have hev : ev1 L q = (⟨kd, bNil, ff, bNil, 0⟩, q + 4) := by
              unfold ev1 pickI pickB bF0 bF1 bF2 bM0 bM1 bM2 bSpare bNil
              simp only [hkd, hff, hmm, hpp]
              simp only [beq_iff_eq, beq_eq_false_iff_ne, ne_eq] at *
              subst hk2; rfl
            rw [hev] at he1 he2
            exact ⟨by simp only [List.length_append, List.length_cons, List.length_nil]; omega, by simp only; omega, by rw [← he1]; simp, he2⟩
        · unfold awS
          simp only [go_sem, ne_eq, not_true_eq_false, or_false, false_or, or_self, Nat.reduceGT, Nat.reducePow, Nat.reduceLT, ↓reduceIte, Nat.reduceAdd, Nat.reduceMul, Nat.reduceSub, Nat.reduceMod, Nat.reduceLeDiff, Nat.reduceEqDiff, Nat.reduceBEq, reduceCtorEq, imp_self, implies_true, beq_self_eq_true, bne_self_eq_false, Bool.not_false, Bool.not_true, beq_true, beq_false, Bool.or_self, Bool.false_or, Bool.or_false, Bool.true_or, Bool.false_and, Bool.and_false]
          refine ⟨fun hk3 => ?_, fun hk3 => ?_⟩
          · unfold awS
            simp only [go_sem, ne_eq, not_true_eq_false, or_false, false_or, or_self, Nat.reduceGT, Nat.reducePow, Nat.reduceLT, ↓reduceIte, Nat.reduceAdd, Nat.reduceMul, Nat.reduceSub, Nat.reduceMod, Nat.reduceLeDiff, Nat.reduceEqDiff, Nat.reduceBEq, reduceCtorEq, imp_self, implies_true, beq_self_eq_true, bne_self_eq_false, Bool.not_false, Bool.not_true, beq_true, beq_false, Bool.or_self, Bool.false_or, Bool.or_false, Bool.true_or, Bool.false_and, Bool.and_false, hk3]
            refine ⟨⟨mxl, by omega⟩, (c, es ++ [⟨kd, mm, ff, bNil, 0⟩], q + 4), weak_of [(1, some 23), (0, some 0)] ?_, ?_, by simp only; omega⟩
            · simp only [go_sem, ne_eq, not_true_eq_false, or_false, false_or, or_self, Nat.reduceGT, Nat.reducePow, Nat.reduceLT, ↓reduceIte, Nat.reduceAdd, Nat.reduceMul, Nat.reduceSub, Nat.reduceMod, Nat.reduceLeDiff, Nat.reduceEqDiff, Nat.reduceBEq, reduceCtorEq, imp_self, implies_true, beq_self_eq_true, bne_self_eq_false, Bool.not_false, Bool.not_true, beq_true, beq_false, Bool.or_self, Bool.false_or, Bool.or_false, Bool.true_or, Bool.false_and, Bool.and_false, wc]
              simp [EventR.c, bNil]
            · have hev : ev1 L q = (⟨kd, mm, ff, bNil, 0⟩, q + 4) := by
                unfold ev1 pickI pickB bF0 bF1 bF2 bM0 bM1 bM2 bSpare bNil
                simp only [hkd, hff, hmm, hpp]
                simp only [beq_iff_eq, beq_eq_false_iff_ne, ne_eq] at *
                subst hk3; rfl
              rw [hev] at he1 he2
              exact ⟨by simp only [List.length_append, List.length_cons, List.length_nil]; omega, by simp only; omega, by rw [← he1]; simp, he2⟩
          · unfold awS
            simp only [go_sem, ne_eq, not_true_eq_false, or_false, false_or, or_self, Nat.reduceGT, Nat.reducePow, Nat.reduceLT, ↓reduceIte, Nat.reduceAdd, Nat.reduceMul, Nat.reduceSub, Nat.reduceMod, Nat.reduceLeDiff, Nat.reduceEqDiff, Nat.reduceBEq, reduceCtorEq, imp_self, implies_true, beq_self_eq_true, bne_self_eq_false, Bool.not_false, Bool.not_true, beq_true, beq_false, Bool.or_self, Bool.false_or, Bool.or_false, Bool.true_or, Bool.false_and, Bool.and_false, hk3]
            refine ⟨fun hk4 => ?_, fun hk4 => ?_⟩
            · unfold awS
              simp only [go_sem, ne_eq, not_true_eq_false, or_false, false_or, or_self, Nat.reduceGT, Nat.reducePow, Nat.reduceLT, ↓reduceIte, Nat.reduceAdd, Nat.reduceMul, Nat.reduceSub, Nat.reduceMod, Nat.reduceLeDiff, Nat.reduceEqDiff, Nat.reduceBEq, reduceCtorEq, imp_self, implies_true, beq_self_eq_true, bne_self_eq_false, Bool.not_false, Bool.not_true, beq_true, beq_false, Bool.or_self, Bool.false_or, Bool.or_false, Bool.true_or, Bool.false_and, Bool.and_false, hk4]
              refine ⟨⟨mxl, by omega⟩, (c, es ++ [⟨kd, mm, ff, bNil, 0⟩], q + 4), weak_of [(1, some 23), (0, some 0)] ?_, ?_, by simp only; omega⟩
              · simp only [go_sem, ne_eq, not_true_eq_false, or_false, false_or, or_self, Nat.reduceGT, Nat.reducePow, Nat.reduceLT, ↓reduceIte, Nat.reduceAdd, Nat.reduceMul, Nat.reduceSub, Nat.reduceMod, Nat.reduceLeDiff, Nat.reduceEqDiff, Nat.reduceBEq, reduceCtorEq, imp_self, implies_true, beq_self_eq_true, bne_self_eq_false, Bool.not_false, Bool.not_true, beq_true, beq_false, Bool.or_self, Bool.false_or, Bool.or_false, Bool.true_or, Bool.false_and, Bool.and_false, wc]
                simp [EventR.c, bNil]
              · have hev : ev1 L q = (⟨kd, mm, ff, bNil, 0⟩, q + 4) := by
                  unfold ev1 pickI pickB bF0 bF1 bF2 bM0 bM1 bM2 bSpare bNil
                  simp only [hkd, hff, hmm, hpp]
                  simp only [beq_iff_eq, beq_eq_false_iff_ne, ne_eq] at *
                  subst hk4; rfl
                rw [hev] at he1 he2
                exact ⟨by simp only [List.length_append, List.length_cons, List.length_nil]; omega, by simp only; omega, by rw [← he1]; simp, he2⟩
            · unfold awS
              simp only [go_sem, ne_eq, not_true_eq_false, or_false, false_or, or_self, Nat.reduceGT, Nat.reducePow, Nat.reduceLT, ↓reduceIte, Nat.reduceAdd, Nat.reduceMul, Nat.reduceSub, Nat.reduceMod, Nat.reduceLeDiff, Nat.reduceEqDiff, Nat.reduceBEq, reduceCtorEq, imp_self, implies_true, beq_self_eq_true, bne_self_eq_false, Bool.not_false, Bool.not_true, beq_true, beq_false, Bool.or_self, Bool.false_or, Bool.or_false, Bool.true_or, Bool.false_and, Bool.and_false]
              refine ⟨fun hk5 => ?_, fun hk5 => ?_⟩
              · unfold awS
                simp only [go_sem, ne_eq, not_true_eq_false, or_false, false_or, or_self, Nat.reduceGT, Nat.reducePow, Nat.reduceLT, ↓reduceIte, Nat.reduceAdd, Nat.reduceMul, Nat.reduceSub, Nat.reduceMod, Nat.reduceLeDiff, Nat.reduceEqDiff, Nat.reduceBEq, reduceCtorEq, imp_self, implies_true, beq_self_eq_true, bne_self_eq_false, Bool.not_false, Bool.not_true, beq_true, beq_false, Bool.or_self, Bool.false_or, Bool.or_false, Bool.true_or, Bool.false_and, Bool.and_false, hk5]
                refine ⟨⟨mxl, by omega⟩, (c, es ++ [⟨kd, mm, bNil, pp, 0⟩], q + 4), weak_of [(1, some 23), (0, some 0)] ?_, ?_, by simp only; omega⟩
                · simp only [go_sem, ne_eq, not_true_eq_false, or_false, false_or, or_self, Nat.reduceGT, Nat.reducePow, Nat.reduceLT, ↓reduceIte, Nat.reduceAdd, Nat.reduceMul, Nat.reduceSub, Nat.reduceMod, Nat.reduceLeDiff, Nat.reduceEqDiff, Nat.reduceBEq, reduceCtorEq, imp_self, implies_true, beq_self_eq_true, bne_self_eq_false, Bool.not_false, Bool.not_true, beq_true, beq_false, Bool.or_self, Bool.false_or, Bool.or_false, Bool.true_or, Bool.false_and, Bool.and_false, wc]
                  simp [EventR.c, bNil]
                · have hev : ev1 L q = (⟨kd, mm, bNil, pp, 0⟩, q + 4) := by
                    unfold ev1 pickI pickB bF0 bF1 bF2 bM0 bM1 bM2 bSpare bNil
                    simp only [hkd, hff, hmm, hpp]
                    simp only [beq_iff_eq, beq_eq_false_iff_ne, ne_eq] at *
                    subst hk5; rfl
                  rw [hev] at he1 he2
                  exact ⟨by simp only [List.length_append, List.length_cons, List.length_nil]; omega, by simp only; omega, by rw [← he1]; simp, he2⟩
              · simp only [beq_eq_false_iff_ne, ne_eq] at *
                omega
    · unfold awS
      simp only [go_sem, ne_eq, not_true_eq_false, or_false, false_or, or_self, Nat.reduceGT, Nat.reducePow, Nat.reduceLT, ↓reduceIte, Nat.reduceAdd, Nat.reduceMul, Nat.reduceSub, Nat.reduceMod, Nat.reduceLeDiff, Nat.reduceEqDiff, Nat.reduceBEq, reduceCtorEq, imp_self, implies_true, beq_self_eq_true, bne_self_eq_false, Bool.not_false, Bool.not_true, beq_true, beq_false, Bool.or_self, Bool.false_or, Bool.or_false, Bool.true_or, Bool.false_and, Bool.and_false]
      have : c = 0 := by omega
      subst this
      simp only [evGo, List.append_nil] at he1 he2
      rw [he1, he2]
      simp
end Go.Proofs.Ytnbmiejjkkgckaa
