/- Proved here: 'TimelineNesting' returns true, for use in the proofs of the given statements; conditions stand in each theorem. -/
import Derived.Test.YthjagkcfanikiaaZW
import Derived.Test.YthjagkcfanikiaaZN
import Derived.Test.YthjagkcfanikiaaZPB
import Derived.Test.YthjagkcfanikiaaZP
set_option linter.unusedSimpArgs false
set_option linter.unusedVariables false
set_option linter.unusedSectionVars false
set_option linter.unusedSimpArgs false
set_option linter.unusedVariables false
set_option linter.unnecessarySimpa false
namespace Go.Proofs.Ythjagkcfanikiaa
open Go.RowKit
set_option maxRecDepth 4000
def nName (i : Int) : ByteArray := (⟨#[110]⟩ : ByteArray) ++ Utf8.encode (97 + i)
def nSrc (i : Int) : SourceR := ⟨2, nName i, ⟨0, 1⟩, ⟨1, 1⟩, false⟩
def nClip (i : Int) : ClipR := ⟨2, 1, nSrc i, zSource, 0, 0, 0, ⟨#[]⟩, 0, []⟩
def nSeq (i : Int) (v : List (List ClipR)) : SequenceR := ⟨nName i, ⟨25, 1⟩, 16, 16, v, [], [], 0⟩
def nProj (n : Nat) : ProjR := ⟨[], (List.range n).map fun (i : Nat) => nSeq i (if (i + 1 : Nat) < n then [[nClip (i + 1)]] else [])⟩
def nProj2 (n : Nat) (j : Int) : ProjR := ⟨[], (List.range n).map fun (i : Nat) => nSeq i (if (i + 1 : Nat) < n then [[nClip (i + 1)]] else [[nClip j]])⟩
theorem nOk : ∀ n, n < 10 → 1 ≤ n → validP (nProj n) = if n > 5 then 18 else 0 := of_decide_eq_true (by kernel_rfl)
theorem nCyc : ∀ n, n < 10 → ∀ j, j < n → validP (nProj2 n (j : Nat)) = 16 := of_decide_eq_true (by kernel_rfl)
theorem n64a : I64 0 := ⟨by decide, by decide⟩
theorem n64b : I64 1 := ⟨by decide, by decide⟩
theorem n64c : I64 2 := ⟨by decide, by decide⟩
theorem n64d : I64 16 := ⟨by decide, by decide⟩
theorem n64e : I64 25 := ⟨by decide, by decide⟩
theorem nSrc_fit (i : Int) : (nSrc i).fit := ⟨n64c, ⟨n64a, n64b⟩, ⟨n64b, n64b⟩⟩
theorem nClip_fit (i : Int) : (nClip i).fit := ⟨n64c, n64b, nSrc_fit i, zfit, i0, i0, i0, i0⟩
theorem nSeq_fit (i : Int) {v : List (List ClipR)} (h : v = [] ∨ ∃ j, v = [[nClip j]]) : (nSeq i v).fit := by
  refine ⟨⟨n64e, n64b⟩, n64d, n64d, ?_, fun t h => (by cases h), fun c h => (by cases h), i0⟩
  intro t ht c hc
  rcases h with rfl | ⟨j, rfl⟩
  · cases ht
  · simp only [nSeq, List.mem_singleton] at ht
    subst ht
    rw [List.mem_singleton] at hc
    subst hc
    exact nClip_fit j
theorem nProj_fit (n : Nat) : (nProj n).fit := by
  refine ⟨fun m h => (by cases h), fun s h => ?_⟩
  obtain ⟨i, _, rfl⟩ := List.mem_map.1 h
  refine nSeq_fit _ ?_
  split
  · exact .inr ⟨_, rfl⟩
  · exact .inl rfl
theorem nProj2_fit (n : Nat) (j : Int) : (nProj2 n j).fit := by
  refine ⟨fun m h => (by cases h), fun s h => ?_⟩
  obtain ⟨i, _, rfl⟩ := List.mem_map.1 h
  refine nSeq_fit _ ?_
  split
  · exact .inr ⟨_, rfl⟩
  · exact .inr ⟨_, rfl⟩
theorem cSrc (i : Int) (h0 : 0 ≤ i) (h1 : i < 26) : CPure Try.prog 13 [vint i] (vsource (nSrc i)) := by
  refine cpure_of Try.xen13 Try.func13 rfl Try.ntmps13 (by rw [Try.results13]) (aw_ok _ ?_)
  simp only [go_sem, Nat.reduceGT, Nat.reducePow, Nat.reduceLT, ↓reduceIte, Nat.reduceAdd, Nat.reduceMul, Nat.reduceSub, Nat.reduceMod, Nat.reduceLeDiff, Nat.reduceEqDiff, Nat.reduceBEq, reduceCtorEq]
  have e : IntKind.i32.wrap (IntKind.i64.wrap (97 + i)) = 97 + i := by
    rw [wrap64 (by omega) (by omega)]
    have e1 : (2 : Int) ^ IntKind.i32.bits = 4294967296 := by decide
    have e2 : (2 : Int) ^ (IntKind.i32.bits - 1) = 2147483648 := by decide
    unfold IntKind.wrap
    simp only [IntKind.signed, if_true, e1, e2, Bool.true_and, decide_eq_true_eq]
    split <;> omega
  have hz := encode_size (97 + i)
  rw [e]
  refine ⟨?_, rfl⟩
  have e3 : IntKind.i64.max = 9223372036854775807 := by decide
  have e4 : (#[110] : Array UInt8).size = 1 := rfl
  rw [e3, e4]
  omega
theorem impR_cons {x y : List T} {xs ys : List (List T)} (h : ImpL x y) (hs : ImpR xs ys) : ImpR (x :: xs) (y :: ys) := ⟨h, hs⟩
theorem impR_nil : ImpR [] [] := trivial
abbrev nilT : T := .lit (.slice none 0 0)
theorem nRow0 (i : Int) : ImpL [tstr (nName i), ti 25, ti 1, ti 16, ti 16, nilT, nilT, nilT, ti 0] (SequenceR.c (nSeq i [])) :=
  ⟨imp_refl, imp_refl, imp_refl, imp_refl, imp_refl, imp_nil, imp_nil, imp_nil, imp_refl, trivial⟩
theorem nRow1 (i j : Int) (d d' : List T) : ImpL [tstr (nName i), ti 25, ti 1, ti 16, ti 16, .list 1 d [[.list 22 d' [[ti 2, ti 1, ti 2, tstr (nName j), ti 0, ti 1, ti 1, ti 1, tbl false, ti 0, tstr ⟨#[]⟩, ti 0, ti 0, ti 0, ti 0, tbl false, ti 0, ti 0, ti 0, tstr ⟨#[]⟩, ti 0, nilT]]]], nilT, nilT, ti 0] (SequenceR.c (nSeq i [[nClip j]])) :=
  ⟨imp_refl, imp_refl, imp_refl, imp_refl, imp_refl, imp_list (impR_cons ⟨imp_list (impR_cons ⟨imp_refl, imp_refl, imp_refl, imp_refl, imp_refl, imp_refl, imp_refl, imp_refl, imp_refl, imp_refl, imp_refl, imp_refl, imp_refl, imp_refl, imp_refl, imp_refl, imp_refl, imp_refl, imp_refl, imp_refl, imp_refl, imp_nil, trivial⟩ impR_nil), trivial⟩ impR_nil), imp_nil, imp_nil, imp_refl, trivial⟩
theorem nNum (many : Int) : ∃ n : Nat, 1 ≤ n ∧ n ≤ 9 ∧ IntKind.i64.wrap (1 + (IntKind.i64.wrap (many.tmod 9 + 9)).tmod 9) = n := by
  have h1 : -9 < many.tmod 9 := Int.lt_tmod_of_pos many (by decide)
  have h2 : many.tmod 9 < 9 := Int.tmod_lt_of_pos many (by decide)
  rw [wrap64 (x := many.tmod 9 + 9) (by omega) (by omega), Int.tmod_eq_emod_of_nonneg (by omega), wrap64 (by omega) (by omega)]
  exact ⟨(1 + (many.tmod 9 + 9) % 9).toNat, by omega, by omega, by omega⟩
theorem wl1 : IntKind.i64.wrap 1 = 1 := by decide
theorem wl2 : IntKind.i64.wrap 2 = 2 := by decide
theorem wl3 : IntKind.i64.wrap 3 = 3 := by decide
theorem wl4 : IntKind.i64.wrap 4 = 4 := by decide
theorem wl5 : IntKind.i64.wrap 5 = 5 := by decide
theorem wl6 : IntKind.i64.wrap 6 = 6 := by decide
theorem wl7 : IntKind.i64.wrap 7 = 7 := by decide
theorem wl8 : IntKind.i64.wrap 8 = 8 := by decide
theorem wl9 : IntKind.i64.wrap 9 = 9 := by decide
theorem wl10 : IntKind.i64.wrap 10 = 10 := by decide
theorem wl0 : IntKind.i64.wrap 0 = 0 := by decide
theorem nJ (n : Nat) (m : Int) (hm : m = n) (h1 : 1 ≤ n) (h9 : n ≤ 9) (back : Int) : ∃ j : Nat, j < n ∧ (IntKind.i64.wrap (back.tmod m + m)).tmod m = (j : Nat) := by
  have q1 : -m < back.tmod m := Int.lt_tmod_of_pos back (by omega)
  have q2 : back.tmod m < m := Int.tmod_lt_of_pos back (by omega)
  rw [wrap64 (by omega) (by omega), Int.tmod_eq_emod_of_nonneg (by omega)]
  have q3 := Int.emod_nonneg (back.tmod m + m) (show m ≠ 0 by omega)
  have q4 := Int.emod_lt_of_pos (back.tmod m + m) (show 0 < m by omega)
  exact ⟨((back.tmod m + m) % m).toNat, by omega, by omega⟩
set_option maxHeartbeats 20000000 in
theorem nest4 (many back : Int) (h1 : I64 many) (h2 : I64 back) : CPure Try.prog 4 [vint many, vint back] (vbool true) := by
  refine cpure_of Try.xen4 Try.func4 rfl Try.ntmps4 (by rw [Try.results4]) (aw_ok _ ?_)
  simp only [go_sem, Nat.reduceGT, Nat.reducePow, Nat.reduceLT, ↓reduceIte, Nat.reduceAdd, Nat.reduceMul, Nat.reduceSub, Nat.reduceMod, Nat.reduceLeDiff, Nat.reduceEqDiff, Nat.reduceBEq, reduceCtorEq]
  refine ⟨by decide, by decide, ?_⟩
  obtain ⟨n, hn1, hn9, hn⟩ := nNum many
  generalize IntKind.i64.wrap (1 + (IntKind.i64.wrap (many.tmod 9 + 9)).tmod 9) = E at hn ⊢
  obtain rfl | rfl | rfl | rfl | rfl | rfl | rfl | rfl | rfl : E = 1 ∨ E = 2 ∨ E = 3 ∨ E = 4 ∨ E = 5 ∨ E = 6 ∨ E = 7 ∨ E = 8 ∨ E = 9 := by omega
  · refine awp_loopL ?_
    refine awpL_step (aw_ok _ ?_)
    simp only [go_sem, Nat.reduceGT, Nat.reducePow, Nat.reduceLT, ↓reduceIte, Nat.reduceAdd, Nat.reduceMul, Nat.reduceSub, Nat.reduceMod, Nat.reduceLeDiff, Nat.reduceEqDiff, Nat.reduceBEq, reduceCtorEq, Int.reduceLT, Int.reduceLE, Int.reduceGT, Int.reduceGE, Int.reduceEq, Int.reduceNe, Int.reduceBEq, Int.reduceBNe, Int.reduceAdd, Int.reduceSub, Int.reduceNeg, decide_true, decide_false, Int.reduceToNat, wl0, wl1, wl2, wl3, wl4, wl5, wl6, wl7, wl8, wl9, wl10]
    refine ⟨_, cSrc 0 (by decide) (by decide), ?_⟩
    simp only [go_sem, Nat.reduceGT, Nat.reducePow, Nat.reduceLT, ↓reduceIte, Nat.reduceAdd, Nat.reduceMul, Nat.reduceSub, Nat.reduceMod, Nat.reduceLeDiff, Nat.reduceEqDiff, Nat.reduceBEq, reduceCtorEq, Int.reduceLT, Int.reduceLE, Int.reduceGT, Int.reduceGE, Int.reduceEq, Int.reduceNe, Int.reduceBEq, Int.reduceBNe, Int.reduceAdd, Int.reduceSub, Int.reduceNeg, decide_true, decide_false, Int.reduceToNat, wl0, wl1, wl2, wl3, wl4, wl5, wl6, wl7, wl8, wl9, wl10]
    first
      | refine ⟨by unfold maxLen; omega, ?_⟩
      | refine ⟨⟨by unfold maxLen; omega, by omega⟩, ?_⟩
      | skip
    refine awpL_step (aw_ok _ ?_)
    simp only [go_sem, Nat.reduceGT, Nat.reducePow, Nat.reduceLT, ↓reduceIte, Nat.reduceAdd, Nat.reduceMul, Nat.reduceSub, Nat.reduceMod, Nat.reduceLeDiff, Nat.reduceEqDiff, Nat.reduceBEq, reduceCtorEq, Int.reduceLT, Int.reduceLE, Int.reduceGT, Int.reduceGE, Int.reduceEq, Int.reduceNe, Int.reduceBEq, Int.reduceBNe, Int.reduceAdd, Int.reduceSub, Int.reduceNeg, decide_true, decide_false, Int.reduceToNat, wl0, wl1, wl2, wl3, wl4, wl5, wl6, wl7, wl8, wl9, wl10]
    refine lcall_lend ?_
    simp only [go_sem, Nat.reduceGT, Nat.reducePow, Nat.reduceLT, ↓reduceIte, Nat.reduceAdd, Nat.reduceMul, Nat.reduceSub, Nat.reduceMod, Nat.reduceLeDiff, Nat.reduceEqDiff, Nat.reduceBEq, reduceCtorEq, Int.reduceLT, Int.reduceLE, Int.reduceGT, Int.reduceGE, Int.reduceEq, Int.reduceNe, Int.reduceBEq, Int.reduceBNe, Int.reduceAdd, Int.reduceSub, Int.reduceNeg, decide_true, decide_false, Int.reduceToNat, wl0, wl1, wl2, wl3, wl4, wl5, wl6, wl7, wl8, wl9, wl10]
    refine ⟨_, cpure_as (.cons (as_impAgg (ys := [.t (tmedia []), .t (tseqs (nProj 1).seqs)]) ⟨as_imp imp_nil, as_imp (imp_list (impR_cons (nRow0 0) impR_nil)), trivial⟩) .nil) (cValid (nProj 1) (nProj_fit 1)), ?_⟩
    rw [show validP (nProj 1) = 0 from nOk 1 (by decide) (by decide)]
    simp only [go_sem, Nat.reduceGT, Nat.reducePow, Nat.reduceLT, ↓reduceIte, Nat.reduceAdd, Nat.reduceMul, Nat.reduceSub, Nat.reduceMod, Nat.reduceLeDiff, Nat.reduceEqDiff, Nat.reduceBEq, reduceCtorEq, Int.reduceLT, Int.reduceLE, Int.reduceGT, Int.reduceGE, Int.reduceEq, Int.reduceNe, Int.reduceBEq, Int.reduceBNe, Int.reduceAdd, Int.reduceSub, Int.reduceNeg, decide_true, decide_false, Int.reduceToNat, wl0, wl1, wl2, wl3, wl4, wl5, wl6, wl7, wl8, wl9, wl10]
    refine drawC_of 18 .done rfl (by kernel_rfl) (by kernel_rfl) (by decide) ?_
    simp only [go_sem, Nat.reduceGT, Nat.reducePow, Nat.reduceLT, ↓reduceIte, Nat.reduceAdd, Nat.reduceMul, Nat.reduceSub, Nat.reduceMod, Nat.reduceLeDiff, Nat.reduceEqDiff, Nat.reduceBEq, reduceCtorEq, Int.reduceLT, Int.reduceLE, Int.reduceGT, Int.reduceGE, Int.reduceEq, Int.reduceNe, Int.reduceBEq, Int.reduceBNe, Int.reduceAdd, Int.reduceSub, Int.reduceNeg, decide_true, decide_false, Int.reduceToNat, wl0, wl1, wl2, wl3, wl4, wl5, wl6, wl7, wl8, wl9, wl10]
    obtain ⟨j, hj, hje⟩ := nJ 1 1 rfl (by decide) (by decide) back
    rw [hje]
    refine ⟨_, cSrc j (by omega) (by omega), ?_⟩
    simp only [go_sem, Nat.reduceGT, Nat.reducePow, Nat.reduceLT, ↓reduceIte, Nat.reduceAdd, Nat.reduceMul, Nat.reduceSub, Nat.reduceMod, Nat.reduceLeDiff, Nat.reduceEqDiff, Nat.reduceBEq, reduceCtorEq, Int.reduceLT, Int.reduceLE, Int.reduceGT, Int.reduceGE, Int.reduceEq, Int.reduceNe, Int.reduceBEq, Int.reduceBNe, Int.reduceAdd, Int.reduceSub, Int.reduceNeg, decide_true, decide_false, Int.reduceToNat, wl0, wl1, wl2, wl3, wl4, wl5, wl6, wl7, wl8, wl9, wl10]
    refine ⟨by decide, by kernel_rfl, ?_⟩
    refine lcall_lend ?_
    simp only [go_sem, Nat.reduceGT, Nat.reducePow, Nat.reduceLT, ↓reduceIte, Nat.reduceAdd, Nat.reduceMul, Nat.reduceSub, Nat.reduceMod, Nat.reduceLeDiff, Nat.reduceEqDiff, Nat.reduceBEq, reduceCtorEq, Int.reduceLT, Int.reduceLE, Int.reduceGT, Int.reduceGE, Int.reduceEq, Int.reduceNe, Int.reduceBEq, Int.reduceBNe, Int.reduceAdd, Int.reduceSub, Int.reduceNeg, decide_true, decide_false, Int.reduceToNat, wl0, wl1, wl2, wl3, wl4, wl5, wl6, wl7, wl8, wl9, wl10, tRows, nthV, nth, Option.getD_some, List.getElem?_cons_zero, List.getElem?_cons_succ, List.map_cons, List.map_nil, List.set_cons_zero, List.set_cons_succ]
    refine ⟨_, cpure_as (.cons (as_impAgg (ys := [.t (tmedia []), .t (tseqs (nProj2 1 (j : Nat)).seqs)]) ⟨as_imp imp_nil, as_imp (imp_list (impR_cons (nRow1 0 j _ _) impR_nil)), trivial⟩) .nil) (cValid (nProj2 1 (j : Nat)) (nProj2_fit 1 (j : Nat))), ?_⟩
    rw [nCyc 1 (by decide) j hj]
    simp only [go_sem, Nat.reduceGT, Nat.reducePow, Nat.reduceLT, ↓reduceIte, Nat.reduceAdd, Nat.reduceMul, Nat.reduceSub, Nat.reduceMod, Nat.reduceLeDiff, Nat.reduceEqDiff, Nat.reduceBEq, reduceCtorEq, Int.reduceLT, Int.reduceLE, Int.reduceGT, Int.reduceGE, Int.reduceEq, Int.reduceNe, Int.reduceBEq, Int.reduceBNe, Int.reduceAdd, Int.reduceSub, Int.reduceNeg, decide_true, decide_false, Int.reduceToNat, wl0, wl1, wl2, wl3, wl4, wl5, wl6, wl7, wl8, wl9, wl10]
    refine ⟨_, cAwake, ?_⟩
    simp only [go_sem, Nat.reduceGT, Nat.reducePow, Nat.reduceLT, ↓reduceIte, Nat.reduceAdd, Nat.reduceMul, Nat.reduceSub, Nat.reduceMod, Nat.reduceLeDiff, Nat.reduceEqDiff, Nat.reduceBEq, reduceCtorEq, Int.reduceLT, Int.reduceLE, Int.reduceGT, Int.reduceGE, Int.reduceEq, Int.reduceNe, Int.reduceBEq, Int.reduceBNe, Int.reduceAdd, Int.reduceSub, Int.reduceNeg, decide_true, decide_false, Int.reduceToNat]
  · refine awp_loopL ?_
    refine awpL_step (aw_ok _ ?_)
    simp only [go_sem, Nat.reduceGT, Nat.reducePow, Nat.reduceLT, ↓reduceIte, Nat.reduceAdd, Nat.reduceMul, Nat.reduceSub, Nat.reduceMod, Nat.reduceLeDiff, Nat.reduceEqDiff, Nat.reduceBEq, reduceCtorEq, Int.reduceLT, Int.reduceLE, Int.reduceGT, Int.reduceGE, Int.reduceEq, Int.reduceNe, Int.reduceBEq, Int.reduceBNe, Int.reduceAdd, Int.reduceSub, Int.reduceNeg, decide_true, decide_false, Int.reduceToNat, wl0, wl1, wl2, wl3, wl4, wl5, wl6, wl7, wl8, wl9, wl10]
    refine ⟨_, cSrc 0 (by decide) (by decide), ?_⟩
    simp only [go_sem, Nat.reduceGT, Nat.reducePow, Nat.reduceLT, ↓reduceIte, Nat.reduceAdd, Nat.reduceMul, Nat.reduceSub, Nat.reduceMod, Nat.reduceLeDiff, Nat.reduceEqDiff, Nat.reduceBEq, reduceCtorEq, Int.reduceLT, Int.reduceLE, Int.reduceGT, Int.reduceGE, Int.reduceEq, Int.reduceNe, Int.reduceBEq, Int.reduceBNe, Int.reduceAdd, Int.reduceSub, Int.reduceNeg, decide_true, decide_false, Int.reduceToNat, wl0, wl1, wl2, wl3, wl4, wl5, wl6, wl7, wl8, wl9, wl10]
    refine ⟨_, cSrc 1 (by decide) (by decide), ?_⟩
    simp only [go_sem, Nat.reduceGT, Nat.reducePow, Nat.reduceLT, ↓reduceIte, Nat.reduceAdd, Nat.reduceMul, Nat.reduceSub, Nat.reduceMod, Nat.reduceLeDiff, Nat.reduceEqDiff, Nat.reduceBEq, reduceCtorEq, Int.reduceLT, Int.reduceLE, Int.reduceGT, Int.reduceGE, Int.reduceEq, Int.reduceNe, Int.reduceBEq, Int.reduceBNe, Int.reduceAdd, Int.reduceSub, Int.reduceNeg, decide_true, decide_false, Int.reduceToNat, wl0, wl1, wl2, wl3, wl4, wl5, wl6, wl7, wl8, wl9, wl10]
    first
      | refine ⟨by unfold maxLen; omega, ?_⟩
      | refine ⟨⟨by unfold maxLen; omega, by omega⟩, ?_⟩
      | skip
    refine awpL_step (aw_ok _ ?_)
    simp only [go_sem, Nat.reduceGT, Nat.reducePow, Nat.reduceLT, ↓reduceIte, Nat.reduceAdd, Nat.reduceMul, Nat.reduceSub, Nat.reduceMod, Nat.reduceLeDiff, Nat.reduceEqDiff, Nat.reduceBEq, reduceCtorEq, Int.reduceLT, Int.reduceLE, Int.reduceGT, Int.reduceGE, Int.reduceEq, Int.reduceNe, Int.reduceBEq, Int.reduceBNe, Int.reduceAdd, Int.reduceSub, Int.reduceNeg, decide_true, decide_false, Int.reduceToNat, wl0, wl1, wl2, wl3, wl4, wl5, wl6, wl7, wl8, wl9, wl10]
    refine ⟨_, cSrc 1 (by decide) (by decide), ?_⟩
    simp only [go_sem, Nat.reduceGT, Nat.reducePow, Nat.reduceLT, ↓reduceIte, Nat.reduceAdd, Nat.reduceMul, Nat.reduceSub, Nat.reduceMod, Nat.reduceLeDiff, Nat.reduceEqDiff, Nat.reduceBEq, reduceCtorEq, Int.reduceLT, Int.reduceLE, Int.reduceGT, Int.reduceGE, Int.reduceEq, Int.reduceNe, Int.reduceBEq, Int.reduceBNe, Int.reduceAdd, Int.reduceSub, Int.reduceNeg, decide_true, decide_false, Int.reduceToNat, wl0, wl1, wl2, wl3, wl4, wl5, wl6, wl7, wl8, wl9, wl10]
    first
      | refine ⟨by unfold maxLen; omega, ?_⟩
      | refine ⟨⟨by unfold maxLen; omega, by omega⟩, ?_⟩
      | skip
    refine awpL_step (aw_ok _ ?_)
    simp only [go_sem, Nat.reduceGT, Nat.reducePow, Nat.reduceLT, ↓reduceIte, Nat.reduceAdd, Nat.reduceMul, Nat.reduceSub, Nat.reduceMod, Nat.reduceLeDiff, Nat.reduceEqDiff, Nat.reduceBEq, reduceCtorEq, Int.reduceLT, Int.reduceLE, Int.reduceGT, Int.reduceGE, Int.reduceEq, Int.reduceNe, Int.reduceBEq, Int.reduceBNe, Int.reduceAdd, Int.reduceSub, Int.reduceNeg, decide_true, decide_false, Int.reduceToNat, wl0, wl1, wl2, wl3, wl4, wl5, wl6, wl7, wl8, wl9, wl10]
    refine lcall_lend ?_
    simp only [go_sem, Nat.reduceGT, Nat.reducePow, Nat.reduceLT, ↓reduceIte, Nat.reduceAdd, Nat.reduceMul, Nat.reduceSub, Nat.reduceMod, Nat.reduceLeDiff, Nat.reduceEqDiff, Nat.reduceBEq, reduceCtorEq, Int.reduceLT, Int.reduceLE, Int.reduceGT, Int.reduceGE, Int.reduceEq, Int.reduceNe, Int.reduceBEq, Int.reduceBNe, Int.reduceAdd, Int.reduceSub, Int.reduceNeg, decide_true, decide_false, Int.reduceToNat, wl0, wl1, wl2, wl3, wl4, wl5, wl6, wl7, wl8, wl9, wl10]
    refine ⟨_, cpure_as (.cons (as_impAgg (ys := [.t (tmedia []), .t (tseqs (nProj 2).seqs)]) ⟨as_imp imp_nil, as_imp (imp_list (impR_cons (nRow1 0 1 _ _) (impR_cons (nRow0 1) impR_nil))), trivial⟩) .nil) (cValid (nProj 2) (nProj_fit 2)), ?_⟩
    rw [show validP (nProj 2) = 0 from nOk 2 (by decide) (by decide)]
    simp only [go_sem, Nat.reduceGT, Nat.reducePow, Nat.reduceLT, ↓reduceIte, Nat.reduceAdd, Nat.reduceMul, Nat.reduceSub, Nat.reduceMod, Nat.reduceLeDiff, Nat.reduceEqDiff, Nat.reduceBEq, reduceCtorEq, Int.reduceLT, Int.reduceLE, Int.reduceGT, Int.reduceGE, Int.reduceEq, Int.reduceNe, Int.reduceBEq, Int.reduceBNe, Int.reduceAdd, Int.reduceSub, Int.reduceNeg, decide_true, decide_false, Int.reduceToNat, wl0, wl1, wl2, wl3, wl4, wl5, wl6, wl7, wl8, wl9, wl10]
    refine drawC_of 18 .done rfl (by kernel_rfl) (by kernel_rfl) (by decide) ?_
    simp only [go_sem, Nat.reduceGT, Nat.reducePow, Nat.reduceLT, ↓reduceIte, Nat.reduceAdd, Nat.reduceMul, Nat.reduceSub, Nat.reduceMod, Nat.reduceLeDiff, Nat.reduceEqDiff, Nat.reduceBEq, reduceCtorEq, Int.reduceLT, Int.reduceLE, Int.reduceGT, Int.reduceGE, Int.reduceEq, Int.reduceNe, Int.reduceBEq, Int.reduceBNe, Int.reduceAdd, Int.reduceSub, Int.reduceNeg, decide_true, decide_false, Int.reduceToNat, wl0, wl1, wl2, wl3, wl4, wl5, wl6, wl7, wl8, wl9, wl10]
    obtain ⟨j, hj, hje⟩ := nJ 2 2 rfl (by decide) (by decide) back
    rw [hje]
    refine ⟨_, cSrc j (by omega) (by omega), ?_⟩
    simp only [go_sem, Nat.reduceGT, Nat.reducePow, Nat.reduceLT, ↓reduceIte, Nat.reduceAdd, Nat.reduceMul, Nat.reduceSub, Nat.reduceMod, Nat.reduceLeDiff, Nat.reduceEqDiff, Nat.reduceBEq, reduceCtorEq, Int.reduceLT, Int.reduceLE, Int.reduceGT, Int.reduceGE, Int.reduceEq, Int.reduceNe, Int.reduceBEq, Int.reduceBNe, Int.reduceAdd, Int.reduceSub, Int.reduceNeg, decide_true, decide_false, Int.reduceToNat, wl0, wl1, wl2, wl3, wl4, wl5, wl6, wl7, wl8, wl9, wl10]
    refine ⟨by decide, by kernel_rfl, ?_⟩
    refine lcall_lend ?_
    simp only [go_sem, Nat.reduceGT, Nat.reducePow, Nat.reduceLT, ↓reduceIte, Nat.reduceAdd, Nat.reduceMul, Nat.reduceSub, Nat.reduceMod, Nat.reduceLeDiff, Nat.reduceEqDiff, Nat.reduceBEq, reduceCtorEq, Int.reduceLT, Int.reduceLE, Int.reduceGT, Int.reduceGE, Int.reduceEq, Int.reduceNe, Int.reduceBEq, Int.reduceBNe, Int.reduceAdd, Int.reduceSub, Int.reduceNeg, decide_true, decide_false, Int.reduceToNat, wl0, wl1, wl2, wl3, wl4, wl5, wl6, wl7, wl8, wl9, wl10, tRows, nthV, nth, Option.getD_some, List.getElem?_cons_zero, List.getElem?_cons_succ, List.map_cons, List.map_nil, List.set_cons_zero, List.set_cons_succ]
    refine ⟨_, cpure_as (.cons (as_impAgg (ys := [.t (tmedia []), .t (tseqs (nProj2 2 (j : Nat)).seqs)]) ⟨as_imp imp_nil, as_imp (imp_list (impR_cons (nRow1 0 1 _ _) (impR_cons (nRow1 1 j _ _) impR_nil))), trivial⟩) .nil) (cValid (nProj2 2 (j : Nat)) (nProj2_fit 2 (j : Nat))), ?_⟩
    rw [nCyc 2 (by decide) j hj]
    simp only [go_sem, Nat.reduceGT, Nat.reducePow, Nat.reduceLT, ↓reduceIte, Nat.reduceAdd, Nat.reduceMul, Nat.reduceSub, Nat.reduceMod, Nat.reduceLeDiff, Nat.reduceEqDiff, Nat.reduceBEq, reduceCtorEq, Int.reduceLT, Int.reduceLE, Int.reduceGT, Int.reduceGE, Int.reduceEq, Int.reduceNe, Int.reduceBEq, Int.reduceBNe, Int.reduceAdd, Int.reduceSub, Int.reduceNeg, decide_true, decide_false, Int.reduceToNat, wl0, wl1, wl2, wl3, wl4, wl5, wl6, wl7, wl8, wl9, wl10]
    refine ⟨_, cAwake, ?_⟩
    simp only [go_sem, Nat.reduceGT, Nat.reducePow, Nat.reduceLT, ↓reduceIte, Nat.reduceAdd, Nat.reduceMul, Nat.reduceSub, Nat.reduceMod, Nat.reduceLeDiff, Nat.reduceEqDiff, Nat.reduceBEq, reduceCtorEq, Int.reduceLT, Int.reduceLE, Int.reduceGT, Int.reduceGE, Int.reduceEq, Int.reduceNe, Int.reduceBEq, Int.reduceBNe, Int.reduceAdd, Int.reduceSub, Int.reduceNeg, decide_true, decide_false, Int.reduceToNat]
  · refine awp_loopL ?_
    refine awpL_step (aw_ok _ ?_)
    simp only [go_sem, Nat.reduceGT, Nat.reducePow, Nat.reduceLT, ↓reduceIte, Nat.reduceAdd, Nat.reduceMul, Nat.reduceSub, Nat.reduceMod, Nat.reduceLeDiff, Nat.reduceEqDiff, Nat.reduceBEq, reduceCtorEq, Int.reduceLT, Int.reduceLE, Int.reduceGT, Int.reduceGE, Int.reduceEq, Int.reduceNe, Int.reduceBEq, Int.reduceBNe, Int.reduceAdd, Int.reduceSub, Int.reduceNeg, decide_true, decide_false, Int.reduceToNat, wl0, wl1, wl2, wl3, wl4, wl5, wl6, wl7, wl8, wl9, wl10]
    refine ⟨_, cSrc 0 (by decide) (by decide), ?_⟩
    simp only [go_sem, Nat.reduceGT, Nat.reducePow, Nat.reduceLT, ↓reduceIte, Nat.reduceAdd, Nat.reduceMul, Nat.reduceSub, Nat.reduceMod, Nat.reduceLeDiff, Nat.reduceEqDiff, Nat.reduceBEq, reduceCtorEq, Int.reduceLT, Int.reduceLE, Int.reduceGT, Int.reduceGE, Int.reduceEq, Int.reduceNe, Int.reduceBEq, Int.reduceBNe, Int.reduceAdd, Int.reduceSub, Int.reduceNeg, decide_true, decide_false, Int.reduceToNat, wl0, wl1, wl2, wl3, wl4, wl5, wl6, wl7, wl8, wl9, wl10]
    refine ⟨_, cSrc 1 (by decide) (by decide), ?_⟩
    simp only [go_sem, Nat.reduceGT, Nat.reducePow, Nat.reduceLT, ↓reduceIte, Nat.reduceAdd, Nat.reduceMul, Nat.reduceSub, Nat.reduceMod, Nat.reduceLeDiff, Nat.reduceEqDiff, Nat.reduceBEq, reduceCtorEq, Int.reduceLT, Int.reduceLE, Int.reduceGT, Int.reduceGE, Int.reduceEq, Int.reduceNe, Int.reduceBEq, Int.reduceBNe, Int.reduceAdd, Int.reduceSub, Int.reduceNeg, decide_true, decide_false, Int.reduceToNat, wl0, wl1, wl2, wl3, wl4, wl5, wl6, wl7, wl8, wl9, wl10]
    first
      | refine ⟨by unfold maxLen; omega, ?_⟩
      | refine ⟨⟨by unfold maxLen; omega, by omega⟩, ?_⟩
      | skip
    refine awpL_step (aw_ok _ ?_)
    simp only [go_sem, Nat.reduceGT, Nat.reducePow, Nat.reduceLT, ↓reduceIte, Nat.reduceAdd, Nat.reduceMul, Nat.reduceSub, Nat.reduceMod, Nat.reduceLeDiff, Nat.reduceEqDiff, Nat.reduceBEq, reduceCtorEq, Int.reduceLT, Int.reduceLE, Int.reduceGT, Int.reduceGE, Int.reduceEq, Int.reduceNe, Int.reduceBEq, Int.reduceBNe, Int.reduceAdd, Int.reduceSub, Int.reduceNeg, decide_true, decide_false, Int.reduceToNat, wl0, wl1, wl2, wl3, wl4, wl5, wl6, wl7, wl8, wl9, wl10]
    refine ⟨_, cSrc 1 (by decide) (by decide), ?_⟩
    simp only [go_sem, Nat.reduceGT, Nat.reducePow, Nat.reduceLT, ↓reduceIte, Nat.reduceAdd, Nat.reduceMul, Nat.reduceSub, Nat.reduceMod, Nat.reduceLeDiff, Nat.reduceEqDiff, Nat.reduceBEq, reduceCtorEq, Int.reduceLT, Int.reduceLE, Int.reduceGT, Int.reduceGE, Int.reduceEq, Int.reduceNe, Int.reduceBEq, Int.reduceBNe, Int.reduceAdd, Int.reduceSub, Int.reduceNeg, decide_true, decide_false, Int.reduceToNat, wl0, wl1, wl2, wl3, wl4, wl5, wl6, wl7, wl8, wl9, wl10]
    refine ⟨_, cSrc 2 (by decide) (by decide), ?_⟩
    simp only [go_sem, Nat.reduceGT, Nat.reducePow, Nat.reduceLT, ↓reduceIte, Nat.reduceAdd, Nat.reduceMul, Nat.reduceSub, Nat.reduceMod, Nat.reduceLeDiff, Nat.reduceEqDiff, Nat.reduceBEq, reduceCtorEq, Int.reduceLT, Int.reduceLE, Int.reduceGT, Int.reduceGE, Int.reduceEq, Int.reduceNe, Int.reduceBEq, Int.reduceBNe, Int.reduceAdd, Int.reduceSub, Int.reduceNeg, decide_true, decide_false, Int.reduceToNat, wl0, wl1, wl2, wl3, wl4, wl5, wl6, wl7, wl8, wl9, wl10]
    first
      | refine ⟨by unfold maxLen; omega, ?_⟩
      | refine ⟨⟨by unfold maxLen; omega, by omega⟩, ?_⟩
      | skip
    refine awpL_step (aw_ok _ ?_)
    simp only [go_sem, Nat.reduceGT, Nat.reducePow, Nat.reduceLT, ↓reduceIte, Nat.reduceAdd, Nat.reduceMul, Nat.reduceSub, Nat.reduceMod, Nat.reduceLeDiff, Nat.reduceEqDiff, Nat.reduceBEq, reduceCtorEq, Int.reduceLT, Int.reduceLE, Int.reduceGT, Int.reduceGE, Int.reduceEq, Int.reduceNe, Int.reduceBEq, Int.reduceBNe, Int.reduceAdd, Int.reduceSub, Int.reduceNeg, decide_true, decide_false, Int.reduceToNat, wl0, wl1, wl2, wl3, wl4, wl5, wl6, wl7, wl8, wl9, wl10]
    refine ⟨_, cSrc 2 (by decide) (by decide), ?_⟩
    simp only [go_sem, Nat.reduceGT, Nat.reducePow, Nat.reduceLT, ↓reduceIte, Nat.reduceAdd, Nat.reduceMul, Nat.reduceSub, Nat.reduceMod, Nat.reduceLeDiff, Nat.reduceEqDiff, Nat.reduceBEq, reduceCtorEq, Int.reduceLT, Int.reduceLE, Int.reduceGT, Int.reduceGE, Int.reduceEq, Int.reduceNe, Int.reduceBEq, Int.reduceBNe, Int.reduceAdd, Int.reduceSub, Int.reduceNeg, decide_true, decide_false, Int.reduceToNat, wl0, wl1, wl2, wl3, wl4, wl5, wl6, wl7, wl8, wl9, wl10]
    first
      | refine ⟨by unfold maxLen; omega, ?_⟩
      | refine ⟨⟨by unfold maxLen; omega, by omega⟩, ?_⟩
      | skip
    refine awpL_step (aw_ok _ ?_)
    simp only [go_sem, Nat.reduceGT, Nat.reducePow, Nat.reduceLT, ↓reduceIte, Nat.reduceAdd, Nat.reduceMul, Nat.reduceSub, Nat.reduceMod, Nat.reduceLeDiff, Nat.reduceEqDiff, Nat.reduceBEq, reduceCtorEq, Int.reduceLT, Int.reduceLE, Int.reduceGT, Int.reduceGE, Int.reduceEq, Int.reduceNe, Int.reduceBEq, Int.reduceBNe, Int.reduceAdd, Int.reduceSub, Int.reduceNeg, decide_true, decide_false, Int.reduceToNat, wl0, wl1, wl2, wl3, wl4, wl5, wl6, wl7, wl8, wl9, wl10]
    refine lcall_lend ?_
    simp only [go_sem, Nat.reduceGT, Nat.reducePow, Nat.reduceLT, ↓reduceIte, Nat.reduceAdd, Nat.reduceMul, Nat.reduceSub, Nat.reduceMod, Nat.reduceLeDiff, Nat.reduceEqDiff, Nat.reduceBEq, reduceCtorEq, Int.reduceLT, Int.reduceLE, Int.reduceGT, Int.reduceGE, Int.reduceEq, Int.reduceNe, Int.reduceBEq, Int.reduceBNe, Int.reduceAdd, Int.reduceSub, Int.reduceNeg, decide_true, decide_false, Int.reduceToNat, wl0, wl1, wl2, wl3, wl4, wl5, wl6, wl7, wl8, wl9, wl10]
    refine ⟨_, cpure_as (.cons (as_impAgg (ys := [.t (tmedia []), .t (tseqs (nProj 3).seqs)]) ⟨as_imp imp_nil, as_imp (imp_list (impR_cons (nRow1 0 1 _ _) (impR_cons (nRow1 1 2 _ _) (impR_cons (nRow0 2) impR_nil)))), trivial⟩) .nil) (cValid (nProj 3) (nProj_fit 3)), ?_⟩
    rw [show validP (nProj 3) = 0 from nOk 3 (by decide) (by decide)]
    simp only [go_sem, Nat.reduceGT, Nat.reducePow, Nat.reduceLT, ↓reduceIte, Nat.reduceAdd, Nat.reduceMul, Nat.reduceSub, Nat.reduceMod, Nat.reduceLeDiff, Nat.reduceEqDiff, Nat.reduceBEq, reduceCtorEq, Int.reduceLT, Int.reduceLE, Int.reduceGT, Int.reduceGE, Int.reduceEq, Int.reduceNe, Int.reduceBEq, Int.reduceBNe, Int.reduceAdd, Int.reduceSub, Int.reduceNeg, decide_true, decide_false, Int.reduceToNat, wl0, wl1, wl2, wl3, wl4, wl5, wl6, wl7, wl8, wl9, wl10]
    refine drawC_of 18 .done rfl (by kernel_rfl) (by kernel_rfl) (by decide) ?_
    simp only [go_sem, Nat.reduceGT, Nat.reducePow, Nat.reduceLT, ↓reduceIte, Nat.reduceAdd, Nat.reduceMul, Nat.reduceSub, Nat.reduceMod, Nat.reduceLeDiff, Nat.reduceEqDiff, Nat.reduceBEq, reduceCtorEq, Int.reduceLT, Int.reduceLE, Int.reduceGT, Int.reduceGE, Int.reduceEq, Int.reduceNe, Int.reduceBEq, Int.reduceBNe, Int.reduceAdd, Int.reduceSub, Int.reduceNeg, decide_true, decide_false, Int.reduceToNat, wl0, wl1, wl2, wl3, wl4, wl5, wl6, wl7, wl8, wl9, wl10]
    obtain ⟨j, hj, hje⟩ := nJ 3 3 rfl (by decide) (by decide) back
    rw [hje]
    refine ⟨_, cSrc j (by omega) (by omega), ?_⟩
    simp only [go_sem, Nat.reduceGT, Nat.reducePow, Nat.reduceLT, ↓reduceIte, Nat.reduceAdd, Nat.reduceMul, Nat.reduceSub, Nat.reduceMod, Nat.reduceLeDiff, Nat.reduceEqDiff, Nat.reduceBEq, reduceCtorEq, Int.reduceLT, Int.reduceLE, Int.reduceGT, Int.reduceGE, Int.reduceEq, Int.reduceNe, Int.reduceBEq, Int.reduceBNe, Int.reduceAdd, Int.reduceSub, Int.reduceNeg, decide_true, decide_false, Int.reduceToNat, wl0, wl1, wl2, wl3, wl4, wl5, wl6, wl7, wl8, wl9, wl10]
    refine ⟨by decide, by kernel_rfl, ?_⟩
    refine lcall_lend ?_
    simp only [go_sem, Nat.reduceGT, Nat.reducePow, Nat.reduceLT, ↓reduceIte, Nat.reduceAdd, Nat.reduceMul, Nat.reduceSub, Nat.reduceMod, Nat.reduceLeDiff, Nat.reduceEqDiff, Nat.reduceBEq, reduceCtorEq, Int.reduceLT, Int.reduceLE, Int.reduceGT, Int.reduceGE, Int.reduceEq, Int.reduceNe, Int.reduceBEq, Int.reduceBNe, Int.reduceAdd, Int.reduceSub, Int.reduceNeg, decide_true, decide_false, Int.reduceToNat, wl0, wl1, wl2, wl3, wl4, wl5, wl6, wl7, wl8, wl9, wl10, tRows, nthV, nth, Option.getD_some, List.getElem?_cons_zero, List.getElem?_cons_succ, List.map_cons, List.map_nil, List.set_cons_zero, List.set_cons_succ]
    refine ⟨_, cpure_as (.cons (as_impAgg (ys := [.t (tmedia []), .t (tseqs (nProj2 3 (j : Nat)).seqs)]) ⟨as_imp imp_nil, as_imp (imp_list (impR_cons (nRow1 0 1 _ _) (impR_cons (nRow1 1 2 _ _) (impR_cons (nRow1 2 j _ _) impR_nil)))), trivial⟩) .nil) (cValid (nProj2 3 (j : Nat)) (nProj2_fit 3 (j : Nat))), ?_⟩
    rw [nCyc 3 (by decide) j hj]
    simp only [go_sem, Nat.reduceGT, Nat.reducePow, Nat.reduceLT, ↓reduceIte, Nat.reduceAdd, Nat.reduceMul, Nat.reduceSub, Nat.reduceMod, Nat.reduceLeDiff, Nat.reduceEqDiff, Nat.reduceBEq, reduceCtorEq, Int.reduceLT, Int.reduceLE, Int.reduceGT, Int.reduceGE, Int.reduceEq, Int.reduceNe, Int.reduceBEq, Int.reduceBNe, Int.reduceAdd, Int.reduceSub, Int.reduceNeg, decide_true, decide_false, Int.reduceToNat, wl0, wl1, wl2, wl3, wl4, wl5, wl6, wl7, wl8, wl9, wl10]
    refine ⟨_, cAwake, ?_⟩
    simp only [go_sem, Nat.reduceGT, Nat.reducePow, Nat.reduceLT, ↓reduceIte, Nat.reduceAdd, Nat.reduceMul, Nat.reduceSub, Nat.reduceMod, Nat.reduceLeDiff, Nat.reduceEqDiff, Nat.reduceBEq, reduceCtorEq, Int.reduceLT, Int.reduceLE, Int.reduceGT, Int.reduceGE, Int.reduceEq, Int.reduceNe, Int.reduceBEq, Int.reduceBNe, Int.reduceAdd, Int.reduceSub, Int.reduceNeg, decide_true, decide_false, Int.reduceToNat]
  · refine awp_loopL ?_
    refine awpL_step (aw_ok _ ?_)
    simp only [go_sem, Nat.reduceGT, Nat.reducePow, Nat.reduceLT, ↓reduceIte, Nat.reduceAdd, Nat.reduceMul, Nat.reduceSub, Nat.reduceMod, Nat.reduceLeDiff, Nat.reduceEqDiff, Nat.reduceBEq, reduceCtorEq, Int.reduceLT, Int.reduceLE, Int.reduceGT, Int.reduceGE, Int.reduceEq, Int.reduceNe, Int.reduceBEq, Int.reduceBNe, Int.reduceAdd, Int.reduceSub, Int.reduceNeg, decide_true, decide_false, Int.reduceToNat, wl0, wl1, wl2, wl3, wl4, wl5, wl6, wl7, wl8, wl9, wl10]
    refine ⟨_, cSrc 0 (by decide) (by decide), ?_⟩
    simp only [go_sem, Nat.reduceGT, Nat.reducePow, Nat.reduceLT, ↓reduceIte, Nat.reduceAdd, Nat.reduceMul, Nat.reduceSub, Nat.reduceMod, Nat.reduceLeDiff, Nat.reduceEqDiff, Nat.reduceBEq, reduceCtorEq, Int.reduceLT, Int.reduceLE, Int.reduceGT, Int.reduceGE, Int.reduceEq, Int.reduceNe, Int.reduceBEq, Int.reduceBNe, Int.reduceAdd, Int.reduceSub, Int.reduceNeg, decide_true, decide_false, Int.reduceToNat, wl0, wl1, wl2, wl3, wl4, wl5, wl6, wl7, wl8, wl9, wl10]
    refine ⟨_, cSrc 1 (by decide) (by decide), ?_⟩
    simp only [go_sem, Nat.reduceGT, Nat.reducePow, Nat.reduceLT, ↓reduceIte, Nat.reduceAdd, Nat.reduceMul, Nat.reduceSub, Nat.reduceMod, Nat.reduceLeDiff, Nat.reduceEqDiff, Nat.reduceBEq, reduceCtorEq, Int.reduceLT, Int.reduceLE, Int.reduceGT, Int.reduceGE, Int.reduceEq, Int.reduceNe, Int.reduceBEq, Int.reduceBNe, Int.reduceAdd, Int.reduceSub, Int.reduceNeg, decide_true, decide_false, Int.reduceToNat, wl0, wl1, wl2, wl3, wl4, wl5, wl6, wl7, wl8, wl9, wl10]
    first
      | refine ⟨by unfold maxLen; omega, ?_⟩
      | refine ⟨⟨by unfold maxLen; omega, by omega⟩, ?_⟩
      | skip
    refine awpL_step (aw_ok _ ?_)
    simp only [go_sem, Nat.reduceGT, Nat.reducePow, Nat.reduceLT, ↓reduceIte, Nat.reduceAdd, Nat.reduceMul, Nat.reduceSub, Nat.reduceMod, Nat.reduceLeDiff, Nat.reduceEqDiff, Nat.reduceBEq, reduceCtorEq, Int.reduceLT, Int.reduceLE, Int.reduceGT, Int.reduceGE, Int.reduceEq, Int.reduceNe, Int.reduceBEq, Int.reduceBNe, Int.reduceAdd, Int.reduceSub, Int.reduceNeg, decide_true, decide_false, Int.reduceToNat, wl0, wl1, wl2, wl3, wl4, wl5, wl6, wl7, wl8, wl9, wl10]
    refine ⟨_, cSrc 1 (by decide) (by decide), ?_⟩
    simp only [go_sem, Nat.reduceGT, Nat.reducePow, Nat.reduceLT, ↓reduceIte, Nat.reduceAdd, Nat.reduceMul, Nat.reduceSub, Nat.reduceMod, Nat.reduceLeDiff, Nat.reduceEqDiff, Nat.reduceBEq, reduceCtorEq, Int.reduceLT, Int.reduceLE, Int.reduceGT, Int.reduceGE, Int.reduceEq, Int.reduceNe, Int.reduceBEq, Int.reduceBNe, Int.reduceAdd, Int.reduceSub, Int.reduceNeg, decide_true, decide_false, Int.reduceToNat, wl0, wl1, wl2, wl3, wl4, wl5, wl6, wl7, wl8, wl9, wl10]
    refine ⟨_, cSrc 2 (by decide) (by decide), ?_⟩
    simp only [go_sem, Nat.reduceGT, Nat.reducePow, Nat.reduceLT, ↓reduceIte, Nat.reduceAdd, Nat.reduceMul, Nat.reduceSub, Nat.reduceMod, Nat.reduceLeDiff, Nat.reduceEqDiff, Nat.reduceBEq, reduceCtorEq, Int.reduceLT, Int.reduceLE, Int.reduceGT, Int.reduceGE, Int.reduceEq, Int.reduceNe, Int.reduceBEq, Int.reduceBNe, Int.reduceAdd, Int.reduceSub, Int.reduceNeg, decide_true, decide_false, Int.reduceToNat, wl0, wl1, wl2, wl3, wl4, wl5, wl6, wl7, wl8, wl9, wl10]
    first
      | refine ⟨by unfold maxLen; omega, ?_⟩
      | refine ⟨⟨by unfold maxLen; omega, by omega⟩, ?_⟩
      | skip
    refine awpL_step (aw_ok _ ?_)
    simp only [go_sem, Nat.reduceGT, Nat.reducePow, Nat.reduceLT, ↓reduceIte, Nat.reduceAdd, Nat.reduceMul, Nat.reduceSub, Nat.reduceMod, Nat.reduceLeDiff, Nat.reduceEqDiff, Nat.reduceBEq, reduceCtorEq, Int.reduceLT, Int.reduceLE, Int.reduceGT, Int.reduceGE, Int.reduceEq, Int.reduceNe, Int.reduceBEq, Int.reduceBNe, Int.reduceAdd, Int.reduceSub, Int.reduceNeg, decide_true, decide_false, Int.reduceToNat, wl0, wl1, wl2, wl3, wl4, wl5, wl6, wl7, wl8, wl9, wl10]
    refine ⟨_, cSrc 2 (by decide) (by decide), ?_⟩
    simp only [go_sem, Nat.reduceGT, Nat.reducePow, Nat.reduceLT, ↓reduceIte, Nat.reduceAdd, Nat.reduceMul, Nat.reduceSub, Nat.reduceMod, Nat.reduceLeDiff, Nat.reduceEqDiff, Nat.reduceBEq, reduceCtorEq, Int.reduceLT, Int.reduceLE, Int.reduceGT, Int.reduceGE, Int.reduceEq, Int.reduceNe, Int.reduceBEq, Int.reduceBNe, Int.reduceAdd, Int.reduceSub, Int.reduceNeg, decide_true, decide_false, Int.reduceToNat, wl0, wl1, wl2, wl3, wl4, wl5, wl6, wl7, wl8, wl9, wl10]
    refine ⟨_, cSrc 3 (by decide) (by decide), ?_⟩
    simp only [go_sem, Nat.reduceGT, Nat.reducePow, Nat.reduceLT, ↓reduceIte, Nat.reduceAdd, Nat.reduceMul, Nat.reduceSub, Nat.reduceMod, Nat.reduceLeDiff, Nat.reduceEqDiff, Nat.reduceBEq, reduceCtorEq, Int.reduceLT, Int.reduceLE, Int.reduceGT, Int.reduceGE, Int.reduceEq, Int.reduceNe, Int.reduceBEq, Int.reduceBNe, Int.reduceAdd, Int.reduceSub, Int.reduceNeg, decide_true, decide_false, Int.reduceToNat, wl0, wl1, wl2, wl3, wl4, wl5, wl6, wl7, wl8, wl9, wl10]
    first
      | refine ⟨by unfold maxLen; omega, ?_⟩
      | refine ⟨⟨by unfold maxLen; omega, by omega⟩, ?_⟩
      | skip
    refine awpL_step (aw_ok _ ?_)
    simp only [go_sem, Nat.reduceGT, Nat.reducePow, Nat.reduceLT, ↓reduceIte, Nat.reduceAdd, Nat.reduceMul, Nat.reduceSub, Nat.reduceMod, Nat.reduceLeDiff, Nat.reduceEqDiff, Nat.reduceBEq, reduceCtorEq, Int.reduceLT, Int.reduceLE, Int.reduceGT, Int.reduceGE, Int.reduceEq, Int.reduceNe, Int.reduceBEq, Int.reduceBNe, Int.reduceAdd, Int.reduceSub, Int.reduceNeg, decide_true, decide_false, Int.reduceToNat, wl0, wl1, wl2, wl3, wl4, wl5, wl6, wl7, wl8, wl9, wl10]
    refine ⟨_, cSrc 3 (by decide) (by decide), ?_⟩
    simp only [go_sem, Nat.reduceGT, Nat.reducePow, Nat.reduceLT, ↓reduceIte, Nat.reduceAdd, Nat.reduceMul, Nat.reduceSub, Nat.reduceMod, Nat.reduceLeDiff, Nat.reduceEqDiff, Nat.reduceBEq, reduceCtorEq, Int.reduceLT, Int.reduceLE, Int.reduceGT, Int.reduceGE, Int.reduceEq, Int.reduceNe, Int.reduceBEq, Int.reduceBNe, Int.reduceAdd, Int.reduceSub, Int.reduceNeg, decide_true, decide_false, Int.reduceToNat, wl0, wl1, wl2, wl3, wl4, wl5, wl6, wl7, wl8, wl9, wl10]
    first
      | refine ⟨by unfold maxLen; omega, ?_⟩
      | refine ⟨⟨by unfold maxLen; omega, by omega⟩, ?_⟩
      | skip
    refine awpL_step (aw_ok _ ?_)
    simp only [go_sem, Nat.reduceGT, Nat.reducePow, Nat.reduceLT, ↓reduceIte, Nat.reduceAdd, Nat.reduceMul, Nat.reduceSub, Nat.reduceMod, Nat.reduceLeDiff, Nat.reduceEqDiff, Nat.reduceBEq, reduceCtorEq, Int.reduceLT, Int.reduceLE, Int.reduceGT, Int.reduceGE, Int.reduceEq, Int.reduceNe, Int.reduceBEq, Int.reduceBNe, Int.reduceAdd, Int.reduceSub, Int.reduceNeg, decide_true, decide_false, Int.reduceToNat, wl0, wl1, wl2, wl3, wl4, wl5, wl6, wl7, wl8, wl9, wl10]
    refine lcall_lend ?_
    simp only [go_sem, Nat.reduceGT, Nat.reducePow, Nat.reduceLT, ↓reduceIte, Nat.reduceAdd, Nat.reduceMul, Nat.reduceSub, Nat.reduceMod, Nat.reduceLeDiff, Nat.reduceEqDiff, Nat.reduceBEq, reduceCtorEq, Int.reduceLT, Int.reduceLE, Int.reduceGT, Int.reduceGE, Int.reduceEq, Int.reduceNe, Int.reduceBEq, Int.reduceBNe, Int.reduceAdd, Int.reduceSub, Int.reduceNeg, decide_true, decide_false, Int.reduceToNat, wl0, wl1, wl2, wl3, wl4, wl5, wl6, wl7, wl8, wl9, wl10]
    refine ⟨_, cpure_as (.cons (as_impAgg (ys := [.t (tmedia []), .t (tseqs (nProj 4).seqs)]) ⟨as_imp imp_nil, as_imp (imp_list (impR_cons (nRow1 0 1 _ _) (impR_cons (nRow1 1 2 _ _) (impR_cons (nRow1 2 3 _ _) (impR_cons (nRow0 3) impR_nil))))), trivial⟩) .nil) (cValid (nProj 4) (nProj_fit 4)), ?_⟩
    rw [show validP (nProj 4) = 0 from nOk 4 (by decide) (by decide)]
    simp only [go_sem, Nat.reduceGT, Nat.reducePow, Nat.reduceLT, ↓reduceIte, Nat.reduceAdd, Nat.reduceMul, Nat.reduceSub, Nat.reduceMod, Nat.reduceLeDiff, Nat.reduceEqDiff, Nat.reduceBEq, reduceCtorEq, Int.reduceLT, Int.reduceLE, Int.reduceGT, Int.reduceGE, Int.reduceEq, Int.reduceNe, Int.reduceBEq, Int.reduceBNe, Int.reduceAdd, Int.reduceSub, Int.reduceNeg, decide_true, decide_false, Int.reduceToNat, wl0, wl1, wl2, wl3, wl4, wl5, wl6, wl7, wl8, wl9, wl10]
    refine drawC_of 18 .done rfl (by kernel_rfl) (by kernel_rfl) (by decide) ?_
    simp only [go_sem, Nat.reduceGT, Nat.reducePow, Nat.reduceLT, ↓reduceIte, Nat.reduceAdd, Nat.reduceMul, Nat.reduceSub, Nat.reduceMod, Nat.reduceLeDiff, Nat.reduceEqDiff, Nat.reduceBEq, reduceCtorEq, Int.reduceLT, Int.reduceLE, Int.reduceGT, Int.reduceGE, Int.reduceEq, Int.reduceNe, Int.reduceBEq, Int.reduceBNe, Int.reduceAdd, Int.reduceSub, Int.reduceNeg, decide_true, decide_false, Int.reduceToNat, wl0, wl1, wl2, wl3, wl4, wl5, wl6, wl7, wl8, wl9, wl10]
    obtain ⟨j, hj, hje⟩ := nJ 4 4 rfl (by decide) (by decide) back
    rw [hje]
    refine ⟨_, cSrc j (by omega) (by omega), ?_⟩
    simp only [go_sem, Nat.reduceGT, Nat.reducePow, Nat.reduceLT, ↓reduceIte, Nat.reduceAdd, Nat.reduceMul, Nat.reduceSub, Nat.reduceMod, Nat.reduceLeDiff, Nat.reduceEqDiff, Nat.reduceBEq, reduceCtorEq, Int.reduceLT, Int.reduceLE, Int.reduceGT, Int.reduceGE, Int.reduceEq, Int.reduceNe, Int.reduceBEq, Int.reduceBNe, Int.reduceAdd, Int.reduceSub, Int.reduceNeg, decide_true, decide_false, Int.reduceToNat, wl0, wl1, wl2, wl3, wl4, wl5, wl6, wl7, wl8, wl9, wl10]
    refine ⟨by decide, by kernel_rfl, ?_⟩
    refine lcall_lend ?_
    simp only [go_sem, Nat.reduceGT, Nat.reducePow, Nat.reduceLT, ↓reduceIte, Nat.reduceAdd, Nat.reduceMul, Nat.reduceSub, Nat.reduceMod, Nat.reduceLeDiff, Nat.reduceEqDiff, Nat.reduceBEq, reduceCtorEq, Int.reduceLT, Int.reduceLE, Int.reduceGT, Int.reduceGE, Int.reduceEq, Int.reduceNe, Int.reduceBEq, Int.reduceBNe, Int.reduceAdd, Int.reduceSub, Int.reduceNeg, decide_true, decide_false, Int.reduceToNat, wl0, wl1, wl2, wl3, wl4, wl5, wl6, wl7, wl8, wl9, wl10, tRows, nthV, nth, Option.getD_some, List.getElem?_cons_zero, List.getElem?_cons_succ, List.map_cons, List.map_nil, List.set_cons_zero, List.set_cons_succ]
    refine ⟨_, cpure_as (.cons (as_impAgg (ys := [.t (tmedia []), .t (tseqs (nProj2 4 (j : Nat)).seqs)]) ⟨as_imp imp_nil, as_imp (imp_list (impR_cons (nRow1 0 1 _ _) (impR_cons (nRow1 1 2 _ _) (impR_cons (nRow1 2 3 _ _) (impR_cons (nRow1 3 j _ _) impR_nil))))), trivial⟩) .nil) (cValid (nProj2 4 (j : Nat)) (nProj2_fit 4 (j : Nat))), ?_⟩
    rw [nCyc 4 (by decide) j hj]
    simp only [go_sem, Nat.reduceGT, Nat.reducePow, Nat.reduceLT, ↓reduceIte, Nat.reduceAdd, Nat.reduceMul, Nat.reduceSub, Nat.reduceMod, Nat.reduceLeDiff, Nat.reduceEqDiff, Nat.reduceBEq, reduceCtorEq, Int.reduceLT, Int.reduceLE, Int.reduceGT, Int.reduceGE, Int.reduceEq, Int.reduceNe, Int.reduceBEq, Int.reduceBNe, Int.reduceAdd, Int.reduceSub, Int.reduceNeg, decide_true, decide_false, Int.reduceToNat, wl0, wl1, wl2, wl3, wl4, wl5, wl6, wl7, wl8, wl9, wl10]
    refine ⟨_, cAwake, ?_⟩
    simp only [go_sem, Nat.reduceGT, Nat.reducePow, Nat.reduceLT, ↓reduceIte, Nat.reduceAdd, Nat.reduceMul, Nat.reduceSub, Nat.reduceMod, Nat.reduceLeDiff, Nat.reduceEqDiff, Nat.reduceBEq, reduceCtorEq, Int.reduceLT, Int.reduceLE, Int.reduceGT, Int.reduceGE, Int.reduceEq, Int.reduceNe, Int.reduceBEq, Int.reduceBNe, Int.reduceAdd, Int.reduceSub, Int.reduceNeg, decide_true, decide_false, Int.reduceToNat]
  · refine awp_loopL ?_
    refine awpL_step (aw_ok _ ?_)
    simp only [go_sem, Nat.reduceGT, Nat.reducePow, Nat.reduceLT, ↓reduceIte, Nat.reduceAdd, Nat.reduceMul, Nat.reduceSub, Nat.reduceMod, Nat.reduceLeDiff, Nat.reduceEqDiff, Nat.reduceBEq, reduceCtorEq, Int.reduceLT, Int.reduceLE, Int.reduceGT, Int.reduceGE, Int.reduceEq, Int.reduceNe, Int.reduceBEq, Int.reduceBNe, Int.reduceAdd, Int.reduceSub, Int.reduceNeg, decide_true, decide_false, Int.reduceToNat, wl0, wl1, wl2, wl3, wl4, wl5, wl6, wl7, wl8, wl9, wl10]
    refine ⟨_, cSrc 0 (by decide) (by decide), ?_⟩
    simp only [go_sem, Nat.reduceGT, Nat.reducePow, Nat.reduceLT, ↓reduceIte, Nat.reduceAdd, Nat.reduceMul, Nat.reduceSub, Nat.reduceMod, Nat.reduceLeDiff, Nat.reduceEqDiff, Nat.reduceBEq, reduceCtorEq, Int.reduceLT, Int.reduceLE, Int.reduceGT, Int.reduceGE, Int.reduceEq, Int.reduceNe, Int.reduceBEq, Int.reduceBNe, Int.reduceAdd, Int.reduceSub, Int.reduceNeg, decide_true, decide_false, Int.reduceToNat, wl0, wl1, wl2, wl3, wl4, wl5, wl6, wl7, wl8, wl9, wl10]
    refine ⟨_, cSrc 1 (by decide) (by decide), ?_⟩
    simp only [go_sem, Nat.reduceGT, Nat.reducePow, Nat.reduceLT, ↓reduceIte, Nat.reduceAdd, Nat.reduceMul, Nat.reduceSub, Nat.reduceMod, Nat.reduceLeDiff, Nat.reduceEqDiff, Nat.reduceBEq, reduceCtorEq, Int.reduceLT, Int.reduceLE, Int.reduceGT, Int.reduceGE, Int.reduceEq, Int.reduceNe, Int.reduceBEq, Int.reduceBNe, Int.reduceAdd, Int.reduceSub, Int.reduceNeg, decide_true, decide_false, Int.reduceToNat, wl0, wl1, wl2, wl3, wl4, wl5, wl6, wl7, wl8, wl9, wl10]
    first
      | refine ⟨by unfold maxLen; omega, ?_⟩
      | refine ⟨⟨by unfold maxLen; omega, by omega⟩, ?_⟩
      | skip
    refine awpL_step (aw_ok _ ?_)
    simp only [go_sem, Nat.reduceGT, Nat.reducePow, Nat.reduceLT, ↓reduceIte, Nat.reduceAdd, Nat.reduceMul, Nat.reduceSub, Nat.reduceMod, Nat.reduceLeDiff, Nat.reduceEqDiff, Nat.reduceBEq, reduceCtorEq, Int.reduceLT, Int.reduceLE, Int.reduceGT, Int.reduceGE, Int.reduceEq, Int.reduceNe, Int.reduceBEq, Int.reduceBNe, Int.reduceAdd, Int.reduceSub, Int.reduceNeg, decide_true, decide_false, Int.reduceToNat, wl0, wl1, wl2, wl3, wl4, wl5, wl6, wl7, wl8, wl9, wl10]
    refine ⟨_, cSrc 1 (by decide) (by decide), ?_⟩
    simp only [go_sem, Nat.reduceGT, Nat.reducePow, Nat.reduceLT, ↓reduceIte, Nat.reduceAdd, Nat.reduceMul, Nat.reduceSub, Nat.reduceMod, Nat.reduceLeDiff, Nat.reduceEqDiff, Nat.reduceBEq, reduceCtorEq, Int.reduceLT, Int.reduceLE, Int.reduceGT, Int.reduceGE, Int.reduceEq, Int.reduceNe, Int.reduceBEq, Int.reduceBNe, Int.reduceAdd, Int.reduceSub, Int.reduceNeg, decide_true, decide_false, Int.reduceToNat, wl0, wl1, wl2, wl3, wl4, wl5, wl6, wl7, wl8, wl9, wl10]
    refine ⟨_, cSrc 2 (by decide) (by decide), ?_⟩
    simp only [go_sem, Nat.reduceGT, Nat.reducePow, Nat.reduceLT, ↓reduceIte, Nat.reduceAdd, Nat.reduceMul, Nat.reduceSub, Nat.reduceMod, Nat.reduceLeDiff, Nat.reduceEqDiff, Nat.reduceBEq, reduceCtorEq, Int.reduceLT, Int.reduceLE, Int.reduceGT, Int.reduceGE, Int.reduceEq, Int.reduceNe, Int.reduceBEq, Int.reduceBNe, Int.reduceAdd, Int.reduceSub, Int.reduceNeg, decide_true, decide_false, Int.reduceToNat, wl0, wl1, wl2, wl3, wl4, wl5, wl6, wl7, wl8, wl9, wl10]
    first
      | refine ⟨by unfold maxLen; omega, ?_⟩
      | refine ⟨⟨by unfold maxLen; omega, by omega⟩, ?_⟩
      | skip
    refine awpL_step (aw_ok _ ?_)
    simp only [go_sem, Nat.reduceGT, Nat.reducePow, Nat.reduceLT, ↓reduceIte, Nat.reduceAdd, Nat.reduceMul, Nat.reduceSub, Nat.reduceMod, Nat.reduceLeDiff, Nat.reduceEqDiff, Nat.reduceBEq, reduceCtorEq, Int.reduceLT, Int.reduceLE, Int.reduceGT, Int.reduceGE, Int.reduceEq, Int.reduceNe, Int.reduceBEq, Int.reduceBNe, Int.reduceAdd, Int.reduceSub, Int.reduceNeg, decide_true, decide_false, Int.reduceToNat, wl0, wl1, wl2, wl3, wl4, wl5, wl6, wl7, wl8, wl9, wl10]
    refine ⟨_, cSrc 2 (by decide) (by decide), ?_⟩
    simp only [go_sem, Nat.reduceGT, Nat.reducePow, Nat.reduceLT, ↓reduceIte, Nat.reduceAdd, Nat.reduceMul, Nat.reduceSub, Nat.reduceMod, Nat.reduceLeDiff, Nat.reduceEqDiff, Nat.reduceBEq, reduceCtorEq, Int.reduceLT, Int.reduceLE, Int.reduceGT, Int.reduceGE, Int.reduceEq, Int.reduceNe, Int.reduceBEq, Int.reduceBNe, Int.reduceAdd, Int.reduceSub, Int.reduceNeg, decide_true, decide_false, Int.reduceToNat, wl0, wl1, wl2, wl3, wl4, wl5, wl6, wl7, wl8, wl9, wl10]
    refine ⟨_, cSrc 3 (by decide) (by decide), ?_⟩
    simp only [go_sem, Nat.reduceGT, Nat.reducePow, Nat.reduceLT, ↓reduceIte, Nat.reduceAdd, Nat.reduceMul, Nat.reduceSub, Nat.reduceMod, Nat.reduceLeDiff, Nat.reduceEqDiff, Nat.reduceBEq, reduceCtorEq, Int.reduceLT, Int.reduceLE, Int.reduceGT, Int.reduceGE, Int.reduceEq, Int.reduceNe, Int.reduceBEq, Int.reduceBNe, Int.reduceAdd, Int.reduceSub, Int.reduceNeg, decide_true, decide_false, Int.reduceToNat, wl0, wl1, wl2, wl3, wl4, wl5, wl6, wl7, wl8, wl9, wl10]
    first
      | refine ⟨by unfold maxLen; omega, ?_⟩
      | refine ⟨⟨by unfold maxLen; omega, by omega⟩, ?_⟩
      | skip
    refine awpL_step (aw_ok _ ?_)
    simp only [go_sem, Nat.reduceGT, Nat.reducePow, Nat.reduceLT, ↓reduceIte, Nat.reduceAdd, Nat.reduceMul, Nat.reduceSub, Nat.reduceMod, Nat.reduceLeDiff, Nat.reduceEqDiff, Nat.reduceBEq, reduceCtorEq, Int.reduceLT, Int.reduceLE, Int.reduceGT, Int.reduceGE, Int.reduceEq, Int.reduceNe, Int.reduceBEq, Int.reduceBNe, Int.reduceAdd, Int.reduceSub, Int.reduceNeg, decide_true, decide_false, Int.reduceToNat, wl0, wl1, wl2, wl3, wl4, wl5, wl6, wl7, wl8, wl9, wl10]
    refine ⟨_, cSrc 3 (by decide) (by decide), ?_⟩
    simp only [go_sem, Nat.reduceGT, Nat.reducePow, Nat.reduceLT, ↓reduceIte, Nat.reduceAdd, Nat.reduceMul, Nat.reduceSub, Nat.reduceMod, Nat.reduceLeDiff, Nat.reduceEqDiff, Nat.reduceBEq, reduceCtorEq, Int.reduceLT, Int.reduceLE, Int.reduceGT, Int.reduceGE, Int.reduceEq, Int.reduceNe, Int.reduceBEq, Int.reduceBNe, Int.reduceAdd, Int.reduceSub, Int.reduceNeg, decide_true, decide_false, Int.reduceToNat, wl0, wl1, wl2, wl3, wl4, wl5, wl6, wl7, wl8, wl9, wl10]
    refine ⟨_, cSrc 4 (by decide) (by decide), ?_⟩
    simp only [go_sem, Nat.reduceGT, Nat.reducePow, Nat.reduceLT, ↓reduceIte, Nat.reduceAdd, Nat.reduceMul, Nat.reduceSub, Nat.reduceMod, Nat.reduceLeDiff, Nat.reduceEqDiff, Nat.reduceBEq, reduceCtorEq, Int.reduceLT, Int.reduceLE, Int.reduceGT, Int.reduceGE, Int.reduceEq, Int.reduceNe, Int.reduceBEq, Int.reduceBNe, Int.reduceAdd, Int.reduceSub, Int.reduceNeg, decide_true, decide_false, Int.reduceToNat, wl0, wl1, wl2, wl3, wl4, wl5, wl6, wl7, wl8, wl9, wl10]
    first
      | refine ⟨by unfold maxLen; omega, ?_⟩
      | refine ⟨⟨by unfold maxLen; omega, by omega⟩, ?_⟩
      | skip
    refine awpL_step (aw_ok _ ?_)
    simp only [go_sem, Nat.reduceGT, Nat.reducePow, Nat.reduceLT, ↓reduceIte, Nat.reduceAdd, Nat.reduceMul, Nat.reduceSub, Nat.reduceMod, Nat.reduceLeDiff, Nat.reduceEqDiff, Nat.reduceBEq, reduceCtorEq, Int.reduceLT, Int.reduceLE, Int.reduceGT, Int.reduceGE, Int.reduceEq, Int.reduceNe, Int.reduceBEq, Int.reduceBNe, Int.reduceAdd, Int.reduceSub, Int.reduceNeg, decide_true, decide_false, Int.reduceToNat, wl0, wl1, wl2, wl3, wl4, wl5, wl6, wl7, wl8, wl9, wl10]
    refine ⟨_, cSrc 4 (by decide) (by decide), ?_⟩
    simp only [go_sem, Nat.reduceGT, Nat.reducePow, Nat.reduceLT, ↓reduceIte, Nat.reduceAdd, Nat.reduceMul, Nat.reduceSub, Nat.reduceMod, Nat.reduceLeDiff, Nat.reduceEqDiff, Nat.reduceBEq, reduceCtorEq, Int.reduceLT, Int.reduceLE, Int.reduceGT, Int.reduceGE, Int.reduceEq, Int.reduceNe, Int.reduceBEq, Int.reduceBNe, Int.reduceAdd, Int.reduceSub, Int.reduceNeg, decide_true, decide_false, Int.reduceToNat, wl0, wl1, wl2, wl3, wl4, wl5, wl6, wl7, wl8, wl9, wl10]
    first
      | refine ⟨by unfold maxLen; omega, ?_⟩
      | refine ⟨⟨by unfold maxLen; omega, by omega⟩, ?_⟩
      | skip
    refine awpL_step (aw_ok _ ?_)
    simp only [go_sem, Nat.reduceGT, Nat.reducePow, Nat.reduceLT, ↓reduceIte, Nat.reduceAdd, Nat.reduceMul, Nat.reduceSub, Nat.reduceMod, Nat.reduceLeDiff, Nat.reduceEqDiff, Nat.reduceBEq, reduceCtorEq, Int.reduceLT, Int.reduceLE, Int.reduceGT, Int.reduceGE, Int.reduceEq, Int.reduceNe, Int.reduceBEq, Int.reduceBNe, Int.reduceAdd, Int.reduceSub, Int.reduceNeg, decide_true, decide_false, Int.reduceToNat, wl0, wl1, wl2, wl3, wl4, wl5, wl6, wl7, wl8, wl9, wl10]
    refine lcall_lend ?_
    simp only [go_sem, Nat.reduceGT, Nat.reducePow, Nat.reduceLT, ↓reduceIte, Nat.reduceAdd, Nat.reduceMul, Nat.reduceSub, Nat.reduceMod, Nat.reduceLeDiff, Nat.reduceEqDiff, Nat.reduceBEq, reduceCtorEq, Int.reduceLT, Int.reduceLE, Int.reduceGT, Int.reduceGE, Int.reduceEq, Int.reduceNe, Int.reduceBEq, Int.reduceBNe, Int.reduceAdd, Int.reduceSub, Int.reduceNeg, decide_true, decide_false, Int.reduceToNat, wl0, wl1, wl2, wl3, wl4, wl5, wl6, wl7, wl8, wl9, wl10]
    refine ⟨_, cpure_as (.cons (as_impAgg (ys := [.t (tmedia []), .t (tseqs (nProj 5).seqs)]) ⟨as_imp imp_nil, as_imp (imp_list (impR_cons (nRow1 0 1 _ _) (impR_cons (nRow1 1 2 _ _) (impR_cons (nRow1 2 3 _ _) (impR_cons (nRow1 3 4 _ _) (impR_cons (nRow0 4) impR_nil)))))), trivial⟩) .nil) (cValid (nProj 5) (nProj_fit 5)), ?_⟩
    rw [show validP (nProj 5) = 0 from nOk 5 (by decide) (by decide)]
    simp only [go_sem, Nat.reduceGT, Nat.reducePow, Nat.reduceLT, ↓reduceIte, Nat.reduceAdd, Nat.reduceMul, Nat.reduceSub, Nat.reduceMod, Nat.reduceLeDiff, Nat.reduceEqDiff, Nat.reduceBEq, reduceCtorEq, Int.reduceLT, Int.reduceLE, Int.reduceGT, Int.reduceGE, Int.reduceEq, Int.reduceNe, Int.reduceBEq, Int.reduceBNe, Int.reduceAdd, Int.reduceSub, Int.reduceNeg, decide_true, decide_false, Int.reduceToNat, wl0, wl1, wl2, wl3, wl4, wl5, wl6, wl7, wl8, wl9, wl10]
    refine drawC_of 18 .done rfl (by kernel_rfl) (by kernel_rfl) (by decide) ?_
    simp only [go_sem, Nat.reduceGT, Nat.reducePow, Nat.reduceLT, ↓reduceIte, Nat.reduceAdd, Nat.reduceMul, Nat.reduceSub, Nat.reduceMod, Nat.reduceLeDiff, Nat.reduceEqDiff, Nat.reduceBEq, reduceCtorEq, Int.reduceLT, Int.reduceLE, Int.reduceGT, Int.reduceGE, Int.reduceEq, Int.reduceNe, Int.reduceBEq, Int.reduceBNe, Int.reduceAdd, Int.reduceSub, Int.reduceNeg, decide_true, decide_false, Int.reduceToNat, wl0, wl1, wl2, wl3, wl4, wl5, wl6, wl7, wl8, wl9, wl10]
    obtain ⟨j, hj, hje⟩ := nJ 5 5 rfl (by decide) (by decide) back
    rw [hje]
    refine ⟨_, cSrc j (by omega) (by omega), ?_⟩
    simp only [go_sem, Nat.reduceGT, Nat.reducePow, Nat.reduceLT, ↓reduceIte, Nat.reduceAdd, Nat.reduceMul, Nat.reduceSub, Nat.reduceMod, Nat.reduceLeDiff, Nat.reduceEqDiff, Nat.reduceBEq, reduceCtorEq, Int.reduceLT, Int.reduceLE, Int.reduceGT, Int.reduceGE, Int.reduceEq, Int.reduceNe, Int.reduceBEq, Int.reduceBNe, Int.reduceAdd, Int.reduceSub, Int.reduceNeg, decide_true, decide_false, Int.reduceToNat, wl0, wl1, wl2, wl3, wl4, wl5, wl6, wl7, wl8, wl9, wl10]
    refine ⟨by decide, by kernel_rfl, ?_⟩
    refine lcall_lend ?_
    simp only [go_sem, Nat.reduceGT, Nat.reducePow, Nat.reduceLT, ↓reduceIte, Nat.reduceAdd, Nat.reduceMul, Nat.reduceSub, Nat.reduceMod, Nat.reduceLeDiff, Nat.reduceEqDiff, Nat.reduceBEq, reduceCtorEq, Int.reduceLT, Int.reduceLE, Int.reduceGT, Int.reduceGE, Int.reduceEq, Int.reduceNe, Int.reduceBEq, Int.reduceBNe, Int.reduceAdd, Int.reduceSub, Int.reduceNeg, decide_true, decide_false, Int.reduceToNat, wl0, wl1, wl2, wl3, wl4, wl5, wl6, wl7, wl8, wl9, wl10, tRows, nthV, nth, Option.getD_some, List.getElem?_cons_zero, List.getElem?_cons_succ, List.map_cons, List.map_nil, List.set_cons_zero, List.set_cons_succ]
    refine ⟨_, cpure_as (.cons (as_impAgg (ys := [.t (tmedia []), .t (tseqs (nProj2 5 (j : Nat)).seqs)]) ⟨as_imp imp_nil, as_imp (imp_list (impR_cons (nRow1 0 1 _ _) (impR_cons (nRow1 1 2 _ _) (impR_cons (nRow1 2 3 _ _) (impR_cons (nRow1 3 4 _ _) (impR_cons (nRow1 4 j _ _) impR_nil)))))), trivial⟩) .nil) (cValid (nProj2 5 (j : Nat)) (nProj2_fit 5 (j : Nat))), ?_⟩
    rw [nCyc 5 (by decide) j hj]
    simp only [go_sem, Nat.reduceGT, Nat.reducePow, Nat.reduceLT, ↓reduceIte, Nat.reduceAdd, Nat.reduceMul, Nat.reduceSub, Nat.reduceMod, Nat.reduceLeDiff, Nat.reduceEqDiff, Nat.reduceBEq, reduceCtorEq, Int.reduceLT, Int.reduceLE, Int.reduceGT, Int.reduceGE, Int.reduceEq, Int.reduceNe, Int.reduceBEq, Int.reduceBNe, Int.reduceAdd, Int.reduceSub, Int.reduceNeg, decide_true, decide_false, Int.reduceToNat, wl0, wl1, wl2, wl3, wl4, wl5, wl6, wl7, wl8, wl9, wl10]
    refine ⟨_, cAwake, ?_⟩
    simp only [go_sem, Nat.reduceGT, Nat.reducePow, Nat.reduceLT, ↓reduceIte, Nat.reduceAdd, Nat.reduceMul, Nat.reduceSub, Nat.reduceMod, Nat.reduceLeDiff, Nat.reduceEqDiff, Nat.reduceBEq, reduceCtorEq, Int.reduceLT, Int.reduceLE, Int.reduceGT, Int.reduceGE, Int.reduceEq, Int.reduceNe, Int.reduceBEq, Int.reduceBNe, Int.reduceAdd, Int.reduceSub, Int.reduceNeg, decide_true, decide_false, Int.reduceToNat]
  · refine awp_loopL ?_
    refine awpL_step (aw_ok _ ?_)
    simp only [go_sem, Nat.reduceGT, Nat.reducePow, Nat.reduceLT, ↓reduceIte, Nat.reduceAdd, Nat.reduceMul, Nat.reduceSub, Nat.reduceMod, Nat.reduceLeDiff, Nat.reduceEqDiff, Nat.reduceBEq, reduceCtorEq, Int.reduceLT, Int.reduceLE, Int.reduceGT, Int.reduceGE, Int.reduceEq, Int.reduceNe, Int.reduceBEq, Int.reduceBNe, Int.reduceAdd, Int.reduceSub, Int.reduceNeg, decide_true, decide_false, Int.reduceToNat, wl0, wl1, wl2, wl3, wl4, wl5, wl6, wl7, wl8, wl9, wl10]
    refine ⟨_, cSrc 0 (by decide) (by decide), ?_⟩
    simp only [go_sem, Nat.reduceGT, Nat.reducePow, Nat.reduceLT, ↓reduceIte, Nat.reduceAdd, Nat.reduceMul, Nat.reduceSub, Nat.reduceMod, Nat.reduceLeDiff, Nat.reduceEqDiff, Nat.reduceBEq, reduceCtorEq, Int.reduceLT, Int.reduceLE, Int.reduceGT, Int.reduceGE, Int.reduceEq, Int.reduceNe, Int.reduceBEq, Int.reduceBNe, Int.reduceAdd, Int.reduceSub, Int.reduceNeg, decide_true, decide_false, Int.reduceToNat, wl0, wl1, wl2, wl3, wl4, wl5, wl6, wl7, wl8, wl9, wl10]
    refine ⟨_, cSrc 1 (by decide) (by decide), ?_⟩
    simp only [go_sem, Nat.reduceGT, Nat.reducePow, Nat.reduceLT, ↓reduceIte, Nat.reduceAdd, Nat.reduceMul, Nat.reduceSub, Nat.reduceMod, Nat.reduceLeDiff, Nat.reduceEqDiff, Nat.reduceBEq, reduceCtorEq, Int.reduceLT, Int.reduceLE, Int.reduceGT, Int.reduceGE, Int.reduceEq, Int.reduceNe, Int.reduceBEq, Int.reduceBNe, Int.reduceAdd, Int.reduceSub, Int.reduceNeg, decide_true, decide_false, Int.reduceToNat, wl0, wl1, wl2, wl3, wl4, wl5, wl6, wl7, wl8, wl9, wl10]
    first
      | refine ⟨by unfold maxLen; omega, ?_⟩
      | refine ⟨⟨by unfold maxLen; omega, by omega⟩, ?_⟩
      | skip
    refine awpL_step (aw_ok _ ?_)
    simp only [go_sem, Nat.reduceGT, Nat.reducePow, Nat.reduceLT, ↓reduceIte, Nat.reduceAdd, Nat.reduceMul, Nat.reduceSub, Nat.reduceMod, Nat.reduceLeDiff, Nat.reduceEqDiff, Nat.reduceBEq, reduceCtorEq, Int.reduceLT, Int.reduceLE, Int.reduceGT, Int.reduceGE, Int.reduceEq, Int.reduceNe, Int.reduceBEq, Int.reduceBNe, Int.reduceAdd, Int.reduceSub, Int.reduceNeg, decide_true, decide_false, Int.reduceToNat, wl0, wl1, wl2, wl3, wl4, wl5, wl6, wl7, wl8, wl9, wl10]
    refine ⟨_, cSrc 1 (by decide) (by decide), ?_⟩
    simp only [go_sem, Nat.reduceGT, Nat.reducePow, Nat.reduceLT, ↓reduceIte, Nat.reduceAdd, Nat.reduceMul, Nat.reduceSub, Nat.reduceMod, Nat.reduceLeDiff, Nat.reduceEqDiff, Nat.reduceBEq, reduceCtorEq, Int.reduceLT, Int.reduceLE, Int.reduceGT, Int.reduceGE, Int.reduceEq, Int.reduceNe, Int.reduceBEq, Int.reduceBNe, Int.reduceAdd, Int.reduceSub, Int.reduceNeg, decide_true, decide_false, Int.reduceToNat, wl0, wl1, wl2, wl3, wl4, wl5, wl6, wl7, wl8, wl9, wl10]
    refine ⟨_, cSrc 2 (by decide) (by decide), ?_⟩
    simp only [go_sem, Nat.reduceGT, Nat.reducePow, Nat.reduceLT, ↓reduceIte, Nat.reduceAdd, Nat.reduceMul, Nat.reduceSub, Nat.reduceMod, Nat.reduceLeDiff, Nat.reduceEqDiff, Nat.reduceBEq, reduceCtorEq, Int.reduceLT, Int.reduceLE, Int.reduceGT, Int.reduceGE, Int.reduceEq, Int.reduceNe, Int.reduceBEq, Int.reduceBNe, Int.reduceAdd, Int.reduceSub, Int.reduceNeg, decide_true, decide_false, Int.reduceToNat, wl0, wl1, wl2, wl3, wl4, wl5, wl6, wl7, wl8, wl9, wl10]
    first
      | refine ⟨by unfold maxLen; omega, ?_⟩
      | refine ⟨⟨by unfold maxLen; omega, by omega⟩, ?_⟩
      | skip
    refine awpL_step (aw_ok _ ?_)
    simp only [go_sem, Nat.reduceGT, Nat.reducePow, Nat.reduceLT, ↓reduceIte, Nat.reduceAdd, Nat.reduceMul, Nat.reduceSub, Nat.reduceMod, Nat.reduceLeDiff, Nat.reduceEqDiff, Nat.reduceBEq, reduceCtorEq, Int.reduceLT, Int.reduceLE, Int.reduceGT, Int.reduceGE, Int.reduceEq, Int.reduceNe, Int.reduceBEq, Int.reduceBNe, Int.reduceAdd, Int.reduceSub, Int.reduceNeg, decide_true, decide_false, Int.reduceToNat, wl0, wl1, wl2, wl3, wl4, wl5, wl6, wl7, wl8, wl9, wl10]
    refine ⟨_, cSrc 2 (by decide) (by decide), ?_⟩
    simp only [go_sem, Nat.reduceGT, Nat.reducePow, Nat.reduceLT, ↓reduceIte, Nat.reduceAdd, Nat.reduceMul, Nat.reduceSub, Nat.reduceMod, Nat.reduceLeDiff, Nat.reduceEqDiff, Nat.reduceBEq, reduceCtorEq, Int.reduceLT, Int.reduceLE, Int.reduceGT, Int.reduceGE, Int.reduceEq, Int.reduceNe, Int.reduceBEq, Int.reduceBNe, Int.reduceAdd, Int.reduceSub, Int.reduceNeg, decide_true, decide_false, Int.reduceToNat, wl0, wl1, wl2, wl3, wl4, wl5, wl6, wl7, wl8, wl9, wl10]
    refine ⟨_, cSrc 3 (by decide) (by decide), ?_⟩
    simp only [go_sem, Nat.reduceGT, Nat.reducePow, Nat.reduceLT, ↓reduceIte, Nat.reduceAdd, Nat.reduceMul, Nat.reduceSub, Nat.reduceMod, Nat.reduceLeDiff, Nat.reduceEqDiff, Nat.reduceBEq, reduceCtorEq, Int.reduceLT, Int.reduceLE, Int.reduceGT, Int.reduceGE, Int.reduceEq, Int.reduceNe, Int.reduceBEq, Int.reduceBNe, Int.reduceAdd, Int.reduceSub, Int.reduceNeg, decide_true, decide_false, Int.reduceToNat, wl0, wl1, wl2, wl3, wl4, wl5, wl6, wl7, wl8, wl9, wl10]
    first
      | refine ⟨by unfold maxLen; omega, ?_⟩
      | refine ⟨⟨by unfold maxLen; omega, by omega⟩, ?_⟩
      | skip
    refine awpL_step (aw_ok _ ?_)
    simp only [go_sem, Nat.reduceGT, Nat.reducePow, Nat.reduceLT, ↓reduceIte, Nat.reduceAdd, Nat.reduceMul, Nat.reduceSub, Nat.reduceMod, Nat.reduceLeDiff, Nat.reduceEqDiff, Nat.reduceBEq, reduceCtorEq, Int.reduceLT, Int.reduceLE, Int.reduceGT, Int.reduceGE, Int.reduceEq, Int.reduceNe, Int.reduceBEq, Int.reduceBNe, Int.reduceAdd, Int.reduceSub, Int.reduceNeg, decide_true, decide_false, Int.reduceToNat, wl0, wl1, wl2, wl3, wl4, wl5, wl6, wl7, wl8, wl9, wl10]
    refine ⟨_, cSrc 3 (by decide) (by decide), ?_⟩
    simp only [go_sem, Nat.reduceGT, Nat.reducePow, Nat.reduceLT, ↓reduceIte, Nat.reduceAdd, Nat.reduceMul, Nat.reduceSub, Nat.reduceMod, Nat.reduceLeDiff, Nat.reduceEqDiff, Nat.reduceBEq, reduceCtorEq, Int.reduceLT, Int.reduceLE, Int.reduceGT, Int.reduceGE, Int.reduceEq, Int.reduceNe, Int.reduceBEq, Int.reduceBNe, Int.reduceAdd, Int.reduceSub, Int.reduceNeg, decide_true, decide_false, Int.reduceToNat, wl0, wl1, wl2, wl3, wl4, wl5, wl6, wl7, wl8, wl9, wl10]
    refine ⟨_, cSrc 4 (by decide) (by decide), ?_⟩
    simp only [go_sem, Nat.reduceGT, Nat.reducePow, Nat.reduceLT, ↓reduceIte, Nat.reduceAdd, Nat.reduceMul, Nat.reduceSub, Nat.reduceMod, Nat.reduceLeDiff, Nat.reduceEqDiff, Nat.reduceBEq, reduceCtorEq, Int.reduceLT, Int.reduceLE, Int.reduceGT, Int.reduceGE, Int.reduceEq, Int.reduceNe, Int.reduceBEq, Int.reduceBNe, Int.reduceAdd, Int.reduceSub, Int.reduceNeg, decide_true, decide_false, Int.reduceToNat, wl0, wl1, wl2, wl3, wl4, wl5, wl6, wl7, wl8, wl9, wl10]
    first
      | refine ⟨by unfold maxLen; omega, ?_⟩
      | refine ⟨⟨by unfold maxLen; omega, by omega⟩, ?_⟩
      | skip
    refine awpL_step (aw_ok _ ?_)
    simp only [go_sem, Nat.reduceGT, Nat.reducePow, Nat.reduceLT, ↓reduceIte, Nat.reduceAdd, Nat.reduceMul, Nat.reduceSub, Nat.reduceMod, Nat.reduceLeDiff, Nat.reduceEqDiff, Nat.reduceBEq, reduceCtorEq, Int.reduceLT, Int.reduceLE, Int.reduceGT, Int.reduceGE, Int.reduceEq, Int.reduceNe, Int.reduceBEq, Int.reduceBNe, Int.reduceAdd, Int.reduceSub, Int.reduceNeg, decide_true, decide_false, Int.reduceToNat, wl0, wl1, wl2, wl3, wl4, wl5, wl6, wl7, wl8, wl9, wl10]
    refine ⟨_, cSrc 4 (by decide) (by decide), ?_⟩
    simp only [go_sem, Nat.reduceGT, Nat.reducePow, Nat.reduceLT, ↓reduceIte, Nat.reduceAdd, Nat.reduceMul, Nat.reduceSub, Nat.reduceMod, Nat.reduceLeDiff, Nat.reduceEqDiff, Nat.reduceBEq, reduceCtorEq, Int.reduceLT, Int.reduceLE, Int.reduceGT, Int.reduceGE, Int.reduceEq, Int.reduceNe, Int.reduceBEq, Int.reduceBNe, Int.reduceAdd, Int.reduceSub, Int.reduceNeg, decide_true, decide_false, Int.reduceToNat, wl0, wl1, wl2, wl3, wl4, wl5, wl6, wl7, wl8, wl9, wl10]
    refine ⟨_, cSrc 5 (by decide) (by decide), ?_⟩
    simp only [go_sem, Nat.reduceGT, Nat.reducePow, Nat.reduceLT, ↓reduceIte, Nat.reduceAdd, Nat.reduceMul, Nat.reduceSub, Nat.reduceMod, Nat.reduceLeDiff, Nat.reduceEqDiff, Nat.reduceBEq, reduceCtorEq, Int.reduceLT, Int.reduceLE, Int.reduceGT, Int.reduceGE, Int.reduceEq, Int.reduceNe, Int.reduceBEq, Int.reduceBNe, Int.reduceAdd, Int.reduceSub, Int.reduceNeg, decide_true, decide_false, Int.reduceToNat, wl0, wl1, wl2, wl3, wl4, wl5, wl6, wl7, wl8, wl9, wl10]
    first
      | refine ⟨by unfold maxLen; omega, ?_⟩
      | refine ⟨⟨by unfold maxLen; omega, by omega⟩, ?_⟩
      | skip
    refine awpL_step (aw_ok _ ?_)
    simp only [go_sem, Nat.reduceGT, Nat.reducePow, Nat.reduceLT, ↓reduceIte, Nat.reduceAdd, Nat.reduceMul, Nat.reduceSub, Nat.reduceMod, Nat.reduceLeDiff, Nat.reduceEqDiff, Nat.reduceBEq, reduceCtorEq, Int.reduceLT, Int.reduceLE, Int.reduceGT, Int.reduceGE, Int.reduceEq, Int.reduceNe, Int.reduceBEq, Int.reduceBNe, Int.reduceAdd, Int.reduceSub, Int.reduceNeg, decide_true, decide_false, Int.reduceToNat, wl0, wl1, wl2, wl3, wl4, wl5, wl6, wl7, wl8, wl9, wl10]
    refine ⟨_, cSrc 5 (by decide) (by decide), ?_⟩
    simp only [go_sem, Nat.reduceGT, Nat.reducePow, Nat.reduceLT, ↓reduceIte, Nat.reduceAdd, Nat.reduceMul, Nat.reduceSub, Nat.reduceMod, Nat.reduceLeDiff, Nat.reduceEqDiff, Nat.reduceBEq, reduceCtorEq, Int.reduceLT, Int.reduceLE, Int.reduceGT, Int.reduceGE, Int.reduceEq, Int.reduceNe, Int.reduceBEq, Int.reduceBNe, Int.reduceAdd, Int.reduceSub, Int.reduceNeg, decide_true, decide_false, Int.reduceToNat, wl0, wl1, wl2, wl3, wl4, wl5, wl6, wl7, wl8, wl9, wl10]
    first
      | refine ⟨by unfold maxLen; omega, ?_⟩
      | refine ⟨⟨by unfold maxLen; omega, by omega⟩, ?_⟩
      | skip
    refine awpL_step (aw_ok _ ?_)
    simp only [go_sem, Nat.reduceGT, Nat.reducePow, Nat.reduceLT, ↓reduceIte, Nat.reduceAdd, Nat.reduceMul, Nat.reduceSub, Nat.reduceMod, Nat.reduceLeDiff, Nat.reduceEqDiff, Nat.reduceBEq, reduceCtorEq, Int.reduceLT, Int.reduceLE, Int.reduceGT, Int.reduceGE, Int.reduceEq, Int.reduceNe, Int.reduceBEq, Int.reduceBNe, Int.reduceAdd, Int.reduceSub, Int.reduceNeg, decide_true, decide_false, Int.reduceToNat, wl0, wl1, wl2, wl3, wl4, wl5, wl6, wl7, wl8, wl9, wl10]
    refine lcall_lend ?_
    simp only [go_sem, Nat.reduceGT, Nat.reducePow, Nat.reduceLT, ↓reduceIte, Nat.reduceAdd, Nat.reduceMul, Nat.reduceSub, Nat.reduceMod, Nat.reduceLeDiff, Nat.reduceEqDiff, Nat.reduceBEq, reduceCtorEq, Int.reduceLT, Int.reduceLE, Int.reduceGT, Int.reduceGE, Int.reduceEq, Int.reduceNe, Int.reduceBEq, Int.reduceBNe, Int.reduceAdd, Int.reduceSub, Int.reduceNeg, decide_true, decide_false, Int.reduceToNat, wl0, wl1, wl2, wl3, wl4, wl5, wl6, wl7, wl8, wl9, wl10]
    refine ⟨_, cpure_as (.cons (as_impAgg (ys := [.t (tmedia []), .t (tseqs (nProj 6).seqs)]) ⟨as_imp imp_nil, as_imp (imp_list (impR_cons (nRow1 0 1 _ _) (impR_cons (nRow1 1 2 _ _) (impR_cons (nRow1 2 3 _ _) (impR_cons (nRow1 3 4 _ _) (impR_cons (nRow1 4 5 _ _) (impR_cons (nRow0 5) impR_nil))))))), trivial⟩) .nil) (cValid (nProj 6) (nProj_fit 6)), ?_⟩
    rw [show validP (nProj 6) = 18 from nOk 6 (by decide) (by decide)]
    simp only [go_sem, Nat.reduceGT, Nat.reducePow, Nat.reduceLT, ↓reduceIte, Nat.reduceAdd, Nat.reduceMul, Nat.reduceSub, Nat.reduceMod, Nat.reduceLeDiff, Nat.reduceEqDiff, Nat.reduceBEq, reduceCtorEq, Int.reduceLT, Int.reduceLE, Int.reduceGT, Int.reduceGE, Int.reduceEq, Int.reduceNe, Int.reduceBEq, Int.reduceBNe, Int.reduceAdd, Int.reduceSub, Int.reduceNeg, decide_true, decide_false, Int.reduceToNat, wl0, wl1, wl2, wl3, wl4, wl5, wl6, wl7, wl8, wl9, wl10]
    refine drawC_of 18 .done rfl (by kernel_rfl) (by kernel_rfl) (by decide) ?_
    simp only [go_sem, Nat.reduceGT, Nat.reducePow, Nat.reduceLT, ↓reduceIte, Nat.reduceAdd, Nat.reduceMul, Nat.reduceSub, Nat.reduceMod, Nat.reduceLeDiff, Nat.reduceEqDiff, Nat.reduceBEq, reduceCtorEq, Int.reduceLT, Int.reduceLE, Int.reduceGT, Int.reduceGE, Int.reduceEq, Int.reduceNe, Int.reduceBEq, Int.reduceBNe, Int.reduceAdd, Int.reduceSub, Int.reduceNeg, decide_true, decide_false, Int.reduceToNat, wl0, wl1, wl2, wl3, wl4, wl5, wl6, wl7, wl8, wl9, wl10]
    obtain ⟨j, hj, hje⟩ := nJ 6 6 rfl (by decide) (by decide) back
    rw [hje]
    refine ⟨_, cSrc j (by omega) (by omega), ?_⟩
    simp only [go_sem, Nat.reduceGT, Nat.reducePow, Nat.reduceLT, ↓reduceIte, Nat.reduceAdd, Nat.reduceMul, Nat.reduceSub, Nat.reduceMod, Nat.reduceLeDiff, Nat.reduceEqDiff, Nat.reduceBEq, reduceCtorEq, Int.reduceLT, Int.reduceLE, Int.reduceGT, Int.reduceGE, Int.reduceEq, Int.reduceNe, Int.reduceBEq, Int.reduceBNe, Int.reduceAdd, Int.reduceSub, Int.reduceNeg, decide_true, decide_false, Int.reduceToNat, wl0, wl1, wl2, wl3, wl4, wl5, wl6, wl7, wl8, wl9, wl10]
    refine ⟨by decide, by kernel_rfl, ?_⟩
    refine lcall_lend ?_
    simp only [go_sem, Nat.reduceGT, Nat.reducePow, Nat.reduceLT, ↓reduceIte, Nat.reduceAdd, Nat.reduceMul, Nat.reduceSub, Nat.reduceMod, Nat.reduceLeDiff, Nat.reduceEqDiff, Nat.reduceBEq, reduceCtorEq, Int.reduceLT, Int.reduceLE, Int.reduceGT, Int.reduceGE, Int.reduceEq, Int.reduceNe, Int.reduceBEq, Int.reduceBNe, Int.reduceAdd, Int.reduceSub, Int.reduceNeg, decide_true, decide_false, Int.reduceToNat, wl0, wl1, wl2, wl3, wl4, wl5, wl6, wl7, wl8, wl9, wl10, tRows, nthV, nth, Option.getD_some, List.getElem?_cons_zero, List.getElem?_cons_succ, List.map_cons, List.map_nil, List.set_cons_zero, List.set_cons_succ]
    refine ⟨_, cpure_as (.cons (as_impAgg (ys := [.t (tmedia []), .t (tseqs (nProj2 6 (j : Nat)).seqs)]) ⟨as_imp imp_nil, as_imp (imp_list (impR_cons (nRow1 0 1 _ _) (impR_cons (nRow1 1 2 _ _) (impR_cons (nRow1 2 3 _ _) (impR_cons (nRow1 3 4 _ _) (impR_cons (nRow1 4 5 _ _) (impR_cons (nRow1 5 j _ _) impR_nil))))))), trivial⟩) .nil) (cValid (nProj2 6 (j : Nat)) (nProj2_fit 6 (j : Nat))), ?_⟩
    rw [nCyc 6 (by decide) j hj]
    simp only [go_sem, Nat.reduceGT, Nat.reducePow, Nat.reduceLT, ↓reduceIte, Nat.reduceAdd, Nat.reduceMul, Nat.reduceSub, Nat.reduceMod, Nat.reduceLeDiff, Nat.reduceEqDiff, Nat.reduceBEq, reduceCtorEq, Int.reduceLT, Int.reduceLE, Int.reduceGT, Int.reduceGE, Int.reduceEq, Int.reduceNe, Int.reduceBEq, Int.reduceBNe, Int.reduceAdd, Int.reduceSub, Int.reduceNeg, decide_true, decide_false, Int.reduceToNat, wl0, wl1, wl2, wl3, wl4, wl5, wl6, wl7, wl8, wl9, wl10]
    refine ⟨_, cAwake, ?_⟩
    simp only [go_sem, Nat.reduceGT, Nat.reducePow, Nat.reduceLT, ↓reduceIte, Nat.reduceAdd, Nat.reduceMul, Nat.reduceSub, Nat.reduceMod, Nat.reduceLeDiff, Nat.reduceEqDiff, Nat.reduceBEq, reduceCtorEq, Int.reduceLT, Int.reduceLE, Int.reduceGT, Int.reduceGE, Int.reduceEq, Int.reduceNe, Int.reduceBEq, Int.reduceBNe, Int.reduceAdd, Int.reduceSub, Int.reduceNeg, decide_true, decide_false, Int.reduceToNat]
  · refine awp_loopL ?_
    refine awpL_step (aw_ok _ ?_)
    simp only [go_sem, Nat.reduceGT, Nat.reducePow, Nat.reduceLT, ↓reduceIte, Nat.reduceAdd, Nat.reduceMul, Nat.reduceSub, Nat.reduceMod, Nat.reduceLeDiff, Nat.reduceEqDiff, Nat.reduceBEq, reduceCtorEq, Int.reduceLT, Int.reduceLE, Int.reduceGT, Int.reduceGE, Int.reduceEq, Int.reduceNe, Int.reduceBEq, Int.reduceBNe, Int.reduceAdd, Int.reduceSub, Int.reduceNeg, decide_true, decide_false, Int.reduceToNat, wl0, wl1, wl2, wl3, wl4, wl5, wl6, wl7, wl8, wl9, wl10]
    refine ⟨_, cSrc 0 (by decide) (by decide), ?_⟩
    simp only [go_sem, Nat.reduceGT, Nat.reducePow, Nat.reduceLT, ↓reduceIte, Nat.reduceAdd, Nat.reduceMul, Nat.reduceSub, Nat.reduceMod, Nat.reduceLeDiff, Nat.reduceEqDiff, Nat.reduceBEq, reduceCtorEq, Int.reduceLT, Int.reduceLE, Int.reduceGT, Int.reduceGE, Int.reduceEq, Int.reduceNe, Int.reduceBEq, Int.reduceBNe, Int.reduceAdd, Int.reduceSub, Int.reduceNeg, decide_true, decide_false, Int.reduceToNat, wl0, wl1, wl2, wl3, wl4, wl5, wl6, wl7, wl8, wl9, wl10]
    refine ⟨_, cSrc 1 (by decide) (by decide), ?_⟩
    simp only [go_sem, Nat.reduceGT, Nat.reducePow, Nat.reduceLT, ↓reduceIte, Nat.reduceAdd, Nat.reduceMul, Nat.reduceSub, Nat.reduceMod, Nat.reduceLeDiff, Nat.reduceEqDiff, Nat.reduceBEq, reduceCtorEq, Int.reduceLT, Int.reduceLE, Int.reduceGT, Int.reduceGE, Int.reduceEq, Int.reduceNe, Int.reduceBEq, Int.reduceBNe, Int.reduceAdd, Int.reduceSub, Int.reduceNeg, decide_true, decide_false, Int.reduceToNat, wl0, wl1, wl2, wl3, wl4, wl5, wl6, wl7, wl8, wl9, wl10]
    first
      | refine ⟨by unfold maxLen; omega, ?_⟩
      | refine ⟨⟨by unfold maxLen; omega, by omega⟩, ?_⟩
      | skip
    refine awpL_step (aw_ok _ ?_)
    simp only [go_sem, Nat.reduceGT, Nat.reducePow, Nat.reduceLT, ↓reduceIte, Nat.reduceAdd, Nat.reduceMul, Nat.reduceSub, Nat.reduceMod, Nat.reduceLeDiff, Nat.reduceEqDiff, Nat.reduceBEq, reduceCtorEq, Int.reduceLT, Int.reduceLE, Int.reduceGT, Int.reduceGE, Int.reduceEq, Int.reduceNe, Int.reduceBEq, Int.reduceBNe, Int.reduceAdd, Int.reduceSub, Int.reduceNeg, decide_true, decide_false, Int.reduceToNat, wl0, wl1, wl2, wl3, wl4, wl5, wl6, wl7, wl8, wl9, wl10]
    refine ⟨_, cSrc 1 (by decide) (by decide), ?_⟩
    simp only [go_sem, Nat.reduceGT, Nat.reducePow, Nat.reduceLT, ↓reduceIte, Nat.reduceAdd, Nat.reduceMul, Nat.reduceSub, Nat.reduceMod, Nat.reduceLeDiff, Nat.reduceEqDiff, Nat.reduceBEq, reduceCtorEq, Int.reduceLT, Int.reduceLE, Int.reduceGT, Int.reduceGE, Int.reduceEq, Int.reduceNe, Int.reduceBEq, Int.reduceBNe, Int.reduceAdd, Int.reduceSub, Int.reduceNeg, decide_true, decide_false, Int.reduceToNat, wl0, wl1, wl2, wl3, wl4, wl5, wl6, wl7, wl8, wl9, wl10]
    refine ⟨_, cSrc 2 (by decide) (by decide), ?_⟩
    simp only [go_sem, Nat.reduceGT, Nat.reducePow, Nat.reduceLT, ↓reduceIte, Nat.reduceAdd, Nat.reduceMul, Nat.reduceSub, Nat.reduceMod, Nat.reduceLeDiff, Nat.reduceEqDiff, Nat.reduceBEq, reduceCtorEq, Int.reduceLT, Int.reduceLE, Int.reduceGT, Int.reduceGE, Int.reduceEq, Int.reduceNe, Int.reduceBEq, Int.reduceBNe, Int.reduceAdd, Int.reduceSub, Int.reduceNeg, decide_true, decide_false, Int.reduceToNat, wl0, wl1, wl2, wl3, wl4, wl5, wl6, wl7, wl8, wl9, wl10]
    first
      | refine ⟨by unfold maxLen; omega, ?_⟩
      | refine ⟨⟨by unfold maxLen; omega, by omega⟩, ?_⟩
      | skip
    refine awpL_step (aw_ok _ ?_)
    simp only [go_sem, Nat.reduceGT, Nat.reducePow, Nat.reduceLT, ↓reduceIte, Nat.reduceAdd, Nat.reduceMul, Nat.reduceSub, Nat.reduceMod, Nat.reduceLeDiff, Nat.reduceEqDiff, Nat.reduceBEq, reduceCtorEq, Int.reduceLT, Int.reduceLE, Int.reduceGT, Int.reduceGE, Int.reduceEq, Int.reduceNe, Int.reduceBEq, Int.reduceBNe, Int.reduceAdd, Int.reduceSub, Int.reduceNeg, decide_true, decide_false, Int.reduceToNat, wl0, wl1, wl2, wl3, wl4, wl5, wl6, wl7, wl8, wl9, wl10]
    refine ⟨_, cSrc 2 (by decide) (by decide), ?_⟩
    simp only [go_sem, Nat.reduceGT, Nat.reducePow, Nat.reduceLT, ↓reduceIte, Nat.reduceAdd, Nat.reduceMul, Nat.reduceSub, Nat.reduceMod, Nat.reduceLeDiff, Nat.reduceEqDiff, Nat.reduceBEq, reduceCtorEq, Int.reduceLT, Int.reduceLE, Int.reduceGT, Int.reduceGE, Int.reduceEq, Int.reduceNe, Int.reduceBEq, Int.reduceBNe, Int.reduceAdd, Int.reduceSub, Int.reduceNeg, decide_true, decide_false, Int.reduceToNat, wl0, wl1, wl2, wl3, wl4, wl5, wl6, wl7, wl8, wl9, wl10]
    refine ⟨_, cSrc 3 (by decide) (by decide), ?_⟩
    simp only [go_sem, Nat.reduceGT, Nat.reducePow, Nat.reduceLT, ↓reduceIte, Nat.reduceAdd, Nat.reduceMul, Nat.reduceSub, Nat.reduceMod, Nat.reduceLeDiff, Nat.reduceEqDiff, Nat.reduceBEq, reduceCtorEq, Int.reduceLT, Int.reduceLE, Int.reduceGT, Int.reduceGE, Int.reduceEq, Int.reduceNe, Int.reduceBEq, Int.reduceBNe, Int.reduceAdd, Int.reduceSub, Int.reduceNeg, decide_true, decide_false, Int.reduceToNat, wl0, wl1, wl2, wl3, wl4, wl5, wl6, wl7, wl8, wl9, wl10]
    first
      | refine ⟨by unfold maxLen; omega, ?_⟩
      | refine ⟨⟨by unfold maxLen; omega, by omega⟩, ?_⟩
      | skip
    refine awpL_step (aw_ok _ ?_)
    simp only [go_sem, Nat.reduceGT, Nat.reducePow, Nat.reduceLT, ↓reduceIte, Nat.reduceAdd, Nat.reduceMul, Nat.reduceSub, Nat.reduceMod, Nat.reduceLeDiff, Nat.reduceEqDiff, Nat.reduceBEq, reduceCtorEq, Int.reduceLT, Int.reduceLE, Int.reduceGT, Int.reduceGE, Int.reduceEq, Int.reduceNe, Int.reduceBEq, Int.reduceBNe, Int.reduceAdd, Int.reduceSub, Int.reduceNeg, decide_true, decide_false, Int.reduceToNat, wl0, wl1, wl2, wl3, wl4, wl5, wl6, wl7, wl8, wl9, wl10]
    refine ⟨_, cSrc 3 (by decide) (by decide), ?_⟩
    simp only [go_sem, Nat.reduceGT, Nat.reducePow, Nat.reduceLT, ↓reduceIte, Nat.reduceAdd, Nat.reduceMul, Nat.reduceSub, Nat.reduceMod, Nat.reduceLeDiff, Nat.reduceEqDiff, Nat.reduceBEq, reduceCtorEq, Int.reduceLT, Int.reduceLE, Int.reduceGT, Int.reduceGE, Int.reduceEq, Int.reduceNe, Int.reduceBEq, Int.reduceBNe, Int.reduceAdd, Int.reduceSub, Int.reduceNeg, decide_true, decide_false, Int.reduceToNat, wl0, wl1, wl2, wl3, wl4, wl5, wl6, wl7, wl8, wl9, wl10]
    refine ⟨_, cSrc 4 (by decide) (by decide), ?_⟩
    simp only [go_sem, Nat.reduceGT, Nat.reducePow, Nat.reduceLT, ↓reduceIte, Nat.reduceAdd, Nat.reduceMul, Nat.reduceSub, Nat.reduceMod, Nat.reduceLeDiff, Nat.reduceEqDiff, Nat.reduceBEq, reduceCtorEq, Int.reduceLT, Int.reduceLE, Int.reduceGT, Int.reduceGE, Int.reduceEq, Int.reduceNe, Int.reduceBEq, Int.reduceBNe, Int.reduceAdd, Int.reduceSub, Int.reduceNeg, decide_true, decide_false, Int.reduceToNat, wl0, wl1, wl2, wl3, wl4, wl5, wl6, wl7, wl8, wl9, wl10]
    first
      | refine ⟨by unfold maxLen; omega, ?_⟩
      | refine ⟨⟨by unfold maxLen; omega, by omega⟩, ?_⟩
      | skip
    refine awpL_step (aw_ok _ ?_)
    simp only [go_sem, Nat.reduceGT, Nat.reducePow, Nat.reduceLT, ↓reduceIte, Nat.reduceAdd, Nat.reduceMul, Nat.reduceSub, Nat.reduceMod, Nat.reduceLeDiff, Nat.reduceEqDiff, Nat.reduceBEq, reduceCtorEq, Int.reduceLT, Int.reduceLE, Int.reduceGT, Int.reduceGE, Int.reduceEq, Int.reduceNe, Int.reduceBEq, Int.reduceBNe, Int.reduceAdd, Int.reduceSub, Int.reduceNeg, decide_true, decide_false, Int.reduceToNat, wl0, wl1, wl2, wl3, wl4, wl5, wl6, wl7, wl8, wl9, wl10]
    refine ⟨_, cSrc 4 (by decide) (by decide), ?_⟩
    simp only [go_sem, Nat.reduceGT, Nat.reducePow, Nat.reduceLT, ↓reduceIte, Nat.reduceAdd, Nat.reduceMul, Nat.reduceSub, Nat.reduceMod, Nat.reduceLeDiff, Nat.reduceEqDiff, Nat.reduceBEq, reduceCtorEq, Int.reduceLT, Int.reduceLE, Int.reduceGT, Int.reduceGE, Int.reduceEq, Int.reduceNe, Int.reduceBEq, Int.reduceBNe, Int.reduceAdd, Int.reduceSub, Int.reduceNeg, decide_true, decide_false, Int.reduceToNat, wl0, wl1, wl2, wl3, wl4, wl5, wl6, wl7, wl8, wl9, wl10]
    refine ⟨_, cSrc 5 (by decide) (by decide), ?_⟩
    simp only [go_sem, Nat.reduceGT, Nat.reducePow, Nat.reduceLT, ↓reduceIte, Nat.reduceAdd, Nat.reduceMul, Nat.reduceSub, Nat.reduceMod, Nat.reduceLeDiff, Nat.reduceEqDiff, Nat.reduceBEq, reduceCtorEq, Int.reduceLT, Int.reduceLE, Int.reduceGT, Int.reduceGE, Int.reduceEq, Int.reduceNe, Int.reduceBEq, Int.reduceBNe, Int.reduceAdd, Int.reduceSub, Int.reduceNeg, decide_true, decide_false, Int.reduceToNat, wl0, wl1, wl2, wl3, wl4, wl5, wl6, wl7, wl8, wl9, wl10]
    first
      | refine ⟨by unfold maxLen; omega, ?_⟩
      | refine ⟨⟨by unfold maxLen; omega, by omega⟩, ?_⟩
      | skip
    refine awpL_step (aw_ok _ ?_)
    simp only [go_sem, Nat.reduceGT, Nat.reducePow, Nat.reduceLT, ↓reduceIte, Nat.reduceAdd, Nat.reduceMul, Nat.reduceSub, Nat.reduceMod, Nat.reduceLeDiff, Nat.reduceEqDiff, Nat.reduceBEq, reduceCtorEq, Int.reduceLT, Int.reduceLE, Int.reduceGT, Int.reduceGE, Int.reduceEq, Int.reduceNe, Int.reduceBEq, Int.reduceBNe, Int.reduceAdd, Int.reduceSub, Int.reduceNeg, decide_true, decide_false, Int.reduceToNat, wl0, wl1, wl2, wl3, wl4, wl5, wl6, wl7, wl8, wl9, wl10]
    refine ⟨_, cSrc 5 (by decide) (by decide), ?_⟩
    simp only [go_sem, Nat.reduceGT, Nat.reducePow, Nat.reduceLT, ↓reduceIte, Nat.reduceAdd, Nat.reduceMul, Nat.reduceSub, Nat.reduceMod, Nat.reduceLeDiff, Nat.reduceEqDiff, Nat.reduceBEq, reduceCtorEq, Int.reduceLT, Int.reduceLE, Int.reduceGT, Int.reduceGE, Int.reduceEq, Int.reduceNe, Int.reduceBEq, Int.reduceBNe, Int.reduceAdd, Int.reduceSub, Int.reduceNeg, decide_true, decide_false, Int.reduceToNat, wl0, wl1, wl2, wl3, wl4, wl5, wl6, wl7, wl8, wl9, wl10]
    refine ⟨_, cSrc 6 (by decide) (by decide), ?_⟩
    simp only [go_sem, Nat.reduceGT, Nat.reducePow, Nat.reduceLT, ↓reduceIte, Nat.reduceAdd, Nat.reduceMul, Nat.reduceSub, Nat.reduceMod, Nat.reduceLeDiff, Nat.reduceEqDiff, Nat.reduceBEq, reduceCtorEq, Int.reduceLT, Int.reduceLE, Int.reduceGT, Int.reduceGE, Int.reduceEq, Int.reduceNe, Int.reduceBEq, Int.reduceBNe, Int.reduceAdd, Int.reduceSub, Int.reduceNeg, decide_true, decide_false, Int.reduceToNat, wl0, wl1, wl2, wl3, wl4, wl5, wl6, wl7, wl8, wl9, wl10]
    first
      | refine ⟨by unfold maxLen; omega, ?_⟩
      | refine ⟨⟨by unfold maxLen; omega, by omega⟩, ?_⟩
      | skip
    refine awpL_step (aw_ok _ ?_)
    simp only [go_sem, Nat.reduceGT, Nat.reducePow, Nat.reduceLT, ↓reduceIte, Nat.reduceAdd, Nat.reduceMul, Nat.reduceSub, Nat.reduceMod, Nat.reduceLeDiff, Nat.reduceEqDiff, Nat.reduceBEq, reduceCtorEq, Int.reduceLT, Int.reduceLE, Int.reduceGT, Int.reduceGE, Int.reduceEq, Int.reduceNe, Int.reduceBEq, Int.reduceBNe, Int.reduceAdd, Int.reduceSub, Int.reduceNeg, decide_true, decide_false, Int.reduceToNat, wl0, wl1, wl2, wl3, wl4, wl5, wl6, wl7, wl8, wl9, wl10]
    refine ⟨_, cSrc 6 (by decide) (by decide), ?_⟩
    simp only [go_sem, Nat.reduceGT, Nat.reducePow, Nat.reduceLT, ↓reduceIte, Nat.reduceAdd, Nat.reduceMul, Nat.reduceSub, Nat.reduceMod, Nat.reduceLeDiff, Nat.reduceEqDiff, Nat.reduceBEq, reduceCtorEq, Int.reduceLT, Int.reduceLE, Int.reduceGT, Int.reduceGE, Int.reduceEq, Int.reduceNe, Int.reduceBEq, Int.reduceBNe, Int.reduceAdd, Int.reduceSub, Int.reduceNeg, decide_true, decide_false, Int.reduceToNat, wl0, wl1, wl2, wl3, wl4, wl5, wl6, wl7, wl8, wl9, wl10]
    first
      | refine ⟨by unfold maxLen; omega, ?_⟩
      | refine ⟨⟨by unfold maxLen; omega, by omega⟩, ?_⟩
      | skip
    refine awpL_step (aw_ok _ ?_)
    simp only [go_sem, Nat.reduceGT, Nat.reducePow, Nat.reduceLT, ↓reduceIte, Nat.reduceAdd, Nat.reduceMul, Nat.reduceSub, Nat.reduceMod, Nat.reduceLeDiff, Nat.reduceEqDiff, Nat.reduceBEq, reduceCtorEq, Int.reduceLT, Int.reduceLE, Int.reduceGT, Int.reduceGE, Int.reduceEq, Int.reduceNe, Int.reduceBEq, Int.reduceBNe, Int.reduceAdd, Int.reduceSub, Int.reduceNeg, decide_true, decide_false, Int.reduceToNat, wl0, wl1, wl2, wl3, wl4, wl5, wl6, wl7, wl8, wl9, wl10]
    refine lcall_lend ?_
    simp only [go_sem, Nat.reduceGT, Nat.reducePow, Nat.reduceLT, ↓reduceIte, Nat.reduceAdd, Nat.reduceMul, Nat.reduceSub, Nat.reduceMod, Nat.reduceLeDiff, Nat.reduceEqDiff, Nat.reduceBEq, reduceCtorEq, Int.reduceLT, Int.reduceLE, Int.reduceGT, Int.reduceGE, Int.reduceEq, Int.reduceNe, Int.reduceBEq, Int.reduceBNe, Int.reduceAdd, Int.reduceSub, Int.reduceNeg, decide_true, decide_false, Int.reduceToNat, wl0, wl1, wl2, wl3, wl4, wl5, wl6, wl7, wl8, wl9, wl10]
    refine ⟨_, cpure_as (.cons (as_impAgg (ys := [.t (tmedia []), .t (tseqs (nProj 7).seqs)]) ⟨as_imp imp_nil, as_imp (imp_list (impR_cons (nRow1 0 1 _ _) (impR_cons (nRow1 1 2 _ _) (impR_cons (nRow1 2 3 _ _) (impR_cons (nRow1 3 4 _ _) (impR_cons (nRow1 4 5 _ _) (impR_cons (nRow1 5 6 _ _) (impR_cons (nRow0 6) impR_nil)))))))), trivial⟩) .nil) (cValid (nProj 7) (nProj_fit 7)), ?_⟩
    rw [show validP (nProj 7) = 18 from nOk 7 (by decide) (by decide)]
    simp only [go_sem, Nat.reduceGT, Nat.reducePow, Nat.reduceLT, ↓reduceIte, Nat.reduceAdd, Nat.reduceMul, Nat.reduceSub, Nat.reduceMod, Nat.reduceLeDiff, Nat.reduceEqDiff, Nat.reduceBEq, reduceCtorEq, Int.reduceLT, Int.reduceLE, Int.reduceGT, Int.reduceGE, Int.reduceEq, Int.reduceNe, Int.reduceBEq, Int.reduceBNe, Int.reduceAdd, Int.reduceSub, Int.reduceNeg, decide_true, decide_false, Int.reduceToNat, wl0, wl1, wl2, wl3, wl4, wl5, wl6, wl7, wl8, wl9, wl10]
    refine drawC_of 18 .done rfl (by kernel_rfl) (by kernel_rfl) (by decide) ?_
    simp only [go_sem, Nat.reduceGT, Nat.reducePow, Nat.reduceLT, ↓reduceIte, Nat.reduceAdd, Nat.reduceMul, Nat.reduceSub, Nat.reduceMod, Nat.reduceLeDiff, Nat.reduceEqDiff, Nat.reduceBEq, reduceCtorEq, Int.reduceLT, Int.reduceLE, Int.reduceGT, Int.reduceGE, Int.reduceEq, Int.reduceNe, Int.reduceBEq, Int.reduceBNe, Int.reduceAdd, Int.reduceSub, Int.reduceNeg, decide_true, decide_false, Int.reduceToNat, wl0, wl1, wl2, wl3, wl4, wl5, wl6, wl7, wl8, wl9, wl10]
    obtain ⟨j, hj, hje⟩ := nJ 7 7 rfl (by decide) (by decide) back
    rw [hje]
    refine ⟨_, cSrc j (by omega) (by omega), ?_⟩
    simp only [go_sem, Nat.reduceGT, Nat.reducePow, Nat.reduceLT, ↓reduceIte, Nat.reduceAdd, Nat.reduceMul, Nat.reduceSub, Nat.reduceMod, Nat.reduceLeDiff, Nat.reduceEqDiff, Nat.reduceBEq, reduceCtorEq, Int.reduceLT, Int.reduceLE, Int.reduceGT, Int.reduceGE, Int.reduceEq, Int.reduceNe, Int.reduceBEq, Int.reduceBNe, Int.reduceAdd, Int.reduceSub, Int.reduceNeg, decide_true, decide_false, Int.reduceToNat, wl0, wl1, wl2, wl3, wl4, wl5, wl6, wl7, wl8, wl9, wl10]
    refine ⟨by decide, by kernel_rfl, ?_⟩
    refine lcall_lend ?_
    simp only [go_sem, Nat.reduceGT, Nat.reducePow, Nat.reduceLT, ↓reduceIte, Nat.reduceAdd, Nat.reduceMul, Nat.reduceSub, Nat.reduceMod, Nat.reduceLeDiff, Nat.reduceEqDiff, Nat.reduceBEq, reduceCtorEq, Int.reduceLT, Int.reduceLE, Int.reduceGT, Int.reduceGE, Int.reduceEq, Int.reduceNe, Int.reduceBEq, Int.reduceBNe, Int.reduceAdd, Int.reduceSub, Int.reduceNeg, decide_true, decide_false, Int.reduceToNat, wl0, wl1, wl2, wl3, wl4, wl5, wl6, wl7, wl8, wl9, wl10, tRows, nthV, nth, Option.getD_some, List.getElem?_cons_zero, List.getElem?_cons_succ, List.map_cons, List.map_nil, List.set_cons_zero, List.set_cons_succ]
    refine ⟨_, cpure_as (.cons (as_impAgg (ys := [.t (tmedia []), .t (tseqs (nProj2 7 (j : Nat)).seqs)]) ⟨as_imp imp_nil, as_imp (imp_list (impR_cons (nRow1 0 1 _ _) (impR_cons (nRow1 1 2 _ _) (impR_cons (nRow1 2 3 _ _) (impR_cons (nRow1 3 4 _ _) (impR_cons (nRow1 4 5 _ _) (impR_cons (nRow1 5 6 _ _) (impR_cons (nRow1 6 j _ _) impR_nil)))))))), trivial⟩) .nil) (cValid (nProj2 7 (j : Nat)) (nProj2_fit 7 (j : Nat))), ?_⟩
    rw [nCyc 7 (by decide) j hj]
    simp only [go_sem, Nat.reduceGT, Nat.reducePow, Nat.reduceLT, ↓reduceIte, Nat.reduceAdd, Nat.reduceMul, Nat.reduceSub, Nat.reduceMod, Nat.reduceLeDiff, Nat.reduceEqDiff, Nat.reduceBEq, reduceCtorEq, Int.reduceLT, Int.reduceLE, Int.reduceGT, Int.reduceGE, Int.reduceEq, Int.reduceNe, Int.reduceBEq, Int.reduceBNe, Int.reduceAdd, Int.reduceSub, Int.reduceNeg, decide_true, decide_false, Int.reduceToNat, wl0, wl1, wl2, wl3, wl4, wl5, wl6, wl7, wl8, wl9, wl10]
    refine ⟨_, cAwake, ?_⟩
    simp only [go_sem, Nat.reduceGT, Nat.reducePow, Nat.reduceLT, ↓reduceIte, Nat.reduceAdd, Nat.reduceMul, Nat.reduceSub, Nat.reduceMod, Nat.reduceLeDiff, Nat.reduceEqDiff, Nat.reduceBEq, reduceCtorEq, Int.reduceLT, Int.reduceLE, Int.reduceGT, Int.reduceGE, Int.reduceEq, Int.reduceNe, Int.reduceBEq, Int.reduceBNe, Int.reduceAdd, Int.reduceSub, Int.reduceNeg, decide_true, decide_false, Int.reduceToNat]
  · refine awp_loopL ?_
    refine awpL_step (aw_ok _ ?_)
    simp only [go_sem, Nat.reduceGT, Nat.reducePow, Nat.reduceLT, ↓reduceIte, Nat.reduceAdd, Nat.reduceMul, Nat.reduceSub, Nat.reduceMod, Nat.reduceLeDiff, Nat.reduceEqDiff, Nat.reduceBEq, reduceCtorEq, Int.reduceLT, Int.reduceLE, Int.reduceGT, Int.reduceGE, Int.reduceEq, Int.reduceNe, Int.reduceBEq, Int.reduceBNe, Int.reduceAdd, Int.reduceSub, Int.reduceNeg, decide_true, decide_false, Int.reduceToNat, wl0, wl1, wl2, wl3, wl4, wl5, wl6, wl7, wl8, wl9, wl10]
    refine ⟨_, cSrc 0 (by decide) (by decide), ?_⟩
    simp only [go_sem, Nat.reduceGT, Nat.reducePow, Nat.reduceLT, ↓reduceIte, Nat.reduceAdd, Nat.reduceMul, Nat.reduceSub, Nat.reduceMod, Nat.reduceLeDiff, Nat.reduceEqDiff, Nat.reduceBEq, reduceCtorEq, Int.reduceLT, Int.reduceLE, Int.reduceGT, Int.reduceGE, Int.reduceEq, Int.reduceNe, Int.reduceBEq, Int.reduceBNe, Int.reduceAdd, Int.reduceSub, Int.reduceNeg, decide_true, decide_false, Int.reduceToNat, wl0, wl1, wl2, wl3, wl4, wl5, wl6, wl7, wl8, wl9, wl10]
    refine ⟨_, cSrc 1 (by decide) (by decide), ?_⟩
    simp only [go_sem, Nat.reduceGT, Nat.reducePow, Nat.reduceLT, ↓reduceIte, Nat.reduceAdd, Nat.reduceMul, Nat.reduceSub, Nat.reduceMod, Nat.reduceLeDiff, Nat.reduceEqDiff, Nat.reduceBEq, reduceCtorEq, Int.reduceLT, Int.reduceLE, Int.reduceGT, Int.reduceGE, Int.reduceEq, Int.reduceNe, Int.reduceBEq, Int.reduceBNe, Int.reduceAdd, Int.reduceSub, Int.reduceNeg, decide_true, decide_false, Int.reduceToNat, wl0, wl1, wl2, wl3, wl4, wl5, wl6, wl7, wl8, wl9, wl10]
    first
      | refine ⟨by unfold maxLen; omega, ?_⟩
      | refine ⟨⟨by unfold maxLen; omega, by omega⟩, ?_⟩
      | skip
    refine awpL_step (aw_ok _ ?_)
    simp only [go_sem, Nat.reduceGT, Nat.reducePow, Nat.reduceLT, ↓reduceIte, Nat.reduceAdd, Nat.reduceMul, Nat.reduceSub, Nat.reduceMod, Nat.reduceLeDiff, Nat.reduceEqDiff, Nat.reduceBEq, reduceCtorEq, Int.reduceLT, Int.reduceLE, Int.reduceGT, Int.reduceGE, Int.reduceEq, Int.reduceNe, Int.reduceBEq, Int.reduceBNe, Int.reduceAdd, Int.reduceSub, Int.reduceNeg, decide_true, decide_false, Int.reduceToNat, wl0, wl1, wl2, wl3, wl4, wl5, wl6, wl7, wl8, wl9, wl10]
    refine ⟨_, cSrc 1 (by decide) (by decide), ?_⟩
    simp only [go_sem, Nat.reduceGT, Nat.reducePow, Nat.reduceLT, ↓reduceIte, Nat.reduceAdd, Nat.reduceMul, Nat.reduceSub, Nat.reduceMod, Nat.reduceLeDiff, Nat.reduceEqDiff, Nat.reduceBEq, reduceCtorEq, Int.reduceLT, Int.reduceLE, Int.reduceGT, Int.reduceGE, Int.reduceEq, Int.reduceNe, Int.reduceBEq, Int.reduceBNe, Int.reduceAdd, Int.reduceSub, Int.reduceNeg, decide_true, decide_false, Int.reduceToNat, wl0, wl1, wl2, wl3, wl4, wl5, wl6, wl7, wl8, wl9, wl10]
    refine ⟨_, cSrc 2 (by decide) (by decide), ?_⟩
    simp only [go_sem, Nat.reduceGT, Nat.reducePow, Nat.reduceLT, ↓reduceIte, Nat.reduceAdd, Nat.reduceMul, Nat.reduceSub, Nat.reduceMod, Nat.reduceLeDiff, Nat.reduceEqDiff, Nat.reduceBEq, reduceCtorEq, Int.reduceLT, Int.reduceLE, Int.reduceGT, Int.reduceGE, Int.reduceEq, Int.reduceNe, Int.reduceBEq, Int.reduceBNe, Int.reduceAdd, Int.reduceSub, Int.reduceNeg, decide_true, decide_false, Int.reduceToNat, wl0, wl1, wl2, wl3, wl4, wl5, wl6, wl7, wl8, wl9, wl10]
    first
      | refine ⟨by unfold maxLen; omega, ?_⟩
      | refine ⟨⟨by unfold maxLen; omega, by omega⟩, ?_⟩
      | skip
    refine awpL_step (aw_ok _ ?_)
    simp only [go_sem, Nat.reduceGT, Nat.reducePow, Nat.reduceLT, ↓reduceIte, Nat.reduceAdd, Nat.reduceMul, Nat.reduceSub, Nat.reduceMod, Nat.reduceLeDiff, Nat.reduceEqDiff, Nat.reduceBEq, reduceCtorEq, Int.reduceLT, Int.reduceLE, Int.reduceGT, Int.reduceGE, Int.reduceEq, Int.reduceNe, Int.reduceBEq, Int.reduceBNe, Int.reduceAdd, Int.reduceSub, Int.reduceNeg, decide_true, decide_false, Int.reduceToNat, wl0, wl1, wl2, wl3, wl4, wl5, wl6, wl7, wl8, wl9, wl10]
    refine ⟨_, cSrc 2 (by decide) (by decide), ?_⟩
    simp only [go_sem, Nat.reduceGT, Nat.reducePow, Nat.reduceLT, ↓reduceIte, Nat.reduceAdd, Nat.reduceMul, Nat.reduceSub, Nat.reduceMod, Nat.reduceLeDiff, Nat.reduceEqDiff, Nat.reduceBEq, reduceCtorEq, Int.reduceLT, Int.reduceLE, Int.reduceGT, Int.reduceGE, Int.reduceEq, Int.reduceNe, Int.reduceBEq, Int.reduceBNe, Int.reduceAdd, Int.reduceSub, Int.reduceNeg, decide_true, decide_false, Int.reduceToNat, wl0, wl1, wl2, wl3, wl4, wl5, wl6, wl7, wl8, wl9, wl10]
    refine ⟨_, cSrc 3 (by decide) (by decide), ?_⟩
    simp only [go_sem, Nat.reduceGT, Nat.reducePow, Nat.reduceLT, ↓reduceIte, Nat.reduceAdd, Nat.reduceMul, Nat.reduceSub, Nat.reduceMod, Nat.reduceLeDiff, Nat.reduceEqDiff, Nat.reduceBEq, reduceCtorEq, Int.reduceLT, Int.reduceLE, Int.reduceGT, Int.reduceGE, Int.reduceEq, Int.reduceNe, Int.reduceBEq, Int.reduceBNe, Int.reduceAdd, Int.reduceSub, Int.reduceNeg, decide_true, decide_false, Int.reduceToNat, wl0, wl1, wl2, wl3, wl4, wl5, wl6, wl7, wl8, wl9, wl10]
    first
      | refine ⟨by unfold maxLen; omega, ?_⟩
      | refine ⟨⟨by unfold maxLen; omega, by omega⟩, ?_⟩
      | skip
    refine awpL_step (aw_ok _ ?_)
    simp only [go_sem, Nat.reduceGT, Nat.reducePow, Nat.reduceLT, ↓reduceIte, Nat.reduceAdd, Nat.reduceMul, Nat.reduceSub, Nat.reduceMod, Nat.reduceLeDiff, Nat.reduceEqDiff, Nat.reduceBEq, reduceCtorEq, Int.reduceLT, Int.reduceLE, Int.reduceGT, Int.reduceGE, Int.reduceEq, Int.reduceNe, Int.reduceBEq, Int.reduceBNe, Int.reduceAdd, Int.reduceSub, Int.reduceNeg, decide_true, decide_false, Int.reduceToNat, wl0, wl1, wl2, wl3, wl4, wl5, wl6, wl7, wl8, wl9, wl10]
    refine ⟨_, cSrc 3 (by decide) (by decide), ?_⟩
    simp only [go_sem, Nat.reduceGT, Nat.reducePow, Nat.reduceLT, ↓reduceIte, Nat.reduceAdd, Nat.reduceMul, Nat.reduceSub, Nat.reduceMod, Nat.reduceLeDiff, Nat.reduceEqDiff, Nat.reduceBEq, reduceCtorEq, Int.reduceLT, Int.reduceLE, Int.reduceGT, Int.reduceGE, Int.reduceEq, Int.reduceNe, Int.reduceBEq, Int.reduceBNe, Int.reduceAdd, Int.reduceSub, Int.reduceNeg, decide_true, decide_false, Int.reduceToNat, wl0, wl1, wl2, wl3, wl4, wl5, wl6, wl7, wl8, wl9, wl10]
    refine ⟨_, cSrc 4 (by decide) (by decide), ?_⟩
    simp only [go_sem, Nat.reduceGT, Nat.reducePow, Nat.reduceLT, ↓reduceIte, Nat.reduceAdd, Nat.reduceMul, Nat.reduceSub, Nat.reduceMod, Nat.reduceLeDiff, Nat.reduceEqDiff, Nat.reduceBEq, reduceCtorEq, Int.reduceLT, Int.reduceLE, Int.reduceGT, Int.reduceGE, Int.reduceEq, Int.reduceNe, Int.reduceBEq, Int.reduceBNe, Int.reduceAdd, Int.reduceSub, Int.reduceNeg, decide_true, decide_false, Int.reduceToNat, wl0, wl1, wl2, wl3, wl4, wl5, wl6, wl7, wl8, wl9, wl10]
    first
      | refine ⟨by unfold maxLen; omega, ?_⟩
      | refine ⟨⟨by unfold maxLen; omega, by omega⟩, ?_⟩
      | skip
    refine awpL_step (aw_ok _ ?_)
    simp only [go_sem, Nat.reduceGT, Nat.reducePow, Nat.reduceLT, ↓reduceIte, Nat.reduceAdd, Nat.reduceMul, Nat.reduceSub, Nat.reduceMod, Nat.reduceLeDiff, Nat.reduceEqDiff, Nat.reduceBEq, reduceCtorEq, Int.reduceLT, Int.reduceLE, Int.reduceGT, Int.reduceGE, Int.reduceEq, Int.reduceNe, Int.reduceBEq, Int.reduceBNe, Int.reduceAdd, Int.reduceSub, Int.reduceNeg, decide_true, decide_false, Int.reduceToNat, wl0, wl1, wl2, wl3, wl4, wl5, wl6, wl7, wl8, wl9, wl10]
    refine ⟨_, cSrc 4 (by decide) (by decide), ?_⟩
    simp only [go_sem, Nat.reduceGT, Nat.reducePow, Nat.reduceLT, ↓reduceIte, Nat.reduceAdd, Nat.reduceMul, Nat.reduceSub, Nat.reduceMod, Nat.reduceLeDiff, Nat.reduceEqDiff, Nat.reduceBEq, reduceCtorEq, Int.reduceLT, Int.reduceLE, Int.reduceGT, Int.reduceGE, Int.reduceEq, Int.reduceNe, Int.reduceBEq, Int.reduceBNe, Int.reduceAdd, Int.reduceSub, Int.reduceNeg, decide_true, decide_false, Int.reduceToNat, wl0, wl1, wl2, wl3, wl4, wl5, wl6, wl7, wl8, wl9, wl10]
    refine ⟨_, cSrc 5 (by decide) (by decide), ?_⟩
    simp only [go_sem, Nat.reduceGT, Nat.reducePow, Nat.reduceLT, ↓reduceIte, Nat.reduceAdd, Nat.reduceMul, Nat.reduceSub, Nat.reduceMod, Nat.reduceLeDiff, Nat.reduceEqDiff, Nat.reduceBEq, reduceCtorEq, Int.reduceLT, Int.reduceLE, Int.reduceGT, Int.reduceGE, Int.reduceEq, Int.reduceNe, Int.reduceBEq, Int.reduceBNe, Int.reduceAdd, Int.reduceSub, Int.reduceNeg, decide_true, decide_false, Int.reduceToNat, wl0, wl1, wl2, wl3, wl4, wl5, wl6, wl7, wl8, wl9, wl10]
    first
      | refine ⟨by unfold maxLen; omega, ?_⟩
      | refine ⟨⟨by unfold maxLen; omega, by omega⟩, ?_⟩
      | skip
    refine awpL_step (aw_ok _ ?_)
    simp only [go_sem, Nat.reduceGT, Nat.reducePow, Nat.reduceLT, ↓reduceIte, Nat.reduceAdd, Nat.reduceMul, Nat.reduceSub, Nat.reduceMod, Nat.reduceLeDiff, Nat.reduceEqDiff, Nat.reduceBEq, reduceCtorEq, Int.reduceLT, Int.reduceLE, Int.reduceGT, Int.reduceGE, Int.reduceEq, Int.reduceNe, Int.reduceBEq, Int.reduceBNe, Int.reduceAdd, Int.reduceSub, Int.reduceNeg, decide_true, decide_false, Int.reduceToNat, wl0, wl1, wl2, wl3, wl4, wl5, wl6, wl7, wl8, wl9, wl10]
    refine ⟨_, cSrc 5 (by decide) (by decide), ?_⟩
    simp only [go_sem, Nat.reduceGT, Nat.reducePow, Nat.reduceLT, ↓reduceIte, Nat.reduceAdd, Nat.reduceMul, Nat.reduceSub, Nat.reduceMod, Nat.reduceLeDiff, Nat.reduceEqDiff, Nat.reduceBEq, reduceCtorEq, Int.reduceLT, Int.reduceLE, Int.reduceGT, Int.reduceGE, Int.reduceEq, Int.reduceNe, Int.reduceBEq, Int.reduceBNe, Int.reduceAdd, Int.reduceSub, Int.reduceNeg, decide_true, decide_false, Int.reduceToNat, wl0, wl1, wl2, wl3, wl4, wl5, wl6, wl7, wl8, wl9, wl10]
    refine ⟨_, cSrc 6 (by decide) (by decide), ?_⟩
    simp only [go_sem, Nat.reduceGT, Nat.reducePow, Nat.reduceLT, ↓reduceIte, Nat.reduceAdd, Nat.reduceMul, Nat.reduceSub, Nat.reduceMod, Nat.reduceLeDiff, Nat.reduceEqDiff, Nat.reduceBEq, reduceCtorEq, Int.reduceLT, Int.reduceLE, Int.reduceGT, Int.reduceGE, Int.reduceEq, Int.reduceNe, Int.reduceBEq, Int.reduceBNe, Int.reduceAdd, Int.reduceSub, Int.reduceNeg, decide_true, decide_false, Int.reduceToNat, wl0, wl1, wl2, wl3, wl4, wl5, wl6, wl7, wl8, wl9, wl10]
    first
      | refine ⟨by unfold maxLen; omega, ?_⟩
      | refine ⟨⟨by unfold maxLen; omega, by omega⟩, ?_⟩
      | skip
    refine awpL_step (aw_ok _ ?_)
    simp only [go_sem, Nat.reduceGT, Nat.reducePow, Nat.reduceLT, ↓reduceIte, Nat.reduceAdd, Nat.reduceMul, Nat.reduceSub, Nat.reduceMod, Nat.reduceLeDiff, Nat.reduceEqDiff, Nat.reduceBEq, reduceCtorEq, Int.reduceLT, Int.reduceLE, Int.reduceGT, Int.reduceGE, Int.reduceEq, Int.reduceNe, Int.reduceBEq, Int.reduceBNe, Int.reduceAdd, Int.reduceSub, Int.reduceNeg, decide_true, decide_false, Int.reduceToNat, wl0, wl1, wl2, wl3, wl4, wl5, wl6, wl7, wl8, wl9, wl10]
    refine ⟨_, cSrc 6 (by decide) (by decide), ?_⟩
    simp only [go_sem, Nat.reduceGT, Nat.reducePow, Nat.reduceLT, ↓reduceIte, Nat.reduceAdd, Nat.reduceMul, Nat.reduceSub, Nat.reduceMod, Nat.reduceLeDiff, Nat.reduceEqDiff, Nat.reduceBEq, reduceCtorEq, Int.reduceLT, Int.reduceLE, Int.reduceGT, Int.reduceGE, Int.reduceEq, Int.reduceNe, Int.reduceBEq, Int.reduceBNe, Int.reduceAdd, Int.reduceSub, Int.reduceNeg, decide_true, decide_false, Int.reduceToNat, wl0, wl1, wl2, wl3, wl4, wl5, wl6, wl7, wl8, wl9, wl10]
    refine ⟨_, cSrc 7 (by decide) (by decide), ?_⟩
    simp only [go_sem, Nat.reduceGT, Nat.reducePow, Nat.reduceLT, ↓reduceIte, Nat.reduceAdd, Nat.reduceMul, Nat.reduceSub, Nat.reduceMod, Nat.reduceLeDiff, Nat.reduceEqDiff, Nat.reduceBEq, reduceCtorEq, Int.reduceLT, Int.reduceLE, Int.reduceGT, Int.reduceGE, Int.reduceEq, Int.reduceNe, Int.reduceBEq, Int.reduceBNe, Int.reduceAdd, Int.reduceSub, Int.reduceNeg, decide_true, decide_false, Int.reduceToNat, wl0, wl1, wl2, wl3, wl4, wl5, wl6, wl7, wl8, wl9, wl10]
    first
      | refine ⟨by unfold maxLen; omega, ?_⟩
      | refine ⟨⟨by unfold maxLen; omega, by omega⟩, ?_⟩
      | skip
    refine awpL_step (aw_ok _ ?_)
    simp only [go_sem, Nat.reduceGT, Nat.reducePow, Nat.reduceLT, ↓reduceIte, Nat.reduceAdd, Nat.reduceMul, Nat.reduceSub, Nat.reduceMod, Nat.reduceLeDiff, Nat.reduceEqDiff, Nat.reduceBEq, reduceCtorEq, Int.reduceLT, Int.reduceLE, Int.reduceGT, Int.reduceGE, Int.reduceEq, Int.reduceNe, Int.reduceBEq, Int.reduceBNe, Int.reduceAdd, Int.reduceSub, Int.reduceNeg, decide_true, decide_false, Int.reduceToNat, wl0, wl1, wl2, wl3, wl4, wl5, wl6, wl7, wl8, wl9, wl10]
    refine ⟨_, cSrc 7 (by decide) (by decide), ?_⟩
    simp only [go_sem, Nat.reduceGT, Nat.reducePow, Nat.reduceLT, ↓reduceIte, Nat.reduceAdd, Nat.reduceMul, Nat.reduceSub, Nat.reduceMod, Nat.reduceLeDiff, Nat.reduceEqDiff, Nat.reduceBEq, reduceCtorEq, Int.reduceLT, Int.reduceLE, Int.reduceGT, Int.reduceGE, Int.reduceEq, Int.reduceNe, Int.reduceBEq, Int.reduceBNe, Int.reduceAdd, Int.reduceSub, Int.reduceNeg, decide_true, decide_false, Int.reduceToNat, wl0, wl1, wl2, wl3, wl4, wl5, wl6, wl7, wl8, wl9, wl10]
    first
      | refine ⟨by unfold maxLen; omega, ?_⟩
      | refine ⟨⟨by unfold maxLen; omega, by omega⟩, ?_⟩
      | skip
    refine awpL_step (aw_ok _ ?_)
    simp only [go_sem, Nat.reduceGT, Nat.reducePow, Nat.reduceLT, ↓reduceIte, Nat.reduceAdd, Nat.reduceMul, Nat.reduceSub, Nat.reduceMod, Nat.reduceLeDiff, Nat.reduceEqDiff, Nat.reduceBEq, reduceCtorEq, Int.reduceLT, Int.reduceLE, Int.reduceGT, Int.reduceGE, Int.reduceEq, Int.reduceNe, Int.reduceBEq, Int.reduceBNe, Int.reduceAdd, Int.reduceSub, Int.reduceNeg, decide_true, decide_false, Int.reduceToNat, wl0, wl1, wl2, wl3, wl4, wl5, wl6, wl7, wl8, wl9, wl10]
    refine lcall_lend ?_
    simp only [go_sem, Nat.reduceGT, Nat.reducePow, Nat.reduceLT, ↓reduceIte, Nat.reduceAdd, Nat.reduceMul, Nat.reduceSub, Nat.reduceMod, Nat.reduceLeDiff, Nat.reduceEqDiff, Nat.reduceBEq, reduceCtorEq, Int.reduceLT, Int.reduceLE, Int.reduceGT, Int.reduceGE, Int.reduceEq, Int.reduceNe, Int.reduceBEq, Int.reduceBNe, Int.reduceAdd, Int.reduceSub, Int.reduceNeg, decide_true, decide_false, Int.reduceToNat, wl0, wl1, wl2, wl3, wl4, wl5, wl6, wl7, wl8, wl9, wl10]
    refine ⟨_, cpure_as (.cons (as_impAgg (ys := [.t (tmedia []), .t (tseqs (nProj 8).seqs)]) ⟨as_imp imp_nil, as_imp (imp_list (impR_cons (nRow1 0 1 _ _) (impR_cons (nRow1 1 2 _ _) (impR_cons (nRow1 2 3 _ _) (impR_cons (nRow1 3 4 _ _) (impR_cons (nRow1 4 5 _ _) (impR_cons (nRow1 5 6 _ _) (impR_cons (nRow1 6 7 _ _) (impR_cons (nRow0 7) impR_nil))))))))), trivial⟩) .nil) (cValid (nProj 8) (nProj_fit 8)), ?_⟩
    rw [show validP (nProj 8) = 18 from nOk 8 (by decide) (by decide)]
    simp only [go_sem, Nat.reduceGT, Nat.reducePow, Nat.reduceLT, ↓reduceIte, Nat.reduceAdd, Nat.reduceMul, Nat.reduceSub, Nat.reduceMod, Nat.reduceLeDiff, Nat.reduceEqDiff, Nat.reduceBEq, reduceCtorEq, Int.reduceLT, Int.reduceLE, Int.reduceGT, Int.reduceGE, Int.reduceEq, Int.reduceNe, Int.reduceBEq, Int.reduceBNe, Int.reduceAdd, Int.reduceSub, Int.reduceNeg, decide_true, decide_false, Int.reduceToNat, wl0, wl1, wl2, wl3, wl4, wl5, wl6, wl7, wl8, wl9, wl10]
    refine drawC_of 18 .done rfl (by kernel_rfl) (by kernel_rfl) (by decide) ?_
    simp only [go_sem, Nat.reduceGT, Nat.reducePow, Nat.reduceLT, ↓reduceIte, Nat.reduceAdd, Nat.reduceMul, Nat.reduceSub, Nat.reduceMod, Nat.reduceLeDiff, Nat.reduceEqDiff, Nat.reduceBEq, reduceCtorEq, Int.reduceLT, Int.reduceLE, Int.reduceGT, Int.reduceGE, Int.reduceEq, Int.reduceNe, Int.reduceBEq, Int.reduceBNe, Int.reduceAdd, Int.reduceSub, Int.reduceNeg, decide_true, decide_false, Int.reduceToNat, wl0, wl1, wl2, wl3, wl4, wl5, wl6, wl7, wl8, wl9, wl10]
    obtain ⟨j, hj, hje⟩ := nJ 8 8 rfl (by decide) (by decide) back
    rw [hje]
    refine ⟨_, cSrc j (by omega) (by omega), ?_⟩
    simp only [go_sem, Nat.reduceGT, Nat.reducePow, Nat.reduceLT, ↓reduceIte, Nat.reduceAdd, Nat.reduceMul, Nat.reduceSub, Nat.reduceMod, Nat.reduceLeDiff, Nat.reduceEqDiff, Nat.reduceBEq, reduceCtorEq, Int.reduceLT, Int.reduceLE, Int.reduceGT, Int.reduceGE, Int.reduceEq, Int.reduceNe, Int.reduceBEq, Int.reduceBNe, Int.reduceAdd, Int.reduceSub, Int.reduceNeg, decide_true, decide_false, Int.reduceToNat, wl0, wl1, wl2, wl3, wl4, wl5, wl6, wl7, wl8, wl9, wl10]
    refine ⟨by decide, by kernel_rfl, ?_⟩
    refine lcall_lend ?_
    simp only [go_sem, Nat.reduceGT, Nat.reducePow, Nat.reduceLT, ↓reduceIte, Nat.reduceAdd, Nat.reduceMul, Nat.reduceSub, Nat.reduceMod, Nat.reduceLeDiff, Nat.reduceEqDiff, Nat.reduceBEq, reduceCtorEq, Int.reduceLT, Int.reduceLE, Int.reduceGT, Int.reduceGE, Int.reduceEq, Int.reduceNe, Int.reduceBEq, Int.reduceBNe, Int.reduceAdd, Int.reduceSub, Int.reduceNeg, decide_true, decide_false, Int.reduceToNat, wl0, wl1, wl2, wl3, wl4, wl5, wl6, wl7, wl8, wl9, wl10, tRows, nthV, nth, Option.getD_some, List.getElem?_cons_zero, List.getElem?_cons_succ, List.map_cons, List.map_nil, List.set_cons_zero, List.set_cons_succ]
    refine ⟨_, cpure_as (.cons (as_impAgg (ys := [.t (tmedia []), .t (tseqs (nProj2 8 (j : Nat)).seqs)]) ⟨as_imp imp_nil, as_imp (imp_list (impR_cons (nRow1 0 1 _ _) (impR_cons (nRow1 1 2 _ _) (impR_cons (nRow1 2 3 _ _) (impR_cons (nRow1 3 4 _ _) (impR_cons (nRow1 4 5 _ _) (impR_cons (nRow1 5 6 _ _) (impR_cons (nRow1 6 7 _ _) (impR_cons (nRow1 7 j _ _) impR_nil))))))))), trivial⟩) .nil) (cValid (nProj2 8 (j : Nat)) (nProj2_fit 8 (j : Nat))), ?_⟩
    rw [nCyc 8 (by decide) j hj]
    simp only [go_sem, Nat.reduceGT, Nat.reducePow, Nat.reduceLT, ↓reduceIte, Nat.reduceAdd, Nat.reduceMul, Nat.reduceSub, Nat.reduceMod, Nat.reduceLeDiff, Nat.reduceEqDiff, Nat.reduceBEq, reduceCtorEq, Int.reduceLT, Int.reduceLE, Int.reduceGT, Int.reduceGE, Int.reduceEq, Int.reduceNe, Int.reduceBEq, Int.reduceBNe, Int.reduceAdd, Int.reduceSub, Int.reduceNeg, decide_true, decide_false, Int.reduceToNat, wl0, wl1, wl2, wl3, wl4, wl5, wl6, wl7, wl8, wl9, wl10]
    refine ⟨_, cAwake, ?_⟩
    simp only [go_sem, Nat.reduceGT, Nat.reducePow, Nat.reduceLT, ↓reduceIte, Nat.reduceAdd, Nat.reduceMul, Nat.reduceSub, Nat.reduceMod, Nat.reduceLeDiff, Nat.reduceEqDiff, Nat.reduceBEq, reduceCtorEq, Int.reduceLT, Int.reduceLE, Int.reduceGT, Int.reduceGE, Int.reduceEq, Int.reduceNe, Int.reduceBEq, Int.reduceBNe, Int.reduceAdd, Int.reduceSub, Int.reduceNeg, decide_true, decide_false, Int.reduceToNat]
  · refine awp_loopL ?_
    refine awpL_step (aw_ok _ ?_)
    simp only [go_sem, Nat.reduceGT, Nat.reducePow, Nat.reduceLT, ↓reduceIte, Nat.reduceAdd, Nat.reduceMul, Nat.reduceSub, Nat.reduceMod, Nat.reduceLeDiff, Nat.reduceEqDiff, Nat.reduceBEq, reduceCtorEq, Int.reduceLT, Int.reduceLE, Int.reduceGT, Int.reduceGE, Int.reduceEq, Int.reduceNe, Int.reduceBEq, Int.reduceBNe, Int.reduceAdd, Int.reduceSub, Int.reduceNeg, decide_true, decide_false, Int.reduceToNat, wl0, wl1, wl2, wl3, wl4, wl5, wl6, wl7, wl8, wl9, wl10]
    refine ⟨_, cSrc 0 (by decide) (by decide), ?_⟩
    simp only [go_sem, Nat.reduceGT, Nat.reducePow, Nat.reduceLT, ↓reduceIte, Nat.reduceAdd, Nat.reduceMul, Nat.reduceSub, Nat.reduceMod, Nat.reduceLeDiff, Nat.reduceEqDiff, Nat.reduceBEq, reduceCtorEq, Int.reduceLT, Int.reduceLE, Int.reduceGT, Int.reduceGE, Int.reduceEq, Int.reduceNe, Int.reduceBEq, Int.reduceBNe, Int.reduceAdd, Int.reduceSub, Int.reduceNeg, decide_true, decide_false, Int.reduceToNat, wl0, wl1, wl2, wl3, wl4, wl5, wl6, wl7, wl8, wl9, wl10]
    refine ⟨_, cSrc 1 (by decide) (by decide), ?_⟩
    simp only [go_sem, Nat.reduceGT, Nat.reducePow, Nat.reduceLT, ↓reduceIte, Nat.reduceAdd, Nat.reduceMul, Nat.reduceSub, Nat.reduceMod, Nat.reduceLeDiff, Nat.reduceEqDiff, Nat.reduceBEq, reduceCtorEq, Int.reduceLT, Int.reduceLE, Int.reduceGT, Int.reduceGE, Int.reduceEq, Int.reduceNe, Int.reduceBEq, Int.reduceBNe, Int.reduceAdd, Int.reduceSub, Int.reduceNeg, decide_true, decide_false, Int.reduceToNat, wl0, wl1, wl2, wl3, wl4, wl5, wl6, wl7, wl8, wl9, wl10]
    first
      | refine ⟨by unfold maxLen; omega, ?_⟩
      | refine ⟨⟨by unfold maxLen; omega, by omega⟩, ?_⟩
      | skip
    refine awpL_step (aw_ok _ ?_)
    simp only [go_sem, Nat.reduceGT, Nat.reducePow, Nat.reduceLT, ↓reduceIte, Nat.reduceAdd, Nat.reduceMul, Nat.reduceSub, Nat.reduceMod, Nat.reduceLeDiff, Nat.reduceEqDiff, Nat.reduceBEq, reduceCtorEq, Int.reduceLT, Int.reduceLE, Int.reduceGT, Int.reduceGE, Int.reduceEq, Int.reduceNe, Int.reduceBEq, Int.reduceBNe, Int.reduceAdd, Int.reduceSub, Int.reduceNeg, decide_true, decide_false, Int.reduceToNat, wl0, wl1, wl2, wl3, wl4, wl5, wl6, wl7, wl8, wl9, wl10]
    refine ⟨_, cSrc 1 (by decide) (by decide), ?_⟩
    simp only [go_sem, Nat.reduceGT, Nat.reducePow, Nat.reduceLT, ↓reduceIte, Nat.reduceAdd, Nat.reduceMul, Nat.reduceSub, Nat.reduceMod, Nat.reduceLeDiff, Nat.reduceEqDiff, Nat.reduceBEq, reduceCtorEq, Int.reduceLT, Int.reduceLE, Int.reduceGT, Int.reduceGE, Int.reduceEq, Int.reduceNe, Int.reduceBEq, Int.reduceBNe, Int.reduceAdd, Int.reduceSub, Int.reduceNeg, decide_true, decide_false, Int.reduceToNat, wl0, wl1, wl2, wl3, wl4, wl5, wl6, wl7, wl8, wl9, wl10]
    refine ⟨_, cSrc 2 (by decide) (by decide), ?_⟩
    simp only [go_sem, Nat.reduceGT, Nat.reducePow, Nat.reduceLT, ↓reduceIte, Nat.reduceAdd, Nat.reduceMul, Nat.reduceSub, Nat.reduceMod, Nat.reduceLeDiff, Nat.reduceEqDiff, Nat.reduceBEq, reduceCtorEq, Int.reduceLT, Int.reduceLE, Int.reduceGT, Int.reduceGE, Int.reduceEq, Int.reduceNe, Int.reduceBEq, Int.reduceBNe, Int.reduceAdd, Int.reduceSub, Int.reduceNeg, decide_true, decide_false, Int.reduceToNat, wl0, wl1, wl2, wl3, wl4, wl5, wl6, wl7, wl8, wl9, wl10]
    first
      | refine ⟨by unfold maxLen; omega, ?_⟩
      | refine ⟨⟨by unfold maxLen; omega, by omega⟩, ?_⟩
      | skip
    refine awpL_step (aw_ok _ ?_)
    simp only [go_sem, Nat.reduceGT, Nat.reducePow, Nat.reduceLT, ↓reduceIte, Nat.reduceAdd, Nat.reduceMul, Nat.reduceSub, Nat.reduceMod, Nat.reduceLeDiff, Nat.reduceEqDiff, Nat.reduceBEq, reduceCtorEq, Int.reduceLT, Int.reduceLE, Int.reduceGT, Int.reduceGE, Int.reduceEq, Int.reduceNe, Int.reduceBEq, Int.reduceBNe, Int.reduceAdd, Int.reduceSub, Int.reduceNeg, decide_true, decide_false, Int.reduceToNat, wl0, wl1, wl2, wl3, wl4, wl5, wl6, wl7, wl8, wl9, wl10]
    refine ⟨_, cSrc 2 (by decide) (by decide), ?_⟩
    simp only [go_sem, Nat.reduceGT, Nat.reducePow, Nat.reduceLT, ↓reduceIte, Nat.reduceAdd, Nat.reduceMul, Nat.reduceSub, Nat.reduceMod, Nat.reduceLeDiff, Nat.reduceEqDiff, Nat.reduceBEq, reduceCtorEq, Int.reduceLT, Int.reduceLE, Int.reduceGT, Int.reduceGE, Int.reduceEq, Int.reduceNe, Int.reduceBEq, Int.reduceBNe, Int.reduceAdd, Int.reduceSub, Int.reduceNeg, decide_true, decide_false, Int.reduceToNat, wl0, wl1, wl2, wl3, wl4, wl5, wl6, wl7, wl8, wl9, wl10]
    refine ⟨_, cSrc 3 (by decide) (by decide), ?_⟩
    simp only [go_sem, Nat.reduceGT, Nat.reducePow, Nat.reduceLT, ↓reduceIte, Nat.reduceAdd, Nat.reduceMul, Nat.reduceSub, Nat.reduceMod, Nat.reduceLeDiff, Nat.reduceEqDiff, Nat.reduceBEq, reduceCtorEq, Int.reduceLT, Int.reduceLE, Int.reduceGT, Int.reduceGE, Int.reduceEq, Int.reduceNe, Int.reduceBEq, Int.reduceBNe, Int.reduceAdd, Int.reduceSub, Int.reduceNeg, decide_true, decide_false, Int.reduceToNat, wl0, wl1, wl2, wl3, wl4, wl5, wl6, wl7, wl8, wl9, wl10]
    first
      | refine ⟨by unfold maxLen; omega, ?_⟩
      | refine ⟨⟨by unfold maxLen; omega, by omega⟩, ?_⟩
      | skip
    refine awpL_step (aw_ok _ ?_)
    simp only [go_sem, Nat.reduceGT, Nat.reducePow, Nat.reduceLT, ↓reduceIte, Nat.reduceAdd, Nat.reduceMul, Nat.reduceSub, Nat.reduceMod, Nat.reduceLeDiff, Nat.reduceEqDiff, Nat.reduceBEq, reduceCtorEq, Int.reduceLT, Int.reduceLE, Int.reduceGT, Int.reduceGE, Int.reduceEq, Int.reduceNe, Int.reduceBEq, Int.reduceBNe, Int.reduceAdd, Int.reduceSub, Int.reduceNeg, decide_true, decide_false, Int.reduceToNat, wl0, wl1, wl2, wl3, wl4, wl5, wl6, wl7, wl8, wl9, wl10]
    refine ⟨_, cSrc 3 (by decide) (by decide), ?_⟩
    simp only [go_sem, Nat.reduceGT, Nat.reducePow, Nat.reduceLT, ↓reduceIte, Nat.reduceAdd, Nat.reduceMul, Nat.reduceSub, Nat.reduceMod, Nat.reduceLeDiff, Nat.reduceEqDiff, Nat.reduceBEq, reduceCtorEq, Int.reduceLT, Int.reduceLE, Int.reduceGT, Int.reduceGE, Int.reduceEq, Int.reduceNe, Int.reduceBEq, Int.reduceBNe, Int.reduceAdd, Int.reduceSub, Int.reduceNeg, decide_true, decide_false, Int.reduceToNat, wl0, wl1, wl2, wl3, wl4, wl5, wl6, wl7, wl8, wl9, wl10]
    refine ⟨_, cSrc 4 (by decide) (by decide), ?_⟩
    simp only [go_sem, Nat.reduceGT, Nat.reducePow, Nat.reduceLT, ↓reduceIte, Nat.reduceAdd, Nat.reduceMul, Nat.reduceSub, Nat.reduceMod, Nat.reduceLeDiff, Nat.reduceEqDiff, Nat.reduceBEq, reduceCtorEq, Int.reduceLT, Int.reduceLE, Int.reduceGT, Int.reduceGE, Int.reduceEq, Int.reduceNe, Int.reduceBEq, Int.reduceBNe, Int.reduceAdd, Int.reduceSub, Int.reduceNeg, decide_true, decide_false, Int.reduceToNat, wl0, wl1, wl2, wl3, wl4, wl5, wl6, wl7, wl8, wl9, wl10]
    first
      | refine ⟨by unfold maxLen; omega, ?_⟩
      | refine ⟨⟨by unfold maxLen; omega, by omega⟩, ?_⟩
      | skip
    refine awpL_step (aw_ok _ ?_)
    simp only [go_sem, Nat.reduceGT, Nat.reducePow, Nat.reduceLT, ↓reduceIte, Nat.reduceAdd, Nat.reduceMul, Nat.reduceSub, Nat.reduceMod, Nat.reduceLeDiff, Nat.reduceEqDiff, Nat.reduceBEq, reduceCtorEq, Int.reduceLT, Int.reduceLE, Int.reduceGT, Int.reduceGE, Int.reduceEq, Int.reduceNe, Int.reduceBEq, Int.reduceBNe, Int.reduceAdd, Int.reduceSub, Int.reduceNeg, decide_true, decide_false, Int.reduceToNat, wl0, wl1, wl2, wl3, wl4, wl5, wl6, wl7, wl8, wl9, wl10]
    refine ⟨_, cSrc 4 (by decide) (by decide), ?_⟩
    simp only [go_sem, Nat.reduceGT, Nat.reducePow, Nat.reduceLT, ↓reduceIte, Nat.reduceAdd, Nat.reduceMul, Nat.reduceSub, Nat.reduceMod, Nat.reduceLeDiff, Nat.reduceEqDiff, Nat.reduceBEq, reduceCtorEq, Int.reduceLT, Int.reduceLE, Int.reduceGT, Int.reduceGE, Int.reduceEq, Int.reduceNe, Int.reduceBEq, Int.reduceBNe, Int.reduceAdd, Int.reduceSub, Int.reduceNeg, decide_true, decide_false, Int.reduceToNat, wl0, wl1, wl2, wl3, wl4, wl5, wl6, wl7, wl8, wl9, wl10]
    refine ⟨_, cSrc 5 (by decide) (by decide), ?_⟩
    simp only [go_sem, Nat.reduceGT, Nat.reducePow, Nat.reduceLT, ↓reduceIte, Nat.reduceAdd, Nat.reduceMul, Nat.reduceSub, Nat.reduceMod, Nat.reduceLeDiff, Nat.reduceEqDiff, Nat.reduceBEq, reduceCtorEq, Int.reduceLT, Int.reduceLE, Int.reduceGT, Int.reduceGE, Int.reduceEq, Int.reduceNe, Int.reduceBEq, Int.reduceBNe, Int.reduceAdd, Int.reduceSub, Int.reduceNeg, decide_true, decide_false, Int.reduceToNat, wl0, wl1, wl2, wl3, wl4, wl5, wl6, wl7, wl8, wl9, wl10]
    first
      | refine ⟨by unfold maxLen; omega, ?_⟩
      | refine ⟨⟨by unfold maxLen; omega, by omega⟩, ?_⟩
      | skip
    refine awpL_step (aw_ok _ ?_)
    simp only [go_sem, Nat.reduceGT, Nat.reducePow, Nat.reduceLT, ↓reduceIte, Nat.reduceAdd, Nat.reduceMul, Nat.reduceSub, Nat.reduceMod, Nat.reduceLeDiff, Nat.reduceEqDiff, Nat.reduceBEq, reduceCtorEq, Int.reduceLT, Int.reduceLE, Int.reduceGT, Int.reduceGE, Int.reduceEq, Int.reduceNe, Int.reduceBEq, Int.reduceBNe, Int.reduceAdd, Int.reduceSub, Int.reduceNeg, decide_true, decide_false, Int.reduceToNat, wl0, wl1, wl2, wl3, wl4, wl5, wl6, wl7, wl8, wl9, wl10]
    refine ⟨_, cSrc 5 (by decide) (by decide), ?_⟩
    simp only [go_sem, Nat.reduceGT, Nat.reducePow, Nat.reduceLT, ↓reduceIte, Nat.reduceAdd, Nat.reduceMul, Nat.reduceSub, Nat.reduceMod, Nat.reduceLeDiff, Nat.reduceEqDiff, Nat.reduceBEq, reduceCtorEq, Int.reduceLT, Int.reduceLE, Int.reduceGT, Int.reduceGE, Int.reduceEq, Int.reduceNe, Int.reduceBEq, Int.reduceBNe, Int.reduceAdd, Int.reduceSub, Int.reduceNeg, decide_true, decide_false, Int.reduceToNat, wl0, wl1, wl2, wl3, wl4, wl5, wl6, wl7, wl8, wl9, wl10]
    refine ⟨_, cSrc 6 (by decide) (by decide), ?_⟩
    simp only [go_sem, Nat.reduceGT, Nat.reducePow, Nat.reduceLT, ↓reduceIte, Nat.reduceAdd, Nat.reduceMul, Nat.reduceSub, Nat.reduceMod, Nat.reduceLeDiff, Nat.reduceEqDiff, Nat.reduceBEq, reduceCtorEq, Int.reduceLT, Int.reduceLE, Int.reduceGT, Int.reduceGE, Int.reduceEq, Int.reduceNe, Int.reduceBEq, Int.reduceBNe, Int.reduceAdd, Int.reduceSub, Int.reduceNeg, decide_true, decide_false, Int.reduceToNat, wl0, wl1, wl2, wl3, wl4, wl5, wl6, wl7, wl8, wl9, wl10]
    first
      | refine ⟨by unfold maxLen; omega, ?_⟩
      | refine ⟨⟨by unfold maxLen; omega, by omega⟩, ?_⟩
      | skip
    refine awpL_step (aw_ok _ ?_)
    simp only [go_sem, Nat.reduceGT, Nat.reducePow, Nat.reduceLT, ↓reduceIte, Nat.reduceAdd, Nat.reduceMul, Nat.reduceSub, Nat.reduceMod, Nat.reduceLeDiff, Nat.reduceEqDiff, Nat.reduceBEq, reduceCtorEq, Int.reduceLT, Int.reduceLE, Int.reduceGT, Int.reduceGE, Int.reduceEq, Int.reduceNe, Int.reduceBEq, Int.reduceBNe, Int.reduceAdd, Int.reduceSub, Int.reduceNeg, decide_true, decide_false, Int.reduceToNat, wl0, wl1, wl2, wl3, wl4, wl5, wl6, wl7, wl8, wl9, wl10]
    refine ⟨_, cSrc 6 (by decide) (by decide), ?_⟩
    simp only [go_sem, Nat.reduceGT, Nat.reducePow, Nat.reduceLT, ↓reduceIte, Nat.reduceAdd, Nat.reduceMul, Nat.reduceSub, Nat.reduceMod, Nat.reduceLeDiff, Nat.reduceEqDiff, Nat.reduceBEq, reduceCtorEq, Int.reduceLT, Int.reduceLE, Int.reduceGT, Int.reduceGE, Int.reduceEq, Int.reduceNe, Int.reduceBEq, Int.reduceBNe, Int.reduceAdd, Int.reduceSub, Int.reduceNeg, decide_true, decide_false, Int.reduceToNat, wl0, wl1, wl2, wl3, wl4, wl5, wl6, wl7, wl8, wl9, wl10]
    refine ⟨_, cSrc 7 (by decide) (by decide), ?_⟩
    simp only [go_sem, Nat.reduceGT, Nat.reducePow, Nat.reduceLT, ↓reduceIte, Nat.reduceAdd, Nat.reduceMul, Nat.reduceSub, Nat.reduceMod, Nat.reduceLeDiff, Nat.reduceEqDiff, Nat.reduceBEq, reduceCtorEq, Int.reduceLT, Int.reduceLE, Int.reduceGT, Int.reduceGE, Int.reduceEq, Int.reduceNe, Int.reduceBEq, Int.reduceBNe, Int.reduceAdd, Int.reduceSub, Int.reduceNeg, decide_true, decide_false, Int.reduceToNat, wl0, wl1, wl2, wl3, wl4, wl5, wl6, wl7, wl8, wl9, wl10]
    first
      | refine ⟨by unfold maxLen; omega, ?_⟩
      | refine ⟨⟨by unfold maxLen; omega, by omega⟩, ?_⟩
      | skip
    refine awpL_step (aw_ok _ ?_)
    simp only [go_sem, Nat.reduceGT, Nat.reducePow, Nat.reduceLT, ↓reduceIte, Nat.reduceAdd, Nat.reduceMul, Nat.reduceSub, Nat.reduceMod, Nat.reduceLeDiff, Nat.reduceEqDiff, Nat.reduceBEq, reduceCtorEq, Int.reduceLT, Int.reduceLE, Int.reduceGT, Int.reduceGE, Int.reduceEq, Int.reduceNe, Int.reduceBEq, Int.reduceBNe, Int.reduceAdd, Int.reduceSub, Int.reduceNeg, decide_true, decide_false, Int.reduceToNat, wl0, wl1, wl2, wl3, wl4, wl5, wl6, wl7, wl8, wl9, wl10]
    refine ⟨_, cSrc 7 (by decide) (by decide), ?_⟩
    simp only [go_sem, Nat.reduceGT, Nat.reducePow, Nat.reduceLT, ↓reduceIte, Nat.reduceAdd, Nat.reduceMul, Nat.reduceSub, Nat.reduceMod, Nat.reduceLeDiff, Nat.reduceEqDiff, Nat.reduceBEq, reduceCtorEq, Int.reduceLT, Int.reduceLE, Int.reduceGT, Int.reduceGE, Int.reduceEq, Int.reduceNe, Int.reduceBEq, Int.reduceBNe, Int.reduceAdd, Int.reduceSub, Int.reduceNeg, decide_true, decide_false, Int.reduceToNat, wl0, wl1, wl2, wl3, wl4, wl5, wl6, wl7, wl8, wl9, wl10]
    refine ⟨_, cSrc 8 (by decide) (by decide), ?_⟩
    simp only [go_sem, Nat.reduceGT, Nat.reducePow, Nat.reduceLT, ↓reduceIte, Nat.reduceAdd, Nat.reduceMul, Nat.reduceSub, Nat.reduceMod, Nat.reduceLeDiff, Nat.reduceEqDiff, Nat.reduceBEq, reduceCtorEq, Int.reduceLT, Int.reduceLE, Int.reduceGT, Int.reduceGE, Int.reduceEq, Int.reduceNe, Int.reduceBEq, Int.reduceBNe, Int.reduceAdd, Int.reduceSub, Int.reduceNeg, decide_true, decide_false, Int.reduceToNat, wl0, wl1, wl2, wl3, wl4, wl5, wl6, wl7, wl8, wl9, wl10]
    first
      | refine ⟨by unfold maxLen; omega, ?_⟩
      | refine ⟨⟨by unfold maxLen; omega, by omega⟩, ?_⟩
      | skip
    refine awpL_step (aw_ok _ ?_)
    simp only [go_sem, Nat.reduceGT, Nat.reducePow, Nat.reduceLT, ↓reduceIte, Nat.reduceAdd, Nat.reduceMul, Nat.reduceSub, Nat.reduceMod, Nat.reduceLeDiff, Nat.reduceEqDiff, Nat.reduceBEq, reduceCtorEq, Int.reduceLT, Int.reduceLE, Int.reduceGT, Int.reduceGE, Int.reduceEq, Int.reduceNe, Int.reduceBEq, Int.reduceBNe, Int.reduceAdd, Int.reduceSub, Int.reduceNeg, decide_true, decide_false, Int.reduceToNat, wl0, wl1, wl2, wl3, wl4, wl5, wl6, wl7, wl8, wl9, wl10]
    refine ⟨_, cSrc 8 (by decide) (by decide), ?_⟩
    simp only [go_sem, Nat.reduceGT, Nat.reducePow, Nat.reduceLT, ↓reduceIte, Nat.reduceAdd, Nat.reduceMul, Nat.reduceSub, Nat.reduceMod, Nat.reduceLeDiff, Nat.reduceEqDiff, Nat.reduceBEq, reduceCtorEq, Int.reduceLT, Int.reduceLE, Int.reduceGT, Int.reduceGE, Int.reduceEq, Int.reduceNe, Int.reduceBEq, Int.reduceBNe, Int.reduceAdd, Int.reduceSub, Int.reduceNeg, decide_true, decide_false, Int.reduceToNat, wl0, wl1, wl2, wl3, wl4, wl5, wl6, wl7, wl8, wl9, wl10]
    first
      | refine ⟨by unfold maxLen; omega, ?_⟩
      | refine ⟨⟨by unfold maxLen; omega, by omega⟩, ?_⟩
      | skip
    refine awpL_step (aw_ok _ ?_)
    simp only [go_sem, Nat.reduceGT, Nat.reducePow, Nat.reduceLT, ↓reduceIte, Nat.reduceAdd, Nat.reduceMul, Nat.reduceSub, Nat.reduceMod, Nat.reduceLeDiff, Nat.reduceEqDiff, Nat.reduceBEq, reduceCtorEq, Int.reduceLT, Int.reduceLE, Int.reduceGT, Int.reduceGE, Int.reduceEq, Int.reduceNe, Int.reduceBEq, Int.reduceBNe, Int.reduceAdd, Int.reduceSub, Int.reduceNeg, decide_true, decide_false, Int.reduceToNat, wl0, wl1, wl2, wl3, wl4, wl5, wl6, wl7, wl8, wl9, wl10]
    refine lcall_lend ?_
    simp only [go_sem, Nat.reduceGT, Nat.reducePow, Nat.reduceLT, ↓reduceIte, Nat.reduceAdd, Nat.reduceMul, Nat.reduceSub, Nat.reduceMod, Nat.reduceLeDiff, Nat.reduceEqDiff, Nat.reduceBEq, reduceCtorEq, Int.reduceLT, Int.reduceLE, Int.reduceGT, Int.reduceGE, Int.reduceEq, Int.reduceNe, Int.reduceBEq, Int.reduceBNe, Int.reduceAdd, Int.reduceSub, Int.reduceNeg, decide_true, decide_false, Int.reduceToNat, wl0, wl1, wl2, wl3, wl4, wl5, wl6, wl7, wl8, wl9, wl10]
    refine ⟨_, cpure_as (.cons (as_impAgg (ys := [.t (tmedia []), .t (tseqs (nProj 9).seqs)]) ⟨as_imp imp_nil, as_imp (imp_list (impR_cons (nRow1 0 1 _ _) (impR_cons (nRow1 1 2 _ _) (impR_cons (nRow1 2 3 _ _) (impR_cons (nRow1 3 4 _ _) (impR_cons (nRow1 4 5 _ _) (impR_cons (nRow1 5 6 _ _) (impR_cons (nRow1 6 7 _ _) (impR_cons (nRow1 7 8 _ _) (impR_cons (nRow0 8) impR_nil)))))))))), trivial⟩) .nil) (cValid (nProj 9) (nProj_fit 9)), ?_⟩
    rw [show validP (nProj 9) = 18 from nOk 9 (by decide) (by decide)]
    simp only [go_sem, Nat.reduceGT, Nat.reducePow, Nat.reduceLT, ↓reduceIte, Nat.reduceAdd, Nat.reduceMul, Nat.reduceSub, Nat.reduceMod, Nat.reduceLeDiff, Nat.reduceEqDiff, Nat.reduceBEq, reduceCtorEq, Int.reduceLT, Int.reduceLE, Int.reduceGT, Int.reduceGE, Int.reduceEq, Int.reduceNe, Int.reduceBEq, Int.reduceBNe, Int.reduceAdd, Int.reduceSub, Int.reduceNeg, decide_true, decide_false, Int.reduceToNat, wl0, wl1, wl2, wl3, wl4, wl5, wl6, wl7, wl8, wl9, wl10]
    refine drawC_of 18 .done rfl (by kernel_rfl) (by kernel_rfl) (by decide) ?_
    simp only [go_sem, Nat.reduceGT, Nat.reducePow, Nat.reduceLT, ↓reduceIte, Nat.reduceAdd, Nat.reduceMul, Nat.reduceSub, Nat.reduceMod, Nat.reduceLeDiff, Nat.reduceEqDiff, Nat.reduceBEq, reduceCtorEq, Int.reduceLT, Int.reduceLE, Int.reduceGT, Int.reduceGE, Int.reduceEq, Int.reduceNe, Int.reduceBEq, Int.reduceBNe, Int.reduceAdd, Int.reduceSub, Int.reduceNeg, decide_true, decide_false, Int.reduceToNat, wl0, wl1, wl2, wl3, wl4, wl5, wl6, wl7, wl8, wl9, wl10]
    obtain ⟨j, hj, hje⟩ := nJ 9 9 rfl (by decide) (by decide) back
    rw [hje]
    refine ⟨_, cSrc j (by omega) (by omega), ?_⟩
    simp only [go_sem, Nat.reduceGT, Nat.reducePow, Nat.reduceLT, ↓reduceIte, Nat.reduceAdd, Nat.reduceMul, Nat.reduceSub, Nat.reduceMod, Nat.reduceLeDiff, Nat.reduceEqDiff, Nat.reduceBEq, reduceCtorEq, Int.reduceLT, Int.reduceLE, Int.reduceGT, Int.reduceGE, Int.reduceEq, Int.reduceNe, Int.reduceBEq, Int.reduceBNe, Int.reduceAdd, Int.reduceSub, Int.reduceNeg, decide_true, decide_false, Int.reduceToNat, wl0, wl1, wl2, wl3, wl4, wl5, wl6, wl7, wl8, wl9, wl10]
    refine ⟨by decide, by kernel_rfl, ?_⟩
    refine lcall_lend ?_
    simp only [go_sem, Nat.reduceGT, Nat.reducePow, Nat.reduceLT, ↓reduceIte, Nat.reduceAdd, Nat.reduceMul, Nat.reduceSub, Nat.reduceMod, Nat.reduceLeDiff, Nat.reduceEqDiff, Nat.reduceBEq, reduceCtorEq, Int.reduceLT, Int.reduceLE, Int.reduceGT, Int.reduceGE, Int.reduceEq, Int.reduceNe, Int.reduceBEq, Int.reduceBNe, Int.reduceAdd, Int.reduceSub, Int.reduceNeg, decide_true, decide_false, Int.reduceToNat, wl0, wl1, wl2, wl3, wl4, wl5, wl6, wl7, wl8, wl9, wl10, tRows, nthV, nth, Option.getD_some, List.getElem?_cons_zero, List.getElem?_cons_succ, List.map_cons, List.map_nil, List.set_cons_zero, List.set_cons_succ]
    refine ⟨_, cpure_as (.cons (as_impAgg (ys := [.t (tmedia []), .t (tseqs (nProj2 9 (j : Nat)).seqs)]) ⟨as_imp imp_nil, as_imp (imp_list (impR_cons (nRow1 0 1 _ _) (impR_cons (nRow1 1 2 _ _) (impR_cons (nRow1 2 3 _ _) (impR_cons (nRow1 3 4 _ _) (impR_cons (nRow1 4 5 _ _) (impR_cons (nRow1 5 6 _ _) (impR_cons (nRow1 6 7 _ _) (impR_cons (nRow1 7 8 _ _) (impR_cons (nRow1 8 j _ _) impR_nil)))))))))), trivial⟩) .nil) (cValid (nProj2 9 (j : Nat)) (nProj2_fit 9 (j : Nat))), ?_⟩
    rw [nCyc 9 (by decide) j hj]
    simp only [go_sem, Nat.reduceGT, Nat.reducePow, Nat.reduceLT, ↓reduceIte, Nat.reduceAdd, Nat.reduceMul, Nat.reduceSub, Nat.reduceMod, Nat.reduceLeDiff, Nat.reduceEqDiff, Nat.reduceBEq, reduceCtorEq, Int.reduceLT, Int.reduceLE, Int.reduceGT, Int.reduceGE, Int.reduceEq, Int.reduceNe, Int.reduceBEq, Int.reduceBNe, Int.reduceAdd, Int.reduceSub, Int.reduceNeg, decide_true, decide_false, Int.reduceToNat, wl0, wl1, wl2, wl3, wl4, wl5, wl6, wl7, wl8, wl9, wl10]
    refine ⟨_, cAwake, ?_⟩
    simp only [go_sem, Nat.reduceGT, Nat.reducePow, Nat.reduceLT, ↓reduceIte, Nat.reduceAdd, Nat.reduceMul, Nat.reduceSub, Nat.reduceMod, Nat.reduceLeDiff, Nat.reduceEqDiff, Nat.reduceBEq, reduceCtorEq, Int.reduceLT, Int.reduceLE, Int.reduceGT, Int.reduceGE, Int.reduceEq, Int.reduceNe, Int.reduceBEq, Int.reduceBNe, Int.reduceAdd, Int.reduceSub, Int.reduceNeg, decide_true, decide_false, Int.reduceToNat]
end Go.Proofs.Ythjagkcfanikiaa
