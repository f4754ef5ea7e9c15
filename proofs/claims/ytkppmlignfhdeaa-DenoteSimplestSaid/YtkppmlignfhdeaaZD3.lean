/- Proved here: 'DenoteSimplest' returns true, for use in the proofs of the given statements; conditions stand in each theorem. -/
import Derived.Test.YtkppmlignfhdeaaY7
import Derived.Test.YtkppmlignfhdeaaY5
import Derived.Test.YtkppmlignfhdeaaZOE
set_option linter.unusedSimpArgs false
set_option linter.unusedVariables false
set_option linter.unusedSectionVars false
set_option linter.unusedSimpArgs false
set_option linter.unusedVariables false
set_option linter.unnecessarySimpa false
namespace Go.Proofs.Ytkppmlignfhdeaa
open Go.RowKit
set_option maxRecDepth 4000
theorem nth_0 (d : List T) (n : Nat) : nth d [] n = d := by simp [nth]
theorem nth_1b (d a : List T) : nth d [a] 1 = d := rfl
theorem leastE_nil {op : Int} {media : ByteArray} {frame num den param : Int} {text : ByteArray} (h : (op == 4) = false) : leastE (.mk op media frame num den param text []) = true := by simp [leastE, leastEs, h]
theorem leastE_one {op : Int} {media : ByteArray} {frame num den param : Int} {text : ByteArray} {a : ExprR} (h : (op == 4) = false) : leastE (.mk op media frame num den param text [a]) = leastE a := by simp [leastE, leastEs, h]
theorem leastE_two {op : Int} {media : ByteArray} {frame num den param : Int} {text : ByteArray} {a b : ExprR} : leastE (.mk op media frame num den param text [a, b]) = (!(eqE a b || (op == 4 && opE a == 0)) && (leastE a && leastE b)) := by simp [leastE, leastEs]
theorem cLeast : ∀ (m : Nat) (e : ExprR), SizeOf.sizeOf e < m → validE e = true → CPure Try.prog 10 [vexpr e] (vbool (leastE e))
  | 0, e, h, _ => absurd h (Nat.not_lt_zero _)
  | m + 1, .mk op media frame num den param text args, hm, hv => by
    obtain ⟨hv1, hv2⟩ := validE_parts hv
    have hl : args.length ≤ 2 := fields_len hv1
    have ih : ∀ e ∈ args, CPure Try.prog 10 [vexpr e] (vbool (leastE e)) := fun e he => cLeast m e (by have := arg_lt he op media frame num den param text; omega) (hv2 e he)
    have h4 : op = 4 → args.length = 2 := fun h => by
      subst h
      have := fields_op4 hv1
      omega
    clear hm
    rw [vexpr_mk]
    match args, hl, ih, h4 with
    | [], _, _, h4 =>
      have h4' : (op == 4) = false := by rw [Bool.eq_false_iff]; intro h; rw [beq_iff_eq] at h; have := h4 h; simp at this
      rw [leastE_nil h4']
      refine cpure_of Try.xen10 Try.func10 rfl Try.ntmps10 (by rw [Try.results10]) (aw_ok _ ?_)
      simp only [go_sem, ↓reduceIte, Nat.reduceSub, Bool.and_true, List.length_nil]
      refine drawR_of [0, 1, 2, 3, 4, 5, 6, 7, 8, 9, 10, 11, 12, 13, 14, 15, 16, 17, 18, 19, 20, 21, 22, 23, 24, 25, 26, 27] .done rfl (by kernel_rfl) (by kernel_rfl) (by decide) ?_
      simp only [go_sem, ↓reduceIte, Nat.reduceAdd, Nat.reduceLeDiff, Int.reduceLT, Int.reduceLE, Int.reduceBEq, Int.reduceToNat, Bool.and_true, cst0, List.map_nil, List.length_nil, nth_0, zE]
      refine ⟨vbool false, fun h => h.elim, ?_⟩
      simp only [go_sem, ↓reduceIte, Int.reduceLT, Int.reduceLE, Int.reduceToNat, Bool.and_true, Bool.and_false, h4', cst0, List.map_nil, List.length_nil, nth_0, zE]
      refine awp_loopL ?_
      refine awpL_step (aw_ok _ ?_)
      simp only [go_sem, ↓reduceIte, Int.reduceLT, decide_false, List.map_nil, List.length_nil, cst0]
    | [a], _, ih, h4 =>
      have h4' : (op == 4) = false := by rw [Bool.eq_false_iff]; intro h; rw [beq_iff_eq] at h; have := h4 h; simp at this
      have iha := ih a (by simp)
      rw [leastE_one h4']
      obtain ⟨o1, m1, fr1, nu1, de1, pa1, te1, ar1⟩ := a
      refine cpure_of Try.xen10 Try.func10 rfl Try.ntmps10 (by rw [Try.results10]) (aw_ok _ ?_)
      simp only [go_sem, ↓reduceIte, Nat.reduceSub, Bool.and_true, List.length_cons, List.length_nil]
      refine drawR_of [0, 1, 2, 3, 4, 5, 6, 7, 8, 9, 10, 11, 12, 13, 14, 15, 16, 17, 18, 19, 20, 21, 22, 23, 24, 25, 26, 27] .done rfl (by kernel_rfl) (by kernel_rfl) (by decide) ?_
      simp only [go_sem, ↓reduceIte, Nat.reduceAdd, Nat.reduceLeDiff, Int.reduceLT, Int.reduceLE, Int.reduceBEq, Int.reduceToNat, Bool.and_true, cst1, List.map_cons, List.map_nil, List.length_cons, List.length_nil, nth_1a, nth_1b, zE, ExprR.c, cs_eq]
      refine ⟨vbool false, fun h => h.elim, ?_⟩
      simp only [go_sem, ↓reduceIte, Int.reduceLT, Int.reduceLE, Int.reduceToNat, Bool.and_true, Bool.and_false, h4', cst1, List.map_cons, List.map_nil, List.length_cons, List.length_nil, nth_1a, zE, ExprR.c, cs_eq]
      refine awp_loopL ?_
      refine awpL_step (aw_ok _ ?_)
      simp only [go_sem, ↓reduceIte, Nat.reduceAdd, Nat.reduceLeDiff, Int.reduceLT, Int.reduceLE, Int.reduceToNat, decide_true, Bool.and_true, cst1, List.map_cons, List.map_nil, List.length_cons, List.length_nil, nth_1a, ExprR.c, cs_eq]
      refine ⟨_, iha, ?_⟩
      simp only [go_sem]
      refine ⟨fun h => ?_, fun h => ?_⟩
      · unfold awS
        simp only [go_sem, ↓reduceIte]
        rw [nt h]
      · unfold awS
        simp only [go_sem, ↓reduceIte, Int.reduceAdd, cw1]
        refine awpL_step (aw_ok _ ?_)
        simp only [go_sem, ↓reduceIte, Int.reduceLT, decide_false, cst1, List.map_cons, List.map_nil, List.length_cons, List.length_nil]
        rw [nf h]
    | [a, b], _, ih, _ =>
      have iha := ih a (by simp)
      have ihb := ih b (by simp)
      have hS := cSameE a b
      rw [leastE_two]
      obtain ⟨o1, m1, fr1, nu1, de1, pa1, te1, ar1⟩ := a
      obtain ⟨o3, m3, fr3, nu3, de3, pa3, te3, ar3⟩ := b
      refine cpure_of Try.xen10 Try.func10 rfl Try.ntmps10 (by rw [Try.results10]) (aw_ok _ ?_)
      simp only [go_sem, ↓reduceIte, Nat.reduceSub, Bool.and_true, List.length_cons, List.length_nil]
      refine drawR_of [0, 1, 2, 3, 4, 5, 6, 7, 8, 9, 10, 11, 12, 13, 14, 15, 16, 17, 18, 19, 20, 21, 22, 23, 24, 25, 26, 27] .done rfl (by kernel_rfl) (by kernel_rfl) (by decide) ?_
      simp only [go_sem, ↓reduceIte, Nat.reduceAdd, Nat.reduceLeDiff, Int.reduceLT, Int.reduceLE, Int.reduceToNat, Bool.and_true, cst2, List.map_cons, List.map_nil, List.length_cons, List.length_nil, nth2a, nth2b, ExprR.c, cs_eq]
      refine ⟨_, hS, ?_⟩
      simp only [go_sem, ↓reduceIte, Nat.reduceAdd, Int.reduceLT, Int.reduceLE, Int.reduceToNat, Bool.and_true, Bool.true_and, cst2, List.map_cons, List.map_nil, List.length_cons, List.length_nil, nth2a, ExprR.c, cs_eq]
      obtain ⟨B, hB⟩ : ∃ B, (eqE (.mk o1 m1 fr1 nu1 de1 pa1 te1 ar1) (.mk o3 m3 fr3 nu3 de3 pa3 te3 ar3) || (op == 4 && opE (.mk o1 m1 fr1 nu1 de1 pa1 te1 ar1) == 0)) = B := ⟨_, rfl⟩
      rw [hB]
      refine brW (b := B) ?_ ⟨fun h1 => ?_, fun h1 => ?_⟩
      · exact hB
      · rw [h1]
        unfold awS
        simp only [go_sem, ↓reduceIte, Bool.false_and]
      · rw [h1]
        unfold awS
        simp only [go_sem, ↓reduceIte, Bool.true_and]
        refine awp_loopL ?_
        refine awpL_step (aw_ok _ ?_)
        simp only [go_sem, ↓reduceIte, Nat.reduceAdd, Nat.reduceLeDiff, Int.reduceLT, Int.reduceLE, Int.reduceToNat, decide_true, Bool.and_true, cst2, List.map_cons, List.map_nil, List.length_cons, List.length_nil, nth2a, ExprR.c, cs_eq]
        refine ⟨_, iha, ?_⟩
        simp only [go_sem]
        refine ⟨fun h => ?_, fun h => ?_⟩
        · unfold awS
          simp only [go_sem, ↓reduceIte]
          rw [nt h]
          try rfl
        · rw [nf h]
          unfold awS
          simp only [go_sem, ↓reduceIte, Int.reduceAdd, Bool.true_and, cw1]
          refine awpL_step (aw_ok _ ?_)
          simp only [go_sem, ↓reduceIte, Nat.reduceAdd, Nat.reduceLeDiff, Int.reduceLT, Int.reduceLE, Int.reduceToNat, decide_true, Bool.and_true, cst2, List.map_cons, List.map_nil, List.length_cons, List.length_nil, nth2b, ExprR.c, cs_eq]
          refine ⟨_, ihb, ?_⟩
          simp only [go_sem]
          refine ⟨fun h => ?_, fun h => ?_⟩
          · unfold awS
            simp only [go_sem, ↓reduceIte]
            rw [nt h]
            try rfl
          · rw [nf h]
            unfold awS
            simp only [go_sem, ↓reduceIte, Int.reduceAdd, cw2]
            refine awpL_step (aw_ok _ ?_)
            simp only [go_sem, ↓reduceIte, Nat.reduceAdd, Int.reduceLT, decide_false, cst2, List.map_cons, List.map_nil, List.length_cons, List.length_nil]
    | _ :: _ :: _ :: _, h, _, _ => simp at h
mutual
theorem simE_fit : ∀ e : ExprR, e.fit → (simE e).fit
  | .mk op media frame num den param text args, h => by
    simp only [ExprR.fit] at h
    have hs := simEs_fit args h.2.2.2.2.2
    unfold simE
    generalize simEs args = as' at hs
    have key : (ExprR.mk op media frame num den param text as').fit := by
      simp only [ExprR.fit]
      exact ⟨h.1, h.2.1, h.2.2.1, h.2.2.2.1, h.2.2.2.2.1, hs⟩
    unfold redE
    split
    · simp only [ExprR.fits] at hs
      split
      · exact hs.1
      · split
        · split
          · exact hs.2.1
          · exact zeroE_fit
        · exact key
    · exact key
theorem simEs_fit : ∀ l : List ExprR, ExprR.fits l → ExprR.fits (simEs l)
  | [], _ => by simp only [simEs, ExprR.fits]
  | e :: es, h => by
    simp only [ExprR.fits] at h
    simp only [simEs, ExprR.fits]
    exact ⟨simE_fit e h.1, simEs_fit es h.2⟩
end
theorem denSimplest (L : List Int) : CPure Try.prog 3 [.t (tints L)] (vbool true) := by
  obtain ⟨v4, f4⟩ := exprAt_ok L 4 0
  have hx := cExprT L 4 0 (by omega) (by decide)
  generalize exprAt L 4 0 = M at v4 f4 hx
  obtain ⟨c0, kq⟩ := M
  simp only at v4 f4 hx
  obtain ⟨g1, g2, g3⟩ := simE_good _ c0 (Nat.lt_succ_self _) v4
  have hS := cSimple c0 f4
  rw [show simpE c0 = simE c0 from by unfold simpE; rw [if_pos v4]] at hS
  have f5 := simE_fit c0 f4
  have hS2 := cSimple (simE c0) f5
  rw [show simpE (simE c0) = simE c0 from by unfold simpE; rw [if_pos g1, g3]] at hS2
  have hV := cValidE (simE c0) f5
  rw [g1] at hV
  have hL := cLeast _ (simE c0) (Nat.lt_succ_self _) g1
  rw [g2] at hL
  have hE := cSameE (simE c0) (simE c0)
  rw [eqE_iff.2 (rfl : simE c0 = simE c0)] at hE
  generalize simE c0 = c at *
  obtain ⟨o1, m1, fr1, nu1, de1, pa1, te1, ar1⟩ := c0
  obtain ⟨o2, m2, fr2, nu2, de2, pa2, te2, ar2⟩ := c
  refine cpure_of Try.xen3 Try.func3 rfl Try.ntmps3 (by rw [Try.results3]) (aw_ok _ ?_)
  simp only [go_sem, Nat.reduceGT, ↓reduceIte, Nat.reduceAdd, Nat.reduceSub, reduceCtorEq]
  refine icall_box hx rfl rfl rfl ?_
  simp only [go_sem, ↓reduceIte]
  refine ⟨_, hS, ?_⟩
  simp only [go_sem, ↓reduceIte, Nat.reduceAdd, Nat.reduceLeDiff]
  refine drawR_of [0, 1, 2, 3, 4, 5, 6, 7, 8, 9, 10, 11, 12, 13, 14, 15] .done rfl (by kernel_rfl) (by kernel_rfl) (by decide) ?_
  simp only [go_sem, ↓reduceIte, Nat.reduceAdd, Nat.reduceLeDiff]
  refine ⟨_, hV, ?_⟩
  simp only [go_sem, ↓reduceIte, Nat.reduceAdd, Nat.reduceLeDiff, Bool.and_true]
  refine ⟨_, hS2, ?_⟩
  simp only [go_sem, ↓reduceIte, Nat.reduceAdd, Nat.reduceLeDiff, Bool.and_true]
  refine ⟨_, hE, ?_⟩
  simp only [go_sem, ↓reduceIte, Nat.reduceAdd, Nat.reduceLeDiff, Bool.and_true]
  refine ⟨_, hL, ?_⟩
  simp only [go_sem, ↓reduceIte, Bool.and_true]
  refine ⟨_, cAwake25, ?_⟩
  simp only [go_sem, ↓reduceIte, Bool.and_true]
end Go.Proofs.Ytkppmlignfhdeaa
