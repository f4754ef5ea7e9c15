/- Proved here: Lists of expressions that a tape gives, and the runs by the reference, for use in the proofs of the given statements; conditions stand in each theorem. -/
import Derived.Test.YtkppmlignfhdeaaY7
import Derived.Test.YtkppmlignfhdeaaY5
import Derived.Test.YtkppmlignfhdeaaZOE
import Derived.Test.YtkppmlignfhdeaaZG
set_option linter.unusedSimpArgs false
set_option linter.unusedVariables false
set_option linter.unusedSectionVars false
set_option linter.unusedSimpArgs false
set_option linter.unusedVariables false
set_option linter.unnecessarySimpa false
namespace Go.Proofs.Ytkppmlignfhdeaa
open Go.RowKit
set_option maxRecDepth 4000
/-- a guarded operation whose condition does not hold is passed by -/
theorem semS_false {P : Program} {ops : List Oper} {Q : Exit → St → Prop} {o : Oper} {r : List Oper} {σ : St} {j : Nat} {want : Bool} (x : V) (hg : o.guard = some (j, want)) (hgs : guardS ops σ j want = some false)
    (h : semS P ops Q r (σ.put o.dst (.cond false x))) : semS P ops Q (o :: r) σ := by
  intro E a w hr E0 w0 hE
  unfold wpListIn
  rw [guard_ok hr hg hgs, if_neg (by simp)]
  exact ⟨fun _ _ => trivial, h _ _ _ (hr.put o.dst (by rw [RdV]; exact ⟨fun h => (by cases h), fun _ => rfl⟩)) E0 w0 hE⟩
def incE : ExprR → ExprR
  | .mk op media frame num den param text args => .mk op media (frame + 1) num den param text args
def exStep (L : List Int) (s : List ExprR × Nat) : List ExprR × Nat :=
  if (decide (0 < s.1.length) && srcB (s.1.getD (s.1.length - 1) default)) = true then
    (if decide (tapeN L s.2 4 > 0) = true then (s.1 ++ [incE (s.1.getD (s.1.length - 1) default)], s.2 + 1) else (s.1 ++ [(exprAt L 2 (s.2 + 1)).1], (exprAt L 2 (s.2 + 1)).2))
  else (s.1 ++ [(exprAt L 2 s.2).1], (exprAt L 2 s.2).2)
def exIter (L : List Int) : Nat → List ExprR × Nat
  | 0 => ([], 1)
  | j + 1 => exStep L (exIter L j)
def exprsT (L : List Int) : List ExprR := (exIter L (tapeN L 0 24).toNat).1
theorem nth_0 (d : List T) (n : Nat) : nth d [] n = d := by simp [nth]
theorem nthV_0 (d : List T) (n : Nat) : nthV d [] n = d.map V.t := by simp [nthV]
theorem exprStep_frame {rec : Nat → ExprR × Nat} (L : List Int) (q : Int) (k : Nat) : srcB (exprStep rec L q k).1 = true → 0 ≤ frameE (exprStep rec L q k).1 ∧ frameE (exprStep rec L q k).1 ≤ 7 := by
  have p := tapeN_lt (L := L) (k := k + 1) (n := 8) (by omega)
  unfold exprStep
  split
  · intro h; simp [zeroE, srcB, opE] at h
  split
  · unfold mixE; split <;> (intro h; simp [srcB, opE] at h)
  split
  · unfold mixE; split <;> (intro h; simp [srcB, opE] at h)
  split
  · intro h; simp [srcB, opE] at h
  split
  · intro h; simp [srcB, opE] at h
  · intro _; simp only [srcE, frameE]; omega
theorem exprAt_frame (L : List Int) (d k : Nat) : srcB (exprAt L d k).1 = true → 0 ≤ frameE (exprAt L d k).1 ∧ frameE (exprAt L d k).1 ≤ 7 := by
  cases d with
  | zero => simp only [exprAt]; exact exprStep_frame L _ _
  | succ d => simp only [exprAt]; exact exprStep_frame L _ _
structure ExInv (j : Nat) (s : List ExprR × Nat) : Prop where
  len : s.1.length = j
  pos : s.2 ≤ 1 + j * 200
  all : ∀ e ∈ s.1, e.fit ∧ (srcB e = true → 0 ≤ frameE e ∧ frameE e ≤ 7 + j)
theorem incE_fit {e : ExprR} (h : e.fit) (h2 : 0 ≤ frameE e ∧ frameE e ≤ 1000) : (incE e).fit := by
  obtain ⟨op, media, frame, num, den, param, text, args⟩ := e
  simp only [frameE] at h2
  simp only [incE, ExprR.fit] at h ⊢
  exact ⟨h.1, ⟨by omega, by omega⟩, h.2.2⟩
theorem incE_frame (e : ExprR) : frameE (incE e) = frameE e + 1 ∧ srcB (incE e) = srcB e := by
  obtain ⟨op, media, frame, num, den, param, text, args⟩ := e
  exact ⟨rfl, rfl⟩
theorem ex_inv (L : List Int) : ∀ j : Nat, j ≤ 24 → ExInv j (exIter L j)
  | 0, _ => ⟨rfl, by simp [exIter], by simp [exIter]⟩
  | j + 1, hj => by
    obtain ⟨h1, h2, h3⟩ := ex_inv L j (by omega)
    have e2 : bndE 2 = 102 := rfl
    have p1 := exprAt_le L 2 (exIter L j).2
    have p2 := exprAt_le L 2 ((exIter L j).2 + 1)
    have k1 := exprAt_ok L 2 (exIter L j).2
    have k2 := exprAt_ok L 2 ((exIter L j).2 + 1)
    have f1 := exprAt_frame L 2 (exIter L j).2
    have f2 := exprAt_frame L 2 ((exIter L j).2 + 1)
    have up : ∀ e ∈ (exIter L j).1, e.fit ∧ (srcB e = true → 0 ≤ frameE e ∧ frameE e ≤ 7 + ((j + 1 : Nat) : Int)) := fun e he => ⟨(h3 e he).1, fun hs => by have := (h3 e he).2 hs; omega⟩
    show ExInv (j + 1) (exStep L (exIter L j))
    generalize exIter L j = s at *
    unfold exStep
    split
    · rename_i hs
      rw [Bool.and_eq_true, decide_eq_true_eq] at hs
      have hm : s.1.getD (s.1.length - 1) default ∈ s.1 := mem_getDE (by omega)
      have hl := h3 _ hm
      have hf := hl.2 hs.2
      obtain ⟨i1, i2⟩ := incE_frame (s.1.getD (s.1.length - 1) default)
      split
      · refine ⟨by simp [h1], by simp only; omega, fun e he => ?_⟩
        rcases List.mem_append.1 he with he | he
        · exact up e he
        · simp only [List.mem_cons, List.not_mem_nil, or_false] at he
          subst he
          exact ⟨incE_fit hl.1 (by omega), fun _ => by rw [i1]; omega⟩
      · refine ⟨by simp [h1], by simp only; omega, fun e he => ?_⟩
        rcases List.mem_append.1 he with he | he
        · exact up e he
        · simp only [List.mem_cons, List.not_mem_nil, or_false] at he
          subst he
          exact ⟨k2.2, fun h => by have := f2 h; omega⟩
    · refine ⟨by simp [h1], by simp only; omega, fun e he => ?_⟩
      rcases List.mem_append.1 he with he | he
      · exact up e he
      · simp only [List.mem_cons, List.not_mem_nil, or_false] at he
        subst he
        exact ⟨k1.2, fun h => by have := f1 h; omega⟩
theorem exprsT_facts (L : List Int) : (exprsT L).length ≤ 23 ∧ ∀ e ∈ exprsT L, e.fit ∧ (srcB e = true → 0 ≤ frameE e ∧ frameE e ≤ 100) := by
  have n := tapeN_lt (L := L) (k := 0) (n := 24) (by omega)
  obtain ⟨h1, h2, h3⟩ := ex_inv L (tapeN L 0 24).toNat (by omega)
  unfold exprsT
  refine ⟨by omega, fun e he => ⟨(h3 e he).1, fun hs => by have := (h3 e he).2 hs; omega⟩⟩
abbrev RowEx (l : List ExprR) : Blk := .row 25 8 zE (tRows (l.map ExprR.c))
theorem cExprs (L : List Int) : CPure Try.prog 12 [.t (tints L)] (.t (texprs (exprsT L))) := by
  have n24 := tapeN_lt (L := L) (k := 0) (n := 24) (by omega)
  obtain ⟨N, hN⟩ : ∃ N : Nat, tapeN L 0 24 = N := ⟨(tapeN L 0 24).toNat, by omega⟩
  have hX : exprsT L = (exIter L N).1 := by unfold exprsT; rw [hN]; rfl
  rw [hX]
  refine cpure_of Try.xen12 Try.func12 rfl Try.ntmps12 (by rw [Try.results12]) (aw_ok _ ?_)
  simp only [go_sem, Nat.reduceGT, ↓reduceIte, Nat.reduceAdd, Nat.reduceSub, reduceCtorEq]
  refine icall_box (cNext L 0 24 (by omega) (by omega) (by omega)) rfl rfl rfl ?_
  simp only [go_sem, ↓reduceIte, hN]
  refine awp_loop_f (fun (j : Nat) σ => { fr := (((((σ.fr.set 4 (.own 1)).set 5 (vint ((N - j : Nat) : Int))).set 10 (.own 0)).set 3 (.own 0)).set 11 .dead), h := [(1, RowEx (exIter L j).1), (0, .box [.t (tints L), vint ((exIter L j).2 : Int)])], nx := 2 }) (fun j => j ≤ N) (fun j => N - j) 0 (weak_of [(1, none), (0, some 0)] ?_) (Nat.zero_le _) ?_
  · simp only [go_sem, Nat.reduceLT, ↓reduceIte, Nat.reduceLeDiff, reduceCtorEq]
    refine ⟨⟨rfl, by simp, rfl⟩, by simp⟩
  · intro j hj
    have hI := ex_inv L j (by omega)
    obtain ⟨f1, f2, f3⟩ := hI
    have hS : exIter L (j + 1) = exStep L (exIter L j) := rfl
    obtain ⟨⟨O, P⟩, hP⟩ : ∃ q, exIter L j = q := ⟨_, rfl⟩
    rw [hP] at f1 f2 f3 hS
    simp only at f1 f2 f3
    refine awp_seq (aw_ok _ ?_)
    simp only [go_sem, ↓reduceIte, hP]
    refine ⟨fun h => ?_, fun h => ?_⟩
    · have hjN : j < N := by simp only [decide_eq_true_eq] at h; omega
      have hl0 : ((O.length : Nat) : Int) = (j : Int) := by omega
      have w1 : IntKind.i64.wrap ((j : Int) - 1) = (j : Int) - 1 := wrap64 (by omega) (by omega)
      have w2 : ((j : Int) - 1).toNat = j - 1 := by omega
      have w3 : IntKind.i64.wrap (((N - j : Nat) : Int) - 1) = ((N - (j + 1) : Nat) : Int) := by rw [wrap64 (by omega) (by omega)]; omega
      rcases Nat.eq_zero_or_pos j with h0 | h0
      · subst h0
        have hO : O = [] := List.length_eq_zero_iff.1 f1
        subst hO
        have hS' : exStep L ([], P) = ([(exprAt L 2 P).1], (exprAt L 2 P).2) := rfl
        rw [hS'] at hS
        have hx := cExprT L 2 P (by omega) (by have : bndE 2 = 102 := rfl; omega)
        generalize exprAt L 2 P = M at *
        obtain ⟨c, kq⟩ := M
        simp only at hx hS
        obtain ⟨o1, m1, fr1, nu1, de1, pa1, te1, ar1⟩ := c
        unfold awS
        simp only [go_sem]
        refine awp_seq (awp_block (awp_seq (aw_ok _ ?_)))
        simp only [go_sem, ↓reduceIte, List.map_nil, List.length_nil, cst0]
        refine awp_seq (awp_region_part 12 ?_)
        simp only [go_sem, ↓reduceIte, Int.reduceGT, Int.reduceBEq, Int.reduceSub, Int.reduceNeg, decide_false, Bool.and_false, List.take, List.drop, List.map_nil, List.length_nil, cst0, nthV_0, zE]
        refine ⟨fun h => h.elim, fun h => h.elim, ?_⟩
        refine semS_false .dead rfl (by simp only [go_sem, Int.reduceNeg]) ?_
        simp only [go_sem, Int.reduceNeg]
        refine semS_false .dead rfl (by simp only [go_sem, Int.reduceNeg]) ?_
        simp only [go_sem, Int.reduceNeg]
        refine semS_false (vbool false) rfl (by simp only [go_sem, Int.reduceNeg]) ?_
        simp only [go_sem, Int.reduceNeg]
        refine semS_steps ?_
        simp only [go_sem, ↓reduceIte, Int.reduceNeg, Bool.and_false]
        refine aw_ok _ ?_
        simp only [go_sem, ↓reduceIte, Int.reduceNeg]
        refine icall_box hx rfl rfl rfl ?_
        simp only [go_sem, Nat.reducePow, Nat.reduceLT, ↓reduceIte, Nat.reduceAdd, Nat.reduceMul, Nat.reduceLeDiff, Nat.reduceEqDiff, reduceCtorEq, Int.reduceNeg, Bool.and_true, List.map_nil, List.length_nil]
        refine ⟨by decide, ?_⟩
        refine aw_ok _ ?_
        simp only [go_sem, ↓reduceIte, Int.reduceNeg, w3]
        refine ⟨1, weak_of [(1, some 3), (0, some 0)] ?_, by omega, by omega⟩
        simp only [go_sem, Nat.reduceLT, ↓reduceIte, Nat.reduceLeDiff, Nat.reduceEqDiff, reduceCtorEq]
        rw [hS]
        exact ⟨by simp, by simp only [List.map_cons, List.map_nil, ExprR.c, cs_eq], by simp, rfl⟩
      · have hn := nth_expr zE (show j - 1 < O.length by omega)
        have hm : O.getD (j - 1) default ∈ O := mem_getDE (by omega)
        have hl := f3 _ hm
        have hS' : exStep L (O, P) = (if srcB (O.getD (j - 1) default) = true then (if decide (tapeN L P 4 > 0) = true then (O ++ [incE (O.getD (j - 1) default)], P + 1) else (O ++ [(exprAt L 2 (P + 1)).1], (exprAt L 2 (P + 1)).2)) else (O ++ [(exprAt L 2 P).1], (exprAt L 2 P).2)) := by
          unfold exStep
          simp only [f1, decide_eq_true h0, Bool.true_and]
        rw [hS'] at hS
        have hd : decide ((j : Int) > 0) = true := by rw [decide_eq_true_eq]; omega
        rcases hx : O.getD (j - 1) default with ⟨o1, m1, fr1, nu1, de1, pa1, te1, ar1⟩
        rw [hx] at hn hl hS
        have hx1 := cExprT L 2 P (by omega) (by have : bndE 2 = 102 := rfl; omega)
        have hx2 := cExprT L 2 (P + 1) (by omega) (by have : bndE 2 = 102 := rfl; omega)
        unfold awS
        simp only [go_sem]
        refine awp_seq (awp_block (awp_seq (aw_ok _ ?_)))
        simp only [go_sem, ↓reduceIte, List.length_map, f1]
        refine awp_seq (awp_region_part 12 ?_)
        simp only [go_sem, ↓reduceIte, Bool.and_true, List.take, List.drop, List.length_map, f1, w1, w2, hn, hd, ExprR.c, cs_eq]
        refine ⟨⟨by omega, by omega⟩, by omega, ?_⟩
        cases h1 : (o1 == 1) with
        | true =>
          rw [if_pos (show srcB (.mk o1 m1 fr1 nu1 de1 pa1 te1 ar1) = true from h1)] at hS
          refine semS_true rfl (by simp only [go_sem]) ?_
          simp only [go_sem]
          refine semS_true rfl (by simp only [go_sem]) ?_
          simp only [go_sem, ↓reduceIte]
          refine icall_box (cNext L P 4 (by omega) (by omega) (by omega)) rfl rfl rfl ?_
          simp only [go_sem, ↓reduceIte, reduceCtorEq]
          refine semS_true rfl (by simp only [go_sem]) ?_
          simp only [go_sem, ↓reduceIte]
          refine semS_steps ?_
          simp only [go_sem, ↓reduceIte]
          refine aw_ok _ ?_
          simp only [go_sem]
          refine ⟨fun h2 => ?_, fun h2 => ?_⟩
          · rw [if_pos h2] at hS
            unfold awS
            have hfr := hl.2 h1
            simp only [frameE] at hfr
            have w4 : IntKind.i64.wrap (fr1 + 1) = fr1 + 1 := wrap64 (by omega) (by omega)
            simp only [go_sem, Nat.reducePow, Nat.reduceLT, ↓reduceIte, Nat.reduceAdd, Nat.reduceMul, Nat.reduceLeDiff, Nat.reduceEqDiff, reduceCtorEq, Bool.and_true, List.length_map, f1, w1, w2, hn, List.map_nil, List.length_nil, ExprR.c, cs_eq, w4]
            refine ⟨⟨by omega, by omega⟩, by omega, ?_⟩
            refine ⟨⟨by unfold maxLen; omega, by omega⟩, ?_⟩
            refine aw_ok _ ?_
            simp only [go_sem, ↓reduceIte, w3]
            refine ⟨j + 1, weak_of [(1, some 4), (0, some 0)] ?_, by omega, by omega⟩
            simp only [go_sem, Nat.reduceLT, ↓reduceIte, Nat.reduceLeDiff, Nat.reduceEqDiff, reduceCtorEq]
            rw [hS]
            exact ⟨by simp, by simp only [List.map_append, List.map_cons, List.map_nil, incE, ExprR.c, cs_eq], by simp, rfl⟩
          · rw [if_neg (by rw [h2]; exact Bool.false_ne_true)] at hS
            generalize exprAt L 2 (P + 1) = M at *
            obtain ⟨c, kq⟩ := M
            simp only at hx2 hS
            obtain ⟨o2, m2, fr2, nu2, de2, pa2, te2, ar2⟩ := c
            unfold awS
            simp only [go_sem, ↓reduceIte]
            refine icall_box hx2 rfl rfl rfl ?_
            simp only [go_sem, Nat.reducePow, Nat.reduceLT, ↓reduceIte, Nat.reduceAdd, Nat.reduceMul, Nat.reduceLeDiff, Nat.reduceEqDiff, reduceCtorEq, Bool.and_true, List.length_map, f1, List.map_nil, List.length_nil]
            refine ⟨⟨by unfold maxLen; omega, by omega⟩, ?_⟩
            refine aw_ok _ ?_
            simp only [go_sem, ↓reduceIte, w3]
            refine ⟨j + 1, weak_of [(1, some 3), (0, some 0)] ?_, by omega, by omega⟩
            simp only [go_sem, Nat.reduceLT, ↓reduceIte, Nat.reduceLeDiff, Nat.reduceEqDiff, reduceCtorEq]
            rw [hS]
            exact ⟨by simp, by simp only [List.map_append, List.map_cons, List.map_nil, ExprR.c, cs_eq], by simp, rfl⟩
        | false =>
          rw [if_neg (show ¬ srcB (.mk o1 m1 fr1 nu1 de1 pa1 te1 ar1) = true from by rw [show srcB (.mk o1 m1 fr1 nu1 de1 pa1 te1 ar1) = (o1 == 1) from rfl, h1]; exact Bool.false_ne_true)] at hS
          refine semS_false .dead rfl (by simp only [go_sem]) ?_
          simp only [go_sem]
          refine semS_false .dead rfl (by simp only [go_sem]) ?_
          simp only [go_sem]
          refine semS_false (vbool false) rfl (by simp only [go_sem]) ?_
          simp only [go_sem]
          refine semS_steps ?_
          simp only [go_sem, ↓reduceIte, Bool.and_false]
          generalize exprAt L 2 P = M at *
          obtain ⟨c, kq⟩ := M
          simp only at hx1 hS
          obtain ⟨o2, m2, fr2, nu2, de2, pa2, te2, ar2⟩ := c
          refine aw_ok _ ?_
          simp only [go_sem, ↓reduceIte]
          refine icall_box hx1 rfl rfl rfl ?_
          simp only [go_sem, Nat.reducePow, Nat.reduceLT, ↓reduceIte, Nat.reduceAdd, Nat.reduceMul, Nat.reduceLeDiff, Nat.reduceEqDiff, reduceCtorEq, Bool.and_true, List.length_map, f1, List.map_nil, List.length_nil]
          refine ⟨⟨by unfold maxLen; omega, by omega⟩, ?_⟩
          refine aw_ok _ ?_
          simp only [go_sem, ↓reduceIte, w3]
          refine ⟨j + 1, weak_of [(1, some 3), (0, some 0)] ?_, by omega, by omega⟩
          simp only [go_sem, Nat.reduceLT, ↓reduceIte, Nat.reduceLeDiff, Nat.reduceEqDiff, reduceCtorEq]
          rw [hS]
          exact ⟨by simp, by simp only [List.map_append, List.map_cons, List.map_nil, ExprR.c, cs_eq], by simp, rfl⟩
    · have hjN : j = N := by simp only [decide_eq_false_iff_not] at h; omega
      subst hjN
      unfold awS
      simp only [go_sem, ↓reduceIte, hP]
end Go.Proofs.Ytkppmlignfhdeaa
/- Proved here: The runs by the reference, for use in the proofs of the given statements; conditions stand in each theorem. -/
set_option linter.unusedSimpArgs false
set_option linter.unusedVariables false
set_option linter.unnecessarySimpa false
namespace Go.Proofs.Ytkppmlignfhdeaa
open Go.RowKit
set_option maxRecDepth 4000
/-- whether the last run goes on with expression k, as the reference asks -/
def joinR (rs : List RunR) (l : List ExprR) (k : Nat) : Bool :=
  decide (0 < rs.length) && ((rs.getD (rs.length - 1) default).media.toList == (mediaE (l.getD k default)).toList) && ((rs.getD (rs.length - 1) default).film + (rs.getD (rs.length - 1) default).len == (k : Int)) &&
    decide (frameE (l.getD k default) > -9223372036854775808) && (frameE (l.getD k default) - 1 == frameE (l.getD (k - 1) default))
theorem joinR_eq {l : List ExprR} {k : Nat} (hf : ∀ e ∈ l, e.fit) (hk : k < l.length) : joinR (runsGo l k) l k = joinB l k := by
  obtain ⟨h1, h2, h3, h4⟩ := runs_inv l k
  unfold joinR joinB followsB
  rcases Nat.eq_zero_or_pos k with h0 | h0
  · subst h0
    have : (runsGo l 0).length = 0 := rfl
    simp [this]
  · have hfit := fit_frame (hf _ (mem_getDE (show k - 1 < l.length by omega)))
    obtain ⟨q1, q2⟩ := hfit
    cases hs : srcB (l.getD (k - 1) default) with
    | true =>
      obtain ⟨i, r, e, g1, g2⟩ := h3 h0 hs
      have hr : (runsGo l k).getD ((runsGo l k).length - 1) default = r := by rw [e]; simp [List.getD_eq_getElem?_getD]
      have hl : 0 < (runsGo l k).length := by rw [e]; simp
      rw [hr, decide_eq_true hl, decide_eq_true h0, g1, g2]
      unfold srcB at hs
      rw [hs]
      simp only [Bool.true_and, beq_self_eq_true, Bool.and_true]
      by_cases hfr : frameE (l.getD k default) - 1 = frameE (l.getD (k - 1) default)
      · have : decide (frameE (l.getD k default) > -9223372036854775808) = true := by rw [decide_eq_true_eq]; omega
        rw [this, Bool.and_true]
      · have : (frameE (l.getD k default) - 1 == frameE (l.getD (k - 1) default)) = false := by rw [beq_eq_false_iff_ne]; exact hfr
        rw [this, Bool.and_false, Bool.and_false]
    | false =>
      unfold srcB at hs
      rw [hs]
      simp only [Bool.false_and, Bool.and_false]
      have hg := h4 h0 (by unfold srcB; exact hs)
      rcases Nat.eq_zero_or_pos (runsGo l k).length with h5 | h5
      · rw [h5]; rfl
      · have hm : (runsGo l k).getD ((runsGo l k).length - 1) default ∈ runsGo l k := by rw [getD_of_lt (by omega)]; exact List.getElem_mem _
        have := hg _ hm
        have hne : ((runsGo l k).getD ((runsGo l k).length - 1) default).film + ((runsGo l k).getD ((runsGo l k).length - 1) default).len ≠ (k : Int) := by omega
        rw [beq_eq_false_iff_ne.2 hne]
        simp
theorem nth_run_any (l : List RunR) (k : Nat) : nth (RunR.c default) (l.map RunR.c) k = RunR.c (l.getD k default) := by
  unfold nth
  rw [List.getElem?_map, List.getD_eq_getElem?_getD]
  cases l[k]? <;> rfl
theorem cRRuns (l : List ExprR) (hfit : ∀ e ∈ l, e.fit) (hl : l.length ≤ 1500000000000) : CPure Try.prog 15 [.t (texprs l)] (.t (truns (runsE l))) := by
  refine cpure_of Try.xen15 Try.func15 rfl Try.ntmps15 (by rw [Try.results15]) (aw_ok _ ?_)
  simp only [go_sem, ↓reduceIte, Nat.reduceSub]
  refine awp_loop_f (fun (k : Nat) σ => { fr := (σ.fr.set 3 (.own 0)).set 4 (vint k), h := [(0, RowR (runsGo l k))], nx := 1 }) (fun k => k ≤ l.length) (fun k => l.length - k) 0 (weak_of [(0, none)] ?_) (Nat.zero_le _) ?_
  · simp only [go_sem, Nat.reduceLT, ↓reduceIte, Nat.reduceLeDiff]
    exact ⟨rfl, rfl⟩
  · intro k hk
    obtain ⟨f1, f2, f3, f4⟩ := runs_inv l k
    refine awp_seq (aw_ok _ ?_)
    simp only [go_sem, ↓reduceIte]
    refine ⟨fun hlt => ?_, fun hge => ?_⟩
    · simp only [decide_eq_true_eq] at hlt
      have hkl : k < l.length := by omega
      have hn := nth_expr zE hkl
      have hft := hfit _ (mem_getDE hkl)
      have hfrk := fit_frame hft
      have hfr1 := fit_frame (hfit _ (mem_getDE (show k - 1 < l.length by omega)))
      have hgo : runsGo l (k + 1) = (if srcB (l.getD k default) = true then (if joinB l k = true then bump (runsGo l k) else runsGo l k ++ [⟨mediaE (l.getD k default), k, frameE (l.getD k default), 1⟩]) else runsGo l k) := rfl
      rw [← joinR_eq hfit hkl] at hgo
      have hn0 := nth_expr zE (show k - 1 < l.length by omega)
      have w1 : IntKind.i64.wrap ((k : Int) - 1) = (k : Int) - 1 := wrap64 (by omega) (by omega)
      have w2 : ((k : Int) - 1).toNat = k - 1 := by omega
      have w5 : IntKind.i64.wrap (((runsGo l k).length : Int) - 1) = ((runsGo l k).length : Int) - 1 := wrap64 (by omega) (by omega)
      have w6 : (((runsGo l k).length : Int) - 1).toNat = (runsGo l k).length - 1 := by omega
      obtain ⟨R, hR⟩ : ∃ R, (runsGo l k).getD ((runsGo l k).length - 1) default = R := ⟨_, rfl⟩
      have hRb : 0 ≤ R.film + R.len ∧ R.film + R.len ≤ 1500000000000 ∧ 0 ≤ R.len ∧ R.len ≤ 1500000000000 := by
        rw [← hR]
        rcases Nat.eq_zero_or_pos (runsGo l k).length with h5 | h5
        · rw [List.length_eq_zero_iff.1 h5]; decide
        · have := f2 _ (show (runsGo l k).getD ((runsGo l k).length - 1) default ∈ runsGo l k by rw [getD_of_lt (by omega)]; exact List.getElem_mem _)
          omega
      have hRp : 0 < (runsGo l k).length → 1 ≤ R.len ∧ 0 ≤ R.film := fun h5 => by
        have := f2 _ (show (runsGo l k).getD ((runsGo l k).length - 1) default ∈ runsGo l k by rw [getD_of_lt (by omega)]; exact List.getElem_mem _)
        rw [hR] at this
        omega
      have hdd : decide (((runsGo l k).length : Int) - 1 ≥ 0) = decide (0 < (runsGo l k).length) := by rw [Bool.eq_iff_iff]; simp only [decide_eq_true_eq]; omega
      have hnR := nth_run_any (runsGo l k) ((runsGo l k).length - 1)
      rw [hR] at hnR
      have hjR : joinR (runsGo l k) l k = (decide (0 < (runsGo l k).length) && (R.media.toList == (mediaE (l.getD k default)).toList) && (R.film + R.len == (k : Int)) &&
        decide (frameE (l.getD k default) > -9223372036854775808) && (frameE (l.getD k default) - 1 == frameE (l.getD (k - 1) default))) := by rw [← hR]; rfl
      have w7 : IntKind.i64.wrap (R.film + R.len) = R.film + R.len := wrap64 (by omega) (by omega)
      rcases hx : l.getD k default with ⟨o1, m1, fr1, nu1, de1, pa1, te1, ar1⟩
      rw [hx] at hn hft hgo hjR hfrk
      rcases hy : l.getD (k - 1) default with ⟨o0, m0, fr0, nu0, de0, pa0, te0, ar0⟩
      rw [hy] at hn0 hjR hfr1
      unfold awS
      simp only [go_sem]
      refine awp_seq (awp_block (awp_seq (aw_ok _ ?_)))
      simp only [go_sem, ↓reduceIte, hn, ExprR.c, cs_eq]
      refine ⟨⟨by omega, by omega⟩, fun h1 => ?_, fun h1 => ?_⟩
      · have hs : ¬ srcB (.mk o1 m1 fr1 nu1 de1 pa1 te1 ar1) = true := by unfold srcB opE; simpa using h1
        rw [if_neg hs] at hgo
        unfold awS
        simp only [go_sem, ↓reduceIte]
        refine aw_ok _ ?_
        simp only [go_sem, ↓reduceIte, wrap1 (show k < 9223372036854775807 by omega)]
        refine ⟨k + 1, weak_of [(0, some 0)] ?_, by omega, by omega⟩
        simp only [go_sem, Nat.reduceLT, ↓reduceIte, Nat.reduceLeDiff]
        rw [hgo]
        exact ⟨⟨by simp, rfl⟩, rfl⟩
      · have hs : srcB (.mk o1 m1 fr1 nu1 de1 pa1 te1 ar1) = true := by unfold srcB opE; simpa using h1
        rw [if_pos hs] at hgo
        unfold awS
        simp only [go_sem]
        refine awp_seq (aw_ok _ ?_)
        simp only [go_sem, ↓reduceIte, List.length_map, w5]
        refine awp_seq (drawR_of [0, 1, 2, 3, 4, 5, 6, 7, 8, 9, 10, 11, 12, 13, 14, 15, 16, 17, 18, 19, 20, 21, 22, 23, 24, 25, 26, 27, 28, 29, 30, 31, 32, 33, 34, 35, 36, 37, 38, 39, 40, 41, 42, 43, 44, 45, 46, 47, 48, 49, 50, 51, 52] .done rfl (by kernel_rfl) (by kernel_rfl) (by decide) ?_)
        simp only [go_sem, ↓reduceIte, w1, w2, w6, w7, hn, hn0, hnR, ExprR.c, cs_eq, List.length_map, hdd]
        simp only [frameE] at hfrk hfr1
        obtain ⟨q1, q2⟩ := hfrk
        have w8 : (decide (0 < (runsGo l k).length) && (R.media.toList == m1.toList) && (R.film + R.len == (k : Int)) && decide (fr1 > -9223372036854775808) && (IntKind.i64.wrap (fr1 - 1) == fr0)) = joinR (runsGo l k) l k := by
          have hj2 : joinR (runsGo l k) l k = (decide (0 < (runsGo l k).length) && (R.media.toList == m1.toList) && (R.film + R.len == (k : Int)) && decide (fr1 > -9223372036854775808) && (fr1 - 1 == fr0)) := hjR
          rw [hj2]
          by_cases hm : fr1 > -9223372036854775808
          · rw [wrap64 (by omega) (by omega)]
          · rw [decide_eq_false hm]; simp
        refine ⟨fun h => ?_, fun h => ?_, fun h => ?_, fun h => ?_, fun h => ?_, fun h => ?_, fun h => ?_, fun h => ?_, fun h => ?_, fun h => ?_, ?_⟩
        all_goals first
          | (simp only [Bool.and_eq_true, decide_eq_true_eq, beq_iff_eq] at h; have hp : 0 < (runsGo l k).length := (by first | exact h | exact h.1 | exact h.1.1 | exact h.1.1.1); have := hRp hp; omega)
          | skip
        refine aw_ok _ ?_
        simp only [go_sem]
        refine brW (b := joinR (runsGo l k) l k) ?_ ⟨fun hb => ?_, fun hb => ?_⟩
        · exact w8
        · rw [if_pos hb] at hgo
          have hk0 : 0 < k := by rw [joinR_eq hfit hkl] at hb; unfold joinB at hb; simp only [Bool.and_eq_true, decide_eq_true_eq] at hb; exact hb.1
          have hp : 0 < (runsGo l k).length := by rw [hjR] at hb; simp only [Bool.and_eq_true, decide_eq_true_eq] at hb; exact hb.1.1.1.1
          obtain ⟨i, r, e⟩ : ∃ i r, runsGo l k = i ++ [r] := by
            rcases List.eq_nil_or_concat (runsGo l k) with e | ⟨i, r, e⟩
            · rw [e] at hp; simp at hp
            · exact ⟨i, r, by rw [e]; simp⟩
          have hr := f2 r (by rw [e]; simp)
          rw [e] at f1
          have hil : i.length + 1 ≤ k := by simpa using f1
          unfold awS
          rw [e]
          have hL : (i ++ [r]).length = i.length + 1 := by simp
          have w9 : ((i.length + 1 : Nat) : Int) - 1 = (i.length : Int) := by omega
          have w10 : (((i.length : Nat) : Int)).toNat = i.length := by omega
          have w4 : IntKind.i64.wrap (r.len + 1) = r.len + 1 := wrap64 (by omega) (by omega)
          simp only [go_sem, ↓reduceIte, Nat.reduceAdd, Nat.reduceLeDiff, hL, w9, w10, w4, getD_snocR, nth_run_any]
          refine ⟨⟨by omega, by omega⟩, by omega, ⟨by omega, by omega⟩, by omega, ?_⟩
          refine aw_ok _ ?_
          simp only [go_sem, ↓reduceIte, wrap1 (show k < 9223372036854775807 by omega)]
          refine ⟨k + 1, weak_of [(0, some 0)] ?_, by omega, by omega⟩
          simp only [go_sem, Nat.reduceLT, ↓reduceIte, Nat.reduceLeDiff]
          rw [hgo, e, bump_snoc]
          refine ⟨⟨by simp, ?_⟩, rfl⟩
          first | rfl | (simp [List.set_append_right, RunR.c]; done) | trace_state
        · rw [if_neg (by rw [hb]; exact Bool.false_ne_true)] at hgo
          unfold awS
          simp only [go_sem]
          refine drawC_of 16 .done rfl (by kernel_rfl) (by kernel_rfl) (by decide) ?_
          simp only [go_sem, Nat.reduceGT, Nat.reducePow, Nat.reduceLT, ↓reduceIte, Nat.reduceAdd, Nat.reduceMul, Nat.reduceLeDiff, reduceCtorEq, hn, ExprR.c, cs_eq, List.length_map]
          refine ⟨⟨by omega, by omega⟩, ⟨by omega, by omega⟩, ⟨by unfold maxLen; omega, by omega⟩, by kernel_rfl, ?_⟩
          refine aw_ok _ ?_
          simp only [go_sem, ↓reduceIte, wrap1 (show k < 9223372036854775807 by omega)]
          refine ⟨k + 1, weak_of [(0, some 15)] ?_, by omega, by omega⟩
          simp only [go_sem, Nat.reduceLT, ↓reduceIte, Nat.reduceLeDiff, reduceCtorEq]
          refine ⟨⟨by simp, ?_⟩, rfl⟩
          rw [hgo, List.map_append]
          rfl
    · simp only [decide_eq_false_iff_not] at hge
      have : k = l.length := by omega
      subst this
      unfold awS
      simp only [go_sem, ↓reduceIte]
      rfl
end Go.Proofs.Ytkppmlignfhdeaa
