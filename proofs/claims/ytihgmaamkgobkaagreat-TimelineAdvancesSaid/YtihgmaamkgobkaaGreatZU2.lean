/- Proved here: 'TimelineAdvances' returns true, for use in the proofs of the given statements; conditions stand in each theorem. -/
import Derived.Test.YtihgmaamkgobkaaGreatZTSd
import Derived.Test.YtihgmaamkgobkaaGreatZQ
import Derived.Test.YtihgmaamkgobkaaGreatZN
set_option linter.unusedSimpArgs false
set_option linter.unusedVariables false
set_option linter.unusedSectionVars false
set_option linter.unusedSimpArgs false
set_option linter.unusedVariables false
set_option linter.unnecessarySimpa false
namespace Go.Proofs.YtihgmaamkgobkaaGreat
open Go.RowKit
set_option maxRecDepth 4000
theorem nth_clips {X : List ClipR} {d : List T} {k : Nat} (h : k < X.length) : nth d (List.map ClipR.c X) k = ClipR.c (X.getD k default) := by
  unfold nth
  rw [List.getElem?_map, List.getElem?_eq_getElem h, getD_of_lt h]
  rfl
theorem advances12 (c : ClipR) (L : List Int) (n : Int) (hc : c.fit) (hn : I64 n) : CPure Tryz.prog 7 [vclip c, .t (tints L), vint n] (vbool true) := by
  have fd := (clipAt_ok L 0 3 2 (by omega) (by omega)).2
  have fe := soundAt_fit L (clipAt L 0 3 2).2 2 1 (by omega) (by omega)
  have hle := clipAt_le L 0 3 2
  refine cpure_of Tryz.xen7 Tryz.func7 rfl Tryz.ntmps7 (by rw [Tryz.results7]) (aw_ok _ ?_)
  simp only [go_sem, Nat.reduceGT, Nat.reducePow, Nat.reduceLT, ↓reduceIte, Nat.reduceAdd, Nat.reduceMul, Nat.reduceSub, Nat.reduceMod, Nat.reduceLeDiff, Nat.reduceEqDiff, Nat.reduceBEq, reduceCtorEq]
  refine drawC_of 8 .done rfl (by kernel_rfl) (by kernel_rfl) (by decide) ?_
  simp only [go_sem, Nat.reduceGT, Nat.reducePow, Nat.reduceLT, ↓reduceIte, Nat.reduceAdd, Nat.reduceMul, Nat.reduceSub, Nat.reduceMod, Nat.reduceLeDiff, Nat.reduceEqDiff, Nat.reduceBEq, reduceCtorEq]
  refine bcall (cClip L 0 3 2 (by omega) ⟨by omega, by omega⟩ ⟨by omega, by omega⟩) rfl rfl rfl ?_
  simp only [go_sem, Nat.reduceGT, Nat.reducePow, Nat.reduceLT, ↓reduceIte, Nat.reduceAdd, Nat.reduceMul, Nat.reduceSub, Nat.reduceMod, Nat.reduceLeDiff, Nat.reduceEqDiff, Nat.reduceBEq, reduceCtorEq]
  refine bcall (cSound L (clipAt L 0 3 2).2 2 1 (by omega) ⟨by omega, by omega⟩ ⟨by omega, by omega⟩) rfl rfl rfl ?_
  generalize soundAt L (clipAt L 0 3 2).2 2 1 = M2 at fe
  generalize clipAt L 0 3 2 = M1 at fd
  obtain ⟨d, kq⟩ := M1
  obtain ⟨e, kr⟩ := M2
  simp only at fd fe
  simp only [go_sem, Nat.reduceGT, Nat.reducePow, Nat.reduceLT, ↓reduceIte, Nat.reduceAdd, Nat.reduceMul, Nat.reduceSub, Nat.reduceMod, Nat.reduceLeDiff, Nat.reduceEqDiff, Nat.reduceBEq, reduceCtorEq]
  refine ⟨by kernel_rfl, ?_⟩
  have e0 : ∀ d : ClipR, [T.lit (.int .i64 d.len), .lit (.int .i64 d.kind), .lit (.int .i64 d.a.kind), .lit (.string d.a.name), .lit (.int .i64 d.a.pos.num), .lit (.int .i64 d.a.pos.den), .lit (.int .i64 d.a.speed.num), .lit (.int .i64 d.a.speed.den), .lit (.bool d.a.smooth),
    .lit (.int .i64 d.b.kind), .lit (.string d.b.name), .lit (.int .i64 d.b.pos.num), .lit (.int .i64 d.b.pos.den), .lit (.int .i64 d.b.speed.num), .lit (.int .i64 d.b.speed.den), .lit (.bool d.b.smooth), .lit (.int .i64 d.off), .lit (.int .i64 d.total), .lit (.int .i64 d.param), .lit (.string d.text), .lit (.int .i64 d.gain), .list 1 (intC 0) (d.chan.map intC)] = ClipR.c d := fun _ => rfl
  have e1 : [ClipR.c c, ClipR.c d, ClipR.c e] = [c, d, e].map ClipR.c := rfl
  simp only [e0, e1]
  have hx : ∀ x ∈ [c, d, e], x.fit := by
    intro x hx
    simp only [List.mem_cons, List.not_mem_nil, or_false] at hx
    rcases hx with rfl | rfl | rfl
    · exact hc
    · exact fd
    · exact fe
  have hl : [c, d, e].length = 3 := rfl
  generalize [c, d, e] = X at *
  obtain ⟨p0, p7⟩ := and7 n
  have hy : ∀ y ∈ [n, bits .and .i64 n 7], I64 y := by
    intro y hy
    simp only [List.mem_cons, List.not_mem_nil, or_false] at hy
    rcases hy with rfl | rfl
    · exact hn
    · exact ⟨by omega, by omega⟩
  refine awp_loop_f (fun (i : Nat) σ => setS 30 (vint i) σ) (fun i => i ≤ 3) (fun i => 3 - i) 0 (weak_self ?_) (Nat.zero_le _) ?_
  · simp only [go_sem, Nat.reduceGT, Nat.reducePow, Nat.reduceLT, ↓reduceIte, Nat.reduceAdd, Nat.reduceMul, Nat.reduceSub, Nat.reduceMod, Nat.reduceLeDiff, Nat.reduceEqDiff, Nat.reduceBEq, reduceCtorEq]
    simp
  · rintro i hi
    refine aw_ok _ ?_
    simp only [go_sem, Nat.reduceGT, Nat.reducePow, Nat.reduceLT, ↓reduceIte, Nat.reduceAdd, Nat.reduceMul, Nat.reduceSub, Nat.reduceMod, Nat.reduceLeDiff, Nat.reduceEqDiff, Nat.reduceBEq, reduceCtorEq]
    refine ⟨fun h => ?_, fun h => ?_⟩
    · simp only [decide_eq_true_eq, decide_eq_false_iff_not, beq_iff_eq, bne_iff_ne, ne_eq, beq_eq_false_iff_ne, Bool.not_eq_true', Bool.not_eq_true, Bool.not_eq_false', Bool.or_eq_true, Bool.and_eq_true, Bool.or_eq_false_iff, Bool.and_eq_false_iff, Bool.false_eq_true, Bool.not_eq_eq_eq_not, Bool.not_true, Bool.not_false] at h
      have hni : ∀ z : List T, nth z (List.map ClipR.c X) i = [T.lit (.int .i64 (X.getD i default).len), .lit (.int .i64 (X.getD i default).kind), .lit (.int .i64 (X.getD i default).a.kind), .lit (.string (X.getD i default).a.name), .lit (.int .i64 (X.getD i default).a.pos.num), .lit (.int .i64 (X.getD i default).a.pos.den), .lit (.int .i64 (X.getD i default).a.speed.num), .lit (.int .i64 (X.getD i default).a.speed.den), .lit (.bool (X.getD i default).a.smooth),
        .lit (.int .i64 (X.getD i default).b.kind), .lit (.string (X.getD i default).b.name), .lit (.int .i64 (X.getD i default).b.pos.num), .lit (.int .i64 (X.getD i default).b.pos.den), .lit (.int .i64 (X.getD i default).b.speed.num), .lit (.int .i64 (X.getD i default).b.speed.den), .lit (.bool (X.getD i default).b.smooth), .lit (.int .i64 (X.getD i default).off), .lit (.int .i64 (X.getD i default).total), .lit (.int .i64 (X.getD i default).param), .lit (.string (X.getD i default).text), .lit (.int .i64 (X.getD i default).gain), .list 1 (intC 0) ((X.getD i default).chan.map intC)] := fun z => nth_clips (by omega)
      have fi := hx _ (mem_getD (l := X) (d := default) (k := i) (by omega))
      generalize X.getD i default = x at *
      unfold awS
      simp only [go_sem, Nat.reduceGT, Nat.reducePow, Nat.reduceLT, ↓reduceIte, Nat.reduceAdd, Nat.reduceMul, Nat.reduceSub, Nat.reduceMod, Nat.reduceLeDiff, Nat.reduceEqDiff, Nat.reduceBEq, reduceCtorEq, hni, List.length_cons, List.length_nil, List.map_cons, List.map_nil, List.take_succ_cons, List.take_zero, Nat.reduceLeDiff, hl]
      refine ⟨⟨by omega, by omega⟩, by omega, ?_⟩
      have c2 : ((2 : Nat) : Int) = 2 := rfl
      have w1 : IntKind.i64.wrap (0 + 1) = 1 := by decide
      have w2 : IntKind.i64.wrap (1 + 1) = 2 := by decide
      have f1 := hy n (by simp)
      have f2 := hy (bits .and .i64 n 7) (by simp)
      refine awp_loopL ?_
      refine awpL_step (aw_ok _ ?_)
      simp only [go_sem, Nat.reduceGT, Nat.reducePow, Nat.reduceLT, ↓reduceIte, Nat.reduceAdd, Nat.reduceMul, Nat.reduceSub, Nat.reduceMod, Nat.reduceLeDiff, Nat.reduceEqDiff, Nat.reduceBEq, reduceCtorEq, nth, List.getElem?_cons_zero, List.getElem?_cons_succ, List.map_cons, List.map_nil, Option.getD_some, w1, w2, c2, Int.reduceLT, decide_true, decide_false, Int.reduceToNat, Int.reduceLE, Nat.reduceLT, forall_const, false_implies, true_implies]
      refine ⟨_, cAdvance x n fi f1, ?_⟩
      simp only [go_sem, Nat.reduceGT, Nat.reducePow, Nat.reduceLT, ↓reduceIte, Nat.reduceAdd, Nat.reduceMul, Nat.reduceSub, Nat.reduceMod, Nat.reduceLeDiff, Nat.reduceEqDiff, Nat.reduceBEq, reduceCtorEq, bne_self_eq_false]
      refine ⟨_, cRAdvance x n fi f1, ?_⟩
      simp only [go_sem, Nat.reduceGT, Nat.reducePow, Nat.reduceLT, ↓reduceIte, Nat.reduceAdd, Nat.reduceMul, Nat.reduceSub, Nat.reduceMod, Nat.reduceLeDiff, Nat.reduceEqDiff, Nat.reduceBEq, reduceCtorEq, bne_self_eq_false]
      refine ⟨_, cHead x n fi f1, ?_⟩
      simp only [go_sem, Nat.reduceGT, Nat.reducePow, Nat.reduceLT, ↓reduceIte, Nat.reduceAdd, Nat.reduceMul, Nat.reduceSub, Nat.reduceMod, Nat.reduceLeDiff, Nat.reduceEqDiff, Nat.reduceBEq, reduceCtorEq, bne_self_eq_false]
      refine ⟨_, cRHead x n fi f1, ?_⟩
      simp only [go_sem, Nat.reduceGT, Nat.reducePow, Nat.reduceLT, ↓reduceIte, Nat.reduceAdd, Nat.reduceMul, Nat.reduceSub, Nat.reduceMod, Nat.reduceLeDiff, Nat.reduceEqDiff, Nat.reduceBEq, reduceCtorEq, bne_self_eq_false]
      refine ⟨_, cSameClip _ _, ?_⟩
      simp only [go_sem, Nat.reduceGT, Nat.reducePow, Nat.reduceLT, ↓reduceIte, Nat.reduceAdd, Nat.reduceMul, Nat.reduceSub, Nat.reduceMod, Nat.reduceLeDiff, Nat.reduceEqDiff, Nat.reduceBEq, reduceCtorEq, eqb_self, Bool.not_true, Bool.or_false, bne_self_eq_false]
      refine ⟨_, cSameClip _ _, ?_⟩
      simp only [go_sem, Nat.reduceGT, Nat.reducePow, Nat.reduceLT, ↓reduceIte, Nat.reduceAdd, Nat.reduceMul, Nat.reduceSub, Nat.reduceMod, Nat.reduceLeDiff, Nat.reduceEqDiff, Nat.reduceBEq, reduceCtorEq, eqb_self, Bool.not_true, Bool.or_false, bne_self_eq_false]
      refine awpL_step (aw_ok _ ?_)
      simp only [go_sem, Nat.reduceGT, Nat.reducePow, Nat.reduceLT, ↓reduceIte, Nat.reduceAdd, Nat.reduceMul, Nat.reduceSub, Nat.reduceMod, Nat.reduceLeDiff, Nat.reduceEqDiff, Nat.reduceBEq, reduceCtorEq, nth, List.getElem?_cons_zero, List.getElem?_cons_succ, List.map_cons, List.map_nil, Option.getD_some, w1, w2, c2, Int.reduceLT, decide_true, decide_false, Int.reduceToNat, Int.reduceLE, Nat.reduceLT, forall_const, false_implies, true_implies]
      refine ⟨_, cAdvance x _ fi f2, ?_⟩
      simp only [go_sem, Nat.reduceGT, Nat.reducePow, Nat.reduceLT, ↓reduceIte, Nat.reduceAdd, Nat.reduceMul, Nat.reduceSub, Nat.reduceMod, Nat.reduceLeDiff, Nat.reduceEqDiff, Nat.reduceBEq, reduceCtorEq, bne_self_eq_false]
      refine ⟨_, cRAdvance x _ fi f2, ?_⟩
      simp only [go_sem, Nat.reduceGT, Nat.reducePow, Nat.reduceLT, ↓reduceIte, Nat.reduceAdd, Nat.reduceMul, Nat.reduceSub, Nat.reduceMod, Nat.reduceLeDiff, Nat.reduceEqDiff, Nat.reduceBEq, reduceCtorEq, bne_self_eq_false]
      refine ⟨_, cHead x _ fi f2, ?_⟩
      simp only [go_sem, Nat.reduceGT, Nat.reducePow, Nat.reduceLT, ↓reduceIte, Nat.reduceAdd, Nat.reduceMul, Nat.reduceSub, Nat.reduceMod, Nat.reduceLeDiff, Nat.reduceEqDiff, Nat.reduceBEq, reduceCtorEq, bne_self_eq_false]
      refine ⟨_, cRHead x _ fi f2, ?_⟩
      simp only [go_sem, Nat.reduceGT, Nat.reducePow, Nat.reduceLT, ↓reduceIte, Nat.reduceAdd, Nat.reduceMul, Nat.reduceSub, Nat.reduceMod, Nat.reduceLeDiff, Nat.reduceEqDiff, Nat.reduceBEq, reduceCtorEq, bne_self_eq_false]
      refine ⟨_, cSameClip _ _, ?_⟩
      simp only [go_sem, Nat.reduceGT, Nat.reducePow, Nat.reduceLT, ↓reduceIte, Nat.reduceAdd, Nat.reduceMul, Nat.reduceSub, Nat.reduceMod, Nat.reduceLeDiff, Nat.reduceEqDiff, Nat.reduceBEq, reduceCtorEq, eqb_self, Bool.not_true, Bool.or_false, bne_self_eq_false]
      refine ⟨_, cSameClip _ _, ?_⟩
      simp only [go_sem, Nat.reduceGT, Nat.reducePow, Nat.reduceLT, ↓reduceIte, Nat.reduceAdd, Nat.reduceMul, Nat.reduceSub, Nat.reduceMod, Nat.reduceLeDiff, Nat.reduceEqDiff, Nat.reduceBEq, reduceCtorEq, eqb_self, Bool.not_true, Bool.or_false, bne_self_eq_false]
      refine awpL_step (aw_ok _ ?_)
      simp only [go_sem, Nat.reduceGT, Nat.reducePow, Nat.reduceLT, ↓reduceIte, Nat.reduceAdd, Nat.reduceMul, Nat.reduceSub, Nat.reduceMod, Nat.reduceLeDiff, Nat.reduceEqDiff, Nat.reduceBEq, reduceCtorEq, nth, List.getElem?_cons_zero, List.getElem?_cons_succ, List.map_cons, List.map_nil, Option.getD_some, w1, w2, c2, Int.reduceLT, decide_true, decide_false, Int.reduceToNat, Int.reduceLE, Nat.reduceLT, forall_const, false_implies, true_implies]
      refine ⟨i + 1, weak_self ?_, by omega, by omega⟩
      simp only [go_sem, Nat.reduceGT, Nat.reducePow, Nat.reduceLT, ↓reduceIte, Nat.reduceAdd, Nat.reduceMul, Nat.reduceSub, Nat.reduceMod, Nat.reduceLeDiff, Nat.reduceEqDiff, Nat.reduceBEq, reduceCtorEq]
      simp [wrap1 (show i < 9223372036854775807 by omega)]
    · simp only [decide_eq_true_eq, decide_eq_false_iff_not, beq_iff_eq, bne_iff_ne, ne_eq, beq_eq_false_iff_ne, Bool.not_eq_true', Bool.not_eq_true, Bool.not_eq_false', Bool.or_eq_true, Bool.and_eq_true, Bool.or_eq_false_iff, Bool.and_eq_false_iff, Bool.false_eq_true, Bool.not_eq_eq_eq_not, Bool.not_true, Bool.not_false] at h
      unfold awS
      simp only [go_sem, Nat.reduceGT, Nat.reducePow, Nat.reduceLT, ↓reduceIte, Nat.reduceAdd, Nat.reduceMul, Nat.reduceSub, Nat.reduceMod, Nat.reduceLeDiff, Nat.reduceEqDiff, Nat.reduceBEq, reduceCtorEq]
      refine ⟨_, cAwake, ?_⟩
      simp only [go_sem, Nat.reduceGT, Nat.reducePow, Nat.reduceLT, ↓reduceIte, Nat.reduceAdd, Nat.reduceMul, Nat.reduceSub, Nat.reduceMod, Nat.reduceLeDiff, Nat.reduceEqDiff, Nat.reduceBEq, reduceCtorEq]
end Go.Proofs.YtihgmaamkgobkaaGreat
