/- Proved here: 'TimelinePacks' returns true, for use in the proofs of the given statements; conditions stand in each theorem. -/
import Derived.Test.YtihgmaamkgobkaaGreatZR
import Derived.Test.YtihgmaamkgobkaaGreatZG
set_option linter.unusedSimpArgs false
set_option linter.unusedVariables false
set_option linter.unusedSectionVars false
set_option linter.unusedSimpArgs false
set_option linter.unusedVariables false
set_option linter.unnecessarySimpa false
namespace Go.Proofs.YtihgmaamkgobkaaGreat
open Go.RowKit
set_option maxRecDepth 4000
theorem packs9 (t : List ClipR) (L U : List Int) (hf : ∀ c ∈ t, c.fit) : CPure Tryz.prog 6 [.t (tclips t), .t (tints L), .t (tints U)] (vbool true) := by
  refine cpure_of Tryz.xen6 Tryz.func6 rfl Tryz.ntmps6 (by rw [Tryz.results6]) (aw_ok _ ?_)
  simp only [go_sem, Nat.reduceGT, Nat.reducePow, Nat.reduceLT, ↓reduceIte, Nat.reduceAdd, Nat.reduceMul, Nat.reduceSub, Nat.reduceMod, Nat.reduceLeDiff, Nat.reduceEqDiff, Nat.reduceBEq, reduceCtorEq]
  refine ⟨_, cCut t, ?_⟩
  simp only [go_sem, Nat.reduceGT, Nat.reducePow, Nat.reduceLT, ↓reduceIte, Nat.reduceAdd, Nat.reduceMul, Nat.reduceSub, Nat.reduceMod, Nat.reduceLeDiff, Nat.reduceEqDiff, Nat.reduceBEq, reduceCtorEq]
  refine icall_io (cTrackT L) [] rfl (by omega) (by decide) ?_ rfl rfl rfl rfl ?_
  · simp only [go_sem, Nat.reduceGT, Nat.reducePow, Nat.reduceLT, ↓reduceIte, Nat.reduceAdd, Nat.reduceMul, Nat.reduceSub, Nat.reduceMod, Nat.reduceLeDiff, Nat.reduceEqDiff, Nat.reduceBEq, reduceCtorEq]
  simp only [go_sem, Nat.reduceGT, Nat.reducePow, Nat.reduceLT, ↓reduceIte, Nat.reduceAdd, Nat.reduceMul, Nat.reduceSub, Nat.reduceMod, Nat.reduceLeDiff, Nat.reduceEqDiff, Nat.reduceBEq, reduceCtorEq, List.getElem?_nil]
  refine icall_io (cTrackT L) [] rfl (by omega) (by decide) ?_ rfl rfl rfl rfl ?_
  · simp only [go_sem, Nat.reduceGT, Nat.reducePow, Nat.reduceLT, ↓reduceIte, Nat.reduceAdd, Nat.reduceMul, Nat.reduceSub, Nat.reduceMod, Nat.reduceLeDiff, Nat.reduceEqDiff, Nat.reduceBEq, reduceCtorEq]
  simp only [go_sem, Nat.reduceGT, Nat.reducePow, Nat.reduceLT, ↓reduceIte, Nat.reduceAdd, Nat.reduceMul, Nat.reduceSub, Nat.reduceMod, Nat.reduceLeDiff, Nat.reduceEqDiff, Nat.reduceBEq, reduceCtorEq, List.getElem?_nil]
  refine icall_io (cTrackT U) [] rfl (by omega) (by decide) ?_ rfl rfl rfl rfl ?_
  · simp only [go_sem, Nat.reduceGT, Nat.reducePow, Nat.reduceLT, ↓reduceIte, Nat.reduceAdd, Nat.reduceMul, Nat.reduceSub, Nat.reduceMod, Nat.reduceLeDiff, Nat.reduceEqDiff, Nat.reduceBEq, reduceCtorEq]
  have ha : (trackT L).map ClipR.c ++ (trackT U).map ClipR.c = (trackT L ++ trackT U).map ClipR.c := by simp
  have hl := (trackT_nice L).2
  have hu := (trackT_nice U).2
  have fL := trackT_fit L
  have fU := trackT_fit U
  have ft : ∀ c ∈ t.take 80, c.fit := fun c hc => hf c (List.mem_of_mem_take hc)
  generalize trackT L = A at *
  generalize trackT U = C at *
  generalize t.take 80 = B at *
  simp only [go_sem, Nat.reduceGT, Nat.reducePow, Nat.reduceLT, ↓reduceIte, Nat.reduceAdd, Nat.reduceMul, Nat.reduceSub, Nat.reduceMod, Nat.reduceLeDiff, Nat.reduceEqDiff, Nat.reduceBEq, reduceCtorEq, List.getElem?_nil]
  simp only [ha]
  refine ⟨⟨by unfold maxLen; omega, by omega⟩, ?_⟩
  refine awp_give [0, 3] ?_
  simp only [go_sem, Nat.reduceGT, Nat.reducePow, Nat.reduceLT, ↓reduceIte, Nat.reduceAdd, Nat.reduceMul, Nat.reduceSub, Nat.reduceMod, Nat.reduceLeDiff, Nat.reduceEqDiff, Nat.reduceBEq, reduceCtorEq, List.map_cons, List.map_nil]
  refine awp_loopL ?_
  have c3 : ((3 : Nat) : Int) = 3 := rfl
  have w1 : IntKind.i64.wrap (0 + 1) = 1 := by decide
  have w2 : IntKind.i64.wrap (1 + 1) = 2 := by decide
  have w3 : IntKind.i64.wrap (2 + 1) = 3 := by decide
  refine awpL_step (aw_ok _ ?_)
  simp only [go_sem, Nat.reduceGT, Nat.reducePow, Nat.reduceLT, ↓reduceIte, Nat.reduceAdd, Nat.reduceMul, Nat.reduceSub, Nat.reduceMod, Nat.reduceLeDiff, Nat.reduceEqDiff, Nat.reduceBEq, reduceCtorEq, nthV, Option.getD_some, w1, w2, w3, c3, Int.reduceLT, decide_true, decide_false, Int.reduceToNat, Int.reduceLE, Nat.reduceLT, forall_const, false_implies, true_implies]
  refine ⟨_, cPack B ft, ?_⟩
  simp only [go_sem, Nat.reduceGT, Nat.reducePow, Nat.reduceLT, ↓reduceIte, Nat.reduceAdd, Nat.reduceMul, Nat.reduceSub, Nat.reduceMod, Nat.reduceLeDiff, Nat.reduceEqDiff, Nat.reduceBEq, reduceCtorEq]
  refine ⟨_, cRPack B ft, ?_⟩
  simp only [go_sem, Nat.reduceGT, Nat.reducePow, Nat.reduceLT, ↓reduceIte, Nat.reduceAdd, Nat.reduceMul, Nat.reduceSub, Nat.reduceMod, Nat.reduceLeDiff, Nat.reduceEqDiff, Nat.reduceBEq, reduceCtorEq]
  refine ⟨_, cREqual _ _, ?_⟩
  simp only [go_sem, Nat.reduceGT, Nat.reducePow, Nat.reduceLT, ↓reduceIte, Nat.reduceAdd, Nat.reduceMul, Nat.reduceSub, Nat.reduceMod, Nat.reduceLeDiff, Nat.reduceEqDiff, Nat.reduceBEq, reduceCtorEq, eqT_self, Bool.not_true, Bool.or_false]
  refine ⟨_, cNormal B ft, ?_⟩
  simp only [go_sem, Nat.reduceGT, Nat.reducePow, Nat.reduceLT, ↓reduceIte, Nat.reduceAdd, Nat.reduceMul, Nat.reduceSub, Nat.reduceMod, Nat.reduceLeDiff, Nat.reduceEqDiff, Nat.reduceBEq, reduceCtorEq]
  refine ⟨_, cRNormal B ft, ?_⟩
  simp only [go_sem, Nat.reduceGT, Nat.reducePow, Nat.reduceLT, ↓reduceIte, Nat.reduceAdd, Nat.reduceMul, Nat.reduceSub, Nat.reduceMod, Nat.reduceLeDiff, Nat.reduceEqDiff, Nat.reduceBEq, reduceCtorEq]
  refine ⟨_, cREqual _ _, ?_⟩
  simp only [go_sem, Nat.reduceGT, Nat.reducePow, Nat.reduceLT, ↓reduceIte, Nat.reduceAdd, Nat.reduceMul, Nat.reduceSub, Nat.reduceMod, Nat.reduceLeDiff, Nat.reduceEqDiff, Nat.reduceBEq, reduceCtorEq, eqT_self, Bool.not_true, Bool.or_false]
  refine awpL_step (aw_ok _ ?_)
  simp only [go_sem, Nat.reduceGT, Nat.reducePow, Nat.reduceLT, ↓reduceIte, Nat.reduceAdd, Nat.reduceMul, Nat.reduceSub, Nat.reduceMod, Nat.reduceLeDiff, Nat.reduceEqDiff, Nat.reduceBEq, reduceCtorEq, nthV, Option.getD_some, w1, w2, w3, c3, Int.reduceLT, decide_true, decide_false, Int.reduceToNat, Int.reduceLE, Nat.reduceLT, forall_const, false_implies, true_implies]
  refine ⟨_, cPack A fL, ?_⟩
  simp only [go_sem, Nat.reduceGT, Nat.reducePow, Nat.reduceLT, ↓reduceIte, Nat.reduceAdd, Nat.reduceMul, Nat.reduceSub, Nat.reduceMod, Nat.reduceLeDiff, Nat.reduceEqDiff, Nat.reduceBEq, reduceCtorEq]
  refine ⟨_, cRPack A fL, ?_⟩
  simp only [go_sem, Nat.reduceGT, Nat.reducePow, Nat.reduceLT, ↓reduceIte, Nat.reduceAdd, Nat.reduceMul, Nat.reduceSub, Nat.reduceMod, Nat.reduceLeDiff, Nat.reduceEqDiff, Nat.reduceBEq, reduceCtorEq]
  refine ⟨_, cREqual _ _, ?_⟩
  simp only [go_sem, Nat.reduceGT, Nat.reducePow, Nat.reduceLT, ↓reduceIte, Nat.reduceAdd, Nat.reduceMul, Nat.reduceSub, Nat.reduceMod, Nat.reduceLeDiff, Nat.reduceEqDiff, Nat.reduceBEq, reduceCtorEq, eqT_self, Bool.not_true, Bool.or_false]
  refine ⟨_, cNormal A fL, ?_⟩
  simp only [go_sem, Nat.reduceGT, Nat.reducePow, Nat.reduceLT, ↓reduceIte, Nat.reduceAdd, Nat.reduceMul, Nat.reduceSub, Nat.reduceMod, Nat.reduceLeDiff, Nat.reduceEqDiff, Nat.reduceBEq, reduceCtorEq]
  refine ⟨_, cRNormal A fL, ?_⟩
  simp only [go_sem, Nat.reduceGT, Nat.reducePow, Nat.reduceLT, ↓reduceIte, Nat.reduceAdd, Nat.reduceMul, Nat.reduceSub, Nat.reduceMod, Nat.reduceLeDiff, Nat.reduceEqDiff, Nat.reduceBEq, reduceCtorEq]
  refine ⟨_, cREqual _ _, ?_⟩
  simp only [go_sem, Nat.reduceGT, Nat.reducePow, Nat.reduceLT, ↓reduceIte, Nat.reduceAdd, Nat.reduceMul, Nat.reduceSub, Nat.reduceMod, Nat.reduceLeDiff, Nat.reduceEqDiff, Nat.reduceBEq, reduceCtorEq, eqT_self, Bool.not_true, Bool.or_false]
  refine awpL_step (aw_ok _ ?_)
  simp only [go_sem, Nat.reduceGT, Nat.reducePow, Nat.reduceLT, ↓reduceIte, Nat.reduceAdd, Nat.reduceMul, Nat.reduceSub, Nat.reduceMod, Nat.reduceLeDiff, Nat.reduceEqDiff, Nat.reduceBEq, reduceCtorEq, nthV, Option.getD_some, w1, w2, w3, c3, Int.reduceLT, decide_true, decide_false, Int.reduceToNat, Int.reduceLE, Nat.reduceLT, forall_const, false_implies, true_implies]
  refine ⟨_, cPack (A ++ C) (fun c hc => (List.mem_append.1 hc).elim (fL c) (fU c)), ?_⟩
  simp only [go_sem, Nat.reduceGT, Nat.reducePow, Nat.reduceLT, ↓reduceIte, Nat.reduceAdd, Nat.reduceMul, Nat.reduceSub, Nat.reduceMod, Nat.reduceLeDiff, Nat.reduceEqDiff, Nat.reduceBEq, reduceCtorEq]
  refine ⟨_, cRPack (A ++ C) (fun c hc => (List.mem_append.1 hc).elim (fL c) (fU c)), ?_⟩
  simp only [go_sem, Nat.reduceGT, Nat.reducePow, Nat.reduceLT, ↓reduceIte, Nat.reduceAdd, Nat.reduceMul, Nat.reduceSub, Nat.reduceMod, Nat.reduceLeDiff, Nat.reduceEqDiff, Nat.reduceBEq, reduceCtorEq]
  refine ⟨_, cREqual _ _, ?_⟩
  simp only [go_sem, Nat.reduceGT, Nat.reducePow, Nat.reduceLT, ↓reduceIte, Nat.reduceAdd, Nat.reduceMul, Nat.reduceSub, Nat.reduceMod, Nat.reduceLeDiff, Nat.reduceEqDiff, Nat.reduceBEq, reduceCtorEq, eqT_self, Bool.not_true, Bool.or_false]
  refine ⟨_, cNormal (A ++ C) (fun c hc => (List.mem_append.1 hc).elim (fL c) (fU c)), ?_⟩
  simp only [go_sem, Nat.reduceGT, Nat.reducePow, Nat.reduceLT, ↓reduceIte, Nat.reduceAdd, Nat.reduceMul, Nat.reduceSub, Nat.reduceMod, Nat.reduceLeDiff, Nat.reduceEqDiff, Nat.reduceBEq, reduceCtorEq]
  refine ⟨_, cRNormal (A ++ C) (fun c hc => (List.mem_append.1 hc).elim (fL c) (fU c)), ?_⟩
  simp only [go_sem, Nat.reduceGT, Nat.reducePow, Nat.reduceLT, ↓reduceIte, Nat.reduceAdd, Nat.reduceMul, Nat.reduceSub, Nat.reduceMod, Nat.reduceLeDiff, Nat.reduceEqDiff, Nat.reduceBEq, reduceCtorEq]
  refine ⟨_, cREqual _ _, ?_⟩
  simp only [go_sem, Nat.reduceGT, Nat.reducePow, Nat.reduceLT, ↓reduceIte, Nat.reduceAdd, Nat.reduceMul, Nat.reduceSub, Nat.reduceMod, Nat.reduceLeDiff, Nat.reduceEqDiff, Nat.reduceBEq, reduceCtorEq, eqT_self, Bool.not_true, Bool.or_false]
  refine awpL_step (aw_ok _ ?_)
  simp only [go_sem, Nat.reduceGT, Nat.reducePow, Nat.reduceLT, ↓reduceIte, Nat.reduceAdd, Nat.reduceMul, Nat.reduceSub, Nat.reduceMod, Nat.reduceLeDiff, Nat.reduceEqDiff, Nat.reduceBEq, reduceCtorEq, nthV, Option.getD_some, w1, w2, w3, c3, Int.reduceLT, decide_true, decide_false, Int.reduceToNat, Int.reduceLE, Nat.reduceLT, forall_const, false_implies, true_implies]
  refine ⟨_, cAwake, ?_⟩
  simp only [go_sem, Nat.reduceGT, Nat.reducePow, Nat.reduceLT, ↓reduceIte, Nat.reduceAdd, Nat.reduceMul, Nat.reduceSub, Nat.reduceMod, Nat.reduceLeDiff, Nat.reduceEqDiff, Nat.reduceBEq, reduceCtorEq]
end Go.Proofs.YtihgmaamkgobkaaGreat
