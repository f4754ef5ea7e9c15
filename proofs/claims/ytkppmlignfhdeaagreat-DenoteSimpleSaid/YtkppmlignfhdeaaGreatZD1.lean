/- Proved here: 'DenoteSimple' returns true, for use in the proofs of the given statements; conditions stand in each theorem. -/
import Derived.Test.YtkppmlignfhdeaaGreatY7
import Derived.Test.YtkppmlignfhdeaaGreatY4
import Derived.Test.YtkppmlignfhdeaaGreatY5
import Derived.Test.YtkppmlignfhdeaaGreatZOE
set_option linter.unusedSimpArgs false
set_option linter.unusedVariables false
set_option linter.unusedSectionVars false
set_option linter.unusedSimpArgs false
set_option linter.unusedVariables false
set_option linter.unnecessarySimpa false
namespace Go.Proofs.YtkppmlignfhdeaaGreat
open Go.RowKit
set_option maxRecDepth 4000
theorem denSimple (e : ExprR) (L : List Int) (h : e.fit) : CPure Tryz.prog 4 [vexpr e, .t (tints L)] (vbool true) := by
  obtain ⟨v4, f4⟩ := exprAt_ok L 4 0
  have hx := cExprT L 4 0 (by omega) (by decide)
  generalize exprAt L 4 0 = M at v4 f4 hx
  obtain ⟨c, kq⟩ := M
  simp only at v4 f4 hx
  have hS := cSimple e h
  have hR := cRSimple e h
  have hE := cSameE (simpE e) (simpE e)
  rw [eqE_iff.2 (rfl : simpE e = simpE e)] at hE
  have hS2 := cSimple c f4
  have hR2 := cRSimple c f4
  have hE2 := cSameE (simpE c) (simpE c)
  rw [eqE_iff.2 (rfl : simpE c = simpE c)] at hE2
  generalize simpE e = s1 at *
  generalize simpE c = s2 at *
  obtain ⟨o1, m1, fr1, nu1, de1, pa1, te1, ar1⟩ := s1
  obtain ⟨o2, m2, fr2, nu2, de2, pa2, te2, ar2⟩ := s2
  obtain ⟨o3, m3, fr3, nu3, de3, pa3, te3, ar3⟩ := e
  obtain ⟨o4, m4, fr4, nu4, de4, pa4, te4, ar4⟩ := c
  refine cpure_of Tryz.xen4 Tryz.func4 rfl Tryz.ntmps4 (by rw [Tryz.results4]) (aw_ok _ ?_)
  simp only [go_sem, Nat.reduceGT, ↓reduceIte, Nat.reduceAdd, Nat.reduceSub, reduceCtorEq]
  refine icall_box hx rfl rfl rfl ?_
  simp only [go_sem, ↓reduceIte, Nat.reduceAdd, Nat.reduceLeDiff]
  refine drawR_of [0, 1, 2, 3, 4, 5, 6, 7, 8, 9, 10, 11, 12, 13, 14, 15] .done rfl (by kernel_rfl) (by kernel_rfl) (by decide) ?_
  simp only [go_sem, ↓reduceIte, Nat.reduceAdd, Nat.reduceLeDiff, reduceCtorEq]
  refine ⟨_, hS, ?_⟩
  simp only [go_sem, ↓reduceIte, Nat.reduceAdd, Nat.reduceLeDiff, reduceCtorEq]
  refine ⟨_, hR, ?_⟩
  simp only [go_sem, ↓reduceIte]
  refine ⟨_, hE, ?_⟩
  simp only [go_sem, ↓reduceIte, Nat.reduceAdd, Nat.reduceLeDiff, Bool.and_true]
  refine ⟨_, hS2, ?_⟩
  simp only [go_sem, ↓reduceIte, Nat.reduceAdd, Nat.reduceLeDiff, Bool.and_true]
  refine ⟨_, hR2, ?_⟩
  simp only [go_sem, ↓reduceIte, Bool.and_true]
  refine ⟨_, hE2, ?_⟩
  simp only [go_sem, ↓reduceIte, Bool.and_true]
  refine ⟨_, cAwake25, ?_⟩
  simp only [go_sem, ↓reduceIte, Bool.and_true]
end Go.Proofs.YtkppmlignfhdeaaGreat
