/- Proved here: 'DenoteValid' returns true, for use in the proofs of the given statements; conditions stand in each theorem. -/
import Derived.Test.YtkppmlignfhdeaaGreatY7
import Derived.Test.YtkppmlignfhdeaaGreatY4
import Derived.Test.YtkppmlignfhdeaaGreatY5
import Derived.Test.YtkppmlignfhdeaaGreatZOE
set_option linter.unusedSimpArgs false
set_option linter.unusedVariables false
set_option linter.unusedSectionVars false
set_option linter.unusedSimpArgs false
set_option linter.unusedVariables false
set_option linter.unnecessarySimpa false
namespace Go.Proofs.YtkppmlignfhdeaaGreat
open Go.RowKit
set_option maxRecDepth 4000
theorem rowE_c (op : Int) (media : ByteArray) (frame num den param : Int) (text : ByteArray) (args : List ExprR) : [ti op, tstr media, ti frame, ti num, ti den, ti param, tstr text, texprs args] = ExprR.c (.mk op media frame num den param text args) := by
  simp only [ExprR.c, cs_eq]
theorem denValid (a b : ExprR) (L : List Int) (ha : a.fit) (hb : b.fit) : CPure Tryz.prog 3 [vexpr a, vexpr b, .t (tints L)] (vbool true) := by
  obtain ⟨vc, fc⟩ := exprAt_ok L 3 0
  have hxc := cExprT L 3 0 (by omega) (by decide)
  have hle := exprAt_le L 3 0
  have hb3 : bndE 3 ≤ 1000 := by decide
  have hb2 : bndE 2 ≤ 1000 := by decide
  generalize exprAt L 3 0 = M at *
  obtain ⟨c, kq⟩ := M
  simp only at vc fc hxc hle
  obtain ⟨vd, fd⟩ := exprAt_ok L 2 kq
  have hxd := cExprT L 2 kq (by omega) (by omega)
  generalize exprAt L 2 kq = M at *
  obtain ⟨d, kr⟩ := M
  simp only at vd fd hxd
  have hVc := cValidE c fc
  have hVd := cValidE d fd
  rw [vc] at hVc
  rw [vd] at hVd
  obtain ⟨o1, m1, fr1, nu1, de1, pa1, te1, ar1⟩ := a
  obtain ⟨o2, m2, fr2, nu2, de2, pa2, te2, ar2⟩ := b
  obtain ⟨o3, m3, fr3, nu3, de3, pa3, te3, ar3⟩ := c
  obtain ⟨o4, m4, fr4, nu4, de4, pa4, te4, ar4⟩ := d
  have hfx : ∀ e ∈ [ExprR.mk o1 m1 fr1 nu1 de1 pa1 te1 ar1, .mk o2 m2 fr2 nu2 de2 pa2 te2 ar2, .mk o3 m3 fr3 nu3 de3 pa3 te3 ar3, .mk o4 m4 fr4 nu4 de4 pa4 te4 ar4, .mk o3 m3 fr3 nu1 de3 pa3 te3 ar3], e.fit := by
    intro e he
    simp only [List.mem_cons, List.not_mem_nil, or_false] at he
    rcases he with rfl | rfl | rfl | rfl | rfl
    · exact ha
    · exact hb
    · exact fc
    · exact fd
    · simp only [ExprR.fit] at fc ha ⊢
      exact ⟨fc.1, fc.2.1, ha.2.2.1, fc.2.2.2.1, fc.2.2.2.2.1, fc.2.2.2.2.2⟩
  refine cpure_of Tryz.xen3 Tryz.func3 rfl Tryz.ntmps3 (by rw [Tryz.results3]) (aw_ok _ ?_)
  simp only [go_sem, Nat.reduceGT, ↓reduceIte, Nat.reduceAdd, Nat.reduceSub, reduceCtorEq]
  refine icall_box hxc rfl rfl rfl ?_
  simp only [go_sem, ↓reduceIte]
  refine icall_box hxd rfl rfl rfl ?_
  simp only [go_sem, ↓reduceIte, Nat.reduceAdd, Nat.reduceLeDiff, Nat.reduceEqDiff]
  refine ⟨_, hVc, ?_⟩
  simp only [go_sem, ↓reduceIte, Nat.reduceAdd, Nat.reduceLeDiff, Bool.and_true]
  refine ⟨_, hVd, ?_⟩
  simp only [go_sem, Nat.reduceGT, Nat.reducePow, Nat.reduceLT, ↓reduceIte, Nat.reduceAdd, Nat.reduceMul, Nat.reduceLeDiff, Nat.reduceEqDiff, reduceCtorEq, Bool.and_true, rowE_c]
  have e : [ExprR.c (.mk o1 m1 fr1 nu1 de1 pa1 te1 ar1), ExprR.c (.mk o2 m2 fr2 nu2 de2 pa2 te2 ar2), ExprR.c (.mk o3 m3 fr3 nu3 de3 pa3 te3 ar3), ExprR.c (.mk o4 m4 fr4 nu4 de4 pa4 te4 ar4), ExprR.c (.mk o3 m3 fr3 nu1 de3 pa3 te3 ar3)] = [ExprR.mk o1 m1 fr1 nu1 de1 pa1 te1 ar1, .mk o2 m2 fr2 nu2 de2 pa2 te2 ar2, .mk o3 m3 fr3 nu3 de3 pa3 te3 ar3, .mk o4 m4 fr4 nu4 de4 pa4 te4 ar4, .mk o3 m3 fr3 nu1 de3 pa3 te3 ar3].map ExprR.c := rfl
  simp only [e]
  clear e
  have hl : [ExprR.mk o1 m1 fr1 nu1 de1 pa1 te1 ar1, .mk o2 m2 fr2 nu2 de2 pa2 te2 ar2, .mk o3 m3 fr3 nu3 de3 pa3 te3 ar3, .mk o4 m4 fr4 nu4 de4 pa4 te4 ar4, .mk o3 m3 fr3 nu1 de3 pa3 te3 ar3].length = 5 := rfl
  generalize [ExprR.mk o1 m1 fr1 nu1 de1 pa1 te1 ar1, .mk o2 m2 fr2 nu2 de2 pa2 te2 ar2, .mk o3 m3 fr3 nu3 de3 pa3 te3 ar3, .mk o4 m4 fr4 nu4 de4 pa4 te4 ar4, .mk o3 m3 fr3 nu1 de3 pa3 te3 ar3] = X at *
  have hS := fun i j => cSameE (X.getD i default) (X.getD j default)
  have hR := fun i j => cRSameE (X.getD i default) (X.getD j default)
  have hV := fun i (h : i < X.length) => cValidE (X.getD i default) (hfx _ (mem_getDE h))
  have hW := fun i (h : i < X.length) => cRValidE (X.getD i default) (hfx _ (mem_getDE h))
  refine awp_loop_f (fun (i : Nat) σ => setS 11 (vint i) (deadS [12, 50, 51, 52, 53, 54, 55, 56, 57, 58, 59, 60, 61, 62, 63, 64, 65, 66, 67, 68, 69, 70, 71, 72, 73, 74, 75, 76, 77, 78, 79, 80, 81, 82, 83, 84, 85, 86, 87, 88, 89, 90, 91] σ)) (fun i => i ≤ 5) (fun i => 5 - i) 0 (weak_self ?_) (Nat.zero_le _) ?_
  · simp only [go_sem, Nat.reduceLT, ↓reduceIte, Nat.reduceLeDiff, Nat.reduceEqDiff, reduceCtorEq]
    simp
  · rintro i hi
    refine aw_ok _ ?_
    simp only [go_sem, ↓reduceIte, hl, List.length_map]
    refine ⟨fun h => ?_, fun h => ?_⟩
    · simp only [decide_eq_true_eq] at h
      have hni := fun d => nth_expr d (show i < X.length by omega)
      have hVi := hV i (by omega)
      have hWi := hW i (by omega)
      have hSi := hS i
      have hRi := hR i
      unfold awS
      simp only [go_sem, ↓reduceIte]
      refine awp_loop_f (fun (j : Nat) σ => setS 12 (vint j) (deadS [56, 57, 58, 59, 60, 61, 62, 63, 64, 65, 66, 67, 68, 69, 70, 71, 72, 73, 74, 75, 76, 77, 78, 79, 80] σ)) (fun j => j ≤ 5) (fun j => 5 - j) 0 (weak_self ?_) (Nat.zero_le _) ?_
      · simp only [go_sem, Nat.reduceLT, ↓reduceIte, Nat.reduceLeDiff, Nat.reduceEqDiff, reduceCtorEq]
        simp
      · rintro j hj
        refine aw_ok _ ?_
        simp only [go_sem, ↓reduceIte, hl, List.length_map]
        refine ⟨fun h2 => ?_, fun h2 => ?_⟩
        · simp only [decide_eq_true_eq] at h2
          have hnj := fun d => nth_expr d (show j < X.length by omega)
          have hSij := hSi j
          have hRij := hRi j
          rcases hx : X.getD i default with ⟨p1, q1, r1, s1, t1, u1, w1, z1⟩
          rcases hy : X.getD j default with ⟨p2, q2, r2, s2, t2, u2, w2, z2⟩
          rw [hx] at hSij hRij
          rw [hy] at hSij hRij
          simp only [hx] at hni
          simp only [hy] at hnj
          unfold awS
          simp only [go_sem]
          refine drawR_of [0, 1, 2, 3, 4, 5, 6, 7, 8, 9, 10, 11, 12, 13, 14, 15, 16, 17, 18] .done rfl (by kernel_rfl) (by kernel_rfl) (by decide) ?_
          simp only [go_sem, ↓reduceIte, Nat.reduceAdd, Nat.reduceLeDiff, hl, hni, hnj, ExprR.c, cs_eq, List.length_map]
          refine ⟨⟨by omega, by omega⟩, by omega, ⟨by omega, by omega⟩, by omega, _, hSij, ?_⟩
          simp only [go_sem, ↓reduceIte, Nat.reduceAdd, Nat.reduceLeDiff, hl, hni, hnj, ExprR.c, cs_eq, List.length_map]
          refine ⟨⟨by omega, by omega⟩, by omega, ⟨by omega, by omega⟩, by omega, _, hRij, ?_⟩
          simp only [go_sem, ↓reduceIte]
          refine ⟨j + 1, weak_self ?_, by omega, by omega⟩
          simp only [go_sem, Nat.reduceLT, ↓reduceIte, Nat.reduceLeDiff, Nat.reduceEqDiff, reduceCtorEq]
          simp [wrap1 (show j < 9223372036854775807 by omega)]
        · simp only [decide_eq_false_iff_not] at h2
          rcases hx : X.getD i default with ⟨p1, q1, r1, s1, t1, u1, w1, z1⟩
          rw [hx] at hVi hWi
          simp only [hx] at hni
          unfold awS
          simp only [go_sem, ↓reduceIte]
          refine drawR_of [0, 1, 2, 3, 4, 5, 6, 7, 8, 9, 10] .done rfl (by kernel_rfl) (by kernel_rfl) (by decide) ?_
          simp only [go_sem, ↓reduceIte, Nat.reduceAdd, Nat.reduceLeDiff, hl, hni, ExprR.c, cs_eq, List.length_map]
          refine ⟨⟨by omega, by omega⟩, by omega, _, hVi, ?_⟩
          simp only [go_sem, ↓reduceIte, Nat.reduceAdd, Nat.reduceLeDiff, hl, hni, ExprR.c, cs_eq, List.length_map]
          refine ⟨⟨by omega, by omega⟩, by omega, _, hWi, ?_⟩
          simp only [go_sem, ↓reduceIte]
          refine ⟨i + 1, weak_self ?_, by omega, by omega⟩
          simp only [go_sem, Nat.reduceLT, ↓reduceIte, Nat.reduceLeDiff, Nat.reduceEqDiff, reduceCtorEq]
          simp [wrap1 (show i < 9223372036854775807 by omega)]
    · simp only [decide_eq_false_iff_not] at h
      unfold awS
      simp only [go_sem, ↓reduceIte]
      refine ⟨_, cAwake25, ?_⟩
      simp only [go_sem]
end Go.Proofs.YtkppmlignfhdeaaGreat
