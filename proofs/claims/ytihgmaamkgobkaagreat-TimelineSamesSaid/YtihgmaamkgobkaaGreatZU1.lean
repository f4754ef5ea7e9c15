/- Proved here: 'TimelineSames' returns true, for use in the proofs of the given statements; conditions stand in each theorem. -/
import Derived.Test.YtihgmaamkgobkaaGreatZTZ
set_option linter.unusedSimpArgs false
set_option linter.unusedVariables false
set_option linter.unusedSectionVars false
set_option linter.unusedSimpArgs false
set_option linter.unusedVariables false
set_option linter.unnecessarySimpa false
namespace Go.Proofs.YtihgmaamkgobkaaGreat
open Go.RowKit
set_option maxRecDepth 4000
theorem nth_rows {X : List (List ClipR)} {d : List T} {k : Nat} (h : k < X.length) : nth d (List.map (fun x => [tclips x]) X) k = [tclips (X.getD k default)] := by
  unfold nth
  rw [List.getElem?_map, List.getElem?_eq_getElem h, getD_of_lt h]
  rfl
theorem sames11 (a b : List ClipR) (L U : List Int) (ha : ∀ c ∈ a, c.fit) (hb : ∀ c ∈ b, c.fit) : CPure Tryz.prog 10 [.t (tclips a), .t (tclips b), .t (tints L), .t (tints U)] (vbool true) := by
  refine cpure_of Tryz.xen10 Tryz.func10 rfl Tryz.ntmps10 (by rw [Tryz.results10]) (aw_ok _ ?_)
  simp only [go_sem, Nat.reduceGT, Nat.reducePow, Nat.reduceLT, ↓reduceIte, Nat.reduceAdd, Nat.reduceMul, Nat.reduceSub, Nat.reduceMod, Nat.reduceLeDiff, Nat.reduceEqDiff, Nat.reduceBEq, reduceCtorEq]
  refine ⟨_, cCut a, ?_⟩
  simp only [go_sem, Nat.reduceGT, Nat.reducePow, Nat.reduceLT, ↓reduceIte, Nat.reduceAdd, Nat.reduceMul, Nat.reduceSub, Nat.reduceMod, Nat.reduceLeDiff, Nat.reduceEqDiff, Nat.reduceBEq, reduceCtorEq]
  refine ⟨_, cCut b, ?_⟩
  simp only [go_sem, Nat.reduceGT, Nat.reducePow, Nat.reduceLT, ↓reduceIte, Nat.reduceAdd, Nat.reduceMul, Nat.reduceSub, Nat.reduceMod, Nat.reduceLeDiff, Nat.reduceEqDiff, Nat.reduceBEq, reduceCtorEq]
  refine icall_pure (cTrackP L) rfl ?_
  simp only [go_sem, Nat.reduceGT, Nat.reducePow, Nat.reduceLT, ↓reduceIte, Nat.reduceAdd, Nat.reduceMul, Nat.reduceSub, Nat.reduceMod, Nat.reduceLeDiff, Nat.reduceEqDiff, Nat.reduceBEq, reduceCtorEq]
  refine icall_pure (cTrackP U) rfl ?_
  simp only [go_sem, Nat.reduceGT, Nat.reducePow, Nat.reduceLT, ↓reduceIte, Nat.reduceAdd, Nat.reduceMul, Nat.reduceSub, Nat.reduceMod, Nat.reduceLeDiff, Nat.reduceEqDiff, Nat.reduceBEq, reduceCtorEq]
  have hx : ∀ x ∈ [a.take 80, b.take 80, trackT L, trackT U], ∀ c ∈ x, c.fit := by
    intro x hx
    simp only [List.mem_cons, List.not_mem_nil, or_false] at hx
    rcases hx with rfl | rfl | rfl | rfl
    · exact fun c hc => ha c (List.mem_of_mem_take hc)
    · exact fun c hc => hb c (List.mem_of_mem_take hc)
    · exact trackT_fit L
    · exact trackT_fit U
  have e : [[tclips (a.take 80)], [tclips (b.take 80)], [tclips (trackT L)], [tclips (trackT U)]] = [a.take 80, b.take 80, trackT L, trackT U].map fun x => [tclips x] := rfl
  simp only [e]
  have hl : [a.take 80, b.take 80, trackT L, trackT U].length = 4 := rfl
  generalize [a.take 80, b.take 80, trackT L, trackT U] = X at *
  refine awp_loop_f (fun (i : Nat) σ => setS 10 (vint i) σ) (fun i => i ≤ 4) (fun i => 4 - i) 0 (weak_self ?_) (Nat.zero_le _) ?_
  · simp only [go_sem, Nat.reduceGT, Nat.reducePow, Nat.reduceLT, ↓reduceIte, Nat.reduceAdd, Nat.reduceMul, Nat.reduceSub, Nat.reduceMod, Nat.reduceLeDiff, Nat.reduceEqDiff, Nat.reduceBEq, reduceCtorEq]
    simp
  · rintro i hi
    refine aw_ok _ ?_
    simp only [go_sem, Nat.reduceGT, Nat.reducePow, Nat.reduceLT, ↓reduceIte, Nat.reduceAdd, Nat.reduceMul, Nat.reduceSub, Nat.reduceMod, Nat.reduceLeDiff, Nat.reduceEqDiff, Nat.reduceBEq, reduceCtorEq, hl]
    refine ⟨fun h => ?_, fun h => ?_⟩
    · simp only [decide_eq_true_eq, decide_eq_false_iff_not, beq_iff_eq, bne_iff_ne, ne_eq, beq_eq_false_iff_ne, Bool.not_eq_true', Bool.not_eq_true, Bool.not_eq_false', Bool.or_eq_true, Bool.and_eq_true, Bool.or_eq_false_iff, Bool.and_eq_false_iff, Bool.false_eq_true, Bool.not_eq_eq_eq_not, Bool.not_true, Bool.not_false] at h
      unfold awS
      simp only [go_sem, Nat.reduceGT, Nat.reducePow, Nat.reduceLT, ↓reduceIte, Nat.reduceAdd, Nat.reduceMul, Nat.reduceSub, Nat.reduceMod, Nat.reduceLeDiff, Nat.reduceEqDiff, Nat.reduceBEq, reduceCtorEq]
      refine awp_loop_f (fun (j : Nat) σ => setS 11 (vint j) σ) (fun j => j ≤ 4) (fun j => 4 - j) 0 (weak_self ?_) (Nat.zero_le _) ?_
      · simp only [go_sem, Nat.reduceGT, Nat.reducePow, Nat.reduceLT, ↓reduceIte, Nat.reduceAdd, Nat.reduceMul, Nat.reduceSub, Nat.reduceMod, Nat.reduceLeDiff, Nat.reduceEqDiff, Nat.reduceBEq, reduceCtorEq]
        simp
      · rintro j hj
        refine aw_ok _ ?_
        simp only [go_sem, Nat.reduceGT, Nat.reducePow, Nat.reduceLT, ↓reduceIte, Nat.reduceAdd, Nat.reduceMul, Nat.reduceSub, Nat.reduceMod, Nat.reduceLeDiff, Nat.reduceEqDiff, Nat.reduceBEq, reduceCtorEq, hl]
        refine ⟨fun h2 => ?_, fun h2 => ?_⟩
        · simp only [decide_eq_true_eq, decide_eq_false_iff_not, beq_iff_eq, bne_iff_ne, ne_eq, beq_eq_false_iff_ne, Bool.not_eq_true', Bool.not_eq_true, Bool.not_eq_false', Bool.or_eq_true, Bool.and_eq_true, Bool.or_eq_false_iff, Bool.and_eq_false_iff, Bool.false_eq_true, Bool.not_eq_eq_eq_not, Bool.not_true, Bool.not_false] at h2
          unfold awS
          simp only [go_sem, Nat.reduceGT, Nat.reducePow, Nat.reduceLT, ↓reduceIte, Nat.reduceAdd, Nat.reduceMul, Nat.reduceSub, Nat.reduceMod, Nat.reduceLeDiff, Nat.reduceEqDiff, Nat.reduceBEq, reduceCtorEq]
          refine drawR_of [0, 1, 2, 3, 4, 5, 6, 7, 8, 9, 10, 11, 12, 13, 14, 15, 16, 17, 18, 19, 20, 21, 22, 23, 24, 25, 26, 27, 28, 29, 30, 31, 32, 33, 34, 35, 36, 37, 38, 39] .done rfl (by kernel_rfl) (by kernel_rfl) (by decide) ?_
          have hnth : ∀ k : Nat, k < 4 → nth [T.lit (Value.slice none 0 0)] (List.map (fun x => [T.list 22 (ClipR.c default) (List.map ClipR.c x)]) X) k = [tclips (X.getD k default)] := fun k hk => nth_rows (by omega)
          have hni := hnth i (by omega)
          have hnj := hnth j (by omega)
          have fi := hx _ (mem_getD (l := X) (d := default) (k := i) (by omega))
          have fj := hx _ (mem_getD (l := X) (d := default) (k := j) (by omega))
          clear hnth
          simp only [go_sem, Nat.reduceGT, Nat.reducePow, Nat.reduceLT, ↓reduceIte, Nat.reduceAdd, Nat.reduceMul, Nat.reduceSub, Nat.reduceMod, Nat.reduceLeDiff, Nat.reduceEqDiff, Nat.reduceBEq, reduceCtorEq, hl, hni, hnj, List.map_cons, List.map_nil, List.getElem?_cons_zero, bne_self_eq_false]
          refine ⟨⟨by omega, by omega⟩, by omega, ?_⟩
          refine ⟨⟨by omega, by omega⟩, by omega, _, cPSame _ _ fi fj, ?_⟩
          simp only [go_sem, Nat.reduceGT, Nat.reducePow, Nat.reduceLT, ↓reduceIte, Nat.reduceAdd, Nat.reduceMul, Nat.reduceSub, Nat.reduceMod, Nat.reduceLeDiff, Nat.reduceEqDiff, Nat.reduceBEq, reduceCtorEq, hl, hni, hnj, List.map_cons, List.map_nil, List.getElem?_cons_zero, bne_self_eq_false]
          refine ⟨⟨by omega, by omega⟩, by omega, ?_⟩
          refine ⟨⟨by omega, by omega⟩, by omega, _, cRSame _ _ fi fj, ?_⟩
          simp only [go_sem, Nat.reduceGT, Nat.reducePow, Nat.reduceLT, ↓reduceIte, Nat.reduceAdd, Nat.reduceMul, Nat.reduceSub, Nat.reduceMod, Nat.reduceLeDiff, Nat.reduceEqDiff, Nat.reduceBEq, reduceCtorEq, hl, hni, hnj, List.map_cons, List.map_nil, List.getElem?_cons_zero, bne_self_eq_false]
          refine ⟨⟨by omega, by omega⟩, by omega, ⟨by omega, by omega⟩, by omega, _, cPSame _ _ fi fj, ?_⟩
          simp only [go_sem, Nat.reduceGT, Nat.reducePow, Nat.reduceLT, ↓reduceIte, Nat.reduceAdd, Nat.reduceMul, Nat.reduceSub, Nat.reduceMod, Nat.reduceLeDiff, Nat.reduceEqDiff, Nat.reduceBEq, reduceCtorEq, hl, hni, hnj, List.map_cons, List.map_nil, List.getElem?_cons_zero, bne_self_eq_false]
          refine ⟨⟨by omega, by omega⟩, by omega, ⟨by omega, by omega⟩, by omega, _, cPSame _ _ fj fi, ?_⟩
          rw [sameT_comm (X.getD j default) (X.getD i default)]
          simp only [go_sem, Nat.reduceGT, Nat.reducePow, Nat.reduceLT, ↓reduceIte, Nat.reduceAdd, Nat.reduceMul, Nat.reduceSub, Nat.reduceMod, Nat.reduceLeDiff, Nat.reduceEqDiff, Nat.reduceBEq, reduceCtorEq, hl, hni, hnj, List.map_cons, List.map_nil, List.getElem?_cons_zero, bne_self_eq_false, Bool.or_false]
          refine ⟨j + 1, weak_self ?_, by omega, by omega⟩
          simp only [go_sem, Nat.reduceGT, Nat.reducePow, Nat.reduceLT, ↓reduceIte, Nat.reduceAdd, Nat.reduceMul, Nat.reduceSub, Nat.reduceMod, Nat.reduceLeDiff, Nat.reduceEqDiff, Nat.reduceBEq, reduceCtorEq]
          simp [wrap1 (show j < 9223372036854775807 by omega)]
        · simp only [decide_eq_true_eq, decide_eq_false_iff_not, beq_iff_eq, bne_iff_ne, ne_eq, beq_eq_false_iff_ne, Bool.not_eq_true', Bool.not_eq_true, Bool.not_eq_false', Bool.or_eq_true, Bool.and_eq_true, Bool.or_eq_false_iff, Bool.and_eq_false_iff, Bool.false_eq_true, Bool.not_eq_eq_eq_not, Bool.not_true, Bool.not_false] at h2
          unfold awS
          simp only [go_sem, Nat.reduceGT, Nat.reducePow, Nat.reduceLT, ↓reduceIte, Nat.reduceAdd, Nat.reduceMul, Nat.reduceSub, Nat.reduceMod, Nat.reduceLeDiff, Nat.reduceEqDiff, Nat.reduceBEq, reduceCtorEq]
          refine ⟨i + 1, weak_self ?_, by omega, by omega⟩
          simp only [go_sem, Nat.reduceGT, Nat.reducePow, Nat.reduceLT, ↓reduceIte, Nat.reduceAdd, Nat.reduceMul, Nat.reduceSub, Nat.reduceMod, Nat.reduceLeDiff, Nat.reduceEqDiff, Nat.reduceBEq, reduceCtorEq]
          simp [wrap1 (show i < 9223372036854775807 by omega)]
    · simp only [decide_eq_true_eq, decide_eq_false_iff_not, beq_iff_eq, bne_iff_ne, ne_eq, beq_eq_false_iff_ne, Bool.not_eq_true', Bool.not_eq_true, Bool.not_eq_false', Bool.or_eq_true, Bool.and_eq_true, Bool.or_eq_false_iff, Bool.and_eq_false_iff, Bool.false_eq_true, Bool.not_eq_eq_eq_not, Bool.not_true, Bool.not_false] at h
      unfold awS
      simp only [go_sem, Nat.reduceGT, Nat.reducePow, Nat.reduceLT, ↓reduceIte, Nat.reduceAdd, Nat.reduceMul, Nat.reduceSub, Nat.reduceMod, Nat.reduceLeDiff, Nat.reduceEqDiff, Nat.reduceBEq, reduceCtorEq]
      refine ⟨_, cAwake, ?_⟩
      simp only [go_sem, Nat.reduceGT, Nat.reducePow, Nat.reduceLT, ↓reduceIte, Nat.reduceAdd, Nat.reduceMul, Nat.reduceSub, Nat.reduceMod, Nat.reduceLeDiff, Nat.reduceEqDiff, Nat.reduceBEq, reduceCtorEq]
end Go.Proofs.YtihgmaamkgobkaaGreat
