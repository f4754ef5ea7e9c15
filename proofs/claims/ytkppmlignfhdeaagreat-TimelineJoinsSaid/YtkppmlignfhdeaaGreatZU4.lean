/- Proved here: 'TimelineJoins' returns true, for use in the proofs of the given statements; conditions stand in each theorem. -/
import Derived.Test.YtkppmlignfhdeaaGreatZJO
import Derived.Test.YtkppmlignfhdeaaGreatZR
set_option linter.unusedSimpArgs false
set_option linter.unusedVariables false
set_option linter.unusedSectionVars false
set_option linter.unusedSimpArgs false
set_option linter.unusedVariables false
set_option linter.unnecessarySimpa false
namespace Go.Proofs.YtkppmlignfhdeaaGreat
open Go.RowKit
set_option maxRecDepth 4000
theorem nth_rows4 {X : List (List ClipR)} {d : List T} {k : Nat} (h : k < X.length) : nth d (List.map (fun x => [tclips x]) X) k = [tclips (X.getD k default)] := by
  unfold nth
  rw [List.getElem?_map, List.getElem?_eq_getElem h, getD_of_lt h]
  rfl
theorem cTrackP4 (L : List Int) : CPure Tryz.prog 26 [.t (tints L)] (.t (tclips (trackT L))) := by
  refine cpure_of Tryz.xen26 Tryz.func26 rfl Tryz.ntmps26 (by rw [Tryz.results26]) (aw_ok _ ?_)
  simp only [go_sem, Nat.reduceGT, ↓reduceIte, Nat.reduceAdd, Nat.reduceSub, reduceCtorEq]
  refine icall_io (cTrackIO L 0 3 2 9 (by omega) (by omega) (by omega) (by omega) (by omega)) [0] rfl (by omega) (by decide) ?_ rfl rfl rfl rfl ?_
  · simp only [go_sem, Nat.reduceLT, ↓reduceIte]
    rfl
  · simp only [go_sem, Nat.reduceLT, ↓reduceIte, Nat.reduceAdd, Nat.reduceSub, reduceCtorEq, List.getElem?_nil]
    rfl
theorem joins14 (a b : List ClipR) (L U : List Int) (ha : ∀ c ∈ a, c.fit) (hb : ∀ c ∈ b, c.fit) : CPure Tryz.prog 6 [.t (tclips a), .t (tclips b), .t (tints L), .t (tints U)] (vbool true) := by
  refine cpure_of Tryz.xen6 Tryz.func6 rfl Tryz.ntmps6 (by rw [Tryz.results6]) (aw_ok _ ?_)
  simp only [go_sem, ↓reduceIte, Nat.reduceAdd, Nat.reduceSub]
  refine ⟨_, cCut a, ?_⟩
  simp only [go_sem, ↓reduceIte]
  refine ⟨_, cCut b, ?_⟩
  simp only [go_sem]
  refine icall_pure (cTrackP4 L) rfl ?_
  simp only [go_sem]
  refine icall_pure (cTrackP4 U) rfl ?_
  simp only [go_sem, Nat.reducePow, Nat.reduceLT, ↓reduceIte, Nat.reduceAdd, Nat.reduceMul, Nat.reduceLeDiff]
  have hx : ∀ x ∈ [a.take 80, b.take 80, trackT L, trackT U], ∀ c ∈ x, c.fit := by
    intro x hx
    simp only [List.mem_cons, List.not_mem_nil, or_false] at hx
    rcases hx with rfl | rfl | rfl | rfl
    · exact fun c hc => ha c (List.mem_of_mem_take hc)
    · exact fun c hc => hb c (List.mem_of_mem_take hc)
    · exact trackT_fit L
    · exact trackT_fit U
  have e : [[tclips (a.take 80)], [tclips (b.take 80)], [tclips (trackT L)], [tclips (trackT U)]] = [a.take 80, b.take 80, trackT L, trackT U].map fun x => [tclips x] := rfl
  simp only [e]
  have hl : [a.take 80, b.take 80, trackT L, trackT U].length = 4 := rfl
  generalize [a.take 80, b.take 80, trackT L, trackT U] = X at *
  refine awp_loop_f (fun (i : Nat) σ => setS 10 (vint i) σ) (fun i => i ≤ 4) (fun i => 4 - i) 0 (weak_self ?_) (Nat.zero_le _) ?_
  · simp only [go_sem, Nat.reduceLT, ↓reduceIte, Nat.reduceLeDiff]
    simp
  · rintro i hi
    refine aw_ok _ ?_
    simp only [go_sem, ↓reduceIte, hl, List.length_map]
    refine ⟨fun h => ?_, fun h => ?_⟩
    · simp only [decide_eq_true_eq] at h
      unfold awS
      simp only [go_sem, ↓reduceIte]
      refine awp_loop_f (fun (j : Nat) σ => setS 11 (vint j) σ) (fun j => j ≤ 4) (fun j => 4 - j) 0 (weak_self ?_) (Nat.zero_le _) ?_
      · simp only [go_sem, Nat.reduceLT, ↓reduceIte, Nat.reduceLeDiff]
        simp
      · rintro j hj
        refine aw_ok _ ?_
        simp only [go_sem, ↓reduceIte, hl, List.length_map]
        refine ⟨fun h2 => ?_, fun h2 => ?_⟩
        · simp only [decide_eq_true_eq] at h2
          unfold awS
          simp only [go_sem]
          have hnth : ∀ k : Nat, k < 4 → nth [T.lit (Value.slice none 0 0)] (List.map (fun x => [T.list 22 (ClipR.c default) (List.map ClipR.c x)]) X) k = [tclips (X.getD k default)] := fun k hk => nth_rows4 (by omega)
          have hni := hnth i (by omega)
          have hnj := hnth j (by omega)
          have fi := hx _ (mem_getD (l := X) (d := default) (k := i) (by omega))
          have fj := hx _ (mem_getD (l := X) (d := default) (k := j) (by omega))
          clear hnth
          refine drawR_of [0, 1, 2, 3, 4, 5, 6, 7, 8, 9, 10, 11, 12, 13] .done rfl (by kernel_rfl) (by kernel_rfl) (by decide) ?_
          simp only [go_sem, ↓reduceIte, hl, hni, hnj, List.map_cons, List.map_nil, List.getElem?_cons_zero, List.length_map]
          refine ⟨⟨by omega, by omega⟩, by omega, ⟨by omega, by omega⟩, by omega, _, cJoin _ _ fi fj, ?_⟩
          simp only [go_sem]
          refine drawR_of [0, 1, 2, 3, 4, 5, 6, 7, 8, 9, 10, 11, 12, 13] .done rfl (by kernel_rfl) (by kernel_rfl) (by decide) ?_
          simp only [go_sem, ↓reduceIte, hl, hni, hnj, List.map_cons, List.map_nil, List.getElem?_cons_zero, List.length_map]
          refine ⟨⟨by omega, by omega⟩, by omega, ⟨by omega, by omega⟩, by omega, _, cRJoin _ _ fi fj, ?_⟩
          have hE := cREqual (joinT (X.getD i default) (X.getD j default)).1 (joinT (X.getD i default) (X.getD j default)).1
          rw [eqT_self] at hE
          simp only [go_sem, ↓reduceIte, Bool.and_true, bne_self_eq_false]
          refine ⟨_, hE, ?_⟩
          simp only [go_sem, ↓reduceIte, Bool.and_true]
          refine ⟨j + 1, weak_self ?_, by omega, by omega⟩
          simp only [go_sem, Nat.reduceLT, ↓reduceIte, Nat.reduceLeDiff]
          simp [wrap1 (show j < 9223372036854775807 by omega)]
        · simp only [decide_eq_false_iff_not] at h2
          unfold awS
          simp only [go_sem, ↓reduceIte]
          refine ⟨i + 1, weak_self ?_, by omega, by omega⟩
          simp only [go_sem, Nat.reduceLT, ↓reduceIte, Nat.reduceLeDiff]
          simp [wrap1 (show i < 9223372036854775807 by omega)]
    · simp only [decide_eq_false_iff_not] at h
      unfold awS
      simp only [go_sem, ↓reduceIte]
      refine ⟨_, cAwake, ?_⟩
      simp only [go_sem]
end Go.Proofs.YtkppmlignfhdeaaGreat
