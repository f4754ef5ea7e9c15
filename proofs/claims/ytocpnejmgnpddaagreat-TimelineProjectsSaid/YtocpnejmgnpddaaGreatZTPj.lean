/- Proved here: What the statement about valid projects computes, for use in the proofs of the given statements; conditions stand in each theorem. -/
import Derived.Test.YtocpnejmgnpddaaGreatYH
import Derived.Test.YtocpnejmgnpddaaGreatYD
import Derived.Test.YtocpnejmgnpddaaGreatYG
import Derived.Test.YtocpnejmgnpddaaGreatZN
set_option linter.unusedSimpArgs false
set_option linter.unusedVariables false
set_option linter.unusedSectionVars false
set_option linter.unusedSimpArgs false
set_option linter.unusedVariables false
set_option linter.unnecessarySimpa false
namespace Go.Proofs.YtocpnejmgnpddaaGreat
open Go.RowKit
set_option maxRecDepth 4000
theorem projT_sizes (L : List Int) : 1 ≤ (projT L).media.length ∧ (projT L).media.length ≤ 3 ∧ 1 ≤ (projT L).seqs.length ∧ (projT L).seqs.length ≤ 3 ∧ ∀ s ∈ (projT L).seqs, s.video.length ≤ 8 ∧ s.sound.length ≤ 8 ∧ s.cues.length ≤ 64 := by
  obtain ⟨M, N, m1, m3, s1, s3, h1, h2, h3, h4⟩ := projT_parts L
  refine ⟨by omega, by omega, by omega, by omega, fun s hs => ?_⟩
  obtain ⟨i, hi, rfl⟩ := mem_at hs
  have := (h4 i (by omega)).small
  unfold seqSmall at this
  simp only [Bool.and_eq_true, decide_eq_true_eq] at this
  omega
theorem cOddT (L K : List Int) : CPure Tryz.prog 14 [vproj (projT L), .t (tints K)] (vproj (oddP (projT L) K)) := by
  obtain ⟨h1, h2, h3, h4, h5⟩ := projT_sizes L
  exact cOdd _ K h1 (by omega) h3 (by omega) fun s hs => by have := h5 s hs; omega
theorem oddT_fit (L K : List Int) : (oddP (projT L) K).fit := by
  obtain ⟨h1, h2, h3, h4, h5⟩ := projT_sizes L
  exact oddP_fit (projT_fit L) K h1 h3
theorem projects16 (raw : ProjR) (L K : List Int) (h : raw.fit) : CPure Tryz.prog 3 [vproj raw, .t (tints L), .t (tints K)] (vbool true) := by
  have e1 := cValid (projT L) (projT_fit L)
  rw [projT_valid L] at e1
  have e2 := cValid _ (oddT_fit L K)
  have e3 := cRValidP _ (oddT_fit L K)
  have e4 := cValid raw h
  have e5 := cRValidP raw h
  refine cpure_of Tryz.xen3 Tryz.func3 rfl Tryz.ntmps3 (by rw [Tryz.results3]) (aw_ok _ ?_)
  simp only [go_sem, ↓reduceIte, Nat.reduceAdd, Nat.reduceSub]
  refine ⟨_, cProject L, ?_⟩
  simp only [go_sem, ↓reduceIte, Nat.reduceAdd, Nat.reduceLeDiff]
  refine ⟨_, cOddT L K, ?_⟩
  simp only [go_sem, ↓reduceIte, Nat.reduceAdd, Nat.reduceLeDiff]
  refine drawR_of [0, 1, 2, 3, 4, 5, 6, 7, 8, 9, 10, 11, 12, 13, 14, 15, 16, 17, 18, 19, 20] .done rfl (by kernel_rfl) (by kernel_rfl) (by decide) ?_
  simp only [go_sem, ↓reduceIte, Nat.reduceAdd, Nat.reduceLeDiff, Nat.reduceEqDiff]
  refine ⟨_, e1, ?_⟩
  simp only [go_sem, ↓reduceIte, Nat.reduceAdd, Nat.reduceLeDiff]
  refine ⟨_, e2, ?_⟩
  simp only [go_sem, ↓reduceIte, Nat.reduceAdd, Nat.reduceLeDiff]
  refine ⟨_, e3, ?_⟩
  simp only [go_sem, ↓reduceIte, Nat.reduceAdd, Nat.reduceLeDiff, reduceCtorEq]
  refine ⟨_, e4, ?_⟩
  simp only [go_sem, ↓reduceIte, Nat.reduceAdd, Nat.reduceLeDiff, reduceCtorEq]
  refine ⟨_, e5, ?_⟩
  simp only [go_sem, ↓reduceIte]
  refine ⟨_, cAwake, ?_⟩
  simp only [go_sem, ↓reduceIte]
  trace_state
end Go.Proofs.YtocpnejmgnpddaaGreat
