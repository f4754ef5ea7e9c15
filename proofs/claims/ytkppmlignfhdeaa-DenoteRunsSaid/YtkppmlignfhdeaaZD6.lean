/- Proved here: 'DenoteRuns' returns true for inputs within a bound, for use in the proofs of the given statements; conditions stand in each theorem. -/
import Derived.Test.YtkppmlignfhdeaaY9
set_option linter.unusedSimpArgs false
set_option linter.unusedVariables false
set_option linter.unusedSectionVars false
set_option linter.unusedSimpArgs false
set_option linter.unusedVariables false
set_option linter.unnecessarySimpa false
namespace Go.Proofs.Ytkppmlignfhdeaa
open Go.RowKit
set_option maxRecDepth 4000
theorem cREqRuns (l : List RunR) : CPure Try.prog 13 [.t (truns l), .t (truns l)] (vbool true) := by
  refine cpure_of Try.xen13 Try.func13 rfl Try.ntmps13 (by rw [Try.results13]) (awp_facts fun hf => aw_ok _ ?_)
  simp only [go_sem, Nat.reduceAdd, Nat.reduceSub, factsT] at hf
  have hl : l.length ≤ maxLen := by first | exact hf.1 | exact hf.1.1 | exact hf.2.1
  simp only [go_sem, ↓reduceIte, Nat.reduceAdd, Nat.reduceSub, bne_self_eq_false]
  refine awp_loop_f (fun (k : Nat) σ => setS 5 (vint k) (deadS [11, 12, 13, 14, 15, 16, 17, 18, 19, 20, 21, 22, 23, 24, 25] (cleanS σ))) (fun k => k ≤ l.length) (fun k => l.length - k) 0 (weak_self ?_) (Nat.zero_le _) ?_
  · simp only [go_sem, Nat.reduceLeDiff]
    simp
  · intro k hk
    refine aw_ok _ ?_
    simp only [go_sem, ↓reduceIte]
    refine ⟨fun hlt => ?_, fun hge => ?_⟩
    · simp only [decide_eq_true_eq] at hlt
      have hn := nth_run_any l k
      have hE := eqRun (l.getD k default) (l.getD k default)
      rw [show RunR.eqb (l.getD k default) (l.getD k default) = true from by simp [RunR.eqb]] at hE
      unfold awS
      simp only [go_sem]
      refine drawR_of [0, 1, 2, 3, 4, 5, 6, 7, 8] .done rfl (by kernel_rfl) (by kernel_rfl) (by decide) ?_
      simp only [go_sem, ↓reduceIte, Nat.reduceAdd, Nat.reduceLeDiff, hn]
      refine ⟨⟨by omega, by omega⟩, ⟨by omega, by omega⟩, _, hE, ?_⟩
      simp only [go_sem]
      refine ⟨fun h => h.elim, ?_⟩
      unfold awS
      simp only [go_sem, ↓reduceIte]
      refine ⟨k + 1, weak_self ?_, by omega, by omega⟩
      simp only [go_sem, Nat.reduceLeDiff]
      simp [wrap_of (show k < l.length by omega) hl]
    · simp only [decide_eq_false_iff_not] at hge
      unfold awS
      simp only [go_sem, ↓reduceIte]
theorem denRuns (raw : List ExprR) (L : List Int) (hf : ∀ e ∈ raw, e.fit) (hl : raw.length ≤ 1500000000000) : CPure Try.prog 4 [.t (texprs raw), .t (tints L)] (vbool true) := by
  obtain ⟨x1, x2⟩ := exprsT_facts L
  refine cpure_of Try.xen4 Try.func4 rfl Try.ntmps4 (by rw [Try.results4]) (aw_ok _ ?_)
  simp only [go_sem, ↓reduceIte, Nat.reduceAdd, Nat.reduceSub]
  have x3 : ∀ e ∈ exprsT L, e.fit := fun e he => (x2 e he).1
  refine ⟨_, cExprs L, ?_⟩
  simp only [go_sem, ↓reduceIte]
  refine ⟨_, cRuns _ x3 (by omega), ?_⟩
  simp only [go_sem, ↓reduceIte]
  refine ⟨_, cRRuns _ x3 (by omega), ?_⟩
  simp only [go_sem, ↓reduceIte]
  refine ⟨_, cREqRuns _, ?_⟩
  simp only [go_sem, ↓reduceIte, Bool.and_true]
  refine ⟨_, cRuns _ hf hl, ?_⟩
  simp only [go_sem, ↓reduceIte, Bool.and_true]
  refine ⟨_, cRRuns _ hf hl, ?_⟩
  simp only [go_sem, ↓reduceIte, Bool.and_true]
  refine ⟨_, cREqRuns _, ?_⟩
  simp only [go_sem, ↓reduceIte, Bool.and_true]
  refine ⟨_, cAwake25, ?_⟩
  simp only [go_sem, ↓reduceIte, Bool.and_true]
end Go.Proofs.Ytkppmlignfhdeaa
