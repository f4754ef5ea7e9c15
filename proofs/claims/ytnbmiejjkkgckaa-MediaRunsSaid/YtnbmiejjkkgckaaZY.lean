/- Proved here: Contracts of the functions that make states, for use in the proofs of the given statements; conditions stand in each theorem. -/
import Derived.Test.YtnbmiejjkkgckaaZX
import Derived.Test.YtnbmiejjkkgckaaZJ
import Derived.Test.YtnbmiejjkkgckaaZT
set_option linter.unusedSimpArgs false
set_option linter.unusedVariables false
set_option linter.unusedSimpArgs false
set_option linter.unusedVariables false
namespace Go.Proofs.Ytnbmiejjkkgckaa
open Go.RowKit
set_option maxRecDepth 4000
@[go_sem] abbrev Row23 (l : List Int) : Blk := .row 49 1 (intC 0) (tRows (l.map intC))
@[go_sem] abbrev BadF (k : Nat) (s : StateR) (σ : St) : St :=
  { fr := ((σ.fr.set 7 (.t (touts []))).set 8 (.own 3)).set 11 (vint k),
    h := [(3, Row23 (List.replicate k 1)), (2, .box [.t (tfiles []), .t (tlinks [])]), (1, .box [.t (tfiles []), .t (tlinks [])]), (0, .box [.t (tfiles s.files), .t (tlinks s.links)])], nx := 4 }
@[go_sem] abbrev GoodF (acc : StateR × List OutR × List Int) (k : Nat) (s : StateR) (σ : St) : St :=
  { fr := (((σ.fr.take 15 ++ List.replicate (σ.fr.length - 15) V.dead).set 7 (.own 4)).set 8 (.own 3)).set 11 (vint k),
    h := [(4, .row 61 2 (OutR.c default) (tRows (acc.2.1.map OutR.c))), (3, Row23 acc.2.2), (2, .box [.t (tfiles acc.1.files), .t (tlinks acc.1.links)]), (1, .box [.t (tfiles []), .t (tlinks [])]), (0, .box [.t (tfiles s.files), .t (tlinks s.links)])], nx := 5 }
theorem run23 (s : StateR) (es : List EventR) (hes : es.length ≤ 65536) : CPure Try.prog 23 [vstate s, .t (tevents es)] (.tup [vstate (runS s es).1, .t (touts (runS s es).2.1), .t (tints (runS s es).2.2)]) := by
  refine cpure_of Try.xen23 Try.func23 rfl Try.ntmps23 (by rw [Try.results23]) (awp_facts fun hf => aw_ok _ ?_)
  simp only [go_sem, ne_eq, not_true_eq_false, or_false, false_or, or_self, Nat.reduceGT, Nat.reducePow, Nat.reduceLT, ↓reduceIte, Nat.reduceAdd, Nat.reduceMul, Nat.reduceSub, Nat.reduceMod, Nat.reduceLeDiff, Nat.reduceEqDiff, Nat.reduceBEq, reduceCtorEq, imp_self, implies_true, beq_self_eq_true, bne_self_eq_false, Bool.not_false, Bool.not_true, beq_true, beq_false, Bool.or_self, Bool.false_or, Bool.or_false, Bool.true_or, Bool.false_and, Bool.and_false, factsT] at hf
  have hel : es.length ≤ maxLen := hf.2.1
  simp only [go_sem, ne_eq, not_true_eq_false, or_false, false_or, or_self, Nat.reduceGT, Nat.reducePow, Nat.reduceLT, ↓reduceIte, Nat.reduceAdd, Nat.reduceMul, Nat.reduceSub, Nat.reduceMod, Nat.reduceLeDiff, Nat.reduceEqDiff, Nat.reduceBEq, reduceCtorEq, imp_self, implies_true, beq_self_eq_true, bne_self_eq_false, Bool.not_false, Bool.not_true, beq_true, beq_false, Bool.or_self, Bool.false_or, Bool.or_false, Bool.true_or, Bool.false_and, Bool.and_false]
  refine ⟨_, valid14 s, ?_⟩
  simp only [go_sem, ne_eq, not_true_eq_false, or_false, false_or, or_self, Nat.reduceGT, Nat.reducePow, Nat.reduceLT, ↓reduceIte, Nat.reduceAdd, Nat.reduceMul, Nat.reduceSub, Nat.reduceMod, Nat.reduceLeDiff, Nat.reduceEqDiff, Nat.reduceBEq, reduceCtorEq, imp_self, implies_true, beq_self_eq_true, bne_self_eq_false, Bool.not_false, Bool.not_true, beq_true, beq_false, Bool.or_self, Bool.false_or, Bool.or_false, Bool.true_or, Bool.false_and, Bool.and_false]
  refine ⟨fun hv => ?_, fun hv => ?_⟩
  · have hfit := valid_fit hv (facts_files hf.1.1.2) (facts_links hf.1.2.2)
    have hnf := hfit.nf
    have hnl := hfit.nl
    have hefs := facts_events hf.2.2
    unfold awS
    simp only [go_sem, ne_eq, not_true_eq_false, or_false, false_or, or_self, Nat.reduceGT, Nat.reducePow, Nat.reduceLT, ↓reduceIte, Nat.reduceAdd, Nat.reduceMul, Nat.reduceSub, Nat.reduceMod, Nat.reduceLeDiff, Nat.reduceEqDiff, Nat.reduceBEq, reduceCtorEq, imp_self, implies_true, beq_self_eq_true, bne_self_eq_false, Bool.not_false, Bool.not_true, beq_true, beq_false, Bool.or_self, Bool.false_or, Bool.or_false, Bool.true_or, Bool.false_and, Bool.and_false]
    refine drawC_of 10 .done rfl (by kernel_rfl) (by kernel_rfl) (by decide) ?_
    simp only [go_sem, ne_eq, not_true_eq_false, or_false, false_or, or_self, Nat.reduceGT, Nat.reducePow, Nat.reduceLT, ↓reduceIte, Nat.reduceAdd, Nat.reduceMul, Nat.reduceSub, Nat.reduceMod, Nat.reduceLeDiff, Nat.reduceEqDiff, Nat.reduceBEq, reduceCtorEq, imp_self, implies_true, beq_self_eq_true, bne_self_eq_false, Bool.not_false, Bool.not_true, beq_true, beq_false, Bool.or_self, Bool.false_or, Bool.or_false, Bool.true_or, Bool.false_and, Bool.and_false]
    refine ⟨⟨by unfold maxLen; omega, by omega⟩, ⟨by unfold maxLen; omega, by omega⟩, by kernel_rfl, ?_⟩
    refine awp_loop_f (fun (k : Nat) σ => GoodF (runFrom s (es.take k)) k s σ) (fun k => k ≤ es.length) (fun k => es.length - k) 0 (weak_of [(4, none), (3, none), (2, some 2), (1, some 1), (0, some 0)] ?_) (Nat.zero_le _) ?_
    · simp only [go_sem, ne_eq, not_true_eq_false, or_false, false_or, or_self, Nat.reduceGT, Nat.reducePow, Nat.reduceLT, ↓reduceIte, Nat.reduceAdd, Nat.reduceMul, Nat.reduceSub, Nat.reduceMod, Nat.reduceLeDiff, Nat.reduceEqDiff, Nat.reduceBEq, reduceCtorEq, imp_self, implies_true, beq_self_eq_true, bne_self_eq_false, Bool.not_false, Bool.not_true, beq_true, beq_false, Bool.or_self, Bool.false_or, Bool.or_false, Bool.true_or, Bool.false_and, Bool.and_false]
      simp [runFrom]
      exact ⟨rfl, rfl⟩
    · intro k hk
      refine aw_ok _ ?_
      simp only [go_sem, ne_eq, not_true_eq_false, or_false, false_or, or_self, Nat.reduceGT, Nat.reducePow, Nat.reduceLT, ↓reduceIte, Nat.reduceAdd, Nat.reduceMul, Nat.reduceSub, Nat.reduceMod, Nat.reduceLeDiff, Nat.reduceEqDiff, Nat.reduceBEq, reduceCtorEq, imp_self, implies_true, beq_self_eq_true, bne_self_eq_false, Bool.not_false, Bool.not_true, beq_true, beq_false, Bool.or_self, Bool.false_or, Bool.or_false, Bool.true_or, Bool.false_and, Bool.and_false, hv]
      refine ⟨fun hlt => ?_, fun hge => ?_⟩
      all_goals simp only [decide_eq_true_eq, decide_eq_false_iff_not, Int.ofNat_lt] at *
      · unfold awS
        simp only [go_sem, ne_eq, not_true_eq_false, or_false, false_or, or_self, Nat.reduceGT, Nat.reducePow, Nat.reduceLT, ↓reduceIte, Nat.reduceAdd, Nat.reduceMul, Nat.reduceSub, Nat.reduceMod, Nat.reduceLeDiff, Nat.reduceEqDiff, Nat.reduceBEq, reduceCtorEq, imp_self, implies_true, beq_self_eq_true, bne_self_eq_false, Bool.not_false, Bool.not_true, beq_true, beq_false, Bool.or_self, Bool.false_or, Bool.or_false, Bool.true_or, Bool.false_and, Bool.and_false, hv]
        refine drawC_of 14 .done rfl (by kernel_rfl) (by kernel_rfl) (by decide) ?_
        simp only [go_sem, ne_eq, not_true_eq_false, or_false, false_or, or_self, Nat.reduceGT, Nat.reducePow, Nat.reduceLT, ↓reduceIte, Nat.reduceAdd, Nat.reduceMul, Nat.reduceSub, Nat.reduceMod, Nat.reduceLeDiff, Nat.reduceEqDiff, Nat.reduceBEq, reduceCtorEq, imp_self, implies_true, beq_self_eq_true, bne_self_eq_false, Bool.not_false, Bool.not_true, beq_true, beq_false, Bool.or_self, Bool.false_or, Bool.or_false, Bool.true_or, Bool.false_and, Bool.and_false]
        refine ⟨⟨by omega, by omega⟩, _, step19 _ _, ?_⟩
        simp only [go_sem, ne_eq, not_true_eq_false, or_false, false_or, or_self, Nat.reduceGT, Nat.reducePow, Nat.reduceLT, ↓reduceIte, Nat.reduceAdd, Nat.reduceMul, Nat.reduceSub, Nat.reduceMod, Nat.reduceLeDiff, Nat.reduceEqDiff, Nat.reduceBEq, reduceCtorEq, imp_self, implies_true, beq_self_eq_true, bne_self_eq_false, Bool.not_false, Bool.not_true, beq_true, beq_false, Bool.or_self, Bool.false_or, Bool.or_false, Bool.true_or, Bool.false_and, Bool.and_false]
        have hacc : (runFrom s (List.take k es)).snd.snd.length = k := runFrom_len s es k hk
        have houts := outs_from hfit hefs k hk
        have hcur := fit_from hfit hefs k hk
        have hge : es.getD k default = es[k] := by simp [hlt]
        have hso := step_outs (runFrom s (List.take k es)).1 (es.getD k default) hcur
        have hnext := runFrom_snoc (s := s) hlt
        rw [← hge] at hnext
        clear hge
        generalize es.getD k default = ev at *
        refine ⟨by kernel_rfl, ⟨by rw [hacc]; unfold maxLen; omega, by rw [hacc]; omega⟩, fun h0 => ?_, fun h0 => ?_⟩
        · simp only [beq_iff_eq] at h0
          unfold awS
          simp only [go_sem, ne_eq, not_true_eq_false, or_false, false_or, or_self, Nat.reduceGT, Nat.reducePow, Nat.reduceLT, ↓reduceIte, Nat.reduceAdd, Nat.reduceMul, Nat.reduceSub, Nat.reduceMod, Nat.reduceLeDiff, Nat.reduceEqDiff, Nat.reduceBEq, reduceCtorEq, imp_self, implies_true, beq_self_eq_true, bne_self_eq_false, Bool.not_false, Bool.not_true, beq_true, beq_false, Bool.or_self, Bool.false_or, Bool.or_false, Bool.true_or, Bool.false_and, Bool.and_false]
          refine drawC_of 6 .done rfl (by kernel_rfl) (by kernel_rfl) (by decide) ?_
          simp only [go_sem, ne_eq, not_true_eq_false, or_false, false_or, or_self, Nat.reduceGT, Nat.reducePow, Nat.reduceLT, ↓reduceIte, Nat.reduceAdd, Nat.reduceMul, Nat.reduceSub, Nat.reduceMod, Nat.reduceLeDiff, Nat.reduceEqDiff, Nat.reduceBEq, reduceCtorEq, imp_self, implies_true, beq_self_eq_true, bne_self_eq_false, Bool.not_false, Bool.not_true, beq_true, beq_false, Bool.or_self, Bool.false_or, Bool.or_false, Bool.true_or, Bool.false_and, Bool.and_false]
          refine ⟨⟨by unfold maxLen; omega, by omega⟩, by kernel_rfl, k + 1, weak_of [(4, some 24), (3, some 20), (2, some 2), (1, some 1), (0, some 0)] ?_, by omega, by omega⟩
          have hA : runFrom s (List.take (k + 1) es) = ((stepS (runFrom s (List.take k es)).1 ev).1, (runFrom s (List.take k es)).2.1 ++ (stepS (runFrom s (List.take k es)).1 ev).2.1, (runFrom s (List.take k es)).2.2 ++ [0]) := by rw [hnext, runStep, if_pos h0]
          simp only [go_sem, ne_eq, not_true_eq_false, or_false, false_or, or_self, Nat.reduceGT, Nat.reducePow, Nat.reduceLT, ↓reduceIte, Nat.reduceAdd, Nat.reduceMul, Nat.reduceSub, Nat.reduceMod, Nat.reduceLeDiff, Nat.reduceEqDiff, Nat.reduceBEq, reduceCtorEq, imp_self, implies_true, beq_self_eq_true, bne_self_eq_false, Bool.not_false, Bool.not_true, beq_true, beq_false, Bool.or_self, Bool.false_or, Bool.or_false, Bool.true_or, Bool.false_and, Bool.and_false, hA, h0]
          simp [wrap_of hlt hel]
          rfl
        · simp only [beq_eq_false_iff_ne, ne_eq] at h0
          unfold awS
          simp only [go_sem, ne_eq, not_true_eq_false, or_false, false_or, or_self, Nat.reduceGT, Nat.reducePow, Nat.reduceLT, ↓reduceIte, Nat.reduceAdd, Nat.reduceMul, Nat.reduceSub, Nat.reduceMod, Nat.reduceLeDiff, Nat.reduceEqDiff, Nat.reduceBEq, reduceCtorEq, imp_self, implies_true, beq_self_eq_true, bne_self_eq_false, Bool.not_false, Bool.not_true, beq_true, beq_false, Bool.or_self, Bool.false_or, Bool.or_false, Bool.true_or, Bool.false_and, Bool.and_false]
          refine ⟨k + 1, weak_of [(4, some 4), (3, some 20), (2, some 2), (1, some 1), (0, some 0)] ?_, by omega, by omega⟩
          have hA : runFrom s (List.take (k + 1) es) = ((runFrom s (List.take k es)).1, (runFrom s (List.take k es)).2.1, (runFrom s (List.take k es)).2.2 ++ [(stepS (runFrom s (List.take k es)).1 ev).2.2]) := by rw [hnext, runStep, if_neg h0]
          simp only [go_sem, ne_eq, not_true_eq_false, or_false, false_or, or_self, Nat.reduceGT, Nat.reducePow, Nat.reduceLT, ↓reduceIte, Nat.reduceAdd, Nat.reduceMul, Nat.reduceSub, Nat.reduceMod, Nat.reduceLeDiff, Nat.reduceEqDiff, Nat.reduceBEq, reduceCtorEq, imp_self, implies_true, beq_self_eq_true, bne_self_eq_false, Bool.not_false, Bool.not_true, beq_true, beq_false, Bool.or_self, Bool.false_or, Bool.or_false, Bool.true_or, Bool.false_and, Bool.and_false, hA]
          simp [wrap_of hlt hel]
          rfl
      · unfold awS
        simp only [go_sem, ne_eq, not_true_eq_false, or_false, false_or, or_self, Nat.reduceGT, Nat.reducePow, Nat.reduceLT, ↓reduceIte, Nat.reduceAdd, Nat.reduceMul, Nat.reduceSub, Nat.reduceMod, Nat.reduceLeDiff, Nat.reduceEqDiff, Nat.reduceBEq, reduceCtorEq, imp_self, implies_true, beq_self_eq_true, bne_self_eq_false, Bool.not_false, Bool.not_true, beq_true, beq_false, Bool.or_self, Bool.false_or, Bool.or_false, Bool.true_or, Bool.false_and, Bool.and_false]
        have : k = es.length := by omega
        subst this
        simp only [List.take_length, runS, hv, if_true]
  · unfold awS
    simp only [go_sem, ne_eq, not_true_eq_false, or_false, false_or, or_self, Nat.reduceGT, Nat.reducePow, Nat.reduceLT, ↓reduceIte, Nat.reduceAdd, Nat.reduceMul, Nat.reduceSub, Nat.reduceMod, Nat.reduceLeDiff, Nat.reduceEqDiff, Nat.reduceBEq, reduceCtorEq, imp_self, implies_true, beq_self_eq_true, bne_self_eq_false, Bool.not_false, Bool.not_true, beq_true, beq_false, Bool.or_self, Bool.false_or, Bool.or_false, Bool.true_or, Bool.false_and, Bool.and_false]
    refine awp_loop_f (fun (k : Nat) σ => BadF k s σ) (fun k => k ≤ es.length) (fun k => es.length - k) 0 (weak_of [(3, none), (2, some 2), (1, some 1), (0, some 0)] ?_) (Nat.zero_le _) ?_
    · simp only [go_sem, ne_eq, not_true_eq_false, or_false, false_or, or_self, Nat.reduceGT, Nat.reducePow, Nat.reduceLT, ↓reduceIte, Nat.reduceAdd, Nat.reduceMul, Nat.reduceSub, Nat.reduceMod, Nat.reduceLeDiff, Nat.reduceEqDiff, Nat.reduceBEq, reduceCtorEq, imp_self, implies_true, beq_self_eq_true, bne_self_eq_false, Bool.not_false, Bool.not_true, beq_true, beq_false, Bool.or_self, Bool.false_or, Bool.or_false, Bool.true_or, Bool.false_and, Bool.and_false]
      simp
    · intro k hk
      refine aw_ok _ ?_
      simp only [go_sem, ne_eq, not_true_eq_false, or_false, false_or, or_self, Nat.reduceGT, Nat.reducePow, Nat.reduceLT, ↓reduceIte, Nat.reduceAdd, Nat.reduceMul, Nat.reduceSub, Nat.reduceMod, Nat.reduceLeDiff, Nat.reduceEqDiff, Nat.reduceBEq, reduceCtorEq, imp_self, implies_true, beq_self_eq_true, bne_self_eq_false, Bool.not_false, Bool.not_true, beq_true, beq_false, Bool.or_self, Bool.false_or, Bool.or_false, Bool.true_or, Bool.false_and, Bool.and_false]
      refine ⟨fun hlt => ?_, fun hge => ?_⟩
      all_goals simp only [decide_eq_true_eq, decide_eq_false_iff_not, Int.ofNat_lt] at *
      · unfold awS
        simp only [go_sem, ne_eq, not_true_eq_false, or_false, false_or, or_self, Nat.reduceGT, Nat.reducePow, Nat.reduceLT, ↓reduceIte, Nat.reduceAdd, Nat.reduceMul, Nat.reduceSub, Nat.reduceMod, Nat.reduceLeDiff, Nat.reduceEqDiff, Nat.reduceBEq, reduceCtorEq, imp_self, implies_true, beq_self_eq_true, bne_self_eq_false, Bool.not_false, Bool.not_true, beq_true, beq_false, Bool.or_self, Bool.false_or, Bool.or_false, Bool.true_or, Bool.false_and, Bool.and_false, hv]
        have hl1 : (List.replicate k (1 : Int)).length = k := List.length_replicate
        refine ⟨⟨by rw [hl1]; unfold maxLen; omega, by rw [hl1]; omega⟩, k + 1, weak_of [(3, some 5), (2, some 2), (1, some 1), (0, some 0)] ?_, by omega, by omega⟩
        simp only [go_sem, ne_eq, not_true_eq_false, or_false, false_or, or_self, Nat.reduceGT, Nat.reducePow, Nat.reduceLT, ↓reduceIte, Nat.reduceAdd, Nat.reduceMul, Nat.reduceSub, Nat.reduceMod, Nat.reduceLeDiff, Nat.reduceEqDiff, Nat.reduceBEq, reduceCtorEq, imp_self, implies_true, beq_self_eq_true, bne_self_eq_false, Bool.not_false, Bool.not_true, beq_true, beq_false, Bool.or_self, Bool.false_or, Bool.or_false, Bool.true_or, Bool.false_and, Bool.and_false]
        simp [wrap_of hlt hel]
        have := List.replicate_succ' (n := k) (a := intC 1)
        rw [List.replicate_succ] at this
        exact this.symm
      · unfold awS
        simp only [go_sem, ne_eq, not_true_eq_false, or_false, false_or, or_self, Nat.reduceGT, Nat.reducePow, Nat.reduceLT, ↓reduceIte, Nat.reduceAdd, Nat.reduceMul, Nat.reduceSub, Nat.reduceMod, Nat.reduceLeDiff, Nat.reduceEqDiff, Nat.reduceBEq, reduceCtorEq, imp_self, implies_true, beq_self_eq_true, bne_self_eq_false, Bool.not_false, Bool.not_true, beq_true, beq_false, Bool.or_self, Bool.false_or, Bool.or_false, Bool.true_or, Bool.false_and, Bool.and_false]
        have : k = es.length := by omega
        subst this
        simp [runS, hv]
end Go.Proofs.Ytnbmiejjkkgckaa
/- Proved here: The contract of the function that makes a state from a tape, for use in the proofs of the given statements; conditions stand in each theorem. -/
set_option linter.unusedSimpArgs false
set_option linter.unusedVariables false
namespace Go.Proofs.Ytnbmiejjkkgckaa
open Go.RowKit
set_option maxRecDepth 4000
theorem evGo_len (L : List Int) : ∀ (c k : Nat), (evGo L c k).1.length = c
  | 0, _ => rfl
  | c + 1, k => by simp [evGo, evGo_len L c]
theorem evs_len (L : List Int) (k : Nat) {n : Int} (h1 : 0 ≤ n) : (evs17 L k n).1.length ≤ n.toNat := by
  unfold evs17
  rw [evGo_len]
  have := (tapeN_lt (L := L) (k := k) (show 1 ≤ n + 1 by omega)).2
  omega
theorem CPure.of_args {P : Program} {f : FuncId} {args args' : List V} {r : V} (h : CPure P f args r) (hp : ∀ (w : World) (E : Env) (vs : List Value), RdVs w E args' vs → RdVs w E args vs) : CPure P f args' r :=
  ⟨h.1, fun w S vs hS hargs => h.2 w S vs hS (hp _ _ _ hargs)⟩
theorem run23_nil (es : List EventR) (hes : es.length ≤ 65536) : CPure Try.prog 23 [.agg [.t (.lit (.slice none 0 0)), .t (.lit (.slice none 0 0))], .t (tevents es)] (.tup [vstate (runS ⟨[], []⟩ es).1, .t (touts (runS ⟨[], []⟩ es).2.1), .t (tints (runS ⟨[], []⟩ es).2.2)]) := by
  refine (run23 ⟨[], []⟩ es hes).of_args fun w E vs h => ?_
  cases vs with
  | nil => simp only [RdVs] at h
  | cons v vs =>
    simp only [RdVs] at h ⊢
    refine ⟨?_, h.2⟩
    have h1 := h.1
    simp only [RdV, RdVs] at h1 ⊢
    obtain ⟨us, rfl, h2, h3⟩ := h1
    refine ⟨us, rfl, ?_, h3⟩
    obtain ⟨l⟩ := us
    rcases l with _ | ⟨x, _ | ⟨y, _ | ⟨z, l⟩⟩⟩ <;> simp only [RdVs, RdV, and_false, and_true] at h2 ⊢
    exact ⟨wkE_ok (a := .lit (.slice none 0 0)) rfl h2.1, wkE_ok (a := .lit (.slice none 0 0)) rfl h2.2⟩
theorem made12 (L : List Int) (n : Int) (h1 : 0 ≤ n) (h2 : n ≤ 64) : CMk Try.prog 12 [.t (tints L), vint n] (vstate (runS ⟨[], []⟩ (evs17 L 0 n).1).1) [.t (tints L), vint (evs17 L 0 n).2] := by
  refine cmk_of Try.xen12 Try.func12 rfl Try.ntmps12 (by rw [Try.results12]) (aw_ok _ ?_)
  have hl := evs_len L 0 h1
  simp only [go_sem, ne_eq, not_true_eq_false, or_false, false_or, or_self, Nat.reduceGT, Nat.reducePow, Nat.reduceLT, ↓reduceIte, Nat.reduceAdd, Nat.reduceMul, Nat.reduceSub, Nat.reduceMod, Nat.reduceLeDiff, Nat.reduceEqDiff, Nat.reduceBEq, reduceCtorEq, imp_self, implies_true, beq_self_eq_true, bne_self_eq_false, Bool.not_false, Bool.not_true, beq_true, beq_false, Bool.or_self, Bool.false_or, Bool.or_false, Bool.true_or, Bool.false_and, Bool.and_false]
  refine icall_box (events17 L 0 n (by omega) h1 h2) rfl rfl rfl ?_
  simp only [go_sem, ne_eq, not_true_eq_false, or_false, false_or, or_self, Nat.reduceGT, Nat.reducePow, Nat.reduceLT, ↓reduceIte, Nat.reduceAdd, Nat.reduceMul, Nat.reduceSub, Nat.reduceMod, Nat.reduceLeDiff, Nat.reduceEqDiff, Nat.reduceBEq, reduceCtorEq, imp_self, implies_true, beq_self_eq_true, bne_self_eq_false, Bool.not_false, Bool.not_true, beq_true, beq_false, Bool.or_self, Bool.false_or, Bool.or_false, Bool.true_or, Bool.false_and, Bool.and_false]
  refine ⟨_, run23_nil _ (by omega), ?_⟩
  simp only [go_sem, ne_eq, not_true_eq_false, or_false, false_or, or_self, Nat.reduceGT, Nat.reducePow, Nat.reduceLT, ↓reduceIte, Nat.reduceAdd, Nat.reduceMul, Nat.reduceSub, Nat.reduceMod, Nat.reduceLeDiff, Nat.reduceEqDiff, Nat.reduceBEq, reduceCtorEq, imp_self, implies_true, beq_self_eq_true, bne_self_eq_false, Bool.not_false, Bool.not_true, beq_true, beq_false, Bool.or_self, Bool.false_or, Bool.or_false, Bool.true_or, Bool.false_and, Bool.and_false]
end Go.Proofs.Ytnbmiejjkkgckaa
/- Proved here: The contract of Run of the media package in the abstract machine's form, for use in the proofs of the given statements; conditions stand in each theorem. -/
set_option linter.unusedSimpArgs false
set_option linter.unusedVariables false
namespace Go.Proofs.Ytnbmiejjkkgckaa
open Go.RowKit
set_option maxRecDepth 4000
theorem run_fits {s : StateR} {es : List EventR} (hf : ∀ f ∈ s.files, f.fits) (hl : ∀ l ∈ s.links, l.fits) (he : ∀ e ∈ es, e.fits) : (∀ f ∈ (runS s es).1.files, f.fits) ∧ (∀ l ∈ (runS s es).1.links, l.fits) ∧ ∀ o ∈ (runS s es).2.1, o.fits := by
  have key : ∀ (es : List EventR) (acc : StateR × List OutR × List Int), (∀ e ∈ es, e.fits) → ((∀ f ∈ acc.1.files, f.fits) ∧ (∀ l ∈ acc.1.links, l.fits) ∧ ∀ o ∈ acc.2.1, o.fits) →
      (∀ f ∈ (es.foldl runStep acc).1.files, f.fits) ∧ (∀ l ∈ (es.foldl runStep acc).1.links, l.fits) ∧ ∀ o ∈ (es.foldl runStep acc).2.1, o.fits := by
    intro es
    induction es with
    | nil => exact fun acc _ h => h
    | cons e es ih =>
      intro acc he h
      refine ih _ (fun x hx => he x (by simp [hx])) ?_
      obtain ⟨q1, q2, q3⟩ := step_res_fits (e := e) h.1 h.2.1 (he e (by simp))
      unfold runStep
      split
      · exact ⟨q1, q2, fun o ho => (List.mem_append.1 ho).elim (h.2.2 o) (q3 o)⟩
      · exact h
  unfold runS
  split
  · exact key es _ he ⟨hf, hl, by simp⟩
  · simp
theorem run22 (s : StateR) (es : List EventR) (hes : es.length ≤ 65536) : CPure Try.prog 22 [vstate s, .t (tevents es)] (.tup [vstate (runS s es).1, .t (touts (runS s es).2.1), .t (tints (runS s es).2.2)]) := by
  refine ⟨Try.xen22, fun w S vs hS hargs => ?_⟩
  obtain ⟨v, u, rfl, h1, h2⟩ := two_args hargs
  have ha := stArg h1
  obtain ⟨A, n', c, D, m, d, rfl, rfl, rfl, hF, hL⟩ := ha.ex
  have hfv := RdV.facts _ h2
  simp only [factsV, factsT, List.length_map] at hfv
  have hef := facts_events hfv.2
  simp only [RdV] at h2
  obtain ⟨E, ec, e3, _⟩ := rdT_slice h2
  subst e3
  have hE := sl_of_rdT (g := EventR.cells) (fun _ => rfl) h2
  refine (run_prog A D E c d ec s es (es.map EventR.c).length (by simp) w ha.nf ha.nl (by simpa using hes) ha.ff ha.fl hef hF hL hE).mono ?_
  rintro e' w' ⟨v, vo, ve, rfl, h3, h4, h5, hb⟩
  obtain ⟨q1, q2, q3⟩ := run_fits (es := es) ha.ff ha.fl hef
  refine ⟨_, newS S w w', rfl, fun b hb' => .inl hb', fun b hb' => hb'.imp id (·.1), fun b hb' => hb'.elim (fun h => Nat.lt_of_lt_of_le (hS b h) hb.size) (·.2), ?_, hb⟩
  have hN : ∀ b, w.heap.size ≤ b → b < w'.heap.size → newS S w w' b := fun b h1 h2 => .inr ⟨h1, h2⟩
  simp only [RdV]
  refine ⟨_, rfl, ?_⟩
  simp only [RdVs]
  refine ⟨rdV_own_st h3 q1 q2 hN, ?_, ?_, trivial⟩
  · simp only [RdV]; exact rdT_own (fun _ => rfl) (fun _ => rfl) h4 (fun o ho => fits_out (q3 o ho)) hN
  · simp only [RdV]
    have h5' : w'.ownsRow w.heap.size 49 1 ve (runS s es).2.2.length ((runS s es).2.2.flatMap fun n => [Value.int .i64 n]) := by
      have e1 : (runS s es).2.2.flatMap (fun n => [Value.int .i64 n]) = ints (runS s es).2.2 := by
        unfold ints
        generalize (runS s es).2.2 = l
        induction l with
        | nil => rfl
        | cons x l ih => rw [List.flatMap_cons, ih]; rfl
      rw [e1]; exact h5
    exact rdT_own (f := intC) (g := fun n => [Value.int .i64 n]) (fun _ => rfl) (fun _ => rfl) h5' (fun n _ u hu => by simp at hu; subst hu; exact ⟨rfl, trivial⟩) hN
end Go.Proofs.Ytnbmiejjkkgckaa
