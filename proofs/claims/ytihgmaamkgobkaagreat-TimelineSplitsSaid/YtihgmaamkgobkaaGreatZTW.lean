/- Proved here: 'TimelineFinds' returns true, for use in the proofs of the given statements; conditions stand in each theorem. -/
import Derived.Test.YtihgmaamkgobkaaGreatZTV
set_option linter.unusedSimpArgs false
set_option linter.unusedVariables false
set_option linter.unusedSectionVars false
set_option linter.unusedSimpArgs false
set_option linter.unusedVariables false
set_option linter.unnecessarySimpa false
namespace Go.Proofs.YtihgmaamkgobkaaGreat
open Go.RowKit
set_option maxRecDepth 4000
/-- from one frame to the next -/
def Nxt (l : List ClipR) (i : Nat) (r r' : Int × Int × Bool) : Prop :=
  r.2.2 = true ∧ r'.2.2 = true ∧ ((r'.1 = r.1 ∧ r'.2.1 = r.2.1 + 1) ∨ ∃ j : Nat, j + 1 < l.length ∧ r.1 = ((i + j : Nat) : Int) ∧ r'.1 = ((i + j + 1 : Nat) : Int) ∧ r'.2.1 = 0 ∧ r.2.1 = (l.getD j default).len - 1)
theorem findL_zero : ∀ (l : List ClipR) (i : Nat), (∀ c ∈ l, 1 ≤ c.len ∧ c.len ≤ 2147483647) → 0 < totL l → findL l i 0 = ((i : Int), 0, true)
  | [], _, _, h => by simp [totL] at h
  | c :: l, i, h, _ => by
    have := h c (by simp)
    rw [findL_cons, if_pos (by omega)]
theorem findL_succ : ∀ (l : List ClipR) (i : Nat) (n : Int), (∀ c ∈ l, 1 ≤ c.len ∧ c.len ≤ 2147483647) → 0 ≤ n → n + 1 < totL l → Nxt l i (findL l i n) (findL l i (n + 1))
  | [], _, _, _, h0, h => by simp [totL] at h; omega
  | c :: l, i, n, h, h0, hn => by
    have hc := h c (by simp)
    have hl : ∀ d ∈ l, 1 ≤ d.len ∧ d.len ≤ 2147483647 := fun d hd => h d (by simp [hd])
    rw [totL_cons] at hn
    rw [findL_cons, findL_cons]
    by_cases h1 : n + 1 < c.len
    · rw [if_pos (by omega), if_pos h1]
      exact ⟨rfl, rfl, .inl ⟨rfl, rfl⟩⟩
    · rw [if_neg h1]
      by_cases h2 : n < c.len
      · rw [if_pos h2]
        have e : n + 1 - c.len = 0 := by omega
        rw [e, findL_zero l (i + 1) hl (by omega)]
        refine ⟨rfl, rfl, .inr ⟨0, ?_, rfl, rfl, rfl, ?_⟩⟩
        · cases l with
          | nil => rw [totL_nil] at hn; omega
          | cons d l => simp
        · simp only [List.getD_cons_zero]; omega
      · rw [if_neg h2]
        have e : n + 1 - c.len = (n - c.len) + 1 := by omega
        rw [e]
        obtain ⟨q1, q2, q3⟩ := findL_succ l (i + 1) (n - c.len) hl (by omega) (by omega)
        refine ⟨q1, q2, q3.imp id ?_⟩
        rintro ⟨j, j1, j2, j3, j4, j5⟩
        exact ⟨j + 1, by simp only [List.length_cons]; omega, by rw [j2]; congr 1; omega, by rw [j3]; congr 1; omega, j4, by simpa only [List.getD_cons_succ] using j5⟩
theorem findL_range : ∀ (l : List ClipR) (i : Nat) (n : Int), (∀ c ∈ l, 1 ≤ c.len ∧ c.len ≤ 2147483647) → 0 ≤ n → n < totL l → ∃ j o, findL l i n = (((i + j : Nat) : Int), o, true) ∧ j < l.length ∧ 0 ≤ o ∧ o < (l.getD j default).len
  | [], _, _, _, h0, h => by simp [totL] at h; omega
  | c :: l, i, n, h, h0, hn => by
    rw [totL_cons] at hn
    rw [findL_cons]
    by_cases h2 : n < c.len
    · rw [if_pos h2]
      exact ⟨0, n, rfl, by simp, h0, by simpa using h2⟩
    · rw [if_neg h2]
      obtain ⟨j, o, q1, q2, q3, q4⟩ := findL_range l (i + 1) (n - c.len) (fun d hd => h d (by simp [hd])) (by omega) (by omega)
      exact ⟨j + 1, o, by rw [q1]; congr 2; omega, by simp only [List.length_cons]; omega, q3, by simpa only [List.getD_cons_succ] using q4⟩
theorem finds7 (L : List Int) : CPure Tryz.prog 5 [.t (tints L)] (vbool true) := by
  refine cpure_of Tryz.xen5 Tryz.func5 rfl Tryz.ntmps5 (by rw [Tryz.results5]) (aw_ok _ ?_)
  simp only [go_sem, Nat.reduceGT, Nat.reducePow, Nat.reduceLT, ↓reduceIte, Nat.reduceAdd, Nat.reduceMul, Nat.reduceSub, Nat.reduceMod, Nat.reduceLeDiff, Nat.reduceEqDiff, Nat.reduceBEq, reduceCtorEq]
  refine icall_io (cTrackT L) [] rfl (by omega) (by decide) ?_ rfl rfl rfl rfl ?_
  · simp only [go_sem, Nat.reduceGT, Nat.reducePow, Nat.reduceLT, ↓reduceIte, Nat.reduceAdd, Nat.reduceMul, Nat.reduceSub, Nat.reduceMod, Nat.reduceLeDiff, Nat.reduceEqDiff, Nat.reduceBEq, reduceCtorEq]
  have hl := (trackT_nice L).2
  have fL := trackT_fit L
  have hv := trackT_ok L
  generalize trackT L = A at *
  obtain ⟨h64, hval, htot⟩ := track_all hv
  have hlens : ∀ c ∈ A, 1 ≤ c.len ∧ c.len ≤ 2147483647 := fun c hc => vClip_len (hval c hc)
  have h0t := totL_nonneg A fun c hc => (hlens c hc).1
  have hlt : lenT A = totL A := by unfold lenT; rw [if_pos hv]
  have hft : ∀ n, 0 ≤ n → findT A n = findL A 0 n := fun n hn => by unfold findT; rw [if_pos ⟨hv, hn⟩]
  simp only [go_sem, Nat.reduceGT, Nat.reducePow, Nat.reduceLT, ↓reduceIte, Nat.reduceAdd, Nat.reduceMul, Nat.reduceSub, Nat.reduceMod, Nat.reduceLeDiff, Nat.reduceEqDiff, Nat.reduceBEq, reduceCtorEq, List.getElem?_nil]
  refine awp_loop_f (fun (x : Nat × Int × Int) σ => setS 4 (vint x.2.1) (setS 5 (vint x.2.2) (setS 6 (vint x.1) σ))) (fun x => (x.1 : Int) ≤ totL A ∧ (x.1 = 0 → x.2.1 = 0 ∧ x.2.2 = -1) ∧ (0 < x.1 → findL A 0 ((x.1 : Int) - 1) = (x.2.1, x.2.2, true))) (fun x => (totL A).toNat - x.1) (0, 0, -1) (weak_self ?_) ⟨by simp only; omega, fun _ => ⟨rfl, rfl⟩, fun h => by simp at h⟩ ?_
  · simp only [go_sem, Nat.reduceGT, Nat.reducePow, Nat.reduceLT, ↓reduceIte, Nat.reduceAdd, Nat.reduceMul, Nat.reduceSub, Nat.reduceMod, Nat.reduceLeDiff, Nat.reduceEqDiff, Nat.reduceBEq, reduceCtorEq]
    simp
  · rintro ⟨n, clip, off⟩ ⟨hn, hz, hp⟩
    simp only at hn hz hp
    refine aw_ok _ ?_
    simp only [go_sem, Nat.reduceGT, Nat.reducePow, Nat.reduceLT, ↓reduceIte, Nat.reduceAdd, Nat.reduceMul, Nat.reduceSub, Nat.reduceMod, Nat.reduceLeDiff, Nat.reduceEqDiff, Nat.reduceBEq, reduceCtorEq]
    refine lcall_lend ?_
    simp only [go_sem, Nat.reduceGT, Nat.reducePow, Nat.reduceLT, ↓reduceIte, Nat.reduceAdd, Nat.reduceMul, Nat.reduceSub, Nat.reduceMod, Nat.reduceLeDiff, Nat.reduceEqDiff, Nat.reduceBEq, reduceCtorEq]
    refine ⟨_, cPLength A fL, ?_⟩
    simp only [go_sem, Nat.reduceGT, Nat.reducePow, Nat.reduceLT, ↓reduceIte, Nat.reduceAdd, Nat.reduceMul, Nat.reduceSub, Nat.reduceMod, Nat.reduceLeDiff, Nat.reduceEqDiff, Nat.reduceBEq, reduceCtorEq, hlt]
    refine ⟨fun hc => ?_, fun hc => ?_⟩
    · simp only [decide_eq_true_eq, decide_eq_false_iff_not, beq_iff_eq, bne_iff_ne, ne_eq, beq_eq_false_iff_ne, Bool.not_eq_true', Bool.not_eq_true, Bool.not_eq_false', Bool.or_eq_true, Bool.and_eq_true, Bool.or_eq_false_iff, Bool.and_eq_false_iff, Bool.false_eq_true, Bool.not_eq_eq_eq_not, Bool.not_true, Bool.not_false] at hc
      obtain ⟨j, o, e1, j1, o1, o2⟩ := findL_range A 0 n hlens (by omega) hc
      simp only [Nat.zero_add] at e1
      have hcl : 0 ≤ clip ∧ clip ≤ 64 ∧ -1 ≤ off ∧ off ≤ 2147483647 ∧ ((j : Int) = clip ∧ o = off + 1 ∨ ((j : Int) = clip + 1 ∧ o = 0 ∧ off = (A.getD clip.toNat default).len - 1 ∧ clip < A.length)) := by
        by_cases h0 : n = 0
        · obtain ⟨z1, z2⟩ := hz h0
          subst h0
          rw [Int.natCast_zero, findL_zero A 0 hlens (by omega)] at e1
          injection e1 with e1 e2
          injection e2 with e2 e3
          refine ⟨by omega, by omega, by omega, by omega, .inl ⟨by omega, by omega⟩⟩
        · have hp1 := hp (by omega)
          obtain ⟨_, _, hh⟩ := findL_succ A 0 ((n : Int) - 1) hlens (by omega) (by omega)
          obtain ⟨j2, o3, e4, j4, o4, o5⟩ := findL_range A 0 ((n : Int) - 1) hlens (by omega) (by omega)
          rw [hp1] at e4
          injection e4 with e4 e5
          injection e5 with e5 e6
          have hm := vClip_len (hval _ (mem_getD (d := default) j4))
          rw [show (n : Int) - 1 + 1 = n by omega, e1, hp1] at hh
          refine ⟨by omega, by omega, by omega, by omega, ?_⟩
          rcases hh with ⟨q1, q2⟩ | ⟨k, k1, k2, k3, k4, k5⟩
          · exact .inl ⟨q1, q2⟩
          · simp only at k2 k3 k4 k5
            refine .inr ⟨by omega, k4, ?_, by omega⟩
            have : clip.toNat = k := by omega
            rw [this]; exact k5
      obtain ⟨c0, c64, of1, of2, hcase⟩ := hcl
      unfold awS
      simp only [go_sem, Nat.reduceGT, Nat.reducePow, Nat.reduceLT, ↓reduceIte, Nat.reduceAdd, Nat.reduceMul, Nat.reduceSub, Nat.reduceMod, Nat.reduceLeDiff, Nat.reduceEqDiff, Nat.reduceBEq, reduceCtorEq]
      refine lcall_lend ?_
      simp only [go_sem, Nat.reduceGT, Nat.reducePow, Nat.reduceLT, ↓reduceIte, Nat.reduceAdd, Nat.reduceMul, Nat.reduceSub, Nat.reduceMod, Nat.reduceLeDiff, Nat.reduceEqDiff, Nat.reduceBEq, reduceCtorEq]
      refine ⟨_, cPFind A n ⟨by omega, by omega⟩ fL, ?_⟩
      rw [hft _ (by omega), e1]
      simp only [go_sem, Nat.reduceGT, Nat.reducePow, Nat.reduceLT, ↓reduceIte, Nat.reduceAdd, Nat.reduceMul, Nat.reduceSub, Nat.reduceMod, Nat.reduceLeDiff, Nat.reduceEqDiff, Nat.reduceBEq, reduceCtorEq]
      have hcond : ((((j : Int) != clip && ((j : Int) != IntKind.i64.wrap (clip + 1) || o != 0 || off != IntKind.i64.wrap ((A.getD clip.toNat default).len - 1))) || (j : Int) == clip && o != IntKind.i64.wrap (off + 1)) = false) ∧ (((j : Int) != clip && !((j : Int) != IntKind.i64.wrap (clip + 1) || o != 0)) = true → clip < A.length) := by
        rw [wrap64 (x := clip + 1) (by omega) (by omega), wrap64 (x := off + 1) (by omega) (by omega)]
        rcases hcase with ⟨q1, q2⟩ | ⟨q1, q2, q3, q4⟩
        · rw [q1, q2]; simp
        · have hm := hlens _ (mem_getD (l := A) (d := default) (k := clip.toNat) (by omega))
          rw [wrap64 (x := (A.getD clip.toNat default).len - 1) (by omega) (by omega)]
          rw [q1, q2, ← q3]
          have : (clip + 1 == clip) = false := by simp; omega
          simp [this]
          omega
      obtain ⟨hc1, hc2⟩ := hcond
      rw [hc1]
      refine ⟨fun h => ⟨c0, hc2 h⟩, fun h => by have := hc2 h; omega, fun h => (by cases h), fun _ => ?_⟩
      unfold awS
      simp only [go_sem, Nat.reduceGT, Nat.reducePow, Nat.reduceLT, ↓reduceIte, Nat.reduceAdd, Nat.reduceMul, Nat.reduceSub, Nat.reduceMod, Nat.reduceLeDiff, Nat.reduceEqDiff, Nat.reduceBEq, reduceCtorEq]
      refine ⟨(n + 1, (j : Int), o), weak_self ?_, ⟨by simp only; omega, fun h => by simp at h, fun _ => ?_⟩, by simp only; omega⟩
      · simp only [go_sem, Nat.reduceGT, Nat.reducePow, Nat.reduceLT, ↓reduceIte, Nat.reduceAdd, Nat.reduceMul, Nat.reduceSub, Nat.reduceMod, Nat.reduceLeDiff, Nat.reduceEqDiff, Nat.reduceBEq, reduceCtorEq]
        simp [wrap1 (show n < 9223372036854775807 by omega)]
      · simp only
        rw [show ((n + 1 : Nat) : Int) - 1 = n by omega]
        exact e1
    · simp only [decide_eq_true_eq, decide_eq_false_iff_not, beq_iff_eq, bne_iff_ne, ne_eq, beq_eq_false_iff_ne, Bool.not_eq_true', Bool.not_eq_true, Bool.not_eq_false', Bool.or_eq_true, Bool.and_eq_true, Bool.or_eq_false_iff, Bool.and_eq_false_iff, Bool.false_eq_true, Bool.not_eq_eq_eq_not, Bool.not_true, Bool.not_false] at hc
      unfold awS
      simp only [go_sem, Nat.reduceGT, Nat.reducePow, Nat.reduceLT, ↓reduceIte, Nat.reduceAdd, Nat.reduceMul, Nat.reduceSub, Nat.reduceMod, Nat.reduceLeDiff, Nat.reduceEqDiff, Nat.reduceBEq, reduceCtorEq]
      refine lcall_lend ?_
      simp only [go_sem, Nat.reduceGT, Nat.reducePow, Nat.reduceLT, ↓reduceIte, Nat.reduceAdd, Nat.reduceMul, Nat.reduceSub, Nat.reduceMod, Nat.reduceLeDiff, Nat.reduceEqDiff, Nat.reduceBEq, reduceCtorEq]
      refine ⟨_, cPLength A fL, ?_⟩
      simp only [go_sem, Nat.reduceGT, Nat.reducePow, Nat.reduceLT, ↓reduceIte, Nat.reduceAdd, Nat.reduceMul, Nat.reduceSub, Nat.reduceMod, Nat.reduceLeDiff, Nat.reduceEqDiff, Nat.reduceBEq, reduceCtorEq, hlt]
      refine lcall_lend ?_
      simp only [go_sem, Nat.reduceGT, Nat.reducePow, Nat.reduceLT, ↓reduceIte, Nat.reduceAdd, Nat.reduceMul, Nat.reduceSub, Nat.reduceMod, Nat.reduceLeDiff, Nat.reduceEqDiff, Nat.reduceBEq, reduceCtorEq]
      refine ⟨_, cPFind A (totL A) ⟨by omega, by omega⟩ fL, ?_⟩
      rw [hft _ h0t, findL_out A 0 _ hlens (Int.le_refl _)]
      simp only [go_sem, Nat.reduceGT, Nat.reducePow, Nat.reduceLT, ↓reduceIte, Nat.reduceAdd, Nat.reduceMul, Nat.reduceSub, Nat.reduceMod, Nat.reduceLeDiff, Nat.reduceEqDiff, Nat.reduceBEq, reduceCtorEq]
      refine ⟨_, cAwake, ?_⟩
      simp only [go_sem, Nat.reduceGT, Nat.reducePow, Nat.reduceLT, ↓reduceIte, Nat.reduceAdd, Nat.reduceMul, Nat.reduceSub, Nat.reduceMod, Nat.reduceLeDiff, Nat.reduceEqDiff, Nat.reduceBEq, reduceCtorEq, Bool.not_false]
end Go.Proofs.YtihgmaamkgobkaaGreat
