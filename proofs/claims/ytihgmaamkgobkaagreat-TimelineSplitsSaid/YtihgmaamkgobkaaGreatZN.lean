/- Proved here: The empty project is valid, for use in the proofs of the given statements; conditions stand in each theorem. -/
import Derived.Test.YtihgmaamkgobkaaGreatZE
import Derived.Test.YtihgmaamkgobkaaGreatZI
import Derived.Recover
import Derived.Test.YtihgmaamkgobkaaGreatZG
import Derived.Test.YtihgmaamkgobkaaGreatZM
set_option linter.unusedSimpArgs false
set_option linter.unusedVariables false
set_option linter.unusedSectionVars false
set_option linter.unusedSimpArgs false
set_option linter.unusedVariables false
set_option linter.unnecessarySimpa false
namespace Go.Proofs.YtihgmaamkgobkaaGreat
open Go.RowKit
set_option maxRecDepth 4000
abbrev nilV : V := .t (.lit (.slice none 0 0))
theorem cTooLarge0 : CPure Tryz.prog 80 [.agg [nilV, nilV]] (vbool false) := by
  refine cpure_of Tryz.xen80 Tryz.func80 rfl Tryz.ntmps80 (by rw [Tryz.results80]) (aw_ok _ ?_)
  simp only [go_sem, Nat.reduceGT, Nat.reducePow, Nat.reduceLT, ↓reduceIte, Nat.reduceAdd, Nat.reduceMul, Nat.reduceSub, Nat.reduceMod, Nat.reduceLeDiff, Nat.reduceEqDiff, Nat.reduceBEq, reduceCtorEq]
  refine ⟨fun h => (by simp at h : False).elim, fun _ => ?_⟩
  unfold awS
  simp only [go_sem, Nat.reduceGT, Nat.reducePow, Nat.reduceLT, ↓reduceIte, Nat.reduceAdd, Nat.reduceMul, Nat.reduceSub, Nat.reduceMod, Nat.reduceLeDiff, Nat.reduceEqDiff, Nat.reduceBEq, reduceCtorEq]
  refine awp_loop_f (fun (_ : Unit) σ => σ) (fun _ => True) (fun _ => 0) () (weak_self ?_) trivial ?_
  · simp only [go_sem, Nat.reduceGT, Nat.reducePow, Nat.reduceLT, ↓reduceIte, Nat.reduceAdd, Nat.reduceMul, Nat.reduceSub, Nat.reduceMod, Nat.reduceLeDiff, Nat.reduceEqDiff, Nat.reduceBEq, reduceCtorEq]
    try simp
  · intro _ _
    refine aw_ok _ ?_
    simp only [go_sem, Nat.reduceGT, Nat.reducePow, Nat.reduceLT, ↓reduceIte, Nat.reduceAdd, Nat.reduceMul, Nat.reduceSub, Nat.reduceMod, Nat.reduceLeDiff, Nat.reduceEqDiff, Nat.reduceBEq, reduceCtorEq]
    refine ⟨fun h => (by simp at h : False).elim, fun _ => ?_⟩
    unfold awS
    simp only [go_sem, Nat.reduceGT, Nat.reducePow, Nat.reduceLT, ↓reduceIte, Nat.reduceAdd, Nat.reduceMul, Nat.reduceSub, Nat.reduceMod, Nat.reduceLeDiff, Nat.reduceEqDiff, Nat.reduceBEq, reduceCtorEq]
    refine awp_loop_f (fun (_ : Unit) σ => σ) (fun _ => True) (fun _ => 0) () (weak_self ?_) trivial ?_
    · simp only [go_sem, Nat.reduceGT, Nat.reducePow, Nat.reduceLT, ↓reduceIte, Nat.reduceAdd, Nat.reduceMul, Nat.reduceSub, Nat.reduceMod, Nat.reduceLeDiff, Nat.reduceEqDiff, Nat.reduceBEq, reduceCtorEq]
      try simp
    · intro _ _
      refine aw_ok _ ?_
      simp only [go_sem, Nat.reduceGT, Nat.reducePow, Nat.reduceLT, ↓reduceIte, Nat.reduceAdd, Nat.reduceMul, Nat.reduceSub, Nat.reduceMod, Nat.reduceLeDiff, Nat.reduceEqDiff, Nat.reduceBEq, reduceCtorEq]
      refine ⟨fun h => (by simp at h : False).elim, fun _ => ?_⟩
      unfold awS
      simp only [go_sem, Nat.reduceGT, Nat.reducePow, Nat.reduceLT, ↓reduceIte, Nat.reduceAdd, Nat.reduceMul, Nat.reduceSub, Nat.reduceMod, Nat.reduceLeDiff, Nat.reduceEqDiff, Nat.reduceBEq, reduceCtorEq]
theorem cIndexM0 (n : Nat) : CPure Tryz.prog 98 [nilV, .t (.lit (.func (.func n) #[] #[]))] (vint (-1)) := by
  refine cpure_of Tryz.xen98 Tryz.func98 rfl Tryz.ntmps98 (by rw [Tryz.results98]) (aw_ok _ ?_)
  simp only [go_sem, Nat.reduceGT, Nat.reducePow, Nat.reduceLT, ↓reduceIte, Nat.reduceAdd, Nat.reduceMul, Nat.reduceSub, Nat.reduceMod, Nat.reduceLeDiff, Nat.reduceEqDiff, Nat.reduceBEq, reduceCtorEq]
  refine awp_loop_f (fun (_ : Unit) σ => σ) (fun _ => True) (fun _ => 0) () (weak_self ?_) trivial ?_
  · simp only [go_sem, Nat.reduceGT, Nat.reducePow, Nat.reduceLT, ↓reduceIte, Nat.reduceAdd, Nat.reduceMul, Nat.reduceSub, Nat.reduceMod, Nat.reduceLeDiff, Nat.reduceEqDiff, Nat.reduceBEq, reduceCtorEq]
    try simp
  · intro _ _
    refine aw_ok _ ?_
    simp only [go_sem, Nat.reduceGT, Nat.reducePow, Nat.reduceLT, ↓reduceIte, Nat.reduceAdd, Nat.reduceMul, Nat.reduceSub, Nat.reduceMod, Nat.reduceLeDiff, Nat.reduceEqDiff, Nat.reduceBEq, reduceCtorEq]
    refine ⟨fun h => (by simp at h : False).elim, fun _ => ?_⟩
    unfold awS
    simp only [go_sem, Nat.reduceGT, Nat.reducePow, Nat.reduceLT, ↓reduceIte, Nat.reduceAdd, Nat.reduceMul, Nat.reduceSub, Nat.reduceMod, Nat.reduceLeDiff, Nat.reduceEqDiff, Nat.reduceBEq, reduceCtorEq]
theorem cContainsM0 (n : Nat) : CPure Tryz.prog 81 [nilV, .t (.lit (.func (.func n) #[] #[]))] (vbool false) := by
  refine cpure_of Tryz.xen81 Tryz.func81 rfl Tryz.ntmps81 (by rw [Tryz.results81]) (aw_ok _ ?_)
  simp only [go_sem, Nat.reduceGT, Nat.reducePow, Nat.reduceLT, ↓reduceIte, Nat.reduceAdd, Nat.reduceMul, Nat.reduceSub, Nat.reduceMod, Nat.reduceLeDiff, Nat.reduceEqDiff, Nat.reduceBEq, reduceCtorEq]
  refine ⟨_, cIndexM0 _, ?_⟩
  simp only [go_sem, Nat.reduceGT, Nat.reducePow, Nat.reduceLT, ↓reduceIte, Nat.reduceAdd, Nat.reduceMul, Nat.reduceSub, Nat.reduceMod, Nat.reduceLeDiff, Nat.reduceEqDiff, Nat.reduceBEq, reduceCtorEq]
  rfl
theorem cIndexS0 (n : Nat) : CPure Tryz.prog 103 [nilV, .t (.lit (.func (.func n) #[] #[]))] (vint (-1)) := by
  refine cpure_of Tryz.xen103 Tryz.func103 rfl Tryz.ntmps103 (by rw [Tryz.results103]) (aw_ok _ ?_)
  simp only [go_sem, Nat.reduceGT, Nat.reducePow, Nat.reduceLT, ↓reduceIte, Nat.reduceAdd, Nat.reduceMul, Nat.reduceSub, Nat.reduceMod, Nat.reduceLeDiff, Nat.reduceEqDiff, Nat.reduceBEq, reduceCtorEq]
  refine awp_loop_f (fun (_ : Unit) σ => σ) (fun _ => True) (fun _ => 0) () (weak_self ?_) trivial ?_
  · simp only [go_sem, Nat.reduceGT, Nat.reducePow, Nat.reduceLT, ↓reduceIte, Nat.reduceAdd, Nat.reduceMul, Nat.reduceSub, Nat.reduceMod, Nat.reduceLeDiff, Nat.reduceEqDiff, Nat.reduceBEq, reduceCtorEq]
    try simp
  · intro _ _
    refine aw_ok _ ?_
    simp only [go_sem, Nat.reduceGT, Nat.reducePow, Nat.reduceLT, ↓reduceIte, Nat.reduceAdd, Nat.reduceMul, Nat.reduceSub, Nat.reduceMod, Nat.reduceLeDiff, Nat.reduceEqDiff, Nat.reduceBEq, reduceCtorEq]
    refine ⟨fun h => (by simp at h : False).elim, fun _ => ?_⟩
    unfold awS
    simp only [go_sem, Nat.reduceGT, Nat.reducePow, Nat.reduceLT, ↓reduceIte, Nat.reduceAdd, Nat.reduceMul, Nat.reduceSub, Nat.reduceMod, Nat.reduceLeDiff, Nat.reduceEqDiff, Nat.reduceBEq, reduceCtorEq]
theorem cContainsS0 (n : Nat) : CPure Tryz.prog 83 [nilV, .t (.lit (.func (.func n) #[] #[]))] (vbool false) := by
  refine cpure_of Tryz.xen83 Tryz.func83 rfl Tryz.ntmps83 (by rw [Tryz.results83]) (aw_ok _ ?_)
  simp only [go_sem, Nat.reduceGT, Nat.reducePow, Nat.reduceLT, ↓reduceIte, Nat.reduceAdd, Nat.reduceMul, Nat.reduceSub, Nat.reduceMod, Nat.reduceLeDiff, Nat.reduceEqDiff, Nat.reduceBEq, reduceCtorEq]
  refine ⟨_, cIndexS0 _, ?_⟩
  simp only [go_sem, Nat.reduceGT, Nat.reducePow, Nat.reduceLT, ↓reduceIte, Nat.reduceAdd, Nat.reduceMul, Nat.reduceSub, Nat.reduceMod, Nat.reduceLeDiff, Nat.reduceEqDiff, Nat.reduceBEq, reduceCtorEq]
  rfl
/-- the empty project has an empty catalogue -/
theorem cCat0 : CIO Tryz.prog 85 0 [] [.agg [nilV, nilV]] (.agg [.own 0, .own 1]) [(1, .map []), (0, .map [])] 2 := by
  refine cio_of Tryz.xen85 Tryz.func85 rfl Tryz.ntmps85 (by rw [Tryz.results85]) (aw_ok _ ?_)
  simp only [go_sem, Nat.reduceGT, Nat.reducePow, Nat.reduceLT, ↓reduceIte, Nat.reduceAdd, Nat.reduceMul, Nat.reduceSub, Nat.reduceMod, Nat.reduceLeDiff, Nat.reduceEqDiff, Nat.reduceBEq, reduceCtorEq]
  refine awp_loop_f (fun (_ : Unit) σ => σ) (fun _ => True) (fun _ => 0) () (weak_self ?_) trivial ?_
  · simp only [go_sem, Nat.reduceGT, Nat.reducePow, Nat.reduceLT, ↓reduceIte, Nat.reduceAdd, Nat.reduceMul, Nat.reduceSub, Nat.reduceMod, Nat.reduceLeDiff, Nat.reduceEqDiff, Nat.reduceBEq, reduceCtorEq]
    try simp
  · intro _ _
    refine aw_ok _ ?_
    simp only [go_sem, Nat.reduceGT, Nat.reducePow, Nat.reduceLT, ↓reduceIte, Nat.reduceAdd, Nat.reduceMul, Nat.reduceSub, Nat.reduceMod, Nat.reduceLeDiff, Nat.reduceEqDiff, Nat.reduceBEq, reduceCtorEq]
    refine ⟨fun h => (by simp at h : False).elim, fun _ => ?_⟩
    unfold awS
    simp only [go_sem, Nat.reduceGT, Nat.reducePow, Nat.reduceLT, ↓reduceIte, Nat.reduceAdd, Nat.reduceMul, Nat.reduceSub, Nat.reduceMod, Nat.reduceLeDiff, Nat.reduceEqDiff, Nat.reduceBEq, reduceCtorEq]
    refine awp_loop_f (fun (_ : Unit) σ => σ) (fun _ => True) (fun _ => 0) () (weak_self ?_) trivial ?_
    · simp only [go_sem, Nat.reduceGT, Nat.reducePow, Nat.reduceLT, ↓reduceIte, Nat.reduceAdd, Nat.reduceMul, Nat.reduceSub, Nat.reduceMod, Nat.reduceLeDiff, Nat.reduceEqDiff, Nat.reduceBEq, reduceCtorEq]
      try simp
    · intro _ _
      refine aw_ok _ ?_
      simp only [go_sem, Nat.reduceGT, Nat.reducePow, Nat.reduceLT, ↓reduceIte, Nat.reduceAdd, Nat.reduceMul, Nat.reduceSub, Nat.reduceMod, Nat.reduceLeDiff, Nat.reduceEqDiff, Nat.reduceBEq, reduceCtorEq]
      refine ⟨fun h => (by simp at h : False).elim, fun _ => ?_⟩
      unfold awS
      simp only [go_sem, Nat.reduceGT, Nat.reducePow, Nat.reduceLT, ↓reduceIte, Nat.reduceAdd, Nat.reduceMul, Nat.reduceSub, Nat.reduceMod, Nat.reduceLeDiff, Nat.reduceEqDiff, Nat.reduceBEq, reduceCtorEq]
      refine weak_of [(1, some 3), (0, some 2)] ?_
      simp only [go_sem, Nat.reduceGT, Nat.reducePow, Nat.reduceLT, ↓reduceIte, Nat.reduceAdd, Nat.reduceMul, Nat.reduceSub, Nat.reduceMod, Nat.reduceLeDiff, Nat.reduceEqDiff, Nat.reduceBEq, reduceCtorEq]
      simp
theorem nopValid : NopD Tryz.prog 79 := by
  refine ⟨Tryz.xen79, fun cap w => callsD_of_wpS Tryz.func79 rfl fun c₀ cs hu => ?_⟩
  have k1 : 1 < cap.size + (3 - cap.size) := by omega
  have k2 : 2 < cap.size + (3 - cap.size) := by omega
  have k3 : 1 < max 3 cap.size := by omega
  have k4 : 2 < max 3 cap.size := by omega
  apply wpS_seq
  apply wpS_region
  simp [wpOpsS, go_sem, recoverD, hu, Tryz.ntmps79, Exit.thenS, k1, k2, k3, k4]
  refine wpS_cond (t := false) (by simp [Act.eval, k2, k4]) ?_
  refine wpS_of_wp (wp_skip ?_)
  refine ⟨rfl, .returning, by rw [← hu], .tuple #[], ?_, ⟨_, rfl⟩, rfl, rfl⟩
  simp [results, Tryz.results79, go_sem]
theorem cValid0 : CPure Tryz.prog 51 [.agg [nilV, nilV]] (vint 0) := by
  refine cpure_of Tryz.xen51 Tryz.func51 rfl Tryz.ntmps51 (by rw [Tryz.results51]) (aw_ok _ ?_)
  simp only [go_sem, Nat.reduceGT, Nat.reducePow, Nat.reduceLT, ↓reduceIte, Nat.reduceAdd, Nat.reduceMul, Nat.reduceSub, Nat.reduceMod, Nat.reduceLeDiff, Nat.reduceEqDiff, Nat.reduceBEq, reduceCtorEq]
  refine ⟨_, cTooLarge0, ?_⟩
  simp only [go_sem, Nat.reduceGT, Nat.reducePow, Nat.reduceLT, ↓reduceIte, Nat.reduceAdd, Nat.reduceMul, Nat.reduceSub, Nat.reduceMod, Nat.reduceLeDiff, Nat.reduceEqDiff, Nat.reduceBEq, reduceCtorEq]
  refine ⟨_, cContainsM0 _, ?_⟩
  simp only [go_sem, Nat.reduceGT, Nat.reducePow, Nat.reduceLT, ↓reduceIte, Nat.reduceAdd, Nat.reduceMul, Nat.reduceSub, Nat.reduceMod, Nat.reduceLeDiff, Nat.reduceEqDiff, Nat.reduceBEq, reduceCtorEq]
  refine ⟨_, cContainsS0 _, ?_⟩
  simp only [go_sem, Nat.reduceGT, Nat.reducePow, Nat.reduceLT, ↓reduceIte, Nat.reduceAdd, Nat.reduceMul, Nat.reduceSub, Nat.reduceMod, Nat.reduceLeDiff, Nat.reduceEqDiff, Nat.reduceBEq, reduceCtorEq]
  refine icall_io cCat0 [] rfl (by decide) (by decide) (by trivial) rfl rfl rfl rfl ?_
  simp only [go_sem, Nat.reduceGT, Nat.reducePow, Nat.reduceLT, ↓reduceIte, Nat.reduceAdd, Nat.reduceMul, Nat.reduceSub, Nat.reduceMod, Nat.reduceLeDiff, Nat.reduceEqDiff, Nat.reduceBEq, reduceCtorEq, List.getElem?_nil]
  refine ⟨fun h => (by simp at h : False).elim, fun _ => ?_⟩
  unfold awS
  simp only [go_sem, Nat.reduceGT, Nat.reducePow, Nat.reduceLT, ↓reduceIte, Nat.reduceAdd, Nat.reduceMul, Nat.reduceSub, Nat.reduceMod, Nat.reduceLeDiff, Nat.reduceEqDiff, Nat.reduceBEq, reduceCtorEq, List.getElem?_nil]
  refine awp_loop_f (fun (_ : Unit) σ => σ) (fun _ => True) (fun _ => 0) () (weak_self ?_) trivial ?_
  · simp only [go_sem, Nat.reduceGT, Nat.reducePow, Nat.reduceLT, ↓reduceIte, Nat.reduceAdd, Nat.reduceMul, Nat.reduceSub, Nat.reduceMod, Nat.reduceLeDiff, Nat.reduceEqDiff, Nat.reduceBEq, reduceCtorEq, List.getElem?_nil]
    try simp
  · intro _ _
    refine aw_ok _ ?_
    simp only [go_sem, Nat.reduceGT, Nat.reducePow, Nat.reduceLT, ↓reduceIte, Nat.reduceAdd, Nat.reduceMul, Nat.reduceSub, Nat.reduceMod, Nat.reduceLeDiff, Nat.reduceEqDiff, Nat.reduceBEq, reduceCtorEq]
    refine ⟨fun h => (by simp at h : False).elim, fun _ => ?_⟩
    unfold awS
    simp only [go_sem, Nat.reduceGT, Nat.reducePow, Nat.reduceLT, ↓reduceIte, Nat.reduceAdd, Nat.reduceMul, Nat.reduceSub, Nat.reduceMod, Nat.reduceLeDiff, Nat.reduceEqDiff, Nat.reduceBEq, reduceCtorEq, List.getElem?_nil]
    refine awp_loop_f (fun (_ : Unit) σ => σ) (fun _ => True) (fun _ => 0) () (weak_self ?_) trivial ?_
    · simp only [go_sem, Nat.reduceGT, Nat.reducePow, Nat.reduceLT, ↓reduceIte, Nat.reduceAdd, Nat.reduceMul, Nat.reduceSub, Nat.reduceMod, Nat.reduceLeDiff, Nat.reduceEqDiff, Nat.reduceBEq, reduceCtorEq, List.getElem?_nil]
      try simp
    · intro _ _
      refine aw_ok _ ?_
      simp only [go_sem, Nat.reduceGT, Nat.reducePow, Nat.reduceLT, ↓reduceIte, Nat.reduceAdd, Nat.reduceMul, Nat.reduceSub, Nat.reduceMod, Nat.reduceLeDiff, Nat.reduceEqDiff, Nat.reduceBEq, reduceCtorEq]
      refine ⟨fun h => (by simp at h : False).elim, fun _ => ?_⟩
      unfold awS
      simp only [go_sem, Nat.reduceGT, Nat.reducePow, Nat.reduceLT, ↓reduceIte, Nat.reduceAdd, Nat.reduceMul, Nat.reduceSub, Nat.reduceMod, Nat.reduceLeDiff, Nat.reduceEqDiff, Nat.reduceBEq, reduceCtorEq, List.getElem?_nil]
      refine awp_loop_f (fun (_ : Unit) σ => σ) (fun _ => True) (fun _ => 0) () (weak_self ?_) trivial ?_
      · simp only [go_sem, Nat.reduceGT, Nat.reducePow, Nat.reduceLT, ↓reduceIte, Nat.reduceAdd, Nat.reduceMul, Nat.reduceSub, Nat.reduceMod, Nat.reduceLeDiff, Nat.reduceEqDiff, Nat.reduceBEq, reduceCtorEq, List.getElem?_nil]
        try simp
      · intro _ _
        refine aw_ok _ ?_
        simp only [go_sem, Nat.reduceGT, Nat.reducePow, Nat.reduceLT, ↓reduceIte, Nat.reduceAdd, Nat.reduceMul, Nat.reduceSub, Nat.reduceMod, Nat.reduceLeDiff, Nat.reduceEqDiff, Nat.reduceBEq, reduceCtorEq]
        refine ⟨fun h => (by simp at h : False).elim, fun _ => ?_⟩
        unfold awS
        simp only [go_sem, Nat.reduceGT, Nat.reducePow, Nat.reduceLT, ↓reduceIte, Nat.reduceAdd, Nat.reduceMul, Nat.reduceSub, Nat.reduceMod, Nat.reduceLeDiff, Nat.reduceEqDiff, Nat.reduceBEq, reduceCtorEq, List.getElem?_nil]
        exact nopValid
end Go.Proofs.YtihgmaamkgobkaaGreat
/- Proved here: The contract of the test that the law's functions are there, for use in the proofs of the given statements; conditions stand in each theorem. -/
set_option linter.unusedSimpArgs false
set_option linter.unusedVariables false
set_option linter.unnecessarySimpa false
namespace Go.Proofs.YtihgmaamkgobkaaGreat
open Go.RowKit
set_option maxRecDepth 4000
/-! nil read as an empty list, in arguments -/
def asTs : List T → List T → Prop
  | [], [] => True
  | x :: xs, y :: ys => (x = y ∨ (x = .lit (.slice none 0 0) ∧ ∃ k d, y = .list k d [])) ∧ asTs xs ys
  | _, _ => False
def asRows : List (List T) → List (List T) → Prop
  | [], [] => True
  | x :: xs, y :: ys => asTs x y ∧ asRows xs ys
  | _, _ => False
theorem asTs_at : ∀ {xs ys : List T}, asTs xs ys → xs.length = ys.length ∧ ∀ (j : Nat) y, ys[j]? = some y → ∃ x, xs[j]? = some x ∧ ∀ (w : World) (S : Nat → Prop) (v : Value), RdT w S x v → RdT w S y v
  | [], [], _ => by simp
  | x :: xs, y :: ys, h => by
    obtain ⟨h1, h2⟩ := asTs_at h.2
    refine ⟨by simp [h1], fun j z hz => ?_⟩
    cases j with
    | zero =>
      simp at hz
      subst hz
      refine ⟨x, by simp, fun w S v hv => ?_⟩
      rcases h.1 with rfl | ⟨rfl, k, d, rfl⟩
      · exact hv
      · cases hv
        exact .list _ _ _ none 0 (Nat.zero_le _) (Nat.zero_le _) (fun _ => rfl) (by simp) (by simp) (by simp)
    | succ j =>
      obtain ⟨u, q1, q2⟩ := h2 j z (by simpa using hz)
      exact ⟨u, by simpa using q1, q2⟩
  | [], _ :: _, h => h.elim
  | _ :: _, [], h => h.elim
theorem asRows_at : ∀ {xs ys : List (List T)}, asRows xs ys → xs.length = ys.length ∧ ∀ (j : Nat) y, ys[j]? = some y → ∃ x, xs[j]? = some x ∧ asTs x y
  | [], [], _ => by simp
  | x :: xs, y :: ys, h => by
    obtain ⟨h1, h2⟩ := asRows_at h.2
    refine ⟨by simp [h1], fun j z hz => ?_⟩
    cases j with
    | zero => simp at hz; subst hz; exact ⟨x, by simp, h.1⟩
    | succ j =>
      obtain ⟨u, q1, q2⟩ := h2 j z (by simpa using hz)
      exact ⟨u, by simpa using q1, q2⟩
  | [], _ :: _, h => h.elim
  | _ :: _, [], h => h.elim
theorem rdT_rows {w : World} {S : Nat → Prop} {k : Nat} {d d' : List T} {xs ys : List (List T)} {v : Value} (ha : asRows xs ys) (h : RdT w S (.list k d xs) v) : RdT w S (.list k d' ys) v := by
  obtain ⟨hl, hat⟩ := asRows_at ha
  cases h with
  | list _ _ _ A c hm hc hn hk hb hr =>
    rw [hl]
    refine .list _ _ _ A c (by omega) (by omega) hn ?_ ?_ ?_
    · intro e he
      obtain ⟨i, hi, rfl⟩ := List.mem_iff_getElem.1 he
      obtain ⟨x, q1, q2⟩ := hat i _ (List.getElem?_eq_getElem hi)
      rw [← (asTs_at q2).1]
      exact hk x (List.mem_of_getElem? q1)
    · intro i e he
      obtain ⟨x, q1, q2⟩ := hat i e he
      obtain ⟨b, off, q3, q4, q5⟩ := hb i x q1
      refine ⟨b, off, q3, q4, fun j y hy => ?_⟩
      obtain ⟨u, q6, _⟩ := (asTs_at q2).2 j y hy
      exact q5 j u q6
    · intro i e j y b off u he hy hA hu
      obtain ⟨x, q1, q2⟩ := hat i e he
      obtain ⟨z, q6, q7⟩ := (asTs_at q2).2 j y hy
      exact q7 _ _ _ (hr i x j z b off u q1 q6 hA hu)
def AsVs (xs ys : List V) : Prop := ∀ (w : World) (E : Env) (vs : List Value), RdVs w E xs vs → RdVs w E ys vs
theorem cpure_as {P : Program} {f : FuncId} {args args' : List V} {r : V} (ha : AsVs args' args) (h : CPure P f args r) : CPure P f args' r :=
  ⟨h.1, fun w S vs hS hv => h.2 w S vs hS (ha _ _ _ hv)⟩
theorem AsVs.cons {x y : V} {xs ys : List V} (h1 : ∀ (w : World) (E : Env) v, RdV w E x v → RdV w E y v) (h2 : AsVs xs ys) : AsVs (x :: xs) (y :: ys) := by
  intro w E vs h
  cases vs with
  | nil => simp only [RdVs] at h
  | cons v vs =>
    simp only [RdVs] at h ⊢
    exact ⟨h1 _ _ _ h.1, h2 _ _ _ h.2⟩
theorem AsVs.nil : AsVs [] [] := fun _ _ _ h => h
theorem as_refl {x : V} : ∀ (w : World) (E : Env) v, RdV w E x v → RdV w E x v := fun _ _ _ h => h
theorem as_rows {k : Nat} {d d' : List T} {xs ys : List (List T)} (ha : asRows xs ys) : ∀ (w : World) (E : Env) v, RdV w E (.t (.list k d xs)) v → RdV w E (.t (.list k d' ys)) v := by
  intro w E v h
  simp only [RdV] at h ⊢
  exact rdT_rows ha h
theorem as_agg {xs ys : List V} (ha : nilAs xs ys) : ∀ (w : World) (E : Env) v, RdV w E (.agg xs) v → RdV w E (.agg ys) v := by
  intro w E v h
  simp only [RdV] at h ⊢
  obtain ⟨vs, rfl, q1, q2⟩ := h
  exact ⟨vs, rfl, nilAs_rd ha q1, q2⟩
def bA : ByteArray := ⟨#[97]⟩
def awS1 : SourceR := ⟨1, ⟨#[97]⟩, ⟨10, 1⟩, ⟨1, 2⟩, false⟩
def awC1 : ClipR := ⟨3, 1, awS1, zSource, 0, 0, 0, ⟨#[]⟩, 0, []⟩
def awG (n : Int) (k : Int) : ClipR := ⟨n, k, zSource, zSource, 0, 0, 0, ⟨#[]⟩, 0, []⟩
theorem aw_find : findT [awG 5 0, awC1] 6 = (1, 1, true) := of_decide_eq_true (by kernel_rfl)
theorem aw_len : lenT [awG 5 0, awC1] = 8 := of_decide_eq_true (by kernel_rfl)
theorem aw_adv2 : (advC awC1 2).2 = 0 := of_decide_eq_true (by kernel_rfl)
theorem aw_adv1 : (advC awC1 2).1.a.pos.num = 11 ∧ (advC awC1 2).1.a.pos.den = 1 := ⟨of_decide_eq_true (by kernel_rfl), of_decide_eq_true (by kernel_rfl)⟩
theorem aw_norm : (normT [awG 1 0, awG 2 0]).length = 0 := of_decide_eq_true (by kernel_rfl)
theorem i0 : I64 0 := ⟨by decide, by decide⟩
theorem zfit : zSource.fit := ⟨⟨by decide, by decide⟩, ⟨⟨by decide, by decide⟩, ⟨by decide, by decide⟩⟩, ⟨⟨by decide, by decide⟩, ⟨by decide, by decide⟩⟩⟩
theorem aw_fit1 : awC1.fit := ⟨⟨by decide, by decide⟩, ⟨by decide, by decide⟩, ⟨⟨by decide, by decide⟩, ⟨⟨by decide, by decide⟩, ⟨by decide, by decide⟩⟩, ⟨⟨by decide, by decide⟩, ⟨by decide, by decide⟩⟩⟩, zfit, ⟨by decide, by decide⟩, ⟨by decide, by decide⟩, ⟨by decide, by decide⟩, ⟨by decide, by decide⟩⟩
theorem aw_fitG {n k : Int} (hn : I64 n) (hk : I64 k) : (awG n k).fit := ⟨hn, hk, zfit, zfit, i0, i0, i0, i0⟩
theorem cAwake : CPure Tryz.prog 17 [] (vbool true) := by
  have hf1 : ∀ c ∈ [awG 5 0, awC1], c.fit := by
    intro c hc
    simp only [List.mem_cons, List.not_mem_nil, or_false] at hc
    rcases hc with rfl | rfl
    · exact aw_fitG ⟨by decide, by decide⟩ ⟨by decide, by decide⟩
    · exact aw_fit1
  have hf2 : ∀ c ∈ [awG 1 0, awG 2 0], c.fit := by
    intro c hc
    simp only [List.mem_cons, List.not_mem_nil, or_false] at hc
    rcases hc with rfl | rfl
    · exact aw_fitG ⟨by decide, by decide⟩ ⟨by decide, by decide⟩
    · exact aw_fitG ⟨by decide, by decide⟩ ⟨by decide, by decide⟩
  refine cpure_of Tryz.xen17 Tryz.func17 rfl Tryz.ntmps17 (by rw [Tryz.results17]) ?_
  refine awp_seq (aw_ok _ ?_)
  simp only [go_sem, Nat.reduceGT, Nat.reducePow, Nat.reduceLT, ↓reduceIte, Nat.reduceAdd, Nat.reduceMul, Nat.reduceSub, Nat.reduceMod, Nat.reduceLeDiff, Nat.reduceEqDiff, Nat.reduceBEq, reduceCtorEq]
  refine awp_seq (aw_ok _ ?_)
  simp only [go_sem, Nat.reduceGT, Nat.reducePow, Nat.reduceLT, ↓reduceIte, Nat.reduceAdd, Nat.reduceMul, Nat.reduceSub, Nat.reduceMod, Nat.reduceLeDiff, Nat.reduceEqDiff, Nat.reduceBEq, reduceCtorEq]
  refine awp_seq (aw_ok _ ?_)
  simp only [go_sem, Nat.reduceGT, Nat.reducePow, Nat.reduceLT, ↓reduceIte, Nat.reduceAdd, Nat.reduceMul, Nat.reduceSub, Nat.reduceMod, Nat.reduceLeDiff, Nat.reduceEqDiff, Nat.reduceBEq, reduceCtorEq]
  refine awp_seq (aw_ok _ ?_)
  simp only [go_sem, Nat.reduceGT, Nat.reducePow, Nat.reduceLT, ↓reduceIte, Nat.reduceAdd, Nat.reduceMul, Nat.reduceSub, Nat.reduceMod, Nat.reduceLeDiff, Nat.reduceEqDiff, Nat.reduceBEq, reduceCtorEq]
  refine lcall_give ?_
  simp only [go_sem, Nat.reduceGT, Nat.reducePow, Nat.reduceLT, ↓reduceIte, Nat.reduceAdd, Nat.reduceMul, Nat.reduceSub, Nat.reduceMod, Nat.reduceLeDiff, Nat.reduceEqDiff, Nat.reduceBEq, reduceCtorEq]
  refine ⟨_, cpure_as (.cons (as_rows (by exact ⟨⟨.inl rfl, .inl rfl, .inl rfl, .inl rfl, .inl rfl, .inl rfl, .inl rfl, .inl rfl, .inl rfl, .inl rfl, .inl rfl, .inl rfl, .inl rfl, .inl rfl, .inl rfl, .inl rfl, .inl rfl, .inl rfl, .inl rfl, .inl rfl, .inl rfl, .inr ⟨rfl, _, _, rfl⟩, trivial⟩, ⟨.inl rfl, .inl rfl, .inl rfl, .inl rfl, .inl rfl, .inl rfl, .inl rfl, .inl rfl, .inl rfl, .inl rfl, .inl rfl, .inl rfl, .inl rfl, .inl rfl, .inl rfl, .inl rfl, .inl rfl, .inl rfl, .inl rfl, .inl rfl, .inl rfl, .inr ⟨rfl, _, _, rfl⟩, trivial⟩, trivial⟩)) (.cons as_refl .nil)) (cPFind [awG 5 0, awC1] 6 ⟨by decide, by decide⟩ hf1), ?_⟩
  rw [aw_find]
  simp only [go_sem, Nat.reduceGT, Nat.reducePow, Nat.reduceLT, ↓reduceIte, Nat.reduceAdd, Nat.reduceMul, Nat.reduceSub, Nat.reduceMod, Nat.reduceLeDiff, Nat.reduceEqDiff, Nat.reduceBEq, reduceCtorEq]
  refine awp_seq (aw_ok _ ?_)
  simp only [go_sem, Nat.reduceGT, Nat.reducePow, Nat.reduceLT, ↓reduceIte, Nat.reduceAdd, Nat.reduceMul, Nat.reduceSub, Nat.reduceMod, Nat.reduceLeDiff, Nat.reduceEqDiff, Nat.reduceBEq, reduceCtorEq]
  refine ⟨_, cpure_as (.cons (as_agg (by exact ⟨.inl rfl, .inl rfl, .inl rfl, .inl rfl, .inl rfl, .inl rfl, .inl rfl, .inl rfl, .inl rfl, .inl rfl, .inl rfl, .inl rfl, .inl rfl, .inl rfl, .inl rfl, .inl rfl, .inl rfl, .inl rfl, .inl rfl, .inl rfl, .inl rfl, .inr ⟨rfl, _, _, rfl⟩, trivial⟩)) (.cons as_refl .nil)) (cAdvance awC1 2 aw_fit1 ⟨by decide, by decide⟩), ?_⟩
  simp only [go_sem, Nat.reduceGT, Nat.reducePow, Nat.reduceLT, ↓reduceIte, Nat.reduceAdd, Nat.reduceMul, Nat.reduceSub, Nat.reduceMod, Nat.reduceLeDiff, Nat.reduceEqDiff, Nat.reduceBEq, reduceCtorEq]
  refine awp_seq (awp_region_part 29 ?_)
  simp only [go_sem, Nat.reduceGT, Nat.reducePow, Nat.reduceLT, ↓reduceIte, Nat.reduceAdd, Nat.reduceMul, Nat.reduceSub, Nat.reduceMod, Nat.reduceLeDiff, Nat.reduceEqDiff, Nat.reduceBEq, reduceCtorEq, List.take_succ_cons, List.take_zero, List.drop_succ_cons, List.drop_zero, List.take, List.drop]
  refine lcall_give ?_
  simp only [go_sem, Nat.reduceGT, Nat.reducePow, Nat.reduceLT, ↓reduceIte, Nat.reduceAdd, Nat.reduceMul, Nat.reduceSub, Nat.reduceMod, Nat.reduceLeDiff, Nat.reduceEqDiff, Nat.reduceBEq, reduceCtorEq]
  refine ⟨_, cpure_as (.cons (as_rows (by exact ⟨⟨.inl rfl, .inl rfl, .inl rfl, .inl rfl, .inl rfl, .inl rfl, .inl rfl, .inl rfl, .inl rfl, .inl rfl, .inl rfl, .inl rfl, .inl rfl, .inl rfl, .inl rfl, .inl rfl, .inl rfl, .inl rfl, .inl rfl, .inl rfl, .inl rfl, .inr ⟨rfl, _, _, rfl⟩, trivial⟩, ⟨.inl rfl, .inl rfl, .inl rfl, .inl rfl, .inl rfl, .inl rfl, .inl rfl, .inl rfl, .inl rfl, .inl rfl, .inl rfl, .inl rfl, .inl rfl, .inl rfl, .inl rfl, .inl rfl, .inl rfl, .inl rfl, .inl rfl, .inl rfl, .inl rfl, .inr ⟨rfl, _, _, rfl⟩, trivial⟩, trivial⟩)) .nil) (cPLength [awG 5 0, awC1] hf1), ?_⟩
  simp only [go_sem, Nat.reduceGT, Nat.reducePow, Nat.reduceLT, ↓reduceIte, Nat.reduceAdd, Nat.reduceMul, Nat.reduceSub, Nat.reduceMod, Nat.reduceLeDiff, Nat.reduceEqDiff, Nat.reduceBEq, reduceCtorEq, Int.reduceLT, Int.reduceLE, Int.reduceGT, Int.reduceGE, Int.reduceEq, Int.reduceNe, Int.reduceBEq, Int.reduceBNe, Int.reduceAdd, Int.reduceSub, Int.reduceNeg, Int.reduceToNat, decide_true, decide_false, Bool.or_false, Bool.false_or, Bool.or_true, Bool.true_or, Bool.and_true, Bool.true_and, Bool.and_false, Bool.false_and, aw_len, aw_adv2, aw_adv1.1, aw_adv1.2]
  refine ⟨true, eqRat ⟨11, 1⟩ ⟨11, 1⟩, fun _ => ⟨rfl, ?_⟩, fun h => Bool.noConfusion h⟩
  refine semS_true rfl (by simp only [go_sem, Nat.reduceGT, Nat.reducePow, Nat.reduceLT, ↓reduceIte, Nat.reduceAdd, Nat.reduceMul, Nat.reduceSub, Nat.reduceMod, Nat.reduceLeDiff, Nat.reduceEqDiff, Nat.reduceBEq, reduceCtorEq]) ?_
  simp only [go_sem, Nat.reduceGT, Nat.reducePow, Nat.reduceLT, ↓reduceIte, Nat.reduceAdd, Nat.reduceMul, Nat.reduceSub, Nat.reduceMod, Nat.reduceLeDiff, Nat.reduceEqDiff, Nat.reduceBEq, reduceCtorEq]
  refine lcall_give ?_
  simp only [go_sem, Nat.reduceGT, Nat.reducePow, Nat.reduceLT, ↓reduceIte, Nat.reduceAdd, Nat.reduceMul, Nat.reduceSub, Nat.reduceMod, Nat.reduceLeDiff, Nat.reduceEqDiff, Nat.reduceBEq, reduceCtorEq]
  refine ⟨_, cpure_as (.cons (as_rows (by exact ⟨⟨.inl rfl, .inl rfl, .inl rfl, .inl rfl, .inl rfl, .inl rfl, .inl rfl, .inl rfl, .inl rfl, .inl rfl, .inl rfl, .inl rfl, .inl rfl, .inl rfl, .inl rfl, .inl rfl, .inl rfl, .inl rfl, .inl rfl, .inl rfl, .inl rfl, .inr ⟨rfl, _, _, rfl⟩, trivial⟩, ⟨.inl rfl, .inl rfl, .inl rfl, .inl rfl, .inl rfl, .inl rfl, .inl rfl, .inl rfl, .inl rfl, .inl rfl, .inl rfl, .inl rfl, .inl rfl, .inl rfl, .inl rfl, .inl rfl, .inl rfl, .inl rfl, .inl rfl, .inl rfl, .inl rfl, .inr ⟨rfl, _, _, rfl⟩, trivial⟩, trivial⟩)) .nil) (cNormal [awG 1 0, awG 2 0] hf2), ?_⟩
  simp only [go_sem, Nat.reduceGT, Nat.reducePow, Nat.reduceLT, ↓reduceIte, Nat.reduceAdd, Nat.reduceMul, Nat.reduceSub, Nat.reduceMod, Nat.reduceLeDiff, Nat.reduceEqDiff, Nat.reduceBEq, reduceCtorEq]
  refine semS_steps ?_
  simp only [go_sem, Nat.reduceGT, Nat.reducePow, Nat.reduceLT, ↓reduceIte, Nat.reduceAdd, Nat.reduceMul, Nat.reduceSub, Nat.reduceMod, Nat.reduceLeDiff, Nat.reduceEqDiff, Nat.reduceBEq, reduceCtorEq, Int.reduceLT, Int.reduceLE, Int.reduceGT, Int.reduceGE, Int.reduceEq, Int.reduceNe, Int.reduceBEq, Int.reduceBNe, Int.reduceAdd, Int.reduceSub, Int.reduceNeg, Int.reduceToNat, decide_true, decide_false, Bool.or_false, Bool.false_or, Bool.or_true, Bool.true_or, Bool.and_true, Bool.true_and, Bool.and_false, Bool.false_and, aw_norm]
  refine ⟨_, fun _ => cValid0, ?_⟩
  simp only [go_sem, Nat.reduceGT, Nat.reducePow, Nat.reduceLT, ↓reduceIte, Nat.reduceAdd, Nat.reduceMul, Nat.reduceSub, Nat.reduceMod, Nat.reduceLeDiff, Nat.reduceEqDiff, Nat.reduceBEq, reduceCtorEq, Int.reduceLT, Int.reduceLE, Int.reduceGT, Int.reduceGE, Int.reduceEq, Int.reduceNe, Int.reduceBEq, Int.reduceBNe, Int.reduceAdd, Int.reduceSub, Int.reduceNeg, Int.reduceToNat, decide_true, decide_false, Bool.or_false, Bool.false_or, Bool.or_true, Bool.true_or, Bool.and_true, Bool.true_and, Bool.and_false, Bool.false_and, Int.natCast_zero]
  refine aw_ok _ ?_
  simp only [go_sem, Nat.reduceGT, Nat.reducePow, Nat.reduceLT, ↓reduceIte, Nat.reduceAdd, Nat.reduceMul, Nat.reduceSub, Nat.reduceMod, Nat.reduceLeDiff, Nat.reduceEqDiff, Nat.reduceBEq, reduceCtorEq]
  try rfl
end Go.Proofs.YtihgmaamkgobkaaGreat
