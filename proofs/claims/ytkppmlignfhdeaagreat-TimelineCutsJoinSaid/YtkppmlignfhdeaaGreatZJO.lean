/- Proved here: Join of two tracks, program and reference, for use in the proofs of the given statements; conditions stand in each theorem. -/
import Derived.Test.YtkppmlignfhdeaaGreatZJN
import Derived.Test.YtkppmlignfhdeaaGreatZR
import Derived.Test.YtkppmlignfhdeaaGreatZH23
set_option linter.unusedSimpArgs false
set_option linter.unusedVariables false
set_option linter.unusedSectionVars false
set_option linter.unusedSimpArgs false
set_option linter.unusedVariables false
set_option linter.unnecessarySimpa false
namespace Go.Proofs.YtkppmlignfhdeaaGreat
open Go.RowKit
set_option maxRecDepth 4000
def joinT (a b : List ClipR) : List ClipR × Int :=
  if (!vTrack a || !vTrack b) = true then ([], 1)
  else if decide (totL a + totL b > 2147483647) = true then ([], 2)
  else if decide ((packP (a ++ b)).length > 64) = true then ([], 5) else (packP (a ++ b), 0)
abbrev vte (r : List ClipR × Int) : V := .tup [.t (tclips r.1), vint r.2]
theorem nopJoin : NopD Tryz.prog 79 := by
  refine ⟨Tryz.xen79, fun cap w => callsDIn_of_wpSIn Tryz.func79 rfl trivial fun c₀ cs hu => ?_⟩
  have k1 : 2 < cap.size + (4 - cap.size) := by omega
  have k2 : 3 < cap.size + (4 - cap.size) := by omega
  have k3 : 2 < max 4 cap.size := by omega
  have k4 : 3 < max 4 cap.size := by omega
  apply wpSIn_seq
  apply wpSIn_region
  simp [wpOpsSIn, Fence.wide, go_sem, recoverD, hu, Tryz.ntmps79, Exit.thenS, k1]
  refine wpSIn_cond (t := false) (by simp [Act.eval, k2]) ?_
  refine wpSIn_of_wpIn rfl (wpIn_skip ?_)
  refine ⟨rfl, .returning, by rw [← hu], .tuple #[], ?_, ⟨_, rfl⟩, rfl, rfl⟩
  simp [results, Tryz.results79, go_sem]
theorem pureW_tnil (k : Int) {h : Heap} : pureW (vte ([], k)) (.tup [.t (.lit (.slice none 0 0)), vint k]) h := by
  refine ⟨rfl, fun w E v hv => ?_⟩
  have e : V.lend h (.tup [.t (.lit (.slice none 0 0)), vint k]) = .tup [.t (.lit (.slice none 0 0)), vint k] := rfl
  rw [e] at hv
  simp only [RdV] at hv ⊢
  obtain ⟨vs, rfl, hvs⟩ := hv
  refine ⟨vs, rfl, ?_⟩
  rcases hl : vs.toList with _ | ⟨u, _ | ⟨u2, _ | ⟨u3, us⟩⟩⟩ <;> rw [hl] at hvs <;> simp only [RdVs, and_false] at hvs ⊢
  refine ⟨?_, hvs.2⟩
  have h1 := hvs.1
  simp only [RdV] at h1 ⊢
  cases h1
  exact .list _ _ _ none 0 (Nat.zero_le _) (Nat.zero_le _) (fun _ => rfl) (by simp) (by simp) (by simp)
theorem trk_join {a b : List ClipR} (ha : vTrack a = true) (hb : vTrack b = true) (ht : totL a + totL b ≤ 2147483647) : Trk (a ++ b) := by
  obtain ⟨a1, a2, a3⟩ := vTrack_parts ha
  obtain ⟨b1, b2, b3⟩ := vTrack_parts hb
  have ha' := ha
  have hb' := hb
  unfold vTrack at ha' hb'
  simp only [Bool.and_eq_true, List.all_eq_true] at ha' hb'
  refine trk_mk (by rw [List.length_append]; omega) (fun c hc => ?_) (by rw [totL_app]; omega)
  rcases List.mem_append.1 hc with hc | hc
  · exact ha'.1.2 c hc
  · exact hb'.1.2 c hc
theorem fit_join {a b : List ClipR} (ha : ∀ c ∈ a, c.fit) (hb : ∀ c ∈ b, c.fit) : ∀ c ∈ a ++ b, c.fit := fun c hc => (List.mem_append.1 hc).elim (ha c) (hb c)
theorem tot_bounds {a : List ClipR} (ha : vTrack a = true) : 0 ≤ totL a ∧ totL a ≤ 2147483647 := by
  obtain ⟨a1, a2, a3⟩ := vTrack_parts ha
  exact ⟨totL_nonneg _ (fun c hc => by
    have ha' := ha
    unfold vTrack at ha'
    simp only [Bool.and_eq_true, List.all_eq_true] at ha'
    exact (vClip_len (ha'.1.2 c hc)).1), a3⟩
theorem as_dd {k : Nat} {d d' : List T} {xs : List (List T)} : ∀ (w : World) (E : Env) v, RdV w E (.t (.list k d xs)) v → RdV w E (.t (.list k d' xs)) v := by
  intro w E v h
  simp only [RdV] at h ⊢
  cases h with
  | list _ _ _ A c hm hc hn hk hb hr => exact .list k d' xs A c hm hc hn hk hb hr
theorem cJoin (a b : List ClipR) (ha : ∀ c ∈ a, c.fit) (hb : ∀ c ∈ b, c.fit) : CPure Tryz.prog 27 [.t (tclips a), .t (tclips b)] (vte (joinT a b)) := by
  refine cpure_ofW Tryz.xen27 Tryz.func27 rfl Tryz.ntmps27 (by rw [Tryz.results27]) (aw_ok _ ?_)
  simp only [go_sem, ↓reduceIte, Nat.reduceAdd, Nat.reduceSub]
  refine ⟨_, cPTrack a ha, ?_⟩
  simp only [go_sem, ↓reduceIte]
  refine ⟨_, fun _ => cPTrack b hb, ?_⟩
  simp only [go_sem, ↓reduceIte]
  unfold joinT
  refine ⟨fun h1 => ?_, fun h1 => ?_⟩
  · rw [if_pos h1]
    unfold awS
    simp only [go_sem, ↓reduceIte, Nat.reduceLeDiff, reduceCtorEq]
    exact ⟨nopJoin, pureW_tnil 1⟩
  · rw [if_neg (by rw [h1]; exact Bool.false_ne_true)]
    simp only [Bool.or_eq_false_iff] at h1
    have va := nf h1.1
    have vb := nf h1.2
    obtain ⟨a1, a2, a3⟩ := vTrack_parts va
    obtain ⟨b1, b2, b3⟩ := vTrack_parts vb
    have ta := tot_bounds va
    have tb := tot_bounds vb
    have va' := va
    have vb' := vb
    unfold vTrack at va' vb'
    simp only [Bool.and_eq_true, List.all_eq_true] at va' vb'
    unfold awS
    simp only [go_sem, ↓reduceIte]
    refine ⟨_, cPTotal a a1 va'.1.2, ?_⟩
    simp only [go_sem, ↓reduceIte]
    refine ⟨_, cPTotal b b1 vb'.1.2, ?_⟩
    simp only [go_sem, ↓reduceIte, wrap64 (x := totL a + totL b) (by omega) (by omega)]
    refine ⟨fun h2 => ?_, fun h2 => ?_⟩
    · rw [if_pos h2]
      unfold awS
      simp only [go_sem, ↓reduceIte, Nat.reduceLeDiff, reduceCtorEq]
      exact ⟨nopJoin, pureW_tnil 2⟩
    · rw [if_neg (by rw [h2]; exact Bool.false_ne_true)]
      have hT := trk_join va vb (by simpa using h2)
      unfold awS
      simp only [go_sem, Nat.reducePow, Nat.reduceLT, ↓reduceIte, Nat.reduceAdd, Nat.reduceMul, Nat.reduceLeDiff]
      refine lcall_give ?_
      simp only [go_sem, ↓reduceIte]
      refine ⟨_, cConcatC _ a b a1 b1, ?_⟩
      simp only [go_sem, ↓reduceIte]
      refine ⟨_, cPackW (a ++ b) (fit_join ha hb) hT, ?_⟩
      simp only [go_sem, ↓reduceIte, Nat.reduceLeDiff, reduceCtorEq]
      refine brW (b := decide ((packP (a ++ b)).length > 64)) ?_ ⟨fun h3 => ?_, fun h3 => ?_⟩
      · rw [Bool.eq_iff_iff]; simp only [decide_eq_true_eq]; omega
      · rw [if_pos h3]
        unfold awS
        simp only [go_sem, ↓reduceIte, Nat.reduceLeDiff, Nat.reduceEqDiff, reduceCtorEq]
        exact ⟨nopJoin, pureW_tnil 5⟩
      · rw [if_neg (by rw [h3]; exact Bool.false_ne_true)]
        unfold awS
        simp only [go_sem, ↓reduceIte, Nat.reduceLeDiff, Nat.reduceEqDiff, reduceCtorEq]
        exact ⟨nopJoin, pureW_self rfl rfl⟩
end Go.Proofs.YtkppmlignfhdeaaGreat
