/- Proved here: Contracts of the functions that pack, for longer lists of clips, for use in the proofs of the given statements; conditions stand in each theorem. -/
import Derived.Test.YtkppmlignfhdeaaGreatZQ
set_option linter.unusedSimpArgs false
set_option linter.unusedVariables false
set_option linter.unusedSectionVars false
set_option linter.unusedSimpArgs false
set_option linter.unusedVariables false
set_option linter.unnecessarySimpa false
namespace Go.Proofs.YtkppmlignfhdeaaGreat
open Go.RowKit
set_option maxRecDepth 4000
/-- a list of valid clips whose lengths are within the limit -/
structure Trk (t : List ClipR) : Prop where
  len : t.length ≤ 200
  ok : ∀ i, i < t.length → vClip (t.getD i default) = true
  tot : totL t ≤ 2147483647
theorem trk_parts {t : List ClipR} (h : Trk t) : t.length ≤ 200 ∧ (∀ i, i < t.length → vClip (t.getD i default) = true) ∧ totL t ≤ 2147483647 := ⟨h.len, h.ok, h.tot⟩
theorem trk_range {t : List ClipR} (h : Trk t) {k : Nat} (hk : k ≤ t.length) : 0 ≤ totL (t.take k) ∧ totL (t.take k) ≤ 2147483647 := by
  have h1 := tot_take h.ok k
  have h2 := totL_nonneg (t.take k) fun c hc => (take_all hk (fun i hi => h.ok i (by omega)) c hc).1
  have h3 := h.tot
  omega
theorem trk_mk {t : List ClipR} (h1 : t.length ≤ 200) (h2 : ∀ c ∈ t, vClip c = true) (h3 : totL t ≤ 2147483647) : Trk t := ⟨h1, fun i hi => h2 _ (mem_getD hi), h3⟩
theorem packGo_mildW {t : List ClipR} (hv : Trk t) (hfit : ∀ c ∈ t, c.fit) {k : Nat} (hk : k ≤ t.length) {c : ClipR} (hc : c ∈ packGo t k) : Mild c := by
  obtain ⟨h64, hi, htot⟩ := trk_parts hv
  obtain ⟨f1, f2, f3, f4⟩ := packGo_facts hi k hk
  obtain ⟨j, hj, e⟩ := packGo_from k hk c hc
  have m := mild_of (hfit _ (mem_getD hj)) (hi j hj)
  have h1 := f4 c hc
  have h2 := len_totL c _ hc f4
  have h3 := tot_take hi k
  rw [f3] at h2
  have hl : 0 ≤ c.len ∧ c.len ≤ 2147483647 := by omega
  rw [e]
  have e2 : { t.getD j default with len := c.len }.len = c.len := rfl
  exact ⟨⟨⟨by simp only; omega, by simp only; omega⟩, m.fit.kind, m.fit.a, m.fit.b, m.fit.off, m.fit.total, m.fit.param, m.fit.gain⟩, m.chan, m.a, m.b, hl, m.off⟩
theorem packGo_lastW {t : List ClipR} (hv : Trk t) (hfit : ∀ c ∈ t, c.fit) : ∀ k, k ≤ t.length → ∀ i c, packGo t k = i ++ [c] → ∀ q, contC c q = contC (t.getD (k - 1) default) q
  | 0, _, i, c, h, _ => by simp [packGo] at h
  | k + 1, hk, i, c, h, q => by
    have ih := packGo_lastW hv hfit k (by omega)
    rw [packGo] at h
    split at h
    · rename_i hb
      unfold packB at hb
      simp only [Bool.and_eq_true, decide_eq_true_eq] at hb
      obtain ⟨i2, c2, h2⟩ := snoc_of ((packGo_facts (trk_parts hv).2.1 k (by omega)).2.1 hb.1)
      rw [h2, addLast_snoc] at h
      have hc := (List.append_inj' h rfl).2
      simp only [List.cons.injEq, and_true] at hc
      have m := packGo_mildW hv hfit (k := k) (by omega) (c := c2) (by rw [h2]; simp)
      have h4 := ih i2 c2 h2 (t.getD k default)
      rw [hb.2] at h4
      rw [← hc, contC_join m.a m.b h4]
      rfl
    · have hc := (List.append_inj' h rfl).2
      simp only [List.cons.injEq, and_true] at hc
      rw [← hc]
      rfl
theorem cPackW (t : List ClipR) (hfit : ∀ c ∈ t, c.fit) (hv : Trk t) : CPure Tryz.prog 82 [.t (tclips t)] (.t (tclips (packP t))) := by
  obtain ⟨h64, hi, htot⟩ := trk_parts hv
  have hM : ∀ i, i < t.length → Mild (t.getD i default) := fun i h => mild_of (hfit _ (mem_getD h)) (hi i h)
  refine cpure_of Tryz.xen82 Tryz.func82 rfl Tryz.ntmps82 (by rw [Tryz.results82]) (aw_ok _ ?_)
  simp only [go_sem, ↓reduceIte, Nat.reduceSub]
  refine awp_loop_f (fun (k : Nat) σ => { fr := (σ.fr.set 3 (.own 0)).set 8 (vint k), h := [(0, RowC (packGo t k))], nx := 1 }) (fun k => k ≤ t.length) (fun k => t.length - k) 0 (weak_of [(0, none)] ?_) (Nat.zero_le _) ?_
  · simp only [go_sem, Nat.reduceLT, ↓reduceIte, Nat.reduceLeDiff]
    exact ⟨rfl, rfl⟩
  · intro k hk
    obtain ⟨f1, f2, f3, f4⟩ := packGo_facts hi k hk
    refine aw_ok _ ?_
    simp only [go_sem, ↓reduceIte]
    refine ⟨fun hlt => ?_, fun hge => ?_⟩
    · simp only [decide_eq_true_eq] at hlt
      have hkl : k < t.length := by omega
      have w1 : IntKind.i64.wrap ((k : Int) - 1) = (k : Int) - 1 := wrap64 (by omega) (by omega)
      have w2 : ((k : Int) - 1).toNat = k - 1 := by omega
      have hlk := vClip_len (hi k hkl)
      have htk := totL_take t k hkl
      have htr := trk_range hv (k := k + 1) (by omega)
      have hn1 := totL_nonneg _ f4
      unfold awS
      simp only [go_sem, ↓reduceIte, Nat.reduceAdd, Nat.reduceLeDiff]
      refine ⟨⟨by omega, by omega⟩, ?_⟩
      refine drawR_of [0, 1, 2, 3, 4, 5, 6, 7, 8, 9, 10] .done rfl (by kernel_rfl) (by kernel_rfl) (by decide) ?_
      simp only [go_sem, ↓reduceIte, Nat.reduceAdd, Nat.reduceLeDiff, w1, w2]
      refine ⟨fun h => ?_, _, fun _ => cContinues (t.getD (k - 1) default) (t.getD k default) (hM (k - 1) (by omega)), ?_⟩
      · simp only [decide_eq_true_eq] at h
        omega
      simp only [go_sem, ↓reduceIte]
      refine brW (b := packB t k) ?_ ⟨fun hb => ?_, fun hb => ?_⟩
      · unfold packB
        have : decide ((k : Int) > 0) = decide (0 < k) := by rw [Bool.eq_iff_iff]; simp only [decide_eq_true_eq]; omega
        rw [this]
      · have hk0 : 0 < k := by unfold packB at hb; simp only [Bool.and_eq_true, decide_eq_true_eq] at hb; exact hb.1
        obtain ⟨i, c, e⟩ := snoc_of (f2 hk0)
        have f3' := f3
        have f4' := f4
        rw [e] at f1 f3 f4
        rw [totL_app, totL_one] at f3
        have hl1 := f4 c (by simp)
        have hin := totL_nonneg i fun d hd => f4 d (by simp [hd])
        have hil : i.length + 1 ≤ k := by simpa using f1
        unfold awS
        rw [e]
        have hlen : (List.map ClipR.c (i ++ [c])).length = i.length + 1 := by simp
        simp only [go_sem]
        have hL : (i ++ [c]).length = i.length + 1 := by simp
        have w3 : IntKind.i64.wrap (((i.length + 1 : Nat) : Int) - 1) = (i.length : Int) := by rw [wrap64 (by omega) (by omega)]; omega
        have w4 : IntKind.i64.wrap ((i.length : Int) + 1 - 1) = (i.length : Int) := by rw [wrap64 (by omega) (by omega)]; omega
        refine drawC_of 13 .done rfl (by kernel_rfl) (by kernel_rfl) (by decide) ?_
        have w5 : IntKind.i64.wrap (c.len + (t.getD k default).len) = c.len + (t.getD k default).len := wrap64 (by omega) (by omega)
        simp only [go_sem, ↓reduceIte, Nat.reduceAdd, Nat.reduceLeDiff, reduceCtorEq, hL, w3, wrap1 (show k < 9223372036854775807 by omega), getD_snoc, w5, tset_len]
        refine ⟨⟨by omega, by omega⟩, by omega, ⟨by omega, by omega⟩, by omega, by kernel_rfl, k + 1, weak_of [(0, some 0)] ?_, by omega, by omega⟩
        simp only [go_sem, Nat.reduceLT, ↓reduceIte, Nat.reduceLeDiff, reduceCtorEq]
        refine ⟨⟨by simp, ?_⟩, rfl⟩
        unfold packGo
        rw [if_pos hb, e, addLast_snoc]
      · unfold awS
        simp only [go_sem, ↓reduceIte, Nat.reduceAdd, Nat.reduceLeDiff]
        refine ⟨_, cCopied (t.getD k default) (hM k hkl).chan, ?_⟩
        simp only [go_sem, Nat.reducePow, Nat.reduceLT, ↓reduceIte, Nat.reduceAdd, Nat.reduceMul, Nat.reduceLeDiff, reduceCtorEq, wrap1 (show k < 9223372036854775807 by omega)]
        refine ⟨⟨by unfold maxLen; omega, by omega⟩, k + 1, weak_of [(0, some 3)] ?_, by omega, by omega⟩
        simp only [go_sem, Nat.reduceLT, ↓reduceIte, Nat.reduceLeDiff, reduceCtorEq]
        refine ⟨⟨by simp, ?_⟩, rfl⟩
        have e : packGo t (k + 1) = packGo t k ++ [t.getD k default] := by rw [packGo, if_neg (by rw [hb]; simp)]
        rw [e, List.map_append]
        rfl
    · simp only [decide_eq_false_iff_not] at hge
      have : k = t.length := by omega
      subst this
      unfold awS
      simp only [go_sem, ↓reduceIte]
      rfl
theorem packGo_pkW {t : List ClipR} (hv : Trk t) (hfit : ∀ c ∈ t, c.fit) : ∀ k, 1 ≤ k → k ≤ t.length → ∃ i c, packGo t k = i ++ [c] ∧ pk t = i ++ pkA c (t.drop k)
  | 0, h, _ => by omega
  | 1, _, hk => by
    refine ⟨[], t.getD 0 default, ?_, ?_⟩
    · rw [packGo, if_neg (by simp [packB])]; rfl
    · conv => lhs; rw [← List.drop_zero (l := t), drop_cons (t := t) (k := 0) (by omega)]
      rfl
  | k + 2, _, hk => by
    obtain ⟨i, c, h1, h2⟩ := packGo_pkW hv hfit (k + 1) (by omega) (by omega)
    have hl := packGo_lastW hv hfit (k + 1) (by omega) i c h1 (t.getD (k + 1) default)
    have hp : packB t (k + 1) = contC c (t.getD (k + 1) default) := by unfold packB; rw [hl, decide_eq_true (by omega : 0 < k + 1), Bool.true_and]
    rw [drop_cons (t := t) (k := k + 1) (by omega), pkA] at h2
    rw [packGo, hp, h1]
    split
    · rename_i hc
      rw [if_pos hc] at h2
      exact ⟨i, _, addLast_snoc _ _ _, h2⟩
    · rename_i hc
      rw [if_neg hc] at h2
      exact ⟨i ++ [c], _, rfl, by rw [h2]; simp⟩
theorem packP_pkW {t : List ClipR} (hv : Trk t) (hfit : ∀ c ∈ t, c.fit) : packP t = pk t := by
  cases t with
  | nil => rfl
  | cons x l =>
    obtain ⟨i, c, h1, h2⟩ := packGo_pkW hv hfit (x :: l).length (by simp) (Nat.le_refl _)
    unfold packP
    rw [h1, h2, List.drop_length]
    rfl
end Go.Proofs.YtkppmlignfhdeaaGreat
