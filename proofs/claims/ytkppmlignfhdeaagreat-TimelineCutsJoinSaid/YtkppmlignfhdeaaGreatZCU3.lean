/- Proved here: What the function that cuts an interval out of a track answers, frame by frame, for use in the proofs of the given statements; conditions stand in each theorem. -/
import Derived.Test.YtkppmlignfhdeaaGreatZCU2
set_option linter.unusedSimpArgs false
set_option linter.unusedVariables false
set_option linter.unusedSectionVars false
set_option linter.unusedSimpArgs false
set_option linter.unusedVariables false
set_option linter.unnecessarySimpa false
namespace Go.Proofs.YtkppmlignfhdeaaGreat
open Go.RowKit
set_option maxRecDepth 4000
theorem cutR_fr : ∀ (E : List ClipR) (n : Int), (∀ c ∈ E, 1 ≤ c.len) → 0 ≤ n → fr (cutR E n).1 = (fr E).take n.toNat ∧ (cutR E n).2 = n - min n (totL E) ∧ (cutR E n).1.length ≤ E.length ∧ ∀ d ∈ (cutR E n).1, ∃ c ∈ E, ∃ m, 1 ≤ m ∧ m ≤ c.len ∧ d = { c with len := m }
  | [], n, _, hn => ⟨by simp [cutR, fr], by simp only [cutR, totL]; omega, by simp [cutR], fun d hd => by simp [cutR] at hd⟩
  | c :: l, n, h, hn => by
    have h1 := h c (by simp)
    have h2 : ∀ d ∈ l, 1 ≤ d.len := fun d hd => h d (by simp [hd])
    have h0 := totL_nonneg l h2
    unfold cutR
    split
    · rename_i hz
      subst hz
      refine ⟨by simp [fr], ?_, by simp, fun d hd => by simp at hd⟩
      simp only [totL]
      omega
    · rename_i hz
      obtain ⟨a1, a2, a3, a4⟩ := cutR_fr l (n - min c.len n) h2 (by omega)
      have hm : 1 ≤ min c.len n ∧ min c.len n ≤ c.len := by omega
      refine ⟨?_, ?_, by simp only [List.length_cons]; omega, fun d hd => ?_⟩
      · rw [fr_cons, fr_cons, a1, frC_take c _ hm.2, List.take_append, frC_len]
        rcases Int.le_total c.len n with hle | hle
        · have e3 : (frC c).take c.len.toNat = frC c := List.take_of_length_le (by rw [frC_len]; exact Nat.le_refl _)
          have e4 : (frC c).take n.toNat = frC c := List.take_of_length_le (by rw [frC_len]; omega)
          have e5 : (n - c.len).toNat = n.toNat - c.len.toNat := by omega
          rw [Int.min_eq_left hle, e3, e4, e5]
        · rw [Int.min_eq_right hle]
          have e1 : (n - n).toNat = 0 := by omega
          have e2 : n.toNat - c.len.toNat = 0 := by omega
          rw [e1, e2]
      · simp only [totL]
        rw [a2]
        clear a1 a2 a3 a4 hm
        simp only [Int.min_def]
        repeat' split
        all_goals omega
      · rcases List.mem_cons.1 hd with rfl | hd
        · exact ⟨c, by simp, _, hm.1, hm.2, rfl⟩
        · obtain ⟨c', h3, h4⟩ := a4 d hd
          exact ⟨c', by simp [h3], h4⟩
theorem findL_fr : ∀ (t : List ClipR) (i : Nat) (a : Int), (∀ c ∈ t, vClip c = true) → 0 ≤ a →
    ((findL t i a).2.2 = true ∧ ∃ (j : Nat) (o : Int), findL t i a = (((i + j : Nat) : Int), o, true) ∧ j < t.length ∧ 0 ≤ o ∧ o < (t.getD j default).len ∧ o ≤ a ∧ fr (advR (t.getD j default) o :: t.drop (j + 1)) = (fr t).drop a.toNat) ∨ ((findL t i a).2.2 = false ∧ totL t ≤ a)
  | [], i, a, _, ha => .inr ⟨rfl, by simpa [totL] using ha⟩
  | c :: l, i, a, h, ha => by
    have hc := h c (by simp)
    have h1 := vClip_len hc
    rw [findL_cons]
    split
    · rename_i hlt
      refine .inl ⟨rfl, 0, a, rfl, by simp, ha, hlt, Int.le_refl _, ?_⟩
      show fr (advR c a :: l) = _
      rw [fr_cons, fr_cons, frC_drop hc ha (by omega), List.drop_append, frC_len]
      have e : a.toNat - c.len.toNat = 0 := by omega
      rw [e, List.drop_zero]
    · rename_i hlt
      rcases findL_fr l (i + 1) (a - c.len) (fun d hd => h d (by simp [hd])) (by omega) with ⟨g1, j, o, g2, g3, g4, g5, g6, g7⟩ | ⟨g1, g2⟩
      · refine .inl ⟨g1, j + 1, o, ?_, by simp only [List.length_cons]; omega, g4, ?_, by omega, ?_⟩
        · rw [g2]
          congr 1
          omega
        · simpa using g5
        · have e1 : (c :: l).getD (j + 1) default = l.getD j default := by simp
          have e2 : (c :: l).drop (j + 1 + 1) = l.drop (j + 1) := rfl
          have e3 : (frC c).drop a.toNat = [] := List.drop_of_length_le (by rw [frC_len]; omega)
          have e4 : (a - c.len).toNat = a.toNat - c.len.toNat := by omega
          rw [e1, e2, g7, fr_cons, List.drop_append, frC_len, e3, List.nil_append, e4]
      · exact .inr ⟨g1, by simp only [totL]; omega⟩
theorem frC_gap (r : Int) : frC (gapC r) = List.replicate r.toNat (gapC 1) := by
  have e : ∀ k : Int, one (gapC r) k = gapC 1 := fun k => by
    unfold one advR gapC
    simp only [movedS_z zS_isZ]
    rfl
  unfold frC
  simp only [e]
  rw [List.map_const', List.length_range]
  rfl
/-- n frames from frame a on, black behind the end -/
def cutF (l : List ClipR) (a n : Nat) : List ClipR := (l.drop a).take n ++ List.replicate (n - ((l.drop a).take n).length) (gapC 1)
theorem gapEnd_fr {r : List ClipR × Int} (n : Nat) (h1 : (fr r.1).length + r.2.toNat = n) : fr (gapEnd r) = fr r.1 ++ List.replicate (n - (fr r.1).length) (gapC 1) := by
  unfold gapEnd
  split
  · rw [fr_append]
    congr 1
    show frC (gapC r.2) ++ [] = _
    rw [List.append_nil, frC_gap]
    congr 1
    omega
  · have : n - (fr r.1).length = 0 := by omega
    rw [this]
    simp
theorem cut_facts {m : Int} {t : List ClipR} (hg : ∀ c ∈ t, Gd m c) {a n : Int} (ha : 0 ≤ a) (ham : a ≤ m) (hn : 0 ≤ n) (hn2 : n ≤ 100000) :
    (∀ d ∈ cutT t a n, Gd (m - a) d) ∧ (cutT t a n).length ≤ t.length + 1 ∧ fr (cutT t a n) = cutF (fr t) a.toNat n.toNat := by
  have hv : ∀ c ∈ t, vClip c = true := fun c hc => (hg c hc).ok
  have h1 : ∀ c ∈ t, 1 ≤ c.len := fun c hc => (vClip_len (hv c hc)).1
  have hfl := fr_len h1
  rcases findL_fr t 0 a hv ha with ⟨g1, j, o, g2, g3, g4, g5, g6, g7⟩ | ⟨g1, g2⟩
  · rw [Nat.zero_add] at g2
    have hgj := hg _ (mem_getD (d := default) g3)
    by_cases hz : 0 < n
    · have e : cutT t a n = gapEnd (cutR (advR (t.getD j default) o :: t.drop (j + 1)) n) := by
        unfold cutT advD
        rw [g1, decide_eq_true hz, g2]
        simp only [Bool.and_self, if_true, Int.toNat_natCast]
        rw [drop_cons g3]
        rfl
      obtain ⟨E, hE⟩ : ∃ E, E = advR (t.getD j default) o :: t.drop (j + 1) := ⟨_, rfl⟩
      have hEg : ∀ c ∈ E, Gd (m - a) c := fun c hc => by
        rw [hE] at hc
        rcases List.mem_cons.1 hc with rfl | hc
        · exact gd_le (gd_adv hgj g4 g5 (by omega)) (by omega)
        · exact gd_le (hg c (List.mem_of_mem_drop hc)) (by omega)
      have hEl : E.length ≤ t.length := by rw [hE, List.length_cons, List.length_drop]; omega
      have hE1 : ∀ c ∈ E, 1 ≤ c.len := fun c hc => (vClip_len (hEg c hc).ok).1
      obtain ⟨c1, c2, c3, c4⟩ := cutR_fr E n hE1 hn
      have hEf := fr_len hE1
      rw [← hE] at e g7
      rw [e]
      have c4' : ∀ d ∈ (cutR E n).1, Gd (m - a) d := fun d hd => by
        obtain ⟨c, hc, k, k1, k2, rfl⟩ := c4 d hd
        exact gd_len (hEg c hc) k1 k2
      have hlen : (fr (cutR E n).1).length + (cutR E n).2.toNat = n.toNat := by
        rw [c1, List.length_take, c2]
        omega
      refine ⟨fun d hd => ?_, ?_, ?_⟩
      · unfold gapEnd at hd
        split at hd
        · rename_i hp
          rcases List.mem_append.1 hd with hd | hd
          · exact c4' d hd
          · simp only [List.mem_cons, List.not_mem_nil, or_false] at hd
            rw [hd]
            exact gd_gap _ _ (by omega) (by omega)
        · exact c4' d hd
      · unfold gapEnd
        split
        · rw [List.length_append]; simp only [List.length_cons, List.length_nil]; omega
        · omega
      · rw [gapEnd_fr n.toNat hlen, c1, g7]
        rfl
    · have hz0 : n = 0 := by omega
      subst hz0
      have e : cutT t a 0 = [] := by
        unfold cutT gapEnd
        simp
      rw [e]
      exact ⟨fun d hd => (by cases hd), by simp, by simp [fr, cutF]⟩
  · have e : cutT t a n = gapEnd ([], n) := by
      unfold cutT
      rw [g1]
      simp
    rw [e]
    have hdrop : (fr t).drop a.toNat = [] := List.drop_of_length_le (by omega)
    refine ⟨fun d hd => ?_, ?_, ?_⟩
    · unfold gapEnd at hd
      split at hd
      · simp only [List.nil_append, List.mem_cons, List.not_mem_nil, or_false] at hd
        rename_i hp
        simp only at hp
        rw [hd]
        exact gd_gap _ _ (by omega) (by omega)
      · cases hd
    · unfold gapEnd
      split <;> simp
    · rw [gapEnd_fr n.toNat (by simp [fr])]
      unfold cutF
      rw [hdrop]
      simp [fr]
theorem pkA_gd {m : Int} : ∀ (l : List ClipR) (c : ClipR), Gd m c → (∀ d ∈ l, Gd m d) → c.len + totL l ≤ 2147483647 → ∀ d ∈ pkA c l, Gd m d
  | [], c, hc, _, _, d, hd => by
    simp only [pkA, List.mem_cons, List.not_mem_nil, or_false] at hd
    rw [hd]; exact hc
  | q :: l, c, hc, hl, ht, d, hd => by
    have hq := hl q (by simp)
    have hl2 : ∀ d ∈ l, Gd m d := fun d hd => hl d (by simp [hd])
    have h0 := totL_nonneg l fun d hd => (vClip_len (hl2 d hd).ok).1
    have hc1 := vClip_len hc.ok
    have hq1 := vClip_len hq.ok
    simp only [totL] at ht
    rw [pkA] at hd
    split at hd
    · rename_i hcc
      exact pkA_gd l _ ⟨join_ok hc.ok hq.ok hcc (by omega), fit_len hc.fit (by omega) (by omega), hc.pl⟩ hl2 (by simp only; omega) d hd
    · rcases List.mem_cons.1 hd with hd | hd
      · rw [hd]; exact hc
      · exact pkA_gd l q hq hl2 (by omega) d hd
theorem pk_gd {m : Int} {l : List ClipR} (h : ∀ d ∈ l, Gd m d) (ht : totL l ≤ 2147483647) : ∀ d ∈ pk l, Gd m d := by
  cases l with
  | nil => intro d hd; simp [pk] at hd
  | cons c l => exact pkA_gd l c (h c (by simp)) (fun d hd => h d (by simp [hd])) (by simpa [totL] using ht)
theorem len_le_tot : ∀ {l : List ClipR}, (∀ c ∈ l, 1 ≤ c.len) → ∀ c ∈ l, c.len ≤ totL l
  | [], _, d, hd => by cases hd
  | c :: l, h, d, hd => by
    have h1 := h c (by simp)
    have h2 : ∀ d ∈ l, 1 ≤ d.len := fun d hd => h d (by simp [hd])
    have h0 := totL_nonneg l h2
    simp only [totL]
    rcases List.mem_cons.1 hd with rfl | hd
    · omega
    · have := len_le_tot h2 d hd
      omega
/-- what is known of a track that is cut -/
structure CutOk (m : Int) (X : List ClipR) (F : List ClipR) : Prop where
  gd : ∀ d ∈ X, Gd m d
  tr : vTrack X = true
  fr : fr X = F
  tot : totL X = (F.length : Int)
theorem cutOk_mk {m : Int} {X F : List ClipR} (h1 : ∀ d ∈ X, Gd m d) (h2 : X.length ≤ 64) (h3 : fr X = F) (h4 : F.length ≤ 100000) : CutOk m X F := by
  have h5 := fr_len (l := X) fun c hc => (vClip_len (h1 c hc).ok).1
  rw [h3] at h5
  exact ⟨h1, vTrack_mk h2 (fun c hc => (h1 c hc).ok) (by omega), h3, h5.symm⟩
theorem cutOk_pk {m : Int} {X F : List ClipR} (h : CutOk m X F) : CutOk m (pk X) F := by
  obtain ⟨t1, t2, t3⟩ := track_all h.tr
  refine ⟨pk_gd h.gd t3, vTrack_mk (Nat.le_trans (pk_size X) t1) (fun c hc => (pk_gd h.gd t3 c hc).ok) (by rw [pk_tot]; exact t3), by rw [fr_pk t2 t3]; exact h.fr, by rw [pk_tot]; exact h.tot⟩
theorem cutF_len (l : List ClipR) (a n : Nat) : (cutF l a n).length = n := by
  unfold cutF
  rw [List.length_append, List.length_replicate, List.length_take]
  omega
/-- cutting -/
theorem cutOk_cut {m : Int} {t F : List ClipR} (h : CutOk m t F) (hl : t.length ≤ 60) {a n : Int} (ha : 0 ≤ a) (ham : a ≤ m) (hn : 0 ≤ n) (hn2 : n ≤ 1000) : CutOk (m - a) (cutT t a n) (cutF F a.toNat n.toNat) ∧ (cutT t a n).length ≤ t.length + 1 := by
  obtain ⟨c1, c2, c3⟩ := cut_facts h.gd ha ham hn (by omega)
  rw [h.fr] at c3
  exact ⟨cutOk_mk c1 (by omega) c3 (by rw [cutF_len]; omega), c2⟩
/-- the contract -/
theorem cCut2 {m : Int} {t F : List ClipR} (h : CutOk m t F) (hl : t.length ≤ 60) (hF : F.length ≤ 1000) (a b : Int) (ha : 0 ≤ a) (ham : a ≤ m) (hm : m ≤ 1000) (hb : a ≤ b) (hb2 : b ≤ 1000) (hlm : totL t ≤ m) :
    CPure Tryz.prog 41 [.t (tclips t), vint a, vint b] (vte (pk (cutT t a (b - a)), 0)) := by
  obtain ⟨k1, k2⟩ := cutOk_cut h hl ha ham (n := b - a) (by omega) (by omega)
  obtain ⟨t1, t2, t3⟩ := track_all k1.tr
  have hf : ∀ c ∈ cutT t a (b - a), c.fit := fun c hc => (k1.gd c hc).fit
  have hT : Trk (cutT t a (b - a)) := trk_mk (by omega) t2 t3
  have e := packP_pk k1.tr hf
  have hv := (track_all h.tr).2.1
  have h1 : ∀ c ∈ t, 1 ≤ c.len := fun c hc => (vClip_len (hv c hc)).1
  have hc := cCut1 t a b (fun c hc => (h.gd c hc).fit) h.tr ha hb (by omega) (fun i o hi o0 o1 hfi => by
      have hg := h.gd _ (mem_getD (d := default) hi)
      have hle := len_le_tot h1 _ (mem_getD (d := default) hi)
      have hp := hg.pl o o0 (by omega)
      exact advC_ok hg.ok o0 o1 hp.1 hp.2) (fun hin => by
      rcases findL_fr t 0 a hv ha with ⟨_, j, o, g2, g3, g4, g5, _, _⟩ | ⟨g1, _⟩
      · rw [Nat.zero_add] at g2
        exact ⟨j, o, g2, g3, g4, g5⟩
      · rw [g1] at hin; cases hin) hT hf (by rw [e]; exact Nat.le_trans (pk_size _) t1)
  rw [e] at hc
  exact hc
end Go.Proofs.YtkppmlignfhdeaaGreat
