/- Proved here: Plain laws of tracks taken apart into single frames, for use in the proofs of the given statements; conditions stand in each theorem. -/
import Derived.Test.YtkppmlignfhdeaaGreatZCU1
import Derived.Test.YtkppmlignfhdeaaGreatZQ
set_option linter.unusedSimpArgs false
set_option linter.unusedVariables false
set_option linter.unusedSectionVars false
set_option linter.unusedSimpArgs false
set_option linter.unusedVariables false
set_option linter.unnecessarySimpa false
namespace Go.Proofs.YtkppmlignfhdeaaGreat
open Go.RowKit
set_option maxRecDepth 4000
theorem movedS_zero {s : SourceR} (hv : vSource s = true) : movedS s 0 = s := by
  unfold movedS
  split
  · rfl
  · rename_i hb
    obtain ⟨p, d, ok⟩ := srcOk_of hv (by simpa using hb)
    have h1 := toQ_num ok.pos
    have e : movedQ s 0 = toQ s.pos := by
      unfold movedQ wayQ
      have z : toQ ⟨0, 1⟩ = 0 := by unfold toQ; rfl
      rw [z, Rat.zero_mul, Rat.add_zero]
    rw [e]
    have : ofQ (toQ s.pos) = s.pos := by
      unfold ofQ
      rw [h1.1, h1.2]
    rw [this]
theorem advR_zero {c : ClipR} (hv : vClip c = true) : advR c 0 = c := by
  obtain ⟨v1, v2, v3, v4, v5, v6, v7, v8⟩ := vClip_parts hv
  unfold advR
  rw [movedS_zero v6, movedS_zero v7]
  have e1 : c.len - 0 = c.len := by omega
  have e2 : (if shK c.kind = true then c.off + 0 else c.off) = c.off := by split <;> omega
  rw [e1, e2]
/-- frame k of a clip -/
def one (c : ClipR) (k : Int) : ClipR := { advR c k with len := 1 }
def frC (c : ClipR) : List ClipR := (List.range c.len.toNat).map fun k : Nat => one c (k : Int)
def fr (l : List ClipR) : List ClipR := l.flatMap frC
theorem fr_append (a b : List ClipR) : fr (a ++ b) = fr a ++ fr b := List.flatMap_append ..
theorem fr_cons (c : ClipR) (l : List ClipR) : fr (c :: l) = frC c ++ fr l := rfl
theorem frC_len (c : ClipR) : (frC c).length = c.len.toNat := by unfold frC; simp
theorem fr_len : ∀ {l : List ClipR}, (∀ c ∈ l, 1 ≤ c.len) → ((fr l).length : Int) = totL l
  | [], _ => rfl
  | c :: l, h => by
    have ih := fr_len (l := l) fun d hd => h d (by simp [hd])
    have h1 := h c (by simp)
    rw [fr_cons, List.length_append, frC_len]
    simp only [totL]
    omega
theorem one_len (c : ClipR) (m k : Int) : one { c with len := m } k = one c k := rfl
theorem one_adv {c : ClipR} (hv : vClip c = true) (a k : Int) : one (advR c a) k = one c (a + k) := by
  unfold one
  rw [advR_add hv]
theorem range_add (a b : Nat) (f : Nat → ClipR) : (List.range (a + b)).map f = (List.range a).map f ++ (List.range b).map fun k => f (a + k) := by
  rw [List.range_add, List.map_append, List.map_map]
  rfl
/-- a shortened clip shows its first frames -/
theorem frC_take (c : ClipR) (m : Int) (h : m ≤ c.len) : frC { c with len := m } = (frC c).take m.toNat := by
  unfold frC
  rw [← List.map_take, List.take_range]
  simp only
  rw [Nat.min_eq_left (by omega)]
  rfl
theorem frC_drop {c : ClipR} (hv : vClip c = true) {o : Int} (h0 : 0 ≤ o) (h1 : o ≤ c.len) : frC (advR c o) = (frC c).drop o.toNat := by
  have e : c.len.toNat = o.toNat + (c.len - o).toNat := by omega
  unfold frC
  rw [e, range_add, List.drop_left' (by simp)]
  show (List.range (c.len - o).toNat).map _ = _
  refine List.map_congr_left fun k _ => ?_
  rw [one_adv hv]
  congr 1
  omega
theorem frC_join {c q : ClipR} (hc : vClip c = true) (hq : vClip q = true) (h : contC c q = true) : frC { c with len := c.len + q.len } = frC c ++ frC q := by
  have e := (contC_iff hc hq).1 h
  have l1 := vClip_len hc
  have l2 := vClip_len hq
  have e2 : (c.len + q.len).toNat = c.len.toNat + q.len.toNat := by omega
  unfold frC
  simp only
  rw [e2, range_add]
  congr 1
  refine List.map_congr_left fun k _ => ?_
  have e3 : q = { advR c c.len with len := q.len } := e
  have e4 : one q (k : Int) = one (advR c c.len) (k : Int) := by
    rw [e3]
    rfl
  rw [one_len, e4, one_adv hc]
  congr 1
  omega
theorem fr_pkA : ∀ (l : List ClipR) (c : ClipR), vClip c = true → (∀ d ∈ l, vClip d = true) → c.len + totL l ≤ 2147483647 → fr (pkA c l) = frC c ++ fr l
  | [], c, _, _, _ => by simp [pkA, fr]
  | q :: l, c, hc, hl, ht => by
    have hq := hl q (by simp)
    have hl2 : ∀ d ∈ l, vClip d = true := fun d hd => hl d (by simp [hd])
    have h0 := totL_nonneg l fun d hd => (vClip_len (hl2 d hd)).1
    have hc1 := vClip_len hc
    have hq1 := vClip_len hq
    simp only [totL] at ht
    rw [pkA]
    split
    · rename_i hcc
      rw [fr_pkA l _ (join_ok hc hq hcc (by omega)) hl2 (by simp only; omega), frC_join hc hq hcc, fr_cons, List.append_assoc]
    · rw [fr_cons, fr_pkA l q hq hl2 (by omega), fr_cons]
theorem fr_pk {l : List ClipR} (h : ∀ d ∈ l, vClip d = true) (ht : totL l ≤ 2147483647) : fr (pk l) = fr l := by
  cases l with
  | nil => rfl
  | cons c l => exact fr_pkA l c (h c (by simp)) (fun d hd => h d (by simp [hd])) (by simpa [totL] using ht)
/-- a clip that may be moved by up to m frames -/
structure Gd (m : Int) (c : ClipR) : Prop where
  ok : vClip c = true
  fit : c.fit
  pl : ∀ k, 0 ≤ k → k ≤ m → placedOk (movedS c.a k) = true ∧ placedOk (movedS c.b k) = true
theorem gd_nice {c : ClipR} (h : Nice c) : Gd 1000 c := ⟨h.ok, h.fit, fun k h0 h1 => nice_placed h (by omega)⟩
theorem gd_le {m m' : Int} {c : ClipR} (h : Gd m c) (hm : m' ≤ m) : Gd m' c := ⟨h.ok, h.fit, fun k h0 h1 => h.pl k h0 (by omega)⟩
theorem gd_adv {m : Int} {c : ClipR} (h : Gd m c) {o : Int} (h0 : 0 ≤ o) (h1 : o < c.len) (h2 : o ≤ m) : Gd (m - o) (advR c o) := by
  obtain ⟨v1, v2, v3, v4, v5, v6, v7, v8⟩ := vClip_parts h.ok
  refine ⟨advR_ok h.ok h0 h1 (h.pl o h0 h2).1 (h.pl o h0 h2).2, advR_fit h.fit h.ok h0 h1, fun k k0 k1 => ?_⟩
  show placedOk (movedS (movedS c.a o) k) = true ∧ placedOk (movedS (movedS c.b o) k) = true
  rw [movedS_add v6, movedS_add v7]
  exact h.pl (o + k) (by omega) (by omega)
theorem gd_len {m : Int} {c : ClipR} (h : Gd m c) {n : Int} (h0 : 1 ≤ n) (h1 : n ≤ c.len) : Gd m { c with len := n } := by
  have := vClip_len h.ok
  exact ⟨headR_ok h.ok h0 h1, fit_len h.fit (by omega) (by omega), h.pl⟩
theorem gd_gap (m n : Int) (h0 : 1 ≤ n) (h1 : n ≤ 2147483647) : Gd m (gapC n) := by
  have ez : zSource.isZ = true := zS_isZ
  refine ⟨?_, ⟨⟨by show _ ≤ n; omega, by show n ≤ _; omega⟩, i0, zfit, zfit, i0, i0, i0, i0⟩, fun k _ _ => ?_⟩
  · unfold vClip baseOk gapC
    simp only [zS_ok, decide_eq_true h0, decide_eq_true h1, Bool.and_true]
    simp [kindOk, noShare, emp, ez, vChans]
  · show placedOk (movedS zSource k) = true ∧ placedOk (movedS zSource k) = true
    rw [movedS_z ez]
    exact ⟨by unfold placedOk; rw [ez]; rfl, by unfold placedOk; rw [ez]; rfl⟩
theorem one_src2 {m : Int} {c : ClipR} (h : Gd m c) {k : Int} (h0 : 0 ≤ k) (h1 : k ≤ m) (h2 : m ≤ 2147483648) : Src2 (one c k) := by
  obtain ⟨v1, v2, v3, v4, v5, v6, v7, v8⟩ := vClip_parts h.ok
  exact ⟨movedS_ok v6 (by omega) (h.pl k h0 h1).1, movedS_ok v7 (by omega) (h.pl k h0 h1).2⟩
theorem contC_adv (c : ClipR) (n m : Int) : contC { c with len := n } { advR c n with len := m } = true := by
  unfold contC
  split
  · rfl
  · exact ClipR.eqb_iff.2 rfl
/-- a clip and its frames are packed alike -/
theorem pk_frC {m : Int} (hm : m ≤ 100000) : ∀ (n : Nat) {c : ClipR} (xs ys : List ClipR), Gd m c → c.len = n → c.len ≤ m + 1 → (∀ d ∈ xs, Src2 d) → pk (xs ++ frC c ++ ys) = pk (xs ++ c :: ys)
  | 0, c, xs, ys, h, hn, _, _ => by have := vClip_len h.ok; omega
  | 1, c, xs, ys, h, hn, _, _ => by
    have e : frC c = [c] := by
      unfold frC
      rw [hn]
      show [one c ((0 : Nat) : Int)] = [c]
      unfold one
      rw [show ((0 : Nat) : Int) = 0 from rfl, advR_zero h.ok, show (1 : Int) = c.len by omega]
    rw [e]
    simp
  | n + 2, c, xs, ys, h, hn, hl, hx => by
    have hm1 : 1 ≤ m := by omega
    have hb := gd_adv h (o := 1) (by omega) (by omega) hm1
    have e : frC c = one c 0 :: frC (advR c 1) := by
      have h1 := frC_drop h.ok (o := 1) (by omega) (by omega)
      rw [h1]
      unfold frC
      rw [show c.len.toNat = (n + 1) + 1 by omega, List.range_succ_eq_map]
      simp only [List.map_cons, List.map_map]
      rfl
    have ih := pk_frC (m := m - 1) (by omega) (n + 1) (c := advR c 1) (xs ++ [one c 0]) ys hb (by show c.len - 1 = _; omega) (by show c.len - 1 ≤ _; omega) (fun d hd => by
      rcases List.mem_append.1 hd with hd | hd
      · exact hx d hd
      · simp only [List.mem_cons, List.not_mem_nil, or_false] at hd
        rw [hd]
        exact one_src2 h (by omega) (by omega) (by omega))
    have e1 : xs ++ frC c ++ ys = xs ++ [one c 0] ++ frC (advR c 1) ++ ys := by rw [e]; simp
    rw [e1, ih]
    have e2 : xs ++ [one c 0] ++ advR c 1 :: ys = xs ++ one c 0 :: advR c 1 :: ys := by simp
    rw [e2]
    have e3 : one c 0 = { c with len := 1 } := by unfold one; rw [advR_zero h.ok]
    rw [e3]
    exact pk_split rfl (contC_adv c 1 (c.len - 1)) (by show 1 + (c.len - 1) = c.len; omega) ys xs hx
theorem pk_fr {m : Int} (hm : m ≤ 100000) : ∀ (l xs : List ClipR), (∀ c ∈ l, Gd m c ∧ c.len ≤ m + 1) → (∀ d ∈ xs, Src2 d) → pk (xs ++ fr l) = pk (xs ++ l)
  | [], xs, _, _ => by simp [fr]
  | c :: l, xs, hl, hx => by
    obtain ⟨h1, h2⟩ := hl c (by simp)
    have hlen := vClip_len h1.ok
    have hs : ∀ d ∈ frC c, Src2 d := fun d hd => by
      unfold frC at hd
      obtain ⟨k, hk, rfl⟩ := List.mem_map.1 hd
      rw [List.mem_range] at hk
      exact one_src2 h1 (by omega) (by omega) (by omega)
    have ih := pk_fr hm l (xs ++ frC c) (fun d hd => hl d (by simp [hd])) (fun d hd => (List.mem_append.1 hd).elim (hx d) (hs d))
    rw [fr_cons, ← List.append_assoc, ih, pk_frC hm c.len.toNat xs l h1 (by omega) h2 hx]
theorem pk_of_fr {m : Int} (hm : m ≤ 100000) {a b : List ClipR} (ha : ∀ c ∈ a, Gd m c ∧ c.len ≤ m + 1) (hb : ∀ c ∈ b, Gd m c ∧ c.len ≤ m + 1) (h : fr a = fr b) : pk a = pk b := by
  have h1 := pk_fr hm a [] ha (by simp)
  have h2 := pk_fr hm b [] hb (by simp)
  simp only [List.nil_append] at h1 h2
  rw [← h1, h, h2]
end Go.Proofs.YtkppmlignfhdeaaGreat
