/- Proved here: The contract of the function that cuts an interval out of a track, for use in the proofs of the given statements; conditions stand in each theorem. -/
import Derived.Test.YtkppmlignfhdeaaGreatZJO
import Derived.Test.YtkppmlignfhdeaaGreatZQ
import Derived.Test.YtkppmlignfhdeaaGreatZL
set_option linter.unusedSimpArgs false
set_option linter.unusedVariables false
set_option linter.unusedSectionVars false
set_option linter.unusedSimpArgs false
set_option linter.unusedVariables false
set_option linter.unnecessarySimpa false
namespace Go.Proofs.YtkppmlignfhdeaaGreat
open Go.RowKit
set_option maxRecDepth 4000
theorem nopCut : NopD Tryz.prog 108 := by
  refine ⟨Tryz.xen108, fun cap w => callsDIn_of_wpSIn Tryz.func108 rfl trivial fun c₀ cs hu => ?_⟩
  have k1 : 2 < cap.size + (4 - cap.size) := by omega
  have k2 : 3 < cap.size + (4 - cap.size) := by omega
  have k3 : 2 < max 4 cap.size := by omega
  have k4 : 3 < max 4 cap.size := by omega
  apply wpSIn_seq
  apply wpSIn_region
  simp [wpOpsSIn, Fence.wide, go_sem, recoverD, hu, Tryz.ntmps108, Exit.thenS, k1]
  refine wpSIn_cond (t := false) (by simp [Act.eval, k2]) ?_
  refine wpSIn_of_wpIn rfl (wpIn_skip ?_)
  refine ⟨rfl, .returning, by rw [← hu], .tuple #[], ?_, ⟨_, rfl⟩, rfl, rfl⟩
  simp [results, Tryz.results108, go_sem]
def gapC (n : Int) : ClipR := ⟨n, 0, zSource, zSource, 0, 0, 0, ⟨#[]⟩, 0, []⟩
/-- the pieces of the first n frames of the clips, and how many are left -/
def cutR : List ClipR → Int → List ClipR × Int
  | [], n => ([], n)
  | c :: l, n => if n = 0 then ([], 0) else ({ c with len := min c.len n } :: (cutR l (n - min c.len n)).1, (cutR l (n - min c.len n)).2)
def gapEnd (r : List ClipR × Int) : List ClipR := if 0 < r.2 then r.1 ++ [gapC r.2] else r.1
def advD (D : List ClipR) (o : Int) : List ClipR := advR (D.getD 0 default) o :: D.drop 1
def cutT (t : List ClipR) (a n : Int) : List ClipR :=
  if ((findL t 0 a).2.2 && decide (0 < n)) = true then gapEnd (cutR (advD (t.drop (findL t 0 a).1.toNat) (findL t 0 a).2.1) n) else gapEnd ([], n)
theorem cells_refl : ∀ x : List T, asTs x x
  | [] => trivial
  | x :: xs => ⟨.inl rfl, cells_refl xs⟩
theorem gap_as (r : Int) : asTs [.lit (.int .i64 r), .lit (.int .i64 0), .lit (.int .i64 0), .lit (.string ⟨#[]⟩), .lit (.int .i64 0), .lit (.int .i64 0), .lit (.int .i64 0), .lit (.int .i64 0), .lit (.bool false),
    .lit (.int .i64 0), .lit (.string ⟨#[]⟩), .lit (.int .i64 0), .lit (.int .i64 0), .lit (.int .i64 0), .lit (.int .i64 0), .lit (.bool false), .lit (.int .i64 0), .lit (.int .i64 0), .lit (.int .i64 0), .lit (.string ⟨#[]⟩), .lit (.int .i64 0), .lit (.slice none 0 0)] (ClipR.c (gapC r)) :=
  ⟨.inl rfl, .inl rfl, .inl rfl, .inl rfl, .inl rfl, .inl rfl, .inl rfl, .inl rfl, .inl rfl, .inl rfl, .inl rfl, .inl rfl, .inl rfl, .inl rfl, .inl rfl, .inl rfl, .inl rfl, .inl rfl, .inl rfl, .inl rfl, .inl rfl, .inr ⟨rfl, _, _, rfl⟩, trivial⟩
theorem as_nil1 {k : Nat} {d : List T} : ∀ (w : World) (E : Env) v, RdV w E (.t (.lit (.slice none 0 0))) v → RdV w E (.t (.list k d [])) v := by
  intro w E v h
  simp only [RdV] at h ⊢
  cases h
  exact .list _ _ _ none 0 (Nat.zero_le _) (Nat.zero_le _) (fun _ => rfl) (by simp) (by simp) (by simp)
theorem rows_snoc {x y : List T} (h : asTs x y) : ∀ {xs : List (List T)}, asRows (xs ++ [x]) (xs ++ [y])
  | [] => ⟨h, trivial⟩
  | z :: xs => ⟨cells_refl z, rows_snoc h⟩
theorem cCut1 (t : List ClipR) (a b : Int) (hfit : ∀ c ∈ t, c.fit) (hv : vTrack t = true) (h0 : 0 ≤ a) (h1 : a ≤ b) (h2 : b ≤ 100000)
    (hadv : ∀ i o, i < t.length → 0 ≤ o → o < (t.getD i default).len → findL t 0 a = ((i : Int), o, true) → advC (t.getD i default) o = (advR (t.getD i default) o, 0))
    (hin : (findL t 0 a).2.2 = true → ∃ i : Nat, ∃ o : Int, findL t 0 a = ((i : Int), o, true) ∧ i < t.length ∧ 0 ≤ o ∧ o < (t.getD i default).len)
    (hT : Trk (cutT t a (b - a))) (hTf : ∀ c ∈ cutT t a (b - a), c.fit) (h64 : (packP (cutT t a (b - a))).length ≤ 64) :
    CPure Tryz.prog 41 [.t (tclips t), vint a, vint b] (vte (packP (cutT t a (b - a)), 0)) := by
  refine cpure_ofW Tryz.xen41 Tryz.func41 rfl Tryz.ntmps41 (by rw [Tryz.results41]) (aw_ok _ ?_)
  simp only [go_sem, ↓reduceIte, Nat.reduceAdd, Nat.reduceSub]
  refine ⟨_, cPTrack t hfit, ?_⟩
  simp only [go_sem, ↓reduceIte]
  obtain ⟨t64, tv, ttot⟩ := vTrack_parts hv
  have hv' := hv
  unfold vTrack at hv'
  simp only [Bool.and_eq_true, List.all_eq_true] at hv'
  have hg : (!vTrack t || decide (a < 0) || decide (b < a) || decide (b > 2147483647)) = false := by
    rw [hv, decide_eq_false (by omega), decide_eq_false (by omega), decide_eq_false (by omega)]
    rfl
  simp only [go_sem, hg]
  refine ⟨fun h => h.elim, ?_⟩
  unfold awS
  simp only [go_sem, ↓reduceIte, wrap64 (x := b - a) (by omega) (by omega)]
  refine ⟨_, cPfind t a ⟨by omega, by omega⟩ hv'.1.2 t64, ?_⟩
  obtain ⟨n, hn⟩ : ∃ n, n = b - a := ⟨_, rfl⟩
  have hn0 : 0 ≤ n ∧ n ≤ 100000 := by omega
  rw [← hn] at hT hTf h64 ⊢
  rw [if_pos h0]
  simp only [go_sem, ↓reduceIte]
  obtain ⟨R, hR⟩ : ∃ R, R = cutT t a n := ⟨_, rfl⟩
  rw [← hR] at hT hTf h64 ⊢
  have hend : ∀ r : List ClipR × Int, gapEnd r = R → True := fun _ _ => trivial
  refine ⟨fun hok => ?_, fun hno => ?_⟩
  · have hok2 : (findL t 0 a).2.2 = true ∧ 0 < n := by simpa using hok
    obtain ⟨i, o, hf, hi, ho0, ho1⟩ := hin hok2.1
    have hcl := vClip_len (tv i hi)
    have ha := hadv i o hi ho0 ho1 hf
    have hRe : R = gapEnd (cutR (advR (t.getD i default) o :: t.drop (i + 1)) n) := by
      rw [hR]
      unfold cutT advD
      rw [hok, if_pos rfl, hf]
      simp only [Int.toNat_natCast]
      rw [drop_cons hi]
      rfl
    obtain ⟨c0, hc0⟩ : ∃ c0, c0 = t.getD i default := ⟨_, rfl⟩
    obtain ⟨D, hD⟩ : ∃ D, D = t.drop i := ⟨_, rfl⟩
    have hDl : D.length = t.length - i := by rw [hD, List.length_drop]
    rw [hf]
    unfold awS
    simp only [go_sem, ↓reduceIte, Int.toNat_natCast]
    refine ⟨⟨by omega, by omega⟩, ?_⟩
    have hsl : List.drop i (List.take t.length (List.map ClipR.c t)) = List.map ClipR.c D := by rw [List.take_of_length_le (by simp), ← List.map_drop, hD]
    rw [hsl, List.length_map]
    obtain ⟨E, hE⟩ : ∃ E, E = advR (t.getD i default) o :: t.drop (i + 1) := ⟨_, rfl⟩
    have hEl : E.length = D.length := by rw [hE, hDl, List.length_cons, List.length_drop]; omega
    have hDE : ∀ k, k < D.length → k ≠ 0 → D.getD k default = E.getD k default := fun k hk h => by
      obtain ⟨k, rfl⟩ : ∃ k', k = k' + 1 := ⟨k - 1, by omega⟩
      rw [hE, hD, drop_cons hi]
      rfl
    have hD0 : D.getD 0 default = t.getD i default := by rw [hD, drop_cons hi]; rfl
    have hE0 : E.getD 0 default = advR (t.getD i default) o := by rw [hE]; rfl
    have hEv : ∀ k, k < E.length → 1 ≤ (E.getD k default).len ∧ (E.getD k default).len ≤ 2147483647 := fun k hk => by
      rcases Nat.eq_zero_or_pos k with h | h
      · subst h
        rw [hE0]
        exact ⟨by show 1 ≤ (t.getD i default).len - o; omega, by show (t.getD i default).len - o ≤ _; omega⟩
      · rw [← hDE k (by omega) (by omega)]
        refine vClip_len (hv'.1.2 _ (List.mem_of_mem_drop (i := i) ?_))
        rw [← hD]
        exact mem_getD (by omega)
    rw [← hE] at hRe
    refine awp_loop_f (fun (x : Nat × List ClipR × Int) σ => { fr := (((deadS [13, 14, 52, 53, 54, 55, 56, 57, 58, 59, 60, 61, 62, 63, 64, 65, 66, 67, 68, 69, 70, 71, 72, 73, 74, 75, 76, 77, 78, 79, 80, 81, 82, 83, 84, 85, 86, 87, 88, 89, 90, 91, 92, 93, 94, 95] σ).fr.set 8 (vint x.2.2)).set 9 (.own 2)).set 51 (vint x.1), h := [(2, RowC x.2.1), (1, .box [vint 0]), (0, .box [.t (.lit (.slice none 0 0))])], nx := 3, df := σ.df })
      (fun x => x.1 ≤ D.length ∧ x.2.1.length = x.1 ∧ 0 ≤ x.2.2 ∧ x.2.2 ≤ n ∧ (x.2.1 ++ (cutR (E.drop x.1) x.2.2).1, (cutR (E.drop x.1) x.2.2).2) = cutR E n) (fun x => D.length - x.1) (0, [], n) (weak_of [(2, none), (1, some 1), (0, some 0)] ?_) ⟨Nat.zero_le _, rfl, hn0.1, Int.le_refl _, rfl⟩ ?_
    · simp only [go_sem, Nat.reduceLT, ↓reduceIte, Nat.reduceLeDiff, Nat.reduceEqDiff, reduceCtorEq]
      simp [tRows]
    · rintro ⟨k, O, r⟩ ⟨hk, hO, hr0, hrn, hcut⟩
      simp only at hk hO hr0 hrn hcut
      refine aw_ok _ ?_
      simp only [go_sem, ↓reduceIte]
      refine ⟨fun hlt => ?_, fun hge => ?_⟩
      · simp only [decide_eq_true_eq] at hlt
        have hkE : k < E.length := by omega
        have hke := hEv k hkE
        rw [drop_cons hkE] at hcut
        unfold awS
        simp only [go_sem, ↓reduceIte, Nat.reduceAdd, Nat.reduceLeDiff]
        refine ⟨⟨by omega, by omega⟩, ?_⟩
        refine ⟨fun hz => ?_, fun hz => ?_⟩
        · have hz : r = 0 := by simpa using hz
          subst hz
          have hRf : R = gapEnd (O, 0) := by
            rw [hRe, ← hcut]
            unfold cutR
            simp
          have hR2 : R = O := by rw [hRf]; rfl
          subst hR2
          unfold awS
          simp only [go_sem, ↓reduceIte, reduceCtorEq]
          refine ⟨fun h => absurd h (by decide), fun _ => ?_⟩
          unfold awS
          simp only [go_sem, ↓reduceIte]
          refine lcall_give ?_
          simp only [go_sem, ↓reduceIte, Nat.reduceEqDiff, reduceCtorEq]
          refine ⟨_, cPackW R hTf hT, ?_⟩
          simp only [go_sem, ↓reduceIte, Nat.reduceLeDiff]
          refine ⟨fun h => absurd h (by first | (simp; done) | (simp; omega)), fun _ => ?_⟩
          unfold awS
          simp only [go_sem, ↓reduceIte, Nat.reduceLeDiff, Nat.reduceEqDiff, reduceCtorEq]
          exact ⟨nopCut, pureW_self rfl rfl⟩
        · have hz : r ≠ 0 := by simpa using hz
          have hcut' : (O ++ { E.getD k default with len := min (E.getD k default).len r } :: (cutR (E.drop (k + 1)) (r - min (E.getD k default).len r)).1, (cutR (E.drop (k + 1)) (r - min (E.getD k default).len r)).2) = cutR E n := by
            rw [← hcut]
            conv => rhs; unfold cutR
            rw [if_neg hz]
          have hmin : 1 ≤ min (E.getD k default).len r ∧ min (E.getD k default).len r ≤ r := by omega
          obtain ⟨m, hm⟩ : ∃ m, m = min (E.getD k default).len r := ⟨_, rfl⟩
          unfold awS
          simp only [go_sem, ↓reduceIte]
          refine ⟨fun hk0 => ?_, fun hk0 => ?_⟩
          · have hk0 : k = 0 := by simpa using hk0
            subst hk0
            unfold awS
            simp only [go_sem, ↓reduceIte, Nat.reduceAdd, Nat.reduceLeDiff, hD0]
            refine ⟨_, cAdvance (t.getD i default) o (hfit _ (mem_getD hi)) ⟨by omega, by omega⟩, ?_⟩
            rw [ha]
            simp only [go_sem, Nat.reducePow, Nat.reduceLT, ↓reduceIte, Nat.reduceAdd, Nat.reduceMul, Nat.reduceLeDiff, Nat.reduceEqDiff, reduceCtorEq]
            rw [hE0] at hcut' hmin hm
            rw [← hm] at hcut' hmin ⊢
            refine ⟨⟨by unfold maxLen; omega, by omega⟩, (0 + 1, O ++ [{ advR (t.getD i default) o with len := m }], r - m), weak_of [(2, some 5), (1, some 1), (0, some 0)] ?_, ⟨by simp only; omega, by simp only [List.length_append, List.length_cons, List.length_nil]; omega, by simp only; omega, by simp only; omega, by simp only; rw [← hcut']; simp⟩, by simp only; omega⟩
            simp only [go_sem, Nat.reduceLT, ↓reduceIte, Nat.reduceLeDiff, Nat.reduceEqDiff, reduceCtorEq, wrap64 (x := r - m) (by omega) (by omega)]
            simp
            first | rfl | exact ⟨rfl, rfl⟩ | exact ⟨rfl, by decide⟩ | trace_state
          · have hk0 : k ≠ 0 := by simpa using hk0
            rw [hDE k (by omega) hk0]
            unfold awS
            simp only [go_sem, Nat.reducePow, Nat.reduceLT, ↓reduceIte, Nat.reduceAdd, Nat.reduceMul, Nat.reduceLeDiff, Nat.reduceEqDiff, reduceCtorEq]
            rw [← hm] at hcut' hmin ⊢
            refine ⟨⟨by unfold maxLen; omega, by omega⟩, (k + 1, O ++ [{ E.getD k default with len := m }], r - m), weak_of [(2, some 5), (1, some 1), (0, some 0)] ?_, ⟨by simp only; omega, by simp only [List.length_append, List.length_cons, List.length_nil]; omega, by simp only; omega, by simp only; omega, by simp only; rw [← hcut']; simp⟩, by simp only; omega⟩
            simp only [go_sem, Nat.reduceLT, ↓reduceIte, Nat.reduceLeDiff, Nat.reduceEqDiff, reduceCtorEq, wrap64 (x := r - m) (by omega) (by omega), wrap1 (show k < 9223372036854775807 by omega)]
            simp
            first | rfl | exact ⟨rfl, rfl⟩ | exact ⟨rfl, by decide⟩ | trace_state
      · simp only [decide_eq_false_iff_not] at hge
        have hRf : R = gapEnd (O, r) := by
          rw [hRe, ← hcut, List.drop_of_length_le (by omega)]
          simp [cutR]
        unfold awS
        simp only [go_sem, ↓reduceIte]
        refine brW (b := decide (0 < r)) ?_ ⟨fun hr => ?_, fun hr => ?_⟩
        · rfl
        · have hR2 : R = O ++ [gapC r] := by rw [hRf]; unfold gapEnd; rw [if_pos (by simpa using hr)]
          unfold awS
          simp only [go_sem, Nat.reduceGT, Nat.reducePow, Nat.reduceLT, ↓reduceIte, Nat.reduceAdd, Nat.reduceMul, Nat.reduceLeDiff, Nat.reduceEqDiff, reduceCtorEq]
          refine ⟨⟨by unfold maxLen; omega, by omega⟩, ?_⟩
          have e : List.map ClipR.c O ++ [ClipR.c (gapC r)] = List.map ClipR.c R := by rw [hR2, List.map_append]; rfl
          refine lcall_give ?_
          simp only [go_sem, ↓reduceIte, reduceCtorEq]
          refine ⟨_, cpure_as (.cons (as_rows (rows_snoc (xs := List.map ClipR.c O) (gap_as r))) .nil) (by rw [e]; exact cPackW R hTf hT), ?_⟩
          simp only [go_sem, ↓reduceIte, Nat.reduceLeDiff]
          refine ⟨fun h => absurd h (by first | (simp; done) | (simp; omega)), fun _ => ?_⟩
          unfold awS
          simp only [go_sem, ↓reduceIte, Nat.reduceLeDiff, Nat.reduceEqDiff, reduceCtorEq]
          exact ⟨nopCut, pureW_self rfl rfl⟩
        · have hR2 : R = O := by rw [hRf]; unfold gapEnd; rw [if_neg (by simpa using hr)]
          subst hR2
          unfold awS
          simp only [go_sem, ↓reduceIte]
          refine lcall_give ?_
          simp only [go_sem, ↓reduceIte, reduceCtorEq]
          refine ⟨_, cPackW R hTf hT, ?_⟩
          simp only [go_sem, ↓reduceIte, Nat.reduceLeDiff]
          refine ⟨fun h => absurd h (by first | (simp; done) | (simp; omega)), fun _ => ?_⟩
          unfold awS
          simp only [go_sem, ↓reduceIte, Nat.reduceLeDiff, Nat.reduceEqDiff, reduceCtorEq]
          exact ⟨nopCut, pureW_self rfl rfl⟩

  · have hRf : R = gapEnd ([], n) := by
      rw [hR]
      unfold cutT
      have : ¬ ((findL t 0 a).2.2 && decide (0 < n)) = true := by simpa using hno
      rw [if_neg this]
    unfold awS
    simp only [go_sem, ↓reduceIte]
    refine brW (b := decide (0 < n)) ?_ ⟨fun hr => ?_, fun hr => ?_⟩
    · rfl
    · have hR2 : R = [gapC n] := by rw [hRf]; unfold gapEnd; rw [if_pos (by simpa using hr)]; rfl
      unfold awS
      simp only [go_sem, Nat.reduceGT, Nat.reducePow, Nat.reduceLT, ↓reduceIte, Nat.reduceAdd, Nat.reduceMul, Nat.reduceLeDiff, reduceCtorEq]
      have e : [ClipR.c (gapC n)] = List.map ClipR.c R := by rw [hR2]; rfl
      refine ⟨by decide, ?_⟩
      refine lcall_give ?_
      simp only [go_sem, ↓reduceIte, reduceCtorEq]
      refine ⟨_, cpure_as (.cons (as_rows (rows_snoc (xs := []) (gap_as n))) .nil) (by rw [List.nil_append, e]; exact cPackW R hTf hT), ?_⟩
      simp only [go_sem, ↓reduceIte, Nat.reduceLeDiff]
      refine ⟨fun h => absurd h (by first | (simp; done) | (simp; omega)), fun _ => ?_⟩
      unfold awS
      simp only [go_sem, ↓reduceIte, Nat.reduceLeDiff, Nat.reduceEqDiff, reduceCtorEq]
      exact ⟨nopCut, pureW_self rfl rfl⟩
    · have hR2 : R = [] := by rw [hRf]; unfold gapEnd; rw [if_neg (by simpa using hr)]
      subst hR2
      unfold awS
      simp only [go_sem, ↓reduceIte]
      refine ⟨_, cpure_as (.cons as_nil1 .nil) (cPackW [] hTf hT), ?_⟩
      simp only [go_sem, ↓reduceIte, Nat.reduceLeDiff, reduceCtorEq]
      refine ⟨fun h => absurd h (by first | (simp; done) | (simp; omega)), fun _ => ?_⟩
      unfold awS
      simp only [go_sem, ↓reduceIte, Nat.reduceLeDiff, reduceCtorEq]
      exact ⟨nopCut, pureW_self rfl rfl⟩
end Go.Proofs.YtkppmlignfhdeaaGreat
