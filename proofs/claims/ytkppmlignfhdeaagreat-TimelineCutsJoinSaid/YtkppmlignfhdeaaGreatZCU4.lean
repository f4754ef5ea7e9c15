/- Proved here: 'TimelineCutsJoin' returns true, for use in the proofs of the given statements; conditions stand in each theorem. -/
import Derived.Test.YtkppmlignfhdeaaGreatZCU3
import Derived.Test.YtkppmlignfhdeaaGreatZR
import Derived.Test.YtkppmlignfhdeaaGreatZN
import Derived.Test.YtkppmlignfhdeaaGreatZJO
set_option linter.unusedSimpArgs false
set_option linter.unusedVariables false
set_option linter.unusedSectionVars false
set_option linter.unusedSimpArgs false
set_option linter.unusedVariables false
set_option linter.unnecessarySimpa false
namespace Go.Proofs.YtkppmlignfhdeaaGreat
open Go.RowKit
set_option maxRecDepth 4000
theorem cutF_all (F : List ClipR) (k : Nat) : cutF F k (F.length - k) = F.drop k := by
  unfold cutF
  have e : ((F.drop k).take (F.length - k)) = F.drop k := List.take_of_length_le (by rw [List.length_drop]; exact Nat.le_refl _)
  rw [e, List.length_drop, Nat.sub_self]
  simp
theorem cutF_head (F : List ClipR) (k : Nat) (h : k ≤ F.length) : cutF F 0 k = F.take k := by
  unfold cutF
  rw [List.drop_zero, List.length_take, Nat.min_eq_left h, Nat.sub_self]
  simp
theorem cutF_drop (F : List ClipR) (k p q : Nat) : cutF (F.drop k) p q = cutF F (k + p) q := by
  unfold cutF
  rw [List.drop_drop]
theorem cTrackP5 (L : List Int) : CPure Tryz.prog 26 [.t (tints L)] (.t (tclips (trackT L))) := by
  refine cpure_of Tryz.xen26 Tryz.func26 rfl Tryz.ntmps26 (by rw [Tryz.results26]) (aw_ok _ ?_)
  simp only [go_sem, Nat.reduceGT, ↓reduceIte, Nat.reduceAdd, Nat.reduceSub, reduceCtorEq]
  refine icall_io (cTrackIO L 0 3 2 9 (by omega) (by omega) (by omega) (by omega) (by omega)) [0] rfl (by omega) (by decide) ?_ rfl rfl rfl rfl ?_
  · simp only [go_sem, Nat.reduceLT, ↓reduceIte]
    rfl
  · simp only [go_sem, Nat.reduceLT, ↓reduceIte, Nat.reduceAdd, Nat.reduceSub, reduceCtorEq, List.getElem?_nil]
    rfl
theorem cutsjoin15 (L : List Int) (x y z : Int) : CPure Tryz.prog 11 [.t (tints L), vint x, vint y, vint z] (vbool true) := by
  obtain ⟨t, ht⟩ : ∃ t, t = trackT L := ⟨_, rfl⟩
  obtain ⟨n1, n2⟩ := trackT_nice L
  rw [← ht] at n1 n2
  have hgd : ∀ d ∈ t, Gd 1000 d := fun d hd => gd_nice (n1 d hd)
  have hv : vTrack t = true := vTrack_nice n1 (by omega)
  have htot9 := totL_nine t fun c hc => (n1 c hc).l9
  obtain ⟨F, hF⟩ : ∃ F, F = fr t := ⟨_, rfl⟩
  have hFl : (F.length : Int) = totL t := by rw [hF]; exact fr_len fun c hc => (vClip_len (hgd c hc).ok).1
  have hT0 : CutOk 1000 t F := cutOk_mk hgd (by omega) hF.symm (by omega)
  have hN : lenT t = totL t := by unfold lenT; rw [if_pos hv]
  have hfit : ∀ c ∈ t, c.fit := fun c hc => (hgd c hc).fit
  refine cpure_of Tryz.xen11 Tryz.func11 rfl Tryz.ntmps11 (by rw [Tryz.results11]) (aw_ok _ ?_)
  simp only [go_sem, ↓reduceIte, Nat.reduceAdd, Nat.reduceSub]
  refine icall_pure (cTrackP5 L) rfl ?_
  rw [← ht]
  simp only [go_sem, ↓reduceIte]
  refine ⟨_, cPLength t hfit, ?_⟩
  rw [hN, ← hFl]
  have x1 := and63 x
  have y1 := and15 y
  have z1 := and15 z
  simp only [go_sem, ↓reduceIte, wrap64 (x := (F.length : Int) + 1) (by omega) (by omega)]
  refine ⟨by omega, ?_⟩
  have hk0 := Int.tmod_nonneg (b := (F.length : Int) + 1) x1.1
  have hk1 := Int.tmod_lt_of_pos (bits .and .i64 x 63) (b := (F.length : Int) + 1) (by omega)
  generalize (bits .and .i64 x 63).tmod ((F.length : Int) + 1) = k at hk0 hk1 ⊢
  obtain ⟨p, hp⟩ : ∃ p, p = bits .and .i64 y 15 := ⟨_, rfl⟩
  obtain ⟨q, hq⟩ : ∃ q, q = bits .and .i64 z 15 := ⟨_, rfl⟩
  rw [← hp] at y1
  rw [← hq] at z1
  obtain ⟨A0, hA0⟩ : ∃ A0, A0 = cutT t 0 (k - 0) := ⟨_, rfl⟩
  obtain ⟨B0, hB0⟩ : ∃ B0, B0 = cutT t k (F.length - k) := ⟨_, rfl⟩
  obtain ⟨a1, a2⟩ := cutOk_cut hT0 (by omega) (a := 0) (n := k - 0) (by omega) (by omega) (by omega) (by omega)
  obtain ⟨b1, b2⟩ := cutOk_cut hT0 (by omega) (a := k) (n := F.length - k) (by omega) (by omega) (by omega) (by omega)
  rw [← hA0] at a1 a2
  rw [← hB0] at b1 b2
  have ea : cutF F (0 : Int).toNat (k - 0).toNat = F.take k.toNat := by
    have e : (k - 0).toNat = k.toNat := by omega
    rw [e]
    exact cutF_head F _ (by omega)
  have eb : cutF F k.toNat (F.length - k).toNat = F.drop k.toNat := by
    have e : ((F.length : Int) - k).toNat = F.length - k.toNat := by omega
    rw [e]
    exact cutF_all F _
  rw [ea] at a1
  rw [eb] at b1
  have A1 := cutOk_pk a1
  have B1 := cutOk_pk b1
  have ca := cCut2 hT0 (by omega) (by omega) 0 k (by omega) (by omega) (by omega) (by omega) (by omega) (by omega)
  have cb := cCut2 hT0 (by omega) (by omega) k F.length (by omega) (by omega) (by omega) (by omega) (by omega) (by omega)
  rw [← hA0] at ca
  rw [← hB0] at cb
  refine icall_pure ca rfl ?_
  simp only [go_sem]
  refine icall_pure cb rfl ?_
  simp only [go_sem, ↓reduceIte]
  have la := pk_size A0
  have lb := pk_size B0
  obtain ⟨A, hA⟩ : ∃ A, A = pk A0 := ⟨_, rfl⟩
  obtain ⟨B, hB⟩ : ∃ B, B = pk B0 := ⟨_, rfl⟩
  rw [← hA] at A1 la ⊢
  rw [← hB] at B1 lb ⊢
  have fA : ∀ c ∈ A, c.fit := fun c hc => (A1.gd c hc).fit
  have fB : ∀ c ∈ B, c.fit := fun c hc => (B1.gd c hc).fit
  have hJ : joinT A B = (pk t, 0) := by
    have g : ∀ d ∈ A ++ B, Gd 800 d := fun d hd => (List.mem_append.1 hd).elim (fun h => gd_le (A1.gd d h) (by omega)) (fun h => gd_le (B1.gd d h) (by omega))
    have hf : fr (A ++ B) = F := by rw [fr_append, A1.fr, B1.fr, List.take_append_drop]
    have J : CutOk 800 (A ++ B) F := cutOk_mk g (by rw [List.length_append]; omega) hf (by omega)
    have e1 : packP (A ++ B) = pk (A ++ B) := packP_pk J.tr fun c hc => (g c hc).fit
    have e2 : pk (A ++ B) = pk t := by
      have l1 := len_le_tot (l := A ++ B) fun c hc => (vClip_len (g c hc).ok).1
      have l2 := len_le_tot (l := t) fun c hc => (vClip_len (hgd c hc).ok).1
      have := J.tot
      refine pk_of_fr (m := 800) (by omega) (fun c hc => ⟨g c hc, ?_⟩) (fun c hc => ⟨gd_le (hgd c hc) (by omega), ?_⟩) (by rw [hf, hF])
      · have := l1 c hc; omega
      · have := l2 c hc; omega
    have ht := J.tot
    rw [totL_app] at ht
    unfold joinT
    rw [A1.tr, B1.tr, e1, e2]
    have l64 := pk_size t
    have h1 : ¬ decide (totL A + totL B > 2147483647) = true := by rw [decide_eq_true_eq]; omega
    have h2 : ¬ decide ((pk t).length > 64) = true := by rw [decide_eq_true_eq]; omega
    rw [if_neg (by decide), if_neg h1, if_neg h2]
  refine ⟨_, cJoin A B fA fB, ?_⟩
  rw [hJ]
  simp only [go_sem, ↓reduceIte]
  have hpt := cutOk_pk hT0
  have fP : ∀ c ∈ pk t, c.fit := fun c hc => (hpt.gd c hc).fit
  have hS : sameT (pk t) t = true := by
    unfold sameT
    have e : normT (pk t) = normT t := by
      rw [← packT_pk hv hfit]
      exact norm_of_pack hv hfit
    rw [hpt.tr, hv, e, eqT_self]
    rfl
  have hlA : lenT A = k := by unfold lenT; rw [if_pos A1.tr, A1.tot, List.length_take]; omega
  have hlP : lenT (pk t) = (F.length : Int) := by unfold lenT; rw [if_pos hpt.tr, hpt.tot]
  refine ⟨_, cPSame (pk t) t fP hfit, ?_⟩
  rw [hS]
  simp only [go_sem, ↓reduceIte]
  refine ⟨_, cPLength A fA, ?_⟩
  rw [hlA]
  simp only [go_sem, ↓reduceIte]
  refine ⟨_, cPLength (pk t) fP, ?_⟩
  rw [hlP]
  have eB : totL B = (F.length : Int) - k := by
    have := B1.tot
    rw [List.length_drop] at this
    omega
  have cc := cCut2 B1 (by omega) (by rw [List.length_drop]; omega) p (p + q) (by omega) (by omega) (by omega) (by omega) (by omega) (by omega)
  have cd := cCut2 hT0 (by omega) (by omega) (k + p) (k + p + q) (by omega) (by omega) (by omega) (by omega) (by omega) (by omega)
  obtain ⟨g1, g2⟩ := cutOk_cut B1 (by omega) (a := p) (n := p + q - p) (by omega) (by omega) (by omega) (by omega)
  obtain ⟨h1, h2⟩ := cutOk_cut hT0 (by omega) (a := k + p) (n := k + p + q - (k + p)) (by omega) (by omega) (by omega) (by omega)
  have q1 : p + q - p = q := by omega
  have q2 : k + p + q - (k + p) = q := by omega
  rw [q1] at cc g1 g2
  rw [q2] at cd h1 h2
  obtain ⟨C0, hC0⟩ : ∃ C0, C0 = cutT B p q := ⟨_, rfl⟩
  obtain ⟨D0, hD0⟩ : ∃ D0, D0 = cutT t (k + p) q := ⟨_, rfl⟩
  rw [← hC0] at cc g1 g2
  rw [← hD0] at cd h1 h2
  have hfr : fr C0 = fr D0 := by
    rw [g1.fr, h1.fr, cutF_drop]
    congr 1
    omega
  have hpk : pk C0 = pk D0 := by
    have l1 := len_le_tot (l := C0) fun c hc => (vClip_len (g1.gd c hc).ok).1
    have l2 := len_le_tot (l := D0) fun c hc => (vClip_len (h1.gd c hc).ok).1
    have t1 := g1.tot
    have t2 := h1.tot
    rw [cutF_len] at t1 t2
    refine pk_of_fr (m := 700) (by omega) (fun c hc => ⟨gd_le (g1.gd c hc) (by omega), ?_⟩) (fun c hc => ⟨gd_le (h1.gd c hc) (by omega), ?_⟩) hfr
    · have := l1 c hc; omega
    · have := l2 c hc; omega
  have C1 := cutOk_pk g1
  have fC : ∀ c ∈ pk C0, c.fit := fun c hc => (C1.gd c hc).fit
  have hlC : lenT (pk C0) = q := by
    unfold lenT
    rw [if_pos C1.tr, C1.tot, cutF_len]
    omega
  simp only [go_sem, ↓reduceIte, ← hp, ← hq, wrap64 (x := p + q) (by omega) (by omega)]
  refine icall_pure cc rfl ?_
  simp only [go_sem, ↓reduceIte, wrap64 (x := k + p) (by omega) (by omega), wrap64 (x := k + p + q) (by omega) (by omega)]
  refine icall_pure cd rfl ?_
  rw [← hpk]
  simp only [go_sem, ↓reduceIte]
  refine ⟨_, cREqual _ _, ?_⟩
  rw [eqT_self]
  simp only [go_sem, ↓reduceIte]
  refine ⟨_, cPLength _ fC, ?_⟩
  rw [hlC]
  simp only [go_sem, ↓reduceIte]
  refine ⟨_, cAwake, ?_⟩
  simp only [go_sem, ↓reduceIte]
end Go.Proofs.YtkppmlignfhdeaaGreat
