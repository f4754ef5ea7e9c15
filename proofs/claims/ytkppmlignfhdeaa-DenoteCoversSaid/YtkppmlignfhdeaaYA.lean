/- Proved here: What the runs of a film cover, in plain terms, for use in the proofs of the given statements; conditions stand in each theorem. -/
import Derived.Test.YtkppmlignfhdeaaY9
set_option linter.unusedSimpArgs false
set_option linter.unusedVariables false
set_option linter.unusedSectionVars false
set_option linter.unusedSimpArgs false
set_option linter.unusedVariables false
set_option linter.unnecessarySimpa false
namespace Go.Proofs.Ytkppmlignfhdeaa
open Go.RowKit
set_option maxRecDepth 4000
def endE (rs : List RunR) : Nat → Int
  | 0 => 0
  | j + 1 => (rs.getD j default).film + (rs.getD j default).len
/-- what holds of a run that begins behind 'e', with the run before it -/
structure CovR (l : List ExprR) (n : Nat) (e : Int) (j : Nat) (p r : RunR) : Prop where
  len : 1 ≤ r.len
  low : 0 ≤ e
  film : e ≤ r.film
  lim : r.film + r.len ≤ (n : Int)
  gap : ∀ t : Nat, e ≤ (t : Int) → (t : Int) < r.film → srcB (l.getD t default) = false
  fr : ∀ i : Nat, (i : Int) < r.len → srcB (l.getD (r.film.toNat + i) default) = true ∧ (mediaE (l.getD (r.film.toNat + i) default)).toList = r.media.toList ∧ frameE (l.getD (r.film.toNat + i) default) = r.start + i
  apart : 0 < j → ¬ (p.media.toList = r.media.toList ∧ e = r.film ∧ p.start + p.len = r.start)
theorem CovR.mono {l : List ExprR} {n m : Nat} {e : Int} {j : Nat} {p r : RunR} (h : CovR l n e j p r) (hm : n ≤ m) : CovR l m e j p r :=
  ⟨h.len, h.low, h.film, by have := h.lim; omega, h.gap, h.fr, h.apart⟩
def CovJ (l : List ExprR) (n : Nat) (rs : List RunR) (j : Nat) : Prop := CovR l n (endE rs j) j (rs.getD (j - 1) default) (rs.getD j default)
theorem getD_appL {i m : List RunR} {j : Nat} (h : j < i.length) : (i ++ m).getD j default = i.getD j default := by
  rw [List.getD_eq_getElem?_getD, List.getD_eq_getElem?_getD, List.getElem?_append_left h]
theorem endE_app {i m : List RunR} : ∀ {j : Nat}, j ≤ i.length → endE (i ++ m) j = endE i j
  | 0, _ => rfl
  | j + 1, h => by simp only [endE]; rw [getD_appL (by omega)]
theorem covJ_app {l : List ExprR} {n : Nat} {i m : List RunR} {j : Nat} (h : j < i.length) : CovJ l n (i ++ m) j ↔ CovJ l n i j := by
  unfold CovJ
  rw [endE_app (by omega), getD_appL (show j - 1 < i.length by omega), getD_appL h]
theorem getD_snoc1 (i : List RunR) (r d : RunR) : (i ++ [r]).getD i.length d = r := by simp [List.getD_eq_getElem?_getD]
/-- the last run, whatever comes behind -/
theorem covJ_last {l : List ExprR} {n : Nat} {i : List RunR} {r : RunR} : CovJ l n (i ++ [r]) i.length ↔ CovR l n (endE i i.length) i.length (i.getD (i.length - 1) default) r := by
  unfold CovJ
  rw [endE_app (Nat.le_refl _), getD_snoc1]
  rcases Nat.eq_zero_or_pos i.length with h | h
  · rw [List.length_eq_zero_iff.1 h]
    refine ⟨fun q => ⟨q.len, q.low, q.film, q.lim, q.gap, q.fr, fun h => absurd h (by decide)⟩, fun q => ⟨q.len, q.low, q.film, q.lim, q.gap, q.fr, fun h => absurd h (by decide)⟩⟩
  · rw [getD_appL (show i.length - 1 < i.length by omega)]
structure Cov (l : List ExprR) (k : Nat) (rs : List RunR) : Prop where
  all : ∀ j, j < rs.length → CovJ l k rs j
  low : 0 ≤ endE rs rs.length ∧ endE rs rs.length ≤ (k : Int)
  gap : ∀ t : Nat, endE rs rs.length ≤ (t : Int) → t < k → srcB (l.getD t default) = false
theorem endE_snoc (i : List RunR) (r : RunR) : endE (i ++ [r]) (i ++ [r]).length = r.film + r.len := by
  rw [List.length_append, List.length_cons, List.length_nil]
  simp only [endE]
  rw [getD_snoc1]
theorem covs (l : List ExprR) : ∀ k : Nat, Cov l k (runsGo l k)
  | 0 => ⟨fun j h => by simp [runsGo] at h, ⟨Int.le_refl _, Int.le_refl _⟩, fun t _ h => absurd h (Nat.not_lt_zero _)⟩
  | k + 1 => by
    obtain ⟨h1, h2, h3⟩ := covs l k
    obtain ⟨v1, v2, v3, v4⟩ := runs_inv l k
    unfold runsGo
    split
    · rename_i hs
      split
      · rename_i hj
        unfold joinB at hj
        simp only [Bool.and_eq_true, decide_eq_true_eq] at hj
        obtain ⟨hk0, hj⟩ := hj
        obtain ⟨i, r, e, g1, g2⟩ := v3 hk0 (followsB_src hj)
        unfold followsB at hj
        simp only [Bool.and_eq_true, beq_iff_eq] at hj
        rw [e, bump_snoc]
        rw [e] at h1 h2 h3 v1 v2
        have hr := v2 r (by simp)
        have hc := covJ_last.1 (h1 i.length (by simp))
        have hfk : r.film.toNat + r.len.toNat = k := by omega
        refine ⟨fun j hjl => ?_, ?_, ?_⟩
        · rw [List.length_append, List.length_cons, List.length_nil] at hjl
          rcases Nat.lt_or_ge j i.length with hlt | hge
          · rw [covJ_app hlt]
            exact CovR.mono ((covJ_app hlt).1 (h1 j (by simp; omega))) (Nat.le_succ k)
          · have : j = i.length := by omega
            subst this
            rw [covJ_last]
            refine ⟨by simp only; omega, hc.low, hc.film, by simp only; omega, hc.gap, fun q hq => ?_, hc.apart⟩
            simp only at hq ⊢
            rcases Int.lt_or_le q r.len with hql | hqg
            · exact hc.fr q hql
            · have hq2 : r.film.toNat + q = k := by omega
              rw [hq2]
              have hlast := hc.fr (r.len.toNat - 1) (by omega)
              have hx : r.film.toNat + (r.len.toNat - 1) = k - 1 := by omega
              rw [hx] at hlast
              exact ⟨hs, hj.1.2.symm.trans (by rw [hlast.2.1]), by have := hj.2; have := hlast.2.2; omega⟩
        · rw [endE_snoc]
          simp only
          omega
        · rw [endE_snoc]
          intro t ht1 ht2
          simp only at ht1
          omega
      · rename_i hj
        refine ⟨fun j hjl => ?_, ?_, ?_⟩
        · rw [List.length_append, List.length_cons, List.length_nil] at hjl
          rcases Nat.lt_or_ge j (runsGo l k).length with hlt | hge
          · rw [covJ_app hlt]
            exact CovR.mono (h1 j hlt) (Nat.le_succ k)
          · have : j = (runsGo l k).length := by omega
            subst this
            rw [covJ_last]
            refine ⟨by simp, h2.1, h2.2, by simp only; omega, fun t ht1 ht2 => h3 t ht1 (by simp only at ht2; omega), fun q hq => ?_, fun hp => ?_⟩
            · simp only at hq ⊢
              have : q = 0 := by omega
              subst this
              have e1 : (k : Int).toNat + 0 = k := by omega
              rw [e1]
              exact ⟨hs, rfl, by simp⟩
            · rintro ⟨a1, a2, a3⟩
              simp only at a1 a2 a3
              apply hj
              have hne : runsGo l k ≠ [] := by intro h; rw [h] at hp; simp at hp
              obtain ⟨i, r, e⟩ : ∃ i r, runsGo l k = i ++ [r] := by
                rcases List.eq_nil_or_concat (runsGo l k) with e | ⟨i, r, e⟩
                · exact absurd e hne
                · exact ⟨i, r, by rw [e]; simp⟩
              rw [e] at h1 a1 a2 a3 v2
              have hr := v2 r (by simp)
              have hc := covJ_last.1 (h1 i.length (by simp))
              rw [endE_snoc] at a2
              rw [show (i ++ [r]).length - 1 = i.length by simp, getD_snoc1] at a1 a3
              have hk0 : 0 < k := by omega
              have hlast := hc.fr (r.len.toNat - 1) (by omega)
              have hx : r.film.toNat + (r.len.toNat - 1) = k - 1 := by omega
              rw [hx] at hlast
              unfold joinB followsB
              have hs1 : (opE (l.getD (k - 1) default) == 1) = true := hlast.1
              rw [decide_eq_true hk0, hs1]
              simp only [Bool.true_and, Bool.and_eq_true, beq_iff_eq]
              exact ⟨by rw [hlast.2.1, a1], by have := hlast.2.2; omega⟩
        · rw [endE_snoc]
          simp only
          omega
        · rw [endE_snoc]
          intro t ht1 ht2
          simp only at ht1
          omega
    · rename_i hs
      refine ⟨fun j hj => CovR.mono (h1 j hj) (Nat.le_succ k), ⟨h2.1, by omega⟩, fun t ht1 ht2 => ?_⟩
      rcases Nat.lt_or_ge t k with h | h
      · exact h3 t ht1 h
      · rw [show t = k from by omega]
        simpa using hs
end Go.Proofs.Ytkppmlignfhdeaa
/- Proved here: 'DenoteCovers' returns true, for use in the proofs of the given statements; conditions stand in each theorem. -/
set_option linter.unusedSimpArgs false
set_option linter.unusedVariables false
set_option linter.unnecessarySimpa false
namespace Go.Proofs.Ytkppmlignfhdeaa
open Go.RowKit
set_option maxRecDepth 4000
def FormE (e : ExprR) : Prop := srcB e = true → e = .mk 1 (mediaE e) (frameE e) 0 0 0 ⟨#[]⟩ []
theorem exprStep_form {rec : Nat → ExprR × Nat} (L : List Int) (q : Int) (k : Nat) : FormE (exprStep rec L q k).1 := by
  unfold exprStep FormE
  split
  · intro h; simp [zeroE, srcB, opE] at h
  split
  · unfold mixE; split <;> (intro h; simp [srcB, opE] at h)
  split
  · unfold mixE; split <;> (intro h; simp [srcB, opE] at h)
  split
  · intro h; simp [srcB, opE] at h
  split
  · intro h; simp [srcB, opE] at h
  · intro _; rfl
theorem exprAt_form (L : List Int) (d k : Nat) : FormE (exprAt L d k).1 := by
  cases d with
  | zero => simp only [exprAt]; exact exprStep_form L _ _
  | succ d => simp only [exprAt]; exact exprStep_form L _ _
theorem incE_form {e : ExprR} (h : FormE e) : FormE (incE e) := by
  intro hs
  rw [(incE_frame e).2] at hs
  have := h hs
  obtain ⟨op, media, frame, num, den, param, text, args⟩ := e
  simp only [mediaE, frameE, ExprR.mk.injEq] at this
  simp only [incE, mediaE, frameE, ExprR.mk.injEq]
  exact ⟨this.1, trivial, trivial, this.2.2.2.1, this.2.2.2.2.1, this.2.2.2.2.2.1, this.2.2.2.2.2.2.1, this.2.2.2.2.2.2.2⟩
theorem ex_form (L : List Int) : ∀ j : Nat, j ≤ 24 → ∀ e ∈ (exIter L j).1, FormE e
  | 0, _ => by simp [exIter]
  | j + 1, hj => by
    have ih := ex_form L j (by omega)
    have h1 := (ex_inv L j (by omega)).len
    show ∀ e ∈ (exStep L (exIter L j)).1, FormE e
    generalize exIter L j = s at *
    unfold exStep
    split
    · rename_i hs
      rw [Bool.and_eq_true, decide_eq_true_eq] at hs
      have hm : s.1.getD (s.1.length - 1) default ∈ s.1 := mem_getDE (by omega)
      split
      · intro e he
        rcases List.mem_append.1 he with he | he
        · exact ih e he
        · simp only [List.mem_cons, List.not_mem_nil, or_false] at he
          subst he
          exact incE_form (ih _ hm)
      · intro e he
        rcases List.mem_append.1 he with he | he
        · exact ih e he
        · simp only [List.mem_cons, List.not_mem_nil, or_false] at he
          subst he
          exact exprAt_form L _ _
    · intro e he
      rcases List.mem_append.1 he with he | he
      · exact ih e he
      · simp only [List.mem_cons, List.not_mem_nil, or_false] at he
        subst he
        exact exprAt_form L _ _
theorem exprsT_form (L : List Int) : ∀ e ∈ exprsT L, FormE e := by
  have n := tapeN_lt (L := L) (k := 0) (n := 24) (by omega)
  exact ex_form L (tapeN L 0 24).toNat (by omega)
theorem denCovers (L : List Int) : CPure Try.prog 5 [.t (tints L)] (vbool true) := by
  obtain ⟨x1, x2⟩ := exprsT_facts L
  have x3 := exprsT_form L
  have hX := cExprs L
  generalize exprsT L = l at *
  have x4 : ∀ e ∈ l, e.fit := fun e he => (x2 e he).1
  have hR := cRuns l x4 (by omega)
  obtain ⟨c1, c2, c3⟩ := covs l l.length
  have c4 := (runs_inv l l.length).len
  unfold runsE at hR
  generalize runsGo l l.length = rs at *
  refine cpure_of Try.xen5 Try.func5 rfl Try.ntmps5 (by rw [Try.results5]) (aw_ok _ ?_)
  simp only [go_sem, ↓reduceIte, Nat.reduceSub]
  refine ⟨_, hX, ?_⟩
  simp only [go_sem, ↓reduceIte]
  refine ⟨_, hR, ?_⟩
  simp only [go_sem, ↓reduceIte]
  refine awp_loop_f (fun (j : Nat) σ => { fr := (σ.fr.set 15 (vint j)).set 5 (vint (endE rs j)), h := [], nx := 0 }) (fun j => j ≤ rs.length) (fun j => rs.length - j) 0 (weak_of [] ?_) (Nat.zero_le _) ?_
  · simp only [go_sem, Nat.reduceLeDiff]
    simp [endE]
  · intro j hj
    refine awp_seq (aw_ok _ ?_)
    simp only [go_sem, ↓reduceIte]
    refine awp_seq (aw_ok _ ?_)
    simp only [go_sem]
    refine ⟨fun hlt => ?_, fun hge => ?_⟩
    · simp only [decide_eq_true_eq] at hlt
      have hjl : j < rs.length := by omega
      have hc := c1 j hjl
      unfold CovJ at hc
      have hnp := nth_run_any rs (j - 1)
      have hn := nth_run_any rs j
      have hend : endE rs (j + 1) = (rs.getD j default).film + (rs.getD j default).len := rfl
      have hpe : 0 < j → endE rs j = (rs.getD (j - 1) default).film + (rs.getD (j - 1) default).len := fun h => by
        obtain ⟨q, rfl⟩ : ∃ q, j = q + 1 := ⟨j - 1, by omega⟩
        rfl
      have w1 : IntKind.i64.wrap ((j : Int) - 1) = (j : Int) - 1 := wrap64 (by omega) (by omega)
      have w2 : ((j : Int) - 1).toNat = j - 1 := by omega
      have hpb : 0 < j → 1 ≤ (rs.getD (j - 1) default).len ∧ 0 ≤ (rs.getD (j - 1) default).film ∧ (rs.getD (j - 1) default).film + (rs.getD (j - 1) default).len ≤ 23 ∧ 0 ≤ (rs.getD (j - 1) default).start ∧ (rs.getD (j - 1) default).start ≤ 100 := fun h => by
        have q := c1 (j - 1) (by omega)
        unfold CovJ at q
        obtain ⟨q1, q0, q2, q3, q4, q5, q6⟩ := q
        obtain ⟨q7, q8, q9⟩ := q5 0 (by omega)
        have := (x2 _ (mem_getDE (show (rs.getD (j - 1) default).film.toNat + 0 < l.length by omega))).2 q7
        omega
      generalize rs.getD j default = r at *
      generalize rs.getD (j - 1) default = p at *
      generalize endE rs j = e0 at *
      obtain ⟨d1, d0, d2, d3, d4, d5, d6⟩ := hc
      unfold awS
      simp only [go_sem]
      refine awp_seq (awp_block (awp_seq (aw_ok _ ?_)))
      simp only [go_sem, ↓reduceIte, Nat.reduceAdd, Nat.reduceLeDiff, hn]
      refine ⟨⟨by omega, by omega⟩, ?_⟩
      refine awp_seq (awp_seq (aw_ok _ ?_))
      simp only [go_sem, ↓reduceIte, List.length_map]
      have wl : IntKind.i64.wrap (r.film + r.len) = r.film + r.len := wrap64 (by omega) (by omega)
      refine aw_ok _ ?_
      simp only [go_sem, wl]
      refine ⟨fun h => ?_, fun _ => ?_⟩
      · exfalso
        simp only [Bool.or_eq_true, decide_eq_true_eq] at h
        omega
      unfold awS
      simp only [go_sem]
      refine awp_seq (awp_block ?_)
      refine awp_loop_f (fun (t : Nat) σ => setS 5 (vint t) (deadS [39, 40, 41, 42, 43, 44, 45, 46, 47, 48, 49, 50] σ)) (fun t => e0 ≤ (t : Int) ∧ (t : Int) ≤ r.film) (fun t => r.film.toNat - t) e0.toNat (weak_self ?_) ⟨by omega, by omega⟩ ?_
      · simp only [go_sem, Nat.reduceLT, ↓reduceIte, Nat.reduceLeDiff]
        simp
        omega
      · rintro t ⟨ht1, ht2⟩
        refine aw_ok _ ?_
        simp only [go_sem, ↓reduceIte]
        refine ⟨fun h => ?_, fun h => ?_⟩
        · simp only [decide_eq_true_eq] at h
          have hnt := nth_expr zE (show t < l.length by omega)
          have hg := d4 t (by omega) h
          rcases hx : l.getD t default with ⟨o1, m1, fr1, nu1, de1, pa1, te1, ar1⟩
          rw [hx] at hnt hg
          have hg1 : (o1 == 1) = false := hg
          unfold awS
          simp only [go_sem, ↓reduceIte, hnt, ExprR.c, cs_eq]
          refine ⟨⟨by omega, by omega⟩, fun h2 => ?_, fun _ => ?_⟩
          · rw [hg1] at h2; cases h2
          · unfold awS
            simp only [go_sem, ↓reduceIte]
            refine ⟨t + 1, weak_self ?_, ⟨by omega, by omega⟩, by omega⟩
            simp only [go_sem, Nat.reduceLT, ↓reduceIte, Nat.reduceLeDiff]
            simp [wrap1 (show t < 9223372036854775807 by omega)]
        · simp only [decide_eq_false_iff_not] at h
          have hat : (t : Int) = r.film := by omega
          unfold awS
          simp only [go_sem, ↓reduceIte]
          rw [hat]
          refine awp_seq (awp_seq (aw_ok _ ?_))
          simp only [go_sem, ↓reduceIte]
          refine awp_block ?_
          refine awp_loop_f (fun (i : Nat) σ => setS 8 (vint i) (deadS [51, 52, 53, 54, 55, 56, 57, 58, 59, 60, 61, 62, 63, 64, 65, 66, 67, 68, 69, 70, 71] σ)) (fun i => (i : Int) ≤ r.len) (fun i => r.len.toNat - i) 0 (weak_self ?_) (by omega) ?_
          · simp only [go_sem, Nat.reduceLT, ↓reduceIte, Nat.reduceLeDiff]
            simp
          · rintro i hi
            refine aw_ok _ ?_
            simp only [go_sem, ↓reduceIte]
            refine ⟨fun h => ?_, fun h => ?_⟩
            · simp only [decide_eq_true_eq] at h
              obtain ⟨u1, u2, u3⟩ := d5 i h
              have hb : r.film.toNat + i < l.length := by omega
              have hnt := nth_expr zE hb
              have hfo := x3 _ (mem_getDE hb) u1
              have w3 : IntKind.i64.wrap (r.film + (i : Int)) = ((r.film.toNat + i : Nat) : Int) := by rw [wrap64 (by omega) (by omega)]; omega
              have hfr := (x2 _ (mem_getDE hb)).2 u1
              have w4 : IntKind.i64.wrap (r.start + (i : Int)) = r.start + i := wrap64 (by omega) (by omega)
              have hE := cSameE (l.getD (r.film.toNat + i) default) (.mk 1 r.media (r.start + i) 0 0 0 ⟨#[]⟩ [])
              rw [eqE_iff.2 (show l.getD (r.film.toNat + i) default = .mk 1 r.media (r.start + i) 0 0 0 ⟨#[]⟩ [] by rw [hfo, u3, bytes_inj u2])] at hE
              rcases hx : l.getD (r.film.toNat + i) default with ⟨o1, m1, fr1, nu1, de1, pa1, te1, ar1⟩
              rw [hx] at hnt hE
              unfold awS
              simp only [go_sem]
              refine drawR_of [0, 1, 2, 3, 4, 5, 6, 7, 8, 9, 10, 11, 12, 13, 14] .done rfl (by kernel_rfl) (by kernel_rfl) (by decide) ?_
              simp only [go_sem, Nat.reduceGT, ↓reduceIte, Nat.reduceAdd, Nat.reduceLeDiff, reduceCtorEq, w3, w4, Int.toNat_natCast, hnt, ExprR.c, cs_eq]
              refine ⟨⟨by omega, by omega⟩, _, cpure_as (.cons as_refl (.cons (as_impAgg (by exact ⟨as_refl, as_refl, as_refl, as_refl, as_refl, as_refl, as_refl, as_nilL, trivial⟩)) .nil)) hE, ?_⟩
              simp only [go_sem, ↓reduceIte]
              refine ⟨i + 1, weak_self ?_, by omega, by omega⟩
              simp only [go_sem, Nat.reduceLT, ↓reduceIte, Nat.reduceLeDiff]
              simp [wrap1 (show i < 9223372036854775807 by omega)]
            · simp only [decide_eq_false_iff_not] at h
              have hil : (i : Int) = r.len := by omega
              unfold awS
              simp only [go_sem, ↓reduceIte]
              refine awp_seq (aw_ok _ ?_)
              simp only [go_sem, ↓reduceIte, wl]
              refine awp_seq (drawR_of [0, 1, 2, 3, 4, 5, 6, 7, 8, 9, 10, 11, 12, 13, 14, 15, 16, 17, 18, 19, 20, 21, 22, 23, 24, 25, 26, 27, 28, 29, 30, 31, 32, 33, 34, 35, 36, 37, 38, 39, 40, 41, 42, 43, 44, 45, 46, 47, 48] .done rfl (by kernel_rfl) (by kernel_rfl) (by decide) ?_)
              simp only [go_sem, ↓reduceIte, w1, w2, hnp]
              refine ⟨fun h => ?_, fun h => ?_, fun h => ?_, fun h => ?_, fun h => ?_, ?_⟩
              all_goals first
                | (simp only [Bool.and_eq_true, decide_eq_true_eq, beq_iff_eq] at h; have hp : (j : Int) > 0 := (by first | exact h | exact h.1 | exact h.1.1); omega)
                | skip
              have hfalse : (decide ((j : Int) > 0) && (p.media.toList == r.media.toList) && (IntKind.i64.wrap (p.film + p.len) == r.film) && (IntKind.i64.wrap (p.start + p.len) == r.start)) = false := by
                rw [Bool.eq_false_iff]
                intro h
                simp only [Bool.and_eq_true, decide_eq_true_eq, beq_iff_eq] at h
                obtain ⟨⟨⟨h1, h2⟩, h3⟩, h4⟩ := h
                have hb := hpb (by omega)
                rw [wrap64 (by omega) (by omega)] at h3 h4
                exact d6 (by omega) ⟨h2, by have := hpe (by omega); omega, h4⟩
              refine aw_ok _ ?_
              simp only [go_sem]
              refine brW (b := false) ?_ ⟨fun hbb => ?_, fun hbb => ?_⟩
              · exact hfalse
              · cases hbb
              · unfold awS
                simp only [go_sem]
                refine aw_ok _ ?_
                simp only [go_sem, ↓reduceIte, wrap1 (show j < 9223372036854775807 by omega)]
                refine ⟨j + 1, weak_of [] ?_, by omega, by omega⟩
                simp only [go_sem, Nat.reduceLeDiff]
                rw [hend]
                exact ⟨rfl, rfl⟩
    · simp only [decide_eq_false_iff_not] at hge
      have : j = rs.length := by omega
      subst this
      unfold awS
      simp only [go_sem, ↓reduceIte]
      generalize endE rs rs.length = e0 at *
      refine awp_loop_f (fun (t : Nat) σ => setS 5 (vint t) (deadS [126, 127, 128, 129, 130, 131, 132, 133, 134, 135, 136, 137] σ)) (fun t => e0 ≤ (t : Int) ∧ t ≤ l.length) (fun t => l.length - t) e0.toNat (weak_self ?_) ⟨by omega, by omega⟩ ?_
      · simp only [go_sem, Nat.reduceLeDiff]
        simp
        omega
      · rintro t ⟨ht1, ht2⟩
        refine aw_ok _ ?_
        simp only [go_sem, ↓reduceIte, List.length_map]
        refine ⟨fun h => ?_, fun h => ?_⟩
        · simp only [decide_eq_true_eq] at h
          have htl : t < l.length := by omega
          have hnt := nth_expr zE htl
          have hg := c3 t (by omega) htl
          rcases hx : l.getD t default with ⟨o1, m1, fr1, nu1, de1, pa1, te1, ar1⟩
          rw [hx] at hnt hg
          have hg1 : (o1 == 1) = false := hg
          unfold awS
          simp only [go_sem, ↓reduceIte, hnt, ExprR.c, cs_eq]
          refine ⟨⟨by omega, by omega⟩, fun h2 => ?_, fun _ => ?_⟩
          · rw [hg1] at h2; cases h2
          · unfold awS
            simp only [go_sem, ↓reduceIte]
            refine ⟨t + 1, weak_self ?_, ⟨by omega, by omega⟩, by omega⟩
            simp only [go_sem, Nat.reduceLeDiff]
            simp [wrap1 (show t < 9223372036854775807 by omega)]
        · simp only [decide_eq_false_iff_not] at h
          unfold awS
          simp only [go_sem, ↓reduceIte]
          refine ⟨_, cAwake25, ?_⟩
          simp only [go_sem]
end Go.Proofs.Ytkppmlignfhdeaa
