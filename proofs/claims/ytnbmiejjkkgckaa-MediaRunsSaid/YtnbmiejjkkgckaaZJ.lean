/- Proved here: Contracts of the two functions Run, for use in the proofs of the given statements; conditions stand in each theorem. -/
import Derived.Test.YtnbmiejjkkgckaaZI
import Derived.Test.YtnbmiejjkkgckaaZC
set_option linter.unusedSimpArgs false
set_option linter.unusedVariables false
namespace Go.Proofs.Ytnbmiejjkkgckaa
open Go.RowKit

theorem eventK (x : EventR) : x.cells.length = 5 := rfl
theorem event1 (xs : List EventR) : ∀ u ∈ xs.flatMap EventR.cells, u.oneCell' = true := by
  intro u hu
  simp [EventR.cells] at hu
  obtain ⟨a, _, h | h | h | h | h⟩ := hu <;> subst h <;> rfl
theorem step_any (A D : Option Addr) (c d : Nat) (s : StateR) (e : EventR) (w : World) (hfit : Fit s) (he : e.fits)
   (hF : Sl FileR.cells 3 w A s.files) (hL : Sl LinkR.cells 4 w D s.links) :
    Calls Try.prog 18 #[.agg #[.slice A s.files.length c, .slice D s.links.length d], .agg #[.int .i64 e.kind, .string e.media, .string e.file, .string e.proxy, .int .u64 e.sum]] w (StepPost w (stepS s e)) := by
  obtain ⟨k, m, f, p, q⟩ := e
  have h1 := hfit.nf
  have h2 := hfit.nl
  cases hb : (validSt s.files s.links && validEv ⟨k, m, f, p, q⟩) with
  | true =>
    rw [Bool.and_eq_true] at hb
    exact step_good A D c d s k m f p q w (by omega) (by omega) he.1 he.2.1 he.2.2 hfit.ff hfit.fl hF hL hb.1 hb.2
  | false => exact step_bad A D c d s k m f p q w (by unfold maxLen; omega) (by unfold maxLen; omega) he.1 he.2.1 he.2.2 hfit.ff hfit.fl hF hL hb
theorem fit_from {s : StateR} {l : List EventR} (h : Fit s) (hl : ∀ e ∈ l, e.fits) : ∀ k, k ≤ l.length → Fit (runFrom s (l.take k)).1
  | 0, _ => h
  | k + 1, hk => by
    rw [runFrom_snoc (by omega)]
    exact runStep_fit (fit_from h hl k (by omega)) (hl _ (List.getElem_mem _))
theorem outs_from {s : StateR} {l : List EventR} (h : Fit s) (hl : ∀ e ∈ l, e.fits) : ∀ k, k ≤ l.length → (runFrom s (l.take k)).2.1.length ≤ 16 * k
  | 0, _ => Nat.le_refl _
  | k + 1, hk => by
    rw [runFrom_snoc (by omega)]
    have h1 := outs_from h hl k (by omega)
    have h2 := step_outs (runFrom s (l.take k)).1 l[k] (fit_from h hl k (by omega))
    unfold runStep
    split
    · simp only [List.length_append]; omega
    · simp only; omega
/-- a State variable of the call's own gets another value -/
theorem st_set {w : World} {B bs : Nat} {v1 v2 u1 u2 : Value} {s t : StateR} (h : StO w B bs v1 v2 s)
    (h1 : w.ownsRow B 37 3 u1 t.files.length (t.files.flatMap FileR.cells)) (h2 : w.ownsRow B 39 4 u2 t.links.length (t.links.flatMap LinkR.cells)) :
    StO ((w.setCell ⟨bs, 0, none⟩ u1).setCell ⟨bs, 1, none⟩ u2) B bs u1 u2 t := st_made h.blk h.lo h1 h2
theorem blk_setNe {w : World} {b : Nat} {o : Obj} (h : w.heap[b]? = some o) {a : Addr} (hne : b ≠ a.block) (u : Value) : (w.setCell a u).heap[b]? = some o := (Below.heap_setCell w a u b hne).trans h
theorem StO.setNe {w : World} {B bs : Nat} {v1 v2 : Value} {s : StateR} (h : StO w B bs v1 v2 s) {a : Addr} (h0 : bs ≠ a.block) (h1 : v1.ownBlock ≠ some a.block) (h2 : v2.ownBlock ≠ some a.block) (u : Value) : StO (w.setCell a u) B bs v1 v2 s :=
  ⟨blk_setNe h.blk h0 u, h.lo, own_setNe h.f h1 u, own_setNe h.l h2 u⟩
theorem blk_later {w w' : World} {b : Nat} {o : Obj} (h : w.heap[b]? = some o) (hb : Below w.heap.size w w') : w'.heap[b]? = some o := (hb.block _ (Array.getElem?_eq_some_iff.1 h).1).trans h

theorem own_blk {w : World} {B g e k n c : Nat} {xs : List Value} (h : w.ownsRow B e k (.slice (some ⟨g, 0, none⟩) n c) n xs) : ∃ cs, w.heap[g]? = some (.cells cs e (0, 0)) := by
  rcases h.2 with ⟨h1, _⟩ | ⟨g', cap, cur, hv, _, hg, _⟩
  · cases h1
  · injection hv with h1 _ _
    injection h1 with h1
    injection h1 with h1
    subst h1
    exact ⟨cur, hg⟩
theorem own_setRow {w : World} {B g e e' k k' n n' c j : Nat} {v u : Value} {xs ys : List Value} (h : w.ownsRow B e k (.slice (some ⟨g, 0, none⟩) n c) n xs) (h' : w.ownsRow B e' k' v n' ys) (hne : e' ≠ e) :
    (w.setCell ⟨g, j, none⟩ u).ownsRow B e' k' v n' ys := by
  obtain ⟨cs, hg⟩ := own_blk h
  exact own_setNe h' (own_blk_ne h' hg hne) u
theorem StO.setRow {w : World} {B bs g e k n c j : Nat} {v1 v2 u : Value} {s : StateR} {xs : List Value} (h : w.ownsRow B e k (.slice (some ⟨g, 0, none⟩) n c) n xs) (h' : StO w B bs v1 v2 s) (h1 : 30 ≠ e) (h2 : 37 ≠ e) (h3 : 39 ≠ e) :
    StO (w.setCell ⟨g, j, none⟩ u) B bs v1 v2 s := by
  obtain ⟨cs, hg⟩ := own_blk h
  refine h'.setNe ?_ (own_blk_ne h'.f hg h2) (own_blk_ne h'.l hg h3) u
  rintro rfl
  rw [h'.blk] at hg
  injection hg with hg
  injection hg with _ hg
  exact h1 hg
theorem own_setSt {w : World} {B bs e' k' n' : Nat} {v v1 v2 u1 u2 : Value} {s : StateR} {ys : List Value} (h : StO w B bs v1 v2 s) (h' : w.ownsRow B e' k' v n' ys) (hne : e' ≠ 30) :
    ((w.setCell ⟨bs, 0, none⟩ u1).setCell ⟨bs, 1, none⟩ u2).ownsRow B e' k' v n' ys :=
  own_setNe (own_setNe h' (own_blk_ne h' h.blk hne) u1) (a := ⟨bs, 1, none⟩) (own_blk_ne h' h.blk hne) u2

set_option maxRecDepth 100000 in
set_option maxHeartbeats 8000000 in
theorem run_good (A D E : Option Addr) (c d ec : Nat) (s : StateR) (evs : List EventR) (n : Nat) (hn : n = evs.length) (w : World) (hen : n ≤ 65536)
   (hfit : Fit s) (hes : ∀ e ∈ evs, e.fits)
   (hF : Sl FileR.cells 3 w A s.files) (hL : Sl LinkR.cells 4 w D s.links) (hE : Sl EventR.cells 5 w E evs) (hv : validSt s.files s.links = true) :
    Calls Try.prog 22 #[.agg #[.slice A s.files.length c, .slice D s.links.length d], .slice E n ec] w (RunPost w (runS s evs)) := by
  have HR := Lib.hid (show runS s evs = runFrom s evs by unfold runS; rw [hv]; rfl)
  have HF := Lib.hid hF; have HL := Lib.hid hL; have HE := Lib.hid hE; have HV := Lib.hid hv
  have HFIT := Lib.hid hfit; have HES := Lib.hid hes; have HN := Lib.hid hn
  have hnm := hfit.nf
  have hmm := hfit.nl
  clear hF hL hv hn hfit hes hE
  obtain ⟨i0, hi0, hz0, hz1, hz2⟩ := info_parts Try.info49
  go_enter Try.func22, Try.ntmps22
  go_wp2_with (refine wpList_make_full _ rfl _ _ _ rfl w.heap.size 49 i0 _ 1 Try.underlying54 hi0 hz0 hz1 .i64 .i64 _ _ n rfl rfl rfl rfl (by rw [hz2]; omega) (by unfold maxLen; omega) (by simp; omega) ?_
               intro w1 h1 hg1
               have HO := Lib.hid h1
               have hb1 := Below.grown (Below.refl _ _) hg1 (Nat.le_refl _) (fun q hq => by cases hq)
               have HB := Lib.hid (((later_alloc w _).alloc (by simp) _).trans (hb1.mono (by simp; omega)))
               have r0 := hb1.cell (p := ⟨w.heap.size, 0, none⟩) (by simp; omega)
               have r1 := hb1.cell (p := ⟨w.heap.size, 1, none⟩) (by simp; omega)
               have BX := Lib.hid (blk_later (blk_later (heap_alloc_new w (.cells #[.slice A s.files.length c, .slice D s.links.length d] 30)) (later_alloc _ _)) hb1)
               have RX := Lib.hid (blk_later (heap_alloc_new (w.alloc _) (.cells #[.slice none 0 0, .slice none 0 0] 30)) hb1)
               simp [go_sem] at r0 r1
               clear h1 hg1 hb1)
  refine (valid_prog _ _ _ _ _ _ s.files s.links _ rfl rfl (by unfold maxLen; omega) (by unfold maxLen; omega) (HF.out.later HB.out) (HL.out.later HB.out) HFIT.out.ff HFIT.out.fl true HV.out).mono ?_
  rintro e w2 ⟨rfl, hb2⟩
  have HO2 := Lib.hid (own_later HO.out hb2)
  have HB2 := Lib.hid (HB.out.trans (hb2.mono HB.out.size))
  have R0 := (hb2.cell (cell_lt r0)).trans r0
  have R1 := (hb2.cell (cell_lt r1)).trans r1
  have BX2 := Lib.hid (blk_later BX.out hb2)
  have RX2 := Lib.hid (blk_later RX.out hb2)
  clear hb2 r0 r1 HO HB BX RX
  have HOg := Lib.hid (show w2.ownsRow w.heap.size 49 1 (.slice (some ⟨w.heap.size + 1 + 1, 0, none⟩) n n) n (ints (pad [] n)) by
    have := HO2.out; simpa [ints, pad, toList_madeCells_one, show (Value.int IntKind.i64 0).cells = #[.int .i64 0] from rfl] using this)
  have RX3 := Lib.hid (show w2.heap[w.heap.size + 1]? = some (.cells #[.slice none 0 0, .slice none 0 0] 30 (0, 0)) by simpa using RX2.out)
  have HF2 := Lib.hid (HF.out.later HB2.out); have HL2 := Lib.hid (HL.out.later HB2.out)
  clear RX2 HO2
  go_upto_region 9 with fail
  go_cut [2] (fun s2 wx => s2 = .pointer (some ⟨w.heap.size, 0, none⟩) ∧ Below w.heap.size w wx ∧ Hid (∃ v1 v2, StO wx w.heap.size w.heap.size v1 v2 s) ∧ Hid (wx.heap[w.heap.size + 1]? = some (.cells #[.slice none 0 0, .slice none 0 0] 30 (0, 0))) ∧
    Hid (wx.ownsRow w.heap.size 49 1 (.slice (some ⟨w.heap.size + 1 + 1, 0, none⟩) n n) n (ints (pad [] n))))
  case first =>
    have g0 := cell_later' (w := w2.drew) R0
    have g1 := cell_later' (w := w2.drew) R1
    refine wp_region_qt [true, true, false, true, true, false, false, false] [7] (by kernel_rfl) (by kernel_rfl) (by kernel_rfl) rfl ?_ (by decide)
    dsimp only [pickQ]
    repeat (go_big_quiet_step (fail))
    refine wpQuiet_nil ?_
    clear g0 g1 R0 R1
    have hb4 : Below w2.heap.size w2 w2.drew := (Below.refl _ _).drew
    have later4 := Below.trans HB2.out (Below.mono hb4 HB2.out.size)
    generalize w2.drew = w4 at *
    refine tail_one (i := 2) (by kernel_rfl) rfl rfl rfl ?_
    intro K hK
    go_simp
    refine (cloneF _ _ _ s.files _ rfl (by omega) (HF2.out.later hb4)).mono ?_
    rintro e u0 ⟨v2, rfl, ho0, hb0⟩
    obtain ⟨A2, c2, rfl, _⟩ := own_form ho0
    have h1_0 := own_mono ho0 (show w.heap.size ≤ _ from later4.size)
    have later0 := Below.trans hb4 (Below.mono hb0 hb4.size)
    have size0 := later0.size
    refine hK _ _ hb0 ?_
    clear hK K
    refine tail_one (i := 5) (by kernel_rfl) rfl rfl rfl ?_
    intro K hK
    go_simp
    refine (cloneL _ _ _ s.links _ rfl (by omega) (HL2.out.later later0)).mono ?_
    rintro e u1 ⟨v5, rfl, ho1, hb1⟩
    obtain ⟨A5, c5, rfl, _⟩ := own_form ho1
    have later1 := Below.trans later0 (Below.mono hb1 size0)
    have h2_1 := own_mono ho1 (show w.heap.size ≤ _ from Nat.le_trans HB2.out.size size0)
    have h1_1 := own_later h1_0 hb1
    refine hK _ _ hb1 ?_
    clear hK K
    refine tail_one (i := 6) (by kernel_rfl) rfl rfl rfl ?_
    intro K hK
    go_simp
    refine hK _ _ (Below.refl _ _) ?_
    clear hK K
    have hB := blk_later BX2.out later1
    have hX := blk_later RX3.out later1
    have hG := own_later HOg.out later1
    refine tail_loud (i := 7) (by kernel_rfl) rfl rfl rfl ?_
    intro K hK
    have q0 := cell_of_row u1 w.heap.size 0 _ _ _ hB
    have q1 := cell_of_row u1 w.heap.size 1 _ _ _ hB
    have q2 := frozen_of_row u1 w.heap.size 0 _ _ hB
    have q3 := frozen_of_row u1 w.heap.size 1 _ _ hB
    simp at q0 q1
    go_simp
    refine hK _ _ ?_
    clear hK K
    refine tail_done (by kernel_rfl) (NoPanic.normal ?_)
    go_wp2_with fail
    go_meet
    have hne : w.heap.size + 1 ≠ w.heap.size := by omega
    exact ⟨rfl, (HB2.out.trans (later1.mono HB2.out.size)).setCell (Nat.le_refl _) _ |>.setCell (Nat.le_refl _) _, ⟨_, _, st_made hB (Nat.le_refl _) h1_1 h2_1⟩, blk_setNe (blk_setNe hX (by simp) _) (by simp) _,
      own_setNe (own_setNe hG (by simp [Value.ownBlock]; omega) _) (by simp [Value.ownBlock]; omega) _⟩
  case rest =>
    clear R0 R1 BX2 HOg RX3 HF2 HL2
    obtain ⟨rfl, hb3, hst, hrx, hog⟩ := hcut
    have HB3 := Lib.hid hb3; have HST := Lib.hid hst.out; have HRX := Lib.hid hrx.out; have HOG := Lib.hid hog.out
    clear hb3 hst hrx hog HB2
    go_wp2
    go_loopw [9, 41] (fun vo i wr => ∃ k : Nat, k ≤ n ∧ i = .int .i64 k ∧ Below w.heap.size w wr ∧ Hid (∃ v1 v2, StO wr w.heap.size w.heap.size v1 v2 (runFrom s (evs.take k)).1) ∧ Hid (wr.heap[w.heap.size + 1]? = some (.cells #[.slice none 0 0, .slice none 0 0] 30 (0, 0))) ∧
      Hid (wr.ownsRow w.heap.size 49 1 (.slice (some ⟨w.heap.size + 1 + 1, 0, none⟩) n n) n (ints (pad (runFrom s (evs.take k)).2.2 n))) ∧
      Hid (wr.ownsRow w.heap.size 61 2 vo (runFrom s (evs.take k)).2.1.length ((runFrom s (evs.take k)).2.1.flatMap OutR.cells))) (fun _ i _ => n - (intOf i).toNat)
    case atStart => exact ⟨0, Nat.zero_le _, rfl, HB3.out, HST.out, HRX.out, HOG.out, World.ownsRow_nil _ _ _ _⟩
    case round =>
      obtain ⟨k, hk, rfl, hbr, hst, hrx, hog, hou⟩ := hrel
      have HBr := Lib.hid hbr
      obtain ⟨v1, v2, hS⟩ := hst.out
      obtain ⟨A1, c1, D1, d1, rfl, rfl⟩ := hS.forms
      have HS := Lib.hid hS
      clear hbr hst hS HST HRX HOG HB3
      by_cases hlt : k < n
      · have hke : k < evs.length := by rw [← HN.out]; exact hlt
        have hSnoc := Lib.hid (runFrom_snoc (s := s) hke)
        have hLen := Lib.hid (runFrom_len s evs k (by omega))
        have hOut := outs_from HFIT.out HES.out k (by omega)
        have hFitK := Lib.hid (fit_from HFIT.out HES.out k (by omega))
        have hFitE := Lib.hid (HES.out _ (List.getElem_mem hke))
        obtain ⟨acc, hacc⟩ : ∃ acc, runFrom s (evs.take k) = acc := ⟨_, rfl⟩
        obtain ⟨ev, hev⟩ : ∃ ev, evs[k] = ev := ⟨_, rfl⟩
        obtain ⟨b, off, rfl, hc⟩ := HE.out.later HBr.out k ev (by rw [List.getElem?_eq_getElem hke, hev])
        rw [hacc] at HS hog hou hSnoc hLen hOut hFitK
        rw [hev] at hSnoc hFitE
        have l0 := hc 0 _ rfl
        have l1 := hc 1 _ rfl
        have l2 := hc 2 _ rfl
        have l3 := hc 3 _ rfl
        have l4 := hc 4 _ rfl
        simp only [Nat.add_zero] at l0
        have s0 := HS.out.c0
        have s1 := HS.out.c1
        have hls := cell_lt s0
        have hbb := cell_lt l0
        clear hc
        have HAL := Lib.hid (later_alloc wr (.cells #[.int .i64 ev.kind, .string ev.media, .string ev.file, .string ev.proxy, .int .u64 ev.sum] 45))
        have HSa := Lib.hid (HS.out.later HAL.out)
        have HXa := Lib.hid (blk_later hrx.out HAL.out)
        have HGa := Lib.hid (own_later hog.out HAL.out)
        have HUa := Lib.hid (own_later hou.out HAL.out)
        clear hrx hog hou
        go_wp2_with fail
        refine (step_any _ _ _ _ acc.1 ev _ hFitK.out hFitE.out HSa.out.sf.2 HSa.out.sl.2).mono ?_
        rintro e w5 ⟨vs, vo5, rfl, hos, hoo, hb5⟩
        obtain ⟨u1, u2, rfl, hu1, hu2⟩ := hos.ex
        obtain ⟨X1, e1, rfl, _⟩ := own_form hu1
        obtain ⟨X2, e2, rfl, _⟩ := own_form hu2
        have HS5 := Lib.hid (HSa.out.later hb5)
        have HX5 := Lib.hid (blk_later HXa.out hb5)
        have HG5 := Lib.hid (own_later HGa.out hb5)
        have HU5 := Lib.hid (own_later HUa.out hb5)
        have HBs := Lib.hid (HBr.out.trans ((HAL.out.trans (hb5.mono HAL.out.size)).mono HBr.out.size))
        have hszA := HBr.out.size
        have hsz5 := hb5.size
        have HU1 := Lib.hid (own_mono hu1 (show w.heap.size ≤ _ by simp; omega))
        have HU2 := Lib.hid (own_mono hu2 (show w.heap.size ≤ _ by simp; omega))
        have HOO := Lib.hid (own_mono hoo (show w.heap.size ≤ _ by simp; omega))
        clear hb5 hu1 hu2 hoo hos HSa HXa HGa HUa s0 s1 l0 l1 l2 l3 l4 HAL HS
        have HAL6 := Lib.hid (later_alloc w5 (.cells #[.slice X1 (stepS acc.1 ev).1.files.length e1, .slice X2 (stepS acc.1 ev).1.links.length e2] 30))
        have HS6 := Lib.hid (HS5.out.later HAL6.out)
        have HX6 := Lib.hid (blk_later HX5.out HAL6.out)
        have HG6 := Lib.hid (own_later HG5.out HAL6.out)
        have HU6 := Lib.hid (own_later HU5.out HAL6.out)
        have H16 := Lib.hid (own_later HU1.out HAL6.out)
        have H26 := Lib.hid (own_later HU2.out HAL6.out)
        have HO6 := Lib.hid (own_later HOO.out HAL6.out)
        have HB6 := Lib.hid (HBs.out.trans (HAL6.out.mono HBs.out.size))
        have hszB := HBs.out.size
        have hls5 := cell_lt HS5.out.c0
        have HN6 := Lib.hid (heap_alloc_new w5 (.cells #[.slice X1 (stepS acc.1 ev).1.files.length e1, .slice X2 (stepS acc.1 ev).1.links.length e2] 30))
        clear HS5 HX5 HG5 HU5 HU1 HU2 HOO HAL6 HBs
        go_upto_region 15 with fail
        obtain ⟨h5, hh5⟩ : ∃ h5, w5.heap.size = h5 := ⟨_, rfl⟩
        rw [hh5] at HN6 hls5 hszB ⊢
        generalize w5.alloc (.cells #[.slice X1 (stepS acc.1 ev).1.files.length e1, .slice X2 (stepS acc.1 ev).1.links.length e2] 30) = w6 at *
        have n0 := cell_of_row w6 h5 0 _ _ _ HN6.out
        have n1 := cell_of_row w6 h5 1 _ _ _ HN6.out
        simp at n0 n1
        have hl6 := cell_lt n0
        clear hh5
        cases hx : ((stepS acc.1 ev).2.2 != 0) with
        | true =>
          have HRS := Lib.hid (show runFrom s (evs.take (k + 1)) = (acc.1, acc.2.1, acc.2.2 ++ [(stepS acc.1 ev).2.2]) by
            have : ¬ (stepS acc.1 ev).2.2 = 0 := by simpa using hx
            rw [hSnoc.out]; unfold runStep; rw [if_neg this])
          have hfz := HG6.out.frozenAt k
          have hce := HG6.out.cellAt k (by omega)
          have hpl := pad_len (es := acc.2.2) (n := n) (by rw [hLen.out]; omega)
          have hst := (HG6.out.stored k (.int .i64 (stepS acc.1 ev).2.2)).1
          have hset : (ints (pad acc.2.2 n)).set k (.int .i64 (stepS acc.1 ev).2.2) = ints (pad (acc.2.2 ++ [(stepS acc.1 ev).2.2]) n) := by
            have := pad_set (es := acc.2.2) (n := n) (by rw [hLen.out]; exact hlt) (stepS acc.1 ev).2.2
            rw [hLen.out] at this
            rw [← this]
            unfold ints
            rw [List.map_set]
          rw [hset] at hst
          obtain ⟨old, hold⟩ : ∃ old, (ints (pad acc.2.2 n))[k]? = some old := ⟨_, List.getElem?_eq_getElem (by unfold ints; rw [List.length_map, hpl]; exact hlt)⟩
          rw [hold] at hce
          have HST := Lib.hid hst
          clear hst hset hold hpl
          have hgl := Lib.hid (show w.heap.size ≤ w.heap.size + 1 + 1 by omega)
          have hwl := cell_lt hce
          go_wp2
          go_roundw
          case rel =>
            have hne : w.heap.size + 1 ≠ w.heap.size + 1 + 1 := by omega
            refine ⟨k + 1, by omega, by go_num, HB6.out.setCell hgl.out _, ?_, blk_setNe HX6.out hne _, by rw [HRS.out]; exact HST.out, by rw [HRS.out]; exact own_setRow HG6.out HU6.out (by decide)⟩
            rw [HRS.out]
            exact ⟨_, _, StO.setRow HG6.out HS6.out (by decide) (by decide) (by decide)⟩
          case measure => simp [intOf]; omega
        | false =>
          have hz : (stepS acc.1 ev).2.2 = 0 := by simpa using hx
          have HRS := Lib.hid (show runFrom s (evs.take (k + 1)) = ((stepS acc.1 ev).1, acc.2.1 ++ (stepS acc.1 ev).2.1, acc.2.2 ++ [0]) by
            rw [hSnoc.out]; unfold runStep; rw [if_pos hz])
          have hO16 := step_outs acc.1 ev hFitK.out
          have hpz := pad_zero (es := acc.2.2) (n := n) (by rw [hLen.out]; exact hlt)
          rw [hz]
          have b0 := HS6.out.c0
          have b1 := HS6.out.c1
          have b2 := HS6.out.fr 0
          have b3 := HS6.out.fr 1
          have HG7 := Lib.hid (own_setSt (u1 := .slice X1 (stepS acc.1 ev).1.files.length e1) (u2 := .slice X2 (stepS acc.1 ev).1.links.length e2) HS6.out HG6.out (by decide))
          have HU7 := Lib.hid (own_setSt (u1 := .slice X1 (stepS acc.1 ev).1.files.length e1) (u2 := .slice X2 (stepS acc.1 ev).1.links.length e2) HS6.out HU6.out (by decide))
          have HO7 := Lib.hid (own_setSt (u1 := .slice X1 (stepS acc.1 ev).1.files.length e1) (u2 := .slice X2 (stepS acc.1 ev).1.links.length e2) HS6.out HO6.out (by decide))
          have HX7 := Lib.hid (blk_setNe (blk_setNe HX6.out (a := ⟨w.heap.size, 0, none⟩) (by simp) (.slice X1 (stepS acc.1 ev).1.files.length e1)) (a := ⟨w.heap.size, 1, none⟩) (by simp) (.slice X2 (stepS acc.1 ev).1.links.length e2))
          have HS7 := Lib.hid (st_set HS6.out H16.out H26.out)
          have HB7 := Lib.hid ((HB6.out.setCell (p := ⟨w.heap.size, 0, none⟩) (Nat.le_refl _) (.slice X1 (stepS acc.1 ev).1.files.length e1)).setCell (p := ⟨w.heap.size, 1, none⟩) (Nat.le_refl _) (.slice X2 (stepS acc.1 ev).1.links.length e2))
          obtain ⟨j0, hj0, gz0, gz1, gz2⟩ := info_parts Try.info61
          go_wp2_with (at_builtin; refine wpList_append_row rfl (.tmp 60) (.tmp 61) _ rfl w.heap.size 61 j0 _ 2 24 Try.underlying48 hj0 gz0 gz1 gz2 rfl (by omega) _ _ _ rfl HU7.out w.heap.size _ _ _ rfl HO7.out (out1 _) (by simp only [maxLen]; omega) (by omega) HB7.out.size ?_
                       intro v' w9 hown hg
                       have HU9 := Lib.hid hown
                       have HG9 := Lib.hid (HG7.out.kept hg (own_own_ne HU7.out HG7.out (by decide)))
                       have HB9 := Lib.hid (HB7.out.grown hg HB7.out.size (fun q hq => (HU7.out.lt q hq).1))
                       have HX9 := Lib.hid ((hg.block _ (Array.getElem?_eq_some_iff.1 HX7.out).1 (own_blk_ne HU7.out HX7.out (by decide)).symm).trans HX7.out)
                       have HS9 := Lib.hid (show StO w9 w.heap.size w.heap.size _ _ _ from ⟨(hg.block _ (Array.getElem?_eq_some_iff.1 HS7.out.blk).1 (own_blk_ne HU7.out HS7.out.blk (by decide)).symm).trans HS7.out.blk, HS7.out.lo, HS7.out.f.kept hg (own_own_ne HU7.out HS7.out.f (by decide)), HS7.out.l.kept hg (own_own_ne HU7.out HS7.out.l (by decide))⟩)
                       clear hown hg)
          go_roundw
          case rel =>
            refine ⟨k + 1, by omega, by go_num, HB9.out, ?_, HX9.out, ?_, ?_⟩
            · rw [HRS.out]; exact ⟨_, _, HS9.out⟩
            · rw [HRS.out]; simp only [hpz]; exact HG9.out
            · rw [HRS.out]; simp only [List.length_append, List.flatMap_append]; exact HU9.out
          case measure => simp [intOf]; omega
      · have hke : k = n := by omega
        have HRe := Lib.hid (show runFrom s (evs.take k) = runFrom s evs by rw [List.take_of_length_le (by rw [← HN.out]; omega)])
        have hLen := runFrom_len s evs evs.length (Nat.le_refl _)
        rw [List.take_length] at hLen
        rw [HRe.out] at HS hog hou
        have hLen2 : (runFrom s evs).2.2.length = n := by rw [hLen, HN.out]
        have HL2 := Lib.hid hLen2
        obtain ⟨acc, hacc⟩ : ∃ acc, runFrom s evs = acc := ⟨_, rfl⟩
        rw [hacc] at HS hog hou HL2
        have s0 := HS.out.c0
        have s1 := HS.out.c1
        have x0 := cell_of_row wr (w.heap.size + 1) 0 _ _ _ hrx.out
        have x1 := cell_of_row wr (w.heap.size + 1) 1 _ _ _ hrx.out
        have x2 := frozen_of_row wr (w.heap.size + 1) 0 _ _ hrx.out
        have x3 := frozen_of_row wr (w.heap.size + 1) 1 _ _ hrx.out
        simp at x0 x1
        clear hLen hLen2
        go_wp2
        refine bodyPost_ret (v := .tuple #[.agg #[.slice A1 acc.1.files.length c1, .slice D1 acc.1.links.length d1], u9, .slice (some ⟨w.heap.size + 1 + 1, 0, none⟩) n n]) (by simp [results, Try.results22, go_sem, x0, x1]) rfl ?_
        rw [HR.out, hacc]
        have hog' := hog.out
        rw [pad_full HL2.out] at hog'
        have hne1 : w.heap.size + 1 + 1 ≠ w.heap.size + 1 := by omega
        have hf1 := own_blk_ne HS.out.f hrx.out (by decide)
        have hf2 := own_blk_ne HS.out.l hrx.out (by decide)
        have hf3 := own_blk_ne hou.out hrx.out (by decide)
        have hf4 := own_blk_ne hog' hrx.out (by decide)
        refine ⟨_, _, _, rfl, ⟨_, _, rfl, own_setNe (own_setNe HS.out.f hf1 _) hf1 _, own_setNe (own_setNe HS.out.l hf2 _) hf2 _⟩, own_setNe (own_setNe hou.out hf3 _) hf3 _, ?_, (HBr.out.setCell (by simp) _).setCell (by simp) _⟩
        rw [HL2.out]
        exact own_setNe (own_setNe hog' hf4 _) hf4 _
end Go.Proofs.Ytnbmiejjkkgckaa
/- Proved here: The combined contract of Run, and the contract of awake, for use in the proofs of the given statements; conditions stand in each theorem. -/
namespace Go.Proofs.Ytnbmiejjkkgckaa
open Go.RowKit

theorem run_prog (A D E : Option Addr) (c d ec : Nat) (s : StateR) (evs : List EventR) (n : Nat) (hn : n = evs.length) (w : World) (hnm : s.files.length ≤ maxLen) (hmm : s.links.length ≤ maxLen) (hen : n ≤ 65536)
   (hff : ∀ f ∈ s.files, f.fits) (hlf : ∀ l ∈ s.links, l.fits) (hes : ∀ e ∈ evs, e.fits)
   (hF : Sl FileR.cells 3 w A s.files) (hL : Sl LinkR.cells 4 w D s.links) (hE : Sl EventR.cells 5 w E evs) :
    Calls Try.prog 22 #[.agg #[.slice A s.files.length c, .slice D s.links.length d], .slice E n ec] w (RunPost w (runS s evs)) := by
  cases hv : validSt s.files s.links with
  | true => exact run_good A D E c d ec s evs n hn w hen (valid_fit hv hff hlf) hes hF hL hE hv
  | false => exact run_bad A D E c d ec s evs n hn w hnm hmm hen hff hlf hF hL hv

def bf : ByteArray := ⟨#[102]⟩
def ba : ByteArray := ⟨#[97]⟩
def awEvs : List EventR := [⟨1, ⟨#[]⟩, bf, ⟨#[]⟩, 7⟩, ⟨3, ba, bf, ⟨#[]⟩, 0⟩, ⟨2, ⟨#[]⟩, bf, ⟨#[]⟩, 0⟩, ⟨1, ⟨#[]⟩, bf, ⟨#[]⟩, 7⟩]
theorem aw_errs : (runS ⟨[], []⟩ awEvs).2.2.length = 4 := of_decide_eq_true (by kernel_rfl)
theorem aw_outs : (runS ⟨[], []⟩ awEvs).2.1.map (·.status) = [1, 3, 1] := of_decide_eq_true (by kernel_rfl)
theorem aw_stat : status (runS ⟨[], []⟩ awEvs).1.files (runS ⟨[], []⟩ awEvs).1.links ba = 1 := of_decide_eq_true (by kernel_rfl)

theorem aw_cells : (runS ⟨[], []⟩ awEvs).2.1.flatMap OutR.cells = [.string ba, .int .i64 1, .string ba, .int .i64 3, .string ba, .int .i64 1] := by kernel_rfl
theorem aw_olen : (runS ⟨[], []⟩ awEvs).2.1.length = 3 := of_decide_eq_true (by kernel_rfl)
theorem aw_flen : (runS ⟨[], []⟩ awEvs).1.files.length = 1 := of_decide_eq_true (by kernel_rfl)
theorem aw_llen : (runS ⟨[], []⟩ awEvs).1.links.length = 1 := of_decide_eq_true (by kernel_rfl)
theorem aw_sum : sumOf [] = 14695981039346656037 := rfl
theorem aw_st0 : status [] [] ba = 0 := of_decide_eq_true (by kernel_rfl)
def awCells : Array Value := #[.int .i64 1, .string ⟨#[]⟩, .string bf, .string ⟨#[]⟩, .int .u64 7, .int .i64 3, .string ba, .string bf, .string ⟨#[]⟩, .int .u64 0, .int .i64 2, .string ⟨#[]⟩, .string bf, .string ⟨#[]⟩, .int .u64 0, .int .i64 1, .string ⟨#[]⟩, .string bf, .string ⟨#[]⟩, .int .u64 7]
theorem aw_sl (w : World) : Sl EventR.cells 5 (w.alloc (.cells awCells 45)) (some ⟨w.heap.size, 0, none⟩) awEvs :=
  own_sl eventK (World.ownsRow_lit (base := 0) (e := 45) (size := 5) w awCells 4 (Nat.zero_le _) (by unfold maxLen; omega) rfl)
theorem aw_fits : ∀ e ∈ awEvs, e.fits := by
  intro e he
  have h : ∀ b : ByteArray, b.size ≤ 1 → b.size ≤ maxLen := fun b hb => Nat.le_trans hb (by unfold maxLen; omega)
  simp only [awEvs, List.mem_cons, List.not_mem_nil, or_false] at he
  rcases he with rfl | rfl | rfl | rfl <;> exact ⟨h _ (by decide), h _ (by decide), h _ (by decide)⟩
set_option maxRecDepth 100000 in
set_option maxHeartbeats 4000000 in
theorem awake_prog (w : World) : Calls Try.prog 11 #[] w fun e w' => e = .returned (.bool true) ∧ Below w.heap.size w w' := by
  have HRUN := Lib.hid (run_prog none none (some ⟨w.heap.size, 0, none⟩) 0 0 4 ⟨[], []⟩ awEvs 4 rfl (w.alloc (.cells awCells 45)) (Nat.zero_le _) (Nat.zero_le _) (by omega) (fun f hf => by cases hf) (fun f hf => by cases hf) aw_fits (Sl.nil _ _ _ _) (Sl.nil _ _ _ _) (aw_sl w))
  go_enter Try.func11, Try.ntmps11
  go_wp2_with fail
  refine HRUN.out.mono ?_
  rintro e w1 ⟨v, vo, ve, rfl, hos, hoo, hoe, hb1⟩
  obtain ⟨u1, u2, rfl, hu1, hu2⟩ := hos.ex
  rw [aw_olen, aw_cells] at hoo
  rw [aw_errs] at hoe
  obtain ⟨X1, e1, rfl, _⟩ := own_form hu1
  obtain ⟨X2, e2, rfl, _⟩ := own_form hu2
  obtain ⟨X3, e3, rfl, _⟩ := own_form hoo
  obtain ⟨X4, e4, rfl, _⟩ := own_form hoe
  obtain ⟨g, rfl, _, _⟩ := own_addr hoo (by omega)
  have k1 := hoo.cellAt 1 (by omega)
  have k3 := hoo.cellAt 3 (by omega)
  have k5 := hoo.cellAt 5 (by omega)
  simp at k1 k3 k5
  have HF := Lib.hid (own_sl fileK hu1)
  have HL := Lib.hid (own_sl linkK hu2)
  have HB := Lib.hid ((later_alloc w (.cells awCells 45)).trans (hb1.mono (by simp)))
  clear hu1 hu2 hoo hoe hos hb1
  have HAL := Lib.hid (later_alloc w1 (.cells #[.slice X1 (runS ⟨[], []⟩ awEvs).1.files.length e1, .slice X2 (runS ⟨[], []⟩ awEvs).1.links.length e2] 30))
  have hkl := cell_lt k1
  go_wp2_with fail
  refine (sum_prog none 0 0 [] _ rfl (by unfold maxLen; omega) (fun x hx => by cases hx) (Sl1.nil _ _ _)).mono ?_
  rintro e w2 ⟨rfl, rfl⟩
  rw [aw_sum]
  have n0 := cell_of_row _ w1.heap.size 0 _ _ _ (heap_alloc_new w1 (.cells #[.slice X1 (runS ⟨[], []⟩ awEvs).1.files.length e1, .slice X2 (runS ⟨[], []⟩ awEvs).1.links.length e2] 30))
  have n1 := cell_of_row _ w1.heap.size 1 _ _ _ (heap_alloc_new w1 (.cells #[.slice X1 (runS ⟨[], []⟩ awEvs).1.files.length e1, .slice X2 (runS ⟨[], []⟩ awEvs).1.links.length e2] 30))
  have l1 := (HAL.out.cell hkl).trans k1
  have l3 := (HAL.out.cell (cell_lt k3)).trans k3
  have l5 := (HAL.out.cell (cell_lt k5)).trans k5
  have HB2 := Lib.hid (HB.out.trans (HAL.out.mono HB.out.size))
  have HF2 := Lib.hid (HF.out.later HAL.out)
  have HL2 := Lib.hid (HL.out.later HAL.out)
  go_wp2_with fail
  generalize w1.alloc (.cells #[.slice X1 (runS ⟨[], []⟩ awEvs).1.files.length e1, .slice X2 (runS ⟨[], []⟩ awEvs).1.links.length e2] 30) = w2 at *
  simp at n0 n1
  refine (status_prog none none 0 0 0 0 [] [] ba _ rfl rfl (by unfold maxLen; omega) (by unfold maxLen; omega) (Sl.nil _ _ _ _) (Sl.nil _ _ _ _)).mono ?_
  rintro e w3 ⟨rfl, hb3⟩
  rw [aw_st0]
  have m0 := (hb3.cell (cell_lt n0)).trans n0
  have m1 := (hb3.cell (cell_lt n1)).trans n1
  have l1' := (hb3.cell (cell_lt l1)).trans l1
  have l3' := (hb3.cell (cell_lt l3)).trans l3
  have l5' := (hb3.cell (cell_lt l5)).trans l5
  have HB3 := Lib.hid (HB2.out.trans (hb3.mono HB2.out.size))
  have HF3 := Lib.hid (HF2.out.later hb3)
  have HL3 := Lib.hid (HL2.out.later hb3)
  clear hb3 n0 n1 k1 k3 k5 l1 l3 l5
  go_wp2_with fail
  refine (status_prog X1 X2 _ e1 _ e2 _ _ ba _ rfl rfl (by rw [aw_flen]; unfold maxLen; omega) (by rw [aw_llen]; unfold maxLen; omega) HF3.out HL3.out).mono ?_
  rintro e w4 ⟨rfl, hb4⟩
  rw [aw_stat]
  have l1 := (hb4.cell (cell_lt l1')).trans l1'
  have l3 := (hb4.cell (cell_lt l3')).trans l3'
  have l5 := (hb4.cell (cell_lt l5')).trans l5'
  have HB4 := Lib.hid (HB3.out.trans (hb4.mono HB3.out.size))
  clear hb4 l1' l3' l5'
  go_wp2
  go_ret
  exact ⟨rfl, HB4.out⟩
end Go.Proofs.Ytnbmiejjkkgckaa
