/- Proved here: Contracts of the two functions Step, for use in the proofs of the given statements; conditions stand in each theorem. -/
import Derived.Test.YtnbmiejjkkgckaaZG
import Derived.Test.YtnbmiejjkkgckaaZB
import Derived.Test.YtnbmiejjkkgckaaZD
import Derived.Test.YtnbmiejjkkgckaaZE
set_option linter.unusedSimpArgs false
set_option linter.unusedVariables false
namespace Go.Proofs.Ytnbmiejjkkgckaa
open Go.RowKit

theorem validEv_kind {e : EventR} (h : validEv e = true) : e.kind = 1 ∨ e.kind = 2 ∨ e.kind = 3 ∨ e.kind = 4 ∨ e.kind = 5 := by
  unfold validEv at h
  by_cases h1 : e.kind = 1
  · exact .inl h1
  by_cases h2 : e.kind = 2
  · exact .inr (.inl h2)
  by_cases h3 : e.kind = 3
  · exact .inr (.inr (.inl h3))
  by_cases h4 : e.kind = 4
  · exact .inr (.inr (.inr (.inl h4)))
  by_cases h5 : e.kind = 5
  · exact .inr (.inr (.inr (.inr h5)))
  simp [h1, h2, h3, h4, h5] at h
theorem change_any (w : World) (B bs : Nat) (v1 v2 : Value) (s : StateR) (k : Int) (m f p : ByteArray) (q : Int) (h : StO w B bs v1 v2 s) (hm : s.files.length ≤ 32) (hml : s.links.length ≤ 16) (hB : B ≤ w.heap.size) (hk : (⟨k, m, f, p, q⟩ : EventR).kind = 1 ∨ (⟨k, m, f, p, q⟩ : EventR).kind = 2 ∨ (⟨k, m, f, p, q⟩ : EventR).kind = 3 ∨ (⟨k, m, f, p, q⟩ : EventR).kind = 4 ∨ (⟨k, m, f, p, q⟩ : EventR).kind = 5) :
    Calls Try.prog 38 #[.pointer (some ⟨bs, 0, none⟩), .agg #[.int .i64 k, .string m, .string f, .string p, .int .u64 q]] w (StPost w B bs (performS s ⟨k, m, f, p, q⟩)) := by
  rcases hk with hk | hk | hk | hk | hk <;> (have hk' : k = _ := hk; subst hk')
  · exact change_1 w B bs v1 v2 s m f p q h hm hml hB
  · exact change_2 w B bs v1 v2 s m f p q h hm hml hB
  · exact change_3 w B bs v1 v2 s m f p q h hm hml hB
  · exact change_4 w B bs v1 v2 s m f p q h hm hml hB
  · exact change_5 w B bs v1 v2 s m f p q h hm hml hB

set_option maxRecDepth 100000 in
set_option maxHeartbeats 8000000 in
theorem step_ref_good (A D : Option Addr) (c d : Nat) (s : StateR) (k : Int) (m f p : ByteArray) (q : Int) (w : World) (hnm : s.files.length ≤ 65536) (hmm : s.links.length ≤ 65536)
   (hm : m.size ≤ maxLen) (hf : f.size ≤ maxLen) (hp : p.size ≤ maxLen) (hff : ∀ f ∈ s.files, f.fits) (hlf : ∀ l ∈ s.links, l.fits)
   (hF : Sl FileR.cells 3 w A s.files) (hL : Sl LinkR.cells 4 w D s.links) (hv : validSt s.files s.links = true) (he : validEv ⟨k, m, f, p, q⟩ = true) :
    Calls Try.prog 19 #[.agg #[.slice A s.files.length c, .slice D s.links.length d], .agg #[.int .i64 k, .string m, .string f, .string p, .int .u64 q]] w (StepPost w (stepS s ⟨k, m, f, p, q⟩)) := by
  have HF := Lib.hid hF; have HL := Lib.hid hL; have HFF := Lib.hid hff; have HLF := Lib.hid hlf
  have HV := Lib.hid hv; have HE := Lib.hid he
  clear hF hL hff hlf hv he
  have hk15 := Lib.hid (validEv_kind HE.out)
  go_enter Try.func19, Try.ntmps19
  go_wp2_with fail
  refine (valid_ref _ _ _ _ _ _ s.files s.links _ rfl rfl (by unfold maxLen; omega) (by unfold maxLen; omega) (((HF.out.alloc _).alloc _).alloc _) (((HL.out.alloc _).alloc _).alloc _) HFF.out HLF.out true HV.out).mono ?_
  rintro e w1 ⟨rfl, hb1⟩
  have hbb : Below w.heap.size w w1 := (((later_alloc _ _).alloc (by simp) _).alloc (by simp; omega) _).trans (hb1.mono (by simp; omega))
  have r0 := hb1.cell (p := ⟨w.heap.size, 0, none⟩) (by simp; omega)
  have r1 := hb1.cell (p := ⟨w.heap.size, 1, none⟩) (by simp; omega)
  have z0 := hb1.cell (p := ⟨w.heap.size + 1, 0, none⟩) (by simp)
  have z1 := hb1.cell (p := ⟨w.heap.size + 1, 1, none⟩) (by simp)
  have z2 := hb1.cell (p := ⟨w.heap.size + 1, 2, none⟩) (by simp)
  have z3 := hb1.cell (p := ⟨w.heap.size + 1, 3, none⟩) (by simp)
  have z4 := hb1.cell (p := ⟨w.heap.size + 1, 4, none⟩) (by simp)
  have x0 := hb1.cell (p := ⟨w.heap.size + 2, 0, none⟩) (by simp)
  have x1 := hb1.cell (p := ⟨w.heap.size + 2, 1, none⟩) (by simp)
  have y0 := hb1.frozen (p := ⟨w.heap.size + 2, 0, none⟩) (by simp)
  have y1 := hb1.frozen (p := ⟨w.heap.size + 2, 1, none⟩) (by simp)
  simp [go_sem] at x0 x1 y0 y1 z0 z1 z2 z3 z4 r0 r1
  go_wp2_with fail
  refine (event_ref _ _ _ _ _ _ hm hf hp true HE.out).mono ?_
  rintro e w2 ⟨rfl, hb2⟩
  have hs2 := cell_lt x0
  have X0 := Lib.hid ((hb2.cell (cell_lt x0)).trans x0)
  have X1 := Lib.hid ((hb2.cell (cell_lt x1)).trans x1)
  have Y0 := Lib.hid ((hb2.frozen (p := ⟨w.heap.size + 2, 0, none⟩) hs2).trans y0)
  have Y1 := Lib.hid ((hb2.frozen (p := ⟨w.heap.size + 2, 1, none⟩) hs2).trans y1)
  have Z0 := Lib.hid ((hb2.cell (cell_lt z0)).trans z0)
  have Z1 := Lib.hid ((hb2.cell (cell_lt z1)).trans z1)
  have Z2 := Lib.hid ((hb2.cell (cell_lt z2)).trans z2)
  have Z3 := Lib.hid ((hb2.cell (cell_lt z3)).trans z3)
  have Z4 := Lib.hid ((hb2.cell (cell_lt z4)).trans z4)
  have R0 := (hb2.cell (cell_lt r0)).trans r0
  have R1 := (hb2.cell (cell_lt r1)).trans r1
  clear x0 x1 y0 y1 z0 z1 z2 z3 z4 r0 r1
  have HBB := Lib.hid (hbb.trans (hb2.mono hbb.size))
  clear hbb hb1 hb2
  obtain ⟨w3, hw3⟩ : ∃ w3, w3 = w2 := ⟨_, rfl⟩
  rw [← hw3] at X0 X1 Y0 Y1 Z0 Z1 Z2 Z3 Z4 R0 R1 HBB ⊢
  clear hw3
  have HF3 := Lib.hid (HF.out.later HBB.out)
  have HL3 := Lib.hid (HL.out.later HBB.out)
  go_upto_region 3 with fail
  go_cut [7] (fun s7 wx => ∃ bs v1 v2, s7 = .pointer (some ⟨bs, 0, none⟩) ∧ StO wx w3.heap.size bs v1 v2 s ∧ Below w3.heap.size w3 wx)
  case first =>
    have g0 := cell_later' (w := w3.drew) R0
    have g1 := cell_later' (w := w3.drew) R1
    refine wp_region_qt [false, true, true, false, false, true, true, false, false, false, false] [10] (by kernel_rfl) (by kernel_rfl) (by kernel_rfl) rfl ?_ (by decide)
    dsimp only [pickQ]
    repeat (go_big_quiet_step (fail))
    refine wpQuiet_nil ?_
    clear g0 g1 R0 R1
    have hb4 : Below w3.heap.size w3 w3.drew := (Below.refl _ _).drew
    generalize w3.drew = w4 at *
    obtain ⟨i0, hi0, hz0, hz1, hz2⟩ := info_parts Try.info37
    obtain ⟨j0, hj0, gz0, gz1, gz2⟩ := info_parts Try.info39
    refine tail_all [0, 4, 9] rfl (by kernel_rfl) ⟨⟨_, rfl, rfl, rfl, ?_⟩, ⟨_, rfl, rfl, rfl, ?_⟩, ⟨_, rfl, rfl, rfl, ?_⟩, trivial⟩
    · intro K hK
      go_simp
      refine hK _ _ (later_any _) ?_
      clear hK K
      have hb0 : Below w4.heap.size w4 ((w4).alloc (.cells #[] 37)) := later_alloc _ _
      have kF_0 : ((w4).alloc (.cells #[] 37)).heap[w4.heap.size]? = some (.cells #[] 37 (0, 0)) := heap_alloc_new _ _
      have later0 := Below.trans hb4 (Below.mono hb0 hb4.size)
      have size0 := later0.size
      generalize (w4).alloc (.cells #[] 37) = u0 at *
      refine tail_all [3, 4, 9] rfl (by kernel_rfl) ⟨⟨_, rfl, rfl, rfl, ?_⟩, ⟨_, rfl, rfl, rfl, ?_⟩, ⟨_, rfl, rfl, rfl, ?_⟩, trivial⟩
      · intro K hK
        refine wp_append_clone (.tmp 21) (.tmp 23) 27 rfl fileK (by omega) w3.heap.size 37 i0 _ 32 Try.underlying27 hi0 hz0 hz1 hz2 rfl w4.heap.size rfl kF_0 hb4.size size0 _ _ _ s.files rfl rfl (HF3.out.later later0) hnm (by omega) ?_
        intro v1 u1 h1_1 hb1
        obtain ⟨A1, c1, rfl, _⟩ := own_form h1_1
        have kF_1 := (hb1.block _ (Array.getElem?_eq_some_iff.1 kF_0).1).trans kF_0
        have later1 := Below.trans later0 (Below.mono hb1 size0)
        have size1 := later1.size
        refine hK _ _ hb1 ?_
        clear hK K
        refine tail_all [4, 9] rfl (by kernel_rfl) ⟨⟨_, rfl, rfl, rfl, ?_⟩, ⟨_, rfl, rfl, rfl, ?_⟩, trivial⟩
        · intro K hK
          go_simp
          refine hK _ _ (later_any _) ?_
          clear hK K
          have hb2 : Below u1.heap.size u1 ((u1).alloc (.cells #[] 39)) := later_alloc _ _
          have kL_2 : ((u1).alloc (.cells #[] 39)).heap[u1.heap.size]? = some (.cells #[] 39 (0, 0)) := heap_alloc_new _ _
          have h1_2 := own_later h1_1 hb2
          have kF_2 := (hb2.block _ (Array.getElem?_eq_some_iff.1 kF_1).1).trans kF_1
          have later2 := Below.trans later1 (Below.mono hb2 size1)
          have size2 := later2.size
          generalize (u1).alloc (.cells #[] 39) = u2 at *
          refine tail_all [7, 9] rfl (by kernel_rfl) ⟨⟨_, rfl, rfl, rfl, ?_⟩, ⟨_, rfl, rfl, rfl, ?_⟩, trivial⟩
          · intro K hK
            refine wp_append_clone (.tmp 25) (.tmp 27) 28 rfl linkK (by omega) w3.heap.size 39 j0 _ 56 Try.underlying28 hj0 gz0 gz1 gz2 rfl u1.heap.size rfl kL_2 size1 size2 _ _ _ s.links rfl rfl (HL3.out.later later2) hmm (by omega) ?_
            intro v3 u3 h2_3 hb3
            obtain ⟨A3, c3, rfl, _⟩ := own_form h2_3
            have h1_3 := own_later h1_2 hb3
            have kF_3 := (hb3.block _ (Array.getElem?_eq_some_iff.1 kF_2).1).trans kF_2
            have kL_3 := (hb3.block _ (Array.getElem?_eq_some_iff.1 kL_2).1).trans kL_2
            have later3 := Below.trans later2 (Below.mono hb3 size2)
            have size3 := later3.size
            refine hK _ _ hb3 ?_
            clear hK K
            refine tail_all [8, 9] rfl (by kernel_rfl) ⟨⟨_, rfl, rfl, rfl, ?_⟩, ⟨_, rfl, rfl, rfl, ?_⟩, trivial⟩
            · intro K hK
              go_simp
              refine hK _ _ (Below.refl _ _) ?_
              clear hK K
              refine tail_all [9] rfl (by kernel_rfl) ⟨⟨_, rfl, rfl, rfl, ?_⟩, trivial⟩
              intro K hK
              go_simp
              refine hK _ _ (later_any _) ?_
              clear hK K
              have hb5 : Below u3.heap.size u3 ((u3).alloc (.cells #[.slice none 0 0, .slice none 0 0] 30)) := later_alloc _ _
              have hbs_5 : ((u3).alloc (.cells #[.slice none 0 0, .slice none 0 0] 30)).heap[u3.heap.size]? = some (.cells #[.slice none 0 0, .slice none 0 0] 30 (0, 0)) := heap_alloc_new _ _
              have h1_5 := own_later h1_3 hb5
              have h2_5 := own_later h2_3 hb5
              have kF_5 := (hb5.block _ (Array.getElem?_eq_some_iff.1 kF_3).1).trans kF_3
              have kL_5 := (hb5.block _ (Array.getElem?_eq_some_iff.1 kL_3).1).trans kL_3
              have later5 := Below.trans later3 (Below.mono hb5 size3)
              have size5 := later5.size
              generalize (u3).alloc (.cells #[.slice none 0 0, .slice none 0 0] 30) = u5 at *
              refine tail_loud (i := 10) (by kernel_rfl) rfl rfl rfl ?_
              intro K hK
              have q0 := cell_of_row u5 u3.heap.size 0 _ _ _ hbs_5
              have q1 := cell_of_row u5 u3.heap.size 1 _ _ _ hbs_5
              have q2 := frozen_of_row u5 u3.heap.size 0 _ _ hbs_5
              have q3 := frozen_of_row u5 u3.heap.size 1 _ _ hbs_5
              simp at q0 q1
              go_simp
              refine hK _ _ ?_
              clear hK K
              refine tail_done (by kernel_rfl) (NoPanic.normal ?_)
              go_wp2_with fail
              go_meet
              exact ⟨u3.heap.size, _, _, rfl, st_made hbs_5 size3 h1_5 h2_5, later5.setCell size3 _ |>.setCell size3 _⟩
            · intro K hK
              go_simp
              refine hK _ _ (later_any _) ?_
              clear hK K
              have hb6 : Below u3.heap.size u3 ((u3).alloc (.cells #[.slice none 0 0, .slice none 0 0] 30)) := later_alloc _ _
              have hbs_6 : ((u3).alloc (.cells #[.slice none 0 0, .slice none 0 0] 30)).heap[u3.heap.size]? = some (.cells #[.slice none 0 0, .slice none 0 0] 30 (0, 0)) := heap_alloc_new _ _
              have h1_6 := own_later h1_3 hb6
              have h2_6 := own_later h2_3 hb6
              have kF_6 := (hb6.block _ (Array.getElem?_eq_some_iff.1 kF_3).1).trans kF_3
              have kL_6 := (hb6.block _ (Array.getElem?_eq_some_iff.1 kL_3).1).trans kL_3
              have later6 := Below.trans later3 (Below.mono hb6 size3)
              have size6 := later6.size
              generalize (u3).alloc (.cells #[.slice none 0 0, .slice none 0 0] 30) = u6 at *
              refine tail_all [8] rfl (by kernel_rfl) ⟨⟨_, rfl, rfl, rfl, ?_⟩, trivial⟩
              intro K hK
              go_simp
              refine hK _ _ (Below.refl _ _) ?_
              clear hK K
              refine tail_loud (i := 10) (by kernel_rfl) rfl rfl rfl ?_
              intro K hK
              have q0 := cell_of_row u6 u3.heap.size 0 _ _ _ hbs_6
              have q1 := cell_of_row u6 u3.heap.size 1 _ _ _ hbs_6
              have q2 := frozen_of_row u6 u3.heap.size 0 _ _ hbs_6
              have q3 := frozen_of_row u6 u3.heap.size 1 _ _ hbs_6
              simp at q0 q1
              go_simp
              refine hK _ _ ?_
              clear hK K
              refine tail_done (by kernel_rfl) (NoPanic.normal ?_)
              go_wp2_with fail
              go_meet
              exact ⟨u3.heap.size, _, _, rfl, st_made hbs_6 size3 h1_6 h2_6, later6.setCell size3 _ |>.setCell size3 _⟩
          · intro K hK
            go_simp
            refine hK _ _ (later_any _) ?_
            clear hK K
            have hb8 : Below u2.heap.size u2 ((u2).alloc (.cells #[.slice none 0 0, .slice none 0 0] 30)) := later_alloc _ _
            have hbs_8 : ((u2).alloc (.cells #[.slice none 0 0, .slice none 0 0] 30)).heap[u2.heap.size]? = some (.cells #[.slice none 0 0, .slice none 0 0] 30 (0, 0)) := heap_alloc_new _ _
            have h1_8 := own_later h1_2 hb8
            have kF_8 := (hb8.block _ (Array.getElem?_eq_some_iff.1 kF_2).1).trans kF_2
            have kL_8 := (hb8.block _ (Array.getElem?_eq_some_iff.1 kL_2).1).trans kL_2
            have later8 := Below.trans later2 (Below.mono hb8 size2)
            have size8 := later8.size
            generalize (u2).alloc (.cells #[.slice none 0 0, .slice none 0 0] 30) = u8 at *
            refine tail_all [7] rfl (by kernel_rfl) ⟨⟨_, rfl, rfl, rfl, ?_⟩, trivial⟩
            intro K hK
            refine wp_append_clone (.tmp 25) (.tmp 27) 28 rfl linkK (by omega) w3.heap.size 39 j0 _ 56 Try.underlying28 hj0 gz0 gz1 gz2 rfl u1.heap.size rfl kL_8 size1 size8 _ _ _ s.links rfl rfl (HL3.out.later later8) hmm (by omega) ?_
            intro v9 u9 h2_9 hb9
            obtain ⟨A9, c9, rfl, _⟩ := own_form h2_9
            have h1_9 := own_later h1_8 hb9
            have hbs_9 := (hb9.block _ (Array.getElem?_eq_some_iff.1 hbs_8).1).trans hbs_8
            have kF_9 := (hb9.block _ (Array.getElem?_eq_some_iff.1 kF_8).1).trans kF_8
            have kL_9 := (hb9.block _ (Array.getElem?_eq_some_iff.1 kL_8).1).trans kL_8
            have later9 := Below.trans later8 (Below.mono hb9 size8)
            have size9 := later9.size
            refine hK _ _ hb9 ?_
            clear hK K
            refine tail_all [8] rfl (by kernel_rfl) ⟨⟨_, rfl, rfl, rfl, ?_⟩, trivial⟩
            intro K hK
            go_simp
            refine hK _ _ (Below.refl _ _) ?_
            clear hK K
            refine tail_loud (i := 10) (by kernel_rfl) rfl rfl rfl ?_
            intro K hK
            have q0 := cell_of_row u9 u2.heap.size 0 _ _ _ hbs_9
            have q1 := cell_of_row u9 u2.heap.size 1 _ _ _ hbs_9
            have q2 := frozen_of_row u9 u2.heap.size 0 _ _ hbs_9
            have q3 := frozen_of_row u9 u2.heap.size 1 _ _ hbs_9
            simp at q0 q1
            go_simp
            refine hK _ _ ?_
            clear hK K
            refine tail_done (by kernel_rfl) (NoPanic.normal ?_)
            go_wp2_with fail
            go_meet
            exact ⟨u2.heap.size, _, _, rfl, st_made hbs_9 size2 h1_9 h2_9, later9.setCell size2 _ |>.setCell size2 _⟩
        · intro K hK
          go_simp
          refine hK _ _ (later_any _) ?_
          clear hK K
          have hb11 : Below u1.heap.size u1 ((u1).alloc (.cells #[.slice none 0 0, .slice none 0 0] 30)) := later_alloc _ _
          have hbs_11 : ((u1).alloc (.cells #[.slice none 0 0, .slice none 0 0] 30)).heap[u1.heap.size]? = some (.cells #[.slice none 0 0, .slice none 0 0] 30 (0, 0)) := heap_alloc_new _ _
          have h1_11 := own_later h1_1 hb11
          have kF_11 := (hb11.block _ (Array.getElem?_eq_some_iff.1 kF_1).1).trans kF_1
          have later11 := Below.trans later1 (Below.mono hb11 size1)
          have size11 := later11.size
          generalize (u1).alloc (.cells #[.slice none 0 0, .slice none 0 0] 30) = u11 at *
          refine tail_all [4] rfl (by kernel_rfl) ⟨⟨_, rfl, rfl, rfl, ?_⟩, trivial⟩
          intro K hK
          go_simp
          refine hK _ _ (later_any _) ?_
          clear hK K
          have hb12 : Below u11.heap.size u11 ((u11).alloc (.cells #[] 39)) := later_alloc _ _
          have kL_12 : ((u11).alloc (.cells #[] 39)).heap[u11.heap.size]? = some (.cells #[] 39 (0, 0)) := heap_alloc_new _ _
          have h1_12 := own_later h1_11 hb12
          have hbs_12 := (hb12.block _ (Array.getElem?_eq_some_iff.1 hbs_11).1).trans hbs_11
          have kF_12 := (hb12.block _ (Array.getElem?_eq_some_iff.1 kF_11).1).trans kF_11
          have later12 := Below.trans later11 (Below.mono hb12 size11)
          have size12 := later12.size
          generalize (u11).alloc (.cells #[] 39) = u12 at *
          refine tail_all [7] rfl (by kernel_rfl) ⟨⟨_, rfl, rfl, rfl, ?_⟩, trivial⟩
          intro K hK
          refine wp_append_clone (.tmp 25) (.tmp 27) 28 rfl linkK (by omega) w3.heap.size 39 j0 _ 56 Try.underlying28 hj0 gz0 gz1 gz2 rfl u11.heap.size rfl kL_12 size11 size12 _ _ _ s.links rfl rfl (HL3.out.later later12) hmm (by omega) ?_
          intro v13 u13 h2_13 hb13
          obtain ⟨A13, c13, rfl, _⟩ := own_form h2_13
          have h1_13 := own_later h1_12 hb13
          have hbs_13 := (hb13.block _ (Array.getElem?_eq_some_iff.1 hbs_12).1).trans hbs_12
          have kF_13 := (hb13.block _ (Array.getElem?_eq_some_iff.1 kF_12).1).trans kF_12
          have kL_13 := (hb13.block _ (Array.getElem?_eq_some_iff.1 kL_12).1).trans kL_12
          have later13 := Below.trans later12 (Below.mono hb13 size12)
          have size13 := later13.size
          refine hK _ _ hb13 ?_
          clear hK K
          refine tail_all [8] rfl (by kernel_rfl) ⟨⟨_, rfl, rfl, rfl, ?_⟩, trivial⟩
          intro K hK
          go_simp
          refine hK _ _ (Below.refl _ _) ?_
          clear hK K
          refine tail_loud (i := 10) (by kernel_rfl) rfl rfl rfl ?_
          intro K hK
          have q0 := cell_of_row u13 u1.heap.size 0 _ _ _ hbs_13
          have q1 := cell_of_row u13 u1.heap.size 1 _ _ _ hbs_13
          have q2 := frozen_of_row u13 u1.heap.size 0 _ _ hbs_13
          have q3 := frozen_of_row u13 u1.heap.size 1 _ _ hbs_13
          simp at q0 q1
          go_simp
          refine hK _ _ ?_
          clear hK K
          refine tail_done (by kernel_rfl) (NoPanic.normal ?_)
          go_wp2_with fail
          go_meet
          exact ⟨u1.heap.size, _, _, rfl, st_made hbs_13 size1 h1_13 h2_13, later13.setCell size1 _ |>.setCell size1 _⟩
      · intro K hK
        go_simp
        refine hK _ _ (later_any _) ?_
        clear hK K
        have hb15 : Below u0.heap.size u0 ((u0).alloc (.cells #[] 39)) := later_alloc _ _
        have kL_15 : ((u0).alloc (.cells #[] 39)).heap[u0.heap.size]? = some (.cells #[] 39 (0, 0)) := heap_alloc_new _ _
        have kF_15 := (hb15.block _ (Array.getElem?_eq_some_iff.1 kF_0).1).trans kF_0
        have later15 := Below.trans later0 (Below.mono hb15 size0)
        have size15 := later15.size
        generalize (u0).alloc (.cells #[] 39) = u15 at *
        refine tail_all [3, 9] rfl (by kernel_rfl) ⟨⟨_, rfl, rfl, rfl, ?_⟩, ⟨_, rfl, rfl, rfl, ?_⟩, trivial⟩
        · intro K hK
          refine wp_append_clone (.tmp 21) (.tmp 23) 27 rfl fileK (by omega) w3.heap.size 37 i0 _ 32 Try.underlying27 hi0 hz0 hz1 hz2 rfl w4.heap.size rfl kF_15 hb4.size size15 _ _ _ s.files rfl rfl (HF3.out.later later15) hnm (by omega) ?_
          intro v16 u16 h1_16 hb16
          obtain ⟨A16, c16, rfl, _⟩ := own_form h1_16
          have kF_16 := (hb16.block _ (Array.getElem?_eq_some_iff.1 kF_15).1).trans kF_15
          have kL_16 := (hb16.block _ (Array.getElem?_eq_some_iff.1 kL_15).1).trans kL_15
          have later16 := Below.trans later15 (Below.mono hb16 size15)
          have size16 := later16.size
          refine hK _ _ hb16 ?_
          clear hK K
          refine tail_all [7, 9] rfl (by kernel_rfl) ⟨⟨_, rfl, rfl, rfl, ?_⟩, ⟨_, rfl, rfl, rfl, ?_⟩, trivial⟩
          · intro K hK
            refine wp_append_clone (.tmp 25) (.tmp 27) 28 rfl linkK (by omega) w3.heap.size 39 j0 _ 56 Try.underlying28 hj0 gz0 gz1 gz2 rfl u0.heap.size rfl kL_16 size0 size16 _ _ _ s.links rfl rfl (HL3.out.later later16) hmm (by omega) ?_
            intro v17 u17 h2_17 hb17
            obtain ⟨A17, c17, rfl, _⟩ := own_form h2_17
            have h1_17 := own_later h1_16 hb17
            have kF_17 := (hb17.block _ (Array.getElem?_eq_some_iff.1 kF_16).1).trans kF_16
            have kL_17 := (hb17.block _ (Array.getElem?_eq_some_iff.1 kL_16).1).trans kL_16
            have later17 := Below.trans later16 (Below.mono hb17 size16)
            have size17 := later17.size
            refine hK _ _ hb17 ?_
            clear hK K
            refine tail_all [8, 9] rfl (by kernel_rfl) ⟨⟨_, rfl, rfl, rfl, ?_⟩, ⟨_, rfl, rfl, rfl, ?_⟩, trivial⟩
            · intro K hK
              go_simp
              refine hK _ _ (Below.refl _ _) ?_
              clear hK K
              refine tail_all [9] rfl (by kernel_rfl) ⟨⟨_, rfl, rfl, rfl, ?_⟩, trivial⟩
              intro K hK
              go_simp
              refine hK _ _ (later_any _) ?_
              clear hK K
              have hb19 : Below u17.heap.size u17 ((u17).alloc (.cells #[.slice none 0 0, .slice none 0 0] 30)) := later_alloc _ _
              have hbs_19 : ((u17).alloc (.cells #[.slice none 0 0, .slice none 0 0] 30)).heap[u17.heap.size]? = some (.cells #[.slice none 0 0, .slice none 0 0] 30 (0, 0)) := heap_alloc_new _ _
              have h1_19 := own_later h1_17 hb19
              have h2_19 := own_later h2_17 hb19
              have kF_19 := (hb19.block _ (Array.getElem?_eq_some_iff.1 kF_17).1).trans kF_17
              have kL_19 := (hb19.block _ (Array.getElem?_eq_some_iff.1 kL_17).1).trans kL_17
              have later19 := Below.trans later17 (Below.mono hb19 size17)
              have size19 := later19.size
              generalize (u17).alloc (.cells #[.slice none 0 0, .slice none 0 0] 30) = u19 at *
              refine tail_loud (i := 10) (by kernel_rfl) rfl rfl rfl ?_
              intro K hK
              have q0 := cell_of_row u19 u17.heap.size 0 _ _ _ hbs_19
              have q1 := cell_of_row u19 u17.heap.size 1 _ _ _ hbs_19
              have q2 := frozen_of_row u19 u17.heap.size 0 _ _ hbs_19
              have q3 := frozen_of_row u19 u17.heap.size 1 _ _ hbs_19
              simp at q0 q1
              go_simp
              refine hK _ _ ?_
              clear hK K
              refine tail_done (by kernel_rfl) (NoPanic.normal ?_)
              go_wp2_with fail
              go_meet
              exact ⟨u17.heap.size, _, _, rfl, st_made hbs_19 size17 h1_19 h2_19, later19.setCell size17 _ |>.setCell size17 _⟩
            · intro K hK
              go_simp
              refine hK _ _ (later_any _) ?_
              clear hK K
              have hb20 : Below u17.heap.size u17 ((u17).alloc (.cells #[.slice none 0 0, .slice none 0 0] 30)) := later_alloc _ _
              have hbs_20 : ((u17).alloc (.cells #[.slice none 0 0, .slice none 0 0] 30)).heap[u17.heap.size]? = some (.cells #[.slice none 0 0, .slice none 0 0] 30 (0, 0)) := heap_alloc_new _ _
              have h1_20 := own_later h1_17 hb20
              have h2_20 := own_later h2_17 hb20
              have kF_20 := (hb20.block _ (Array.getElem?_eq_some_iff.1 kF_17).1).trans kF_17
              have kL_20 := (hb20.block _ (Array.getElem?_eq_some_iff.1 kL_17).1).trans kL_17
              have later20 := Below.trans later17 (Below.mono hb20 size17)
              have size20 := later20.size
              generalize (u17).alloc (.cells #[.slice none 0 0, .slice none 0 0] 30) = u20 at *
              refine tail_all [8] rfl (by kernel_rfl) ⟨⟨_, rfl, rfl, rfl, ?_⟩, trivial⟩
              intro K hK
              go_simp
              refine hK _ _ (Below.refl _ _) ?_
              clear hK K
              refine tail_loud (i := 10) (by kernel_rfl) rfl rfl rfl ?_
              intro K hK
              have q0 := cell_of_row u20 u17.heap.size 0 _ _ _ hbs_20
              have q1 := cell_of_row u20 u17.heap.size 1 _ _ _ hbs_20
              have q2 := frozen_of_row u20 u17.heap.size 0 _ _ hbs_20
              have q3 := frozen_of_row u20 u17.heap.size 1 _ _ hbs_20
              simp at q0 q1
              go_simp
              refine hK _ _ ?_
              clear hK K
              refine tail_done (by kernel_rfl) (NoPanic.normal ?_)
              go_wp2_with fail
              go_meet
              exact ⟨u17.heap.size, _, _, rfl, st_made hbs_20 size17 h1_20 h2_20, later20.setCell size17 _ |>.setCell size17 _⟩
          · intro K hK
            go_simp
            refine hK _ _ (later_any _) ?_
            clear hK K
            have hb22 : Below u16.heap.size u16 ((u16).alloc (.cells #[.slice none 0 0, .slice none 0 0] 30)) := later_alloc _ _
            have hbs_22 : ((u16).alloc (.cells #[.slice none 0 0, .slice none 0 0] 30)).heap[u16.heap.size]? = some (.cells #[.slice none 0 0, .slice none 0 0] 30 (0, 0)) := heap_alloc_new _ _
            have h1_22 := own_later h1_16 hb22
            have kF_22 := (hb22.block _ (Array.getElem?_eq_some_iff.1 kF_16).1).trans kF_16
            have kL_22 := (hb22.block _ (Array.getElem?_eq_some_iff.1 kL_16).1).trans kL_16
            have later22 := Below.trans later16 (Below.mono hb22 size16)
            have size22 := later22.size
            generalize (u16).alloc (.cells #[.slice none 0 0, .slice none 0 0] 30) = u22 at *
            refine tail_all [7] rfl (by kernel_rfl) ⟨⟨_, rfl, rfl, rfl, ?_⟩, trivial⟩
            intro K hK
            refine wp_append_clone (.tmp 25) (.tmp 27) 28 rfl linkK (by omega) w3.heap.size 39 j0 _ 56 Try.underlying28 hj0 gz0 gz1 gz2 rfl u0.heap.size rfl kL_22 size0 size22 _ _ _ s.links rfl rfl (HL3.out.later later22) hmm (by omega) ?_
            intro v23 u23 h2_23 hb23
            obtain ⟨A23, c23, rfl, _⟩ := own_form h2_23
            have h1_23 := own_later h1_22 hb23
            have hbs_23 := (hb23.block _ (Array.getElem?_eq_some_iff.1 hbs_22).1).trans hbs_22
            have kF_23 := (hb23.block _ (Array.getElem?_eq_some_iff.1 kF_22).1).trans kF_22
            have kL_23 := (hb23.block _ (Array.getElem?_eq_some_iff.1 kL_22).1).trans kL_22
            have later23 := Below.trans later22 (Below.mono hb23 size22)
            have size23 := later23.size
            refine hK _ _ hb23 ?_
            clear hK K
            refine tail_all [8] rfl (by kernel_rfl) ⟨⟨_, rfl, rfl, rfl, ?_⟩, trivial⟩
            intro K hK
            go_simp
            refine hK _ _ (Below.refl _ _) ?_
            clear hK K
            refine tail_loud (i := 10) (by kernel_rfl) rfl rfl rfl ?_
            intro K hK
            have q0 := cell_of_row u23 u16.heap.size 0 _ _ _ hbs_23
            have q1 := cell_of_row u23 u16.heap.size 1 _ _ _ hbs_23
            have q2 := frozen_of_row u23 u16.heap.size 0 _ _ hbs_23
            have q3 := frozen_of_row u23 u16.heap.size 1 _ _ hbs_23
            simp at q0 q1
            go_simp
            refine hK _ _ ?_
            clear hK K
            refine tail_done (by kernel_rfl) (NoPanic.normal ?_)
            go_wp2_with fail
            go_meet
            exact ⟨u16.heap.size, _, _, rfl, st_made hbs_23 size16 h1_23 h2_23, later23.setCell size16 _ |>.setCell size16 _⟩
        · intro K hK
          go_simp
          refine hK _ _ (later_any _) ?_
          clear hK K
          have hb25 : Below u15.heap.size u15 ((u15).alloc (.cells #[.slice none 0 0, .slice none 0 0] 30)) := later_alloc _ _
          have hbs_25 : ((u15).alloc (.cells #[.slice none 0 0, .slice none 0 0] 30)).heap[u15.heap.size]? = some (.cells #[.slice none 0 0, .slice none 0 0] 30 (0, 0)) := heap_alloc_new _ _
          have kF_25 := (hb25.block _ (Array.getElem?_eq_some_iff.1 kF_15).1).trans kF_15
          have kL_25 := (hb25.block _ (Array.getElem?_eq_some_iff.1 kL_15).1).trans kL_15
          have later25 := Below.trans later15 (Below.mono hb25 size15)
          have size25 := later25.size
          generalize (u15).alloc (.cells #[.slice none 0 0, .slice none 0 0] 30) = u25 at *
          refine tail_all [3] rfl (by kernel_rfl) ⟨⟨_, rfl, rfl, rfl, ?_⟩, trivial⟩
          intro K hK
          refine wp_append_clone (.tmp 21) (.tmp 23) 27 rfl fileK (by omega) w3.heap.size 37 i0 _ 32 Try.underlying27 hi0 hz0 hz1 hz2 rfl w4.heap.size rfl kF_25 hb4.size size25 _ _ _ s.files rfl rfl (HF3.out.later later25) hnm (by omega) ?_
          intro v26 u26 h1_26 hb26
          obtain ⟨A26, c26, rfl, _⟩ := own_form h1_26
          have hbs_26 := (hb26.block _ (Array.getElem?_eq_some_iff.1 hbs_25).1).trans hbs_25
          have kF_26 := (hb26.block _ (Array.getElem?_eq_some_iff.1 kF_25).1).trans kF_25
          have kL_26 := (hb26.block _ (Array.getElem?_eq_some_iff.1 kL_25).1).trans kL_25
          have later26 := Below.trans later25 (Below.mono hb26 size25)
          have size26 := later26.size
          refine hK _ _ hb26 ?_
          clear hK K
          refine tail_all [7] rfl (by kernel_rfl) ⟨⟨_, rfl, rfl, rfl, ?_⟩, trivial⟩
          intro K hK
          refine wp_append_clone (.tmp 25) (.tmp 27) 28 rfl linkK (by omega) w3.heap.size 39 j0 _ 56 Try.underlying28 hj0 gz0 gz1 gz2 rfl u0.heap.size rfl kL_26 size0 size26 _ _ _ s.links rfl rfl (HL3.out.later later26) hmm (by omega) ?_
          intro v27 u27 h2_27 hb27
          obtain ⟨A27, c27, rfl, _⟩ := own_form h2_27
          have h1_27 := own_later h1_26 hb27
          have hbs_27 := (hb27.block _ (Array.getElem?_eq_some_iff.1 hbs_26).1).trans hbs_26
          have kF_27 := (hb27.block _ (Array.getElem?_eq_some_iff.1 kF_26).1).trans kF_26
          have kL_27 := (hb27.block _ (Array.getElem?_eq_some_iff.1 kL_26).1).trans kL_26
          have later27 := Below.trans later26 (Below.mono hb27 size26)
          have size27 := later27.size
          refine hK _ _ hb27 ?_
          clear hK K
          refine tail_all [8] rfl (by kernel_rfl) ⟨⟨_, rfl, rfl, rfl, ?_⟩, trivial⟩
          intro K hK
          go_simp
          refine hK _ _ (Below.refl _ _) ?_
          clear hK K
          refine tail_loud (i := 10) (by kernel_rfl) rfl rfl rfl ?_
          intro K hK
          have q0 := cell_of_row u27 u15.heap.size 0 _ _ _ hbs_27
          have q1 := cell_of_row u27 u15.heap.size 1 _ _ _ hbs_27
          have q2 := frozen_of_row u27 u15.heap.size 0 _ _ hbs_27
          have q3 := frozen_of_row u27 u15.heap.size 1 _ _ hbs_27
          simp at q0 q1
          go_simp
          refine hK _ _ ?_
          clear hK K
          refine tail_done (by kernel_rfl) (NoPanic.normal ?_)
          go_wp2_with fail
          go_meet
          exact ⟨u15.heap.size, _, _, rfl, st_made hbs_27 size15 h1_27 h2_27, later27.setCell size15 _ |>.setCell size15 _⟩
      · intro K hK
        go_simp
        refine hK _ _ (later_any _) ?_
        clear hK K
        have hb29 : Below u0.heap.size u0 ((u0).alloc (.cells #[.slice none 0 0, .slice none 0 0] 30)) := later_alloc _ _
        have hbs_29 : ((u0).alloc (.cells #[.slice none 0 0, .slice none 0 0] 30)).heap[u0.heap.size]? = some (.cells #[.slice none 0 0, .slice none 0 0] 30 (0, 0)) := heap_alloc_new _ _
        have kF_29 := (hb29.block _ (Array.getElem?_eq_some_iff.1 kF_0).1).trans kF_0
        have later29 := Below.trans later0 (Below.mono hb29 size0)
        have size29 := later29.size
        generalize (u0).alloc (.cells #[.slice none 0 0, .slice none 0 0] 30) = u29 at *
        refine tail_all [3, 4] rfl (by kernel_rfl) ⟨⟨_, rfl, rfl, rfl, ?_⟩, ⟨_, rfl, rfl, rfl, ?_⟩, trivial⟩
        · intro K hK
          refine wp_append_clone (.tmp 21) (.tmp 23) 27 rfl fileK (by omega) w3.heap.size 37 i0 _ 32 Try.underlying27 hi0 hz0 hz1 hz2 rfl w4.heap.size rfl kF_29 hb4.size size29 _ _ _ s.files rfl rfl (HF3.out.later later29) hnm (by omega) ?_
          intro v30 u30 h1_30 hb30
          obtain ⟨A30, c30, rfl, _⟩ := own_form h1_30
          have hbs_30 := (hb30.block _ (Array.getElem?_eq_some_iff.1 hbs_29).1).trans hbs_29
          have kF_30 := (hb30.block _ (Array.getElem?_eq_some_iff.1 kF_29).1).trans kF_29
          have later30 := Below.trans later29 (Below.mono hb30 size29)
          have size30 := later30.size
          refine hK _ _ hb30 ?_
          clear hK K
          refine tail_all [4] rfl (by kernel_rfl) ⟨⟨_, rfl, rfl, rfl, ?_⟩, trivial⟩
          intro K hK
          go_simp
          refine hK _ _ (later_any _) ?_
          clear hK K
          have hb31 : Below u30.heap.size u30 ((u30).alloc (.cells #[] 39)) := later_alloc _ _
          have kL_31 : ((u30).alloc (.cells #[] 39)).heap[u30.heap.size]? = some (.cells #[] 39 (0, 0)) := heap_alloc_new _ _
          have h1_31 := own_later h1_30 hb31
          have hbs_31 := (hb31.block _ (Array.getElem?_eq_some_iff.1 hbs_30).1).trans hbs_30
          have kF_31 := (hb31.block _ (Array.getElem?_eq_some_iff.1 kF_30).1).trans kF_30
          have later31 := Below.trans later30 (Below.mono hb31 size30)
          have size31 := later31.size
          generalize (u30).alloc (.cells #[] 39) = u31 at *
          refine tail_all [7] rfl (by kernel_rfl) ⟨⟨_, rfl, rfl, rfl, ?_⟩, trivial⟩
          intro K hK
          refine wp_append_clone (.tmp 25) (.tmp 27) 28 rfl linkK (by omega) w3.heap.size 39 j0 _ 56 Try.underlying28 hj0 gz0 gz1 gz2 rfl u30.heap.size rfl kL_31 size30 size31 _ _ _ s.links rfl rfl (HL3.out.later later31) hmm (by omega) ?_
          intro v32 u32 h2_32 hb32
          obtain ⟨A32, c32, rfl, _⟩ := own_form h2_32
          have h1_32 := own_later h1_31 hb32
          have hbs_32 := (hb32.block _ (Array.getElem?_eq_some_iff.1 hbs_31).1).trans hbs_31
          have kF_32 := (hb32.block _ (Array.getElem?_eq_some_iff.1 kF_31).1).trans kF_31
          have kL_32 := (hb32.block _ (Array.getElem?_eq_some_iff.1 kL_31).1).trans kL_31
          have later32 := Below.trans later31 (Below.mono hb32 size31)
          have size32 := later32.size
          refine hK _ _ hb32 ?_
          clear hK K
          refine tail_all [8] rfl (by kernel_rfl) ⟨⟨_, rfl, rfl, rfl, ?_⟩, trivial⟩
          intro K hK
          go_simp
          refine hK _ _ (Below.refl _ _) ?_
          clear hK K
          refine tail_loud (i := 10) (by kernel_rfl) rfl rfl rfl ?_
          intro K hK
          have q0 := cell_of_row u32 u0.heap.size 0 _ _ _ hbs_32
          have q1 := cell_of_row u32 u0.heap.size 1 _ _ _ hbs_32
          have q2 := frozen_of_row u32 u0.heap.size 0 _ _ hbs_32
          have q3 := frozen_of_row u32 u0.heap.size 1 _ _ hbs_32
          simp at q0 q1
          go_simp
          refine hK _ _ ?_
          clear hK K
          refine tail_done (by kernel_rfl) (NoPanic.normal ?_)
          go_wp2_with fail
          go_meet
          exact ⟨u0.heap.size, _, _, rfl, st_made hbs_32 size0 h1_32 h2_32, later32.setCell size0 _ |>.setCell size0 _⟩
        · intro K hK
          go_simp
          refine hK _ _ (later_any _) ?_
          clear hK K
          have hb34 : Below u29.heap.size u29 ((u29).alloc (.cells #[] 39)) := later_alloc _ _
          have kL_34 : ((u29).alloc (.cells #[] 39)).heap[u29.heap.size]? = some (.cells #[] 39 (0, 0)) := heap_alloc_new _ _
          have hbs_34 := (hb34.block _ (Array.getElem?_eq_some_iff.1 hbs_29).1).trans hbs_29
          have kF_34 := (hb34.block _ (Array.getElem?_eq_some_iff.1 kF_29).1).trans kF_29
          have later34 := Below.trans later29 (Below.mono hb34 size29)
          have size34 := later34.size
          generalize (u29).alloc (.cells #[] 39) = u34 at *
          refine tail_all [3] rfl (by kernel_rfl) ⟨⟨_, rfl, rfl, rfl, ?_⟩, trivial⟩
          intro K hK
          refine wp_append_clone (.tmp 21) (.tmp 23) 27 rfl fileK (by omega) w3.heap.size 37 i0 _ 32 Try.underlying27 hi0 hz0 hz1 hz2 rfl w4.heap.size rfl kF_34 hb4.size size34 _ _ _ s.files rfl rfl (HF3.out.later later34) hnm (by omega) ?_
          intro v35 u35 h1_35 hb35
          obtain ⟨A35, c35, rfl, _⟩ := own_form h1_35
          have hbs_35 := (hb35.block _ (Array.getElem?_eq_some_iff.1 hbs_34).1).trans hbs_34
          have kF_35 := (hb35.block _ (Array.getElem?_eq_some_iff.1 kF_34).1).trans kF_34
          have kL_35 := (hb35.block _ (Array.getElem?_eq_some_iff.1 kL_34).1).trans kL_34
          have later35 := Below.trans later34 (Below.mono hb35 size34)
          have size35 := later35.size
          refine hK _ _ hb35 ?_
          clear hK K
          refine tail_all [7] rfl (by kernel_rfl) ⟨⟨_, rfl, rfl, rfl, ?_⟩, trivial⟩
          intro K hK
          refine wp_append_clone (.tmp 25) (.tmp 27) 28 rfl linkK (by omega) w3.heap.size 39 j0 _ 56 Try.underlying28 hj0 gz0 gz1 gz2 rfl u29.heap.size rfl kL_35 size29 size35 _ _ _ s.links rfl rfl (HL3.out.later later35) hmm (by omega) ?_
          intro v36 u36 h2_36 hb36
          obtain ⟨A36, c36, rfl, _⟩ := own_form h2_36
          have h1_36 := own_later h1_35 hb36
          have hbs_36 := (hb36.block _ (Array.getElem?_eq_some_iff.1 hbs_35).1).trans hbs_35
          have kF_36 := (hb36.block _ (Array.getElem?_eq_some_iff.1 kF_35).1).trans kF_35
          have kL_36 := (hb36.block _ (Array.getElem?_eq_some_iff.1 kL_35).1).trans kL_35
          have later36 := Below.trans later35 (Below.mono hb36 size35)
          have size36 := later36.size
          refine hK _ _ hb36 ?_
          clear hK K
          refine tail_all [8] rfl (by kernel_rfl) ⟨⟨_, rfl, rfl, rfl, ?_⟩, trivial⟩
          intro K hK
          go_simp
          refine hK _ _ (Below.refl _ _) ?_
          clear hK K
          refine tail_loud (i := 10) (by kernel_rfl) rfl rfl rfl ?_
          intro K hK
          have q0 := cell_of_row u36 u0.heap.size 0 _ _ _ hbs_36
          have q1 := cell_of_row u36 u0.heap.size 1 _ _ _ hbs_36
          have q2 := frozen_of_row u36 u0.heap.size 0 _ _ hbs_36
          have q3 := frozen_of_row u36 u0.heap.size 1 _ _ hbs_36
          simp at q0 q1
          go_simp
          refine hK _ _ ?_
          clear hK K
          refine tail_done (by kernel_rfl) (NoPanic.normal ?_)
          go_wp2_with fail
          go_meet
          exact ⟨u0.heap.size, _, _, rfl, st_made hbs_36 size0 h1_36 h2_36, later36.setCell size0 _ |>.setCell size0 _⟩
    · intro K hK
      go_simp
      refine hK _ _ (later_any _) ?_
      clear hK K
      have hb38 : Below w4.heap.size w4 ((w4).alloc (.cells #[] 39)) := later_alloc _ _
      have kL_38 : ((w4).alloc (.cells #[] 39)).heap[w4.heap.size]? = some (.cells #[] 39 (0, 0)) := heap_alloc_new _ _
      have later38 := Below.trans hb4 (Below.mono hb38 hb4.size)
      have size38 := later38.size
      generalize (w4).alloc (.cells #[] 39) = u38 at *
      refine tail_all [0, 9] rfl (by kernel_rfl) ⟨⟨_, rfl, rfl, rfl, ?_⟩, ⟨_, rfl, rfl, rfl, ?_⟩, trivial⟩
      · intro K hK
        go_simp
        refine hK _ _ (later_any _) ?_
        clear hK K
        have hb39 : Below u38.heap.size u38 ((u38).alloc (.cells #[] 37)) := later_alloc _ _
        have kF_39 : ((u38).alloc (.cells #[] 37)).heap[u38.heap.size]? = some (.cells #[] 37 (0, 0)) := heap_alloc_new _ _
        have kL_39 := (hb39.block _ (Array.getElem?_eq_some_iff.1 kL_38).1).trans kL_38
        have later39 := Below.trans later38 (Below.mono hb39 size38)
        have size39 := later39.size
        generalize (u38).alloc (.cells #[] 37) = u39 at *
        refine tail_all [3, 9] rfl (by kernel_rfl) ⟨⟨_, rfl, rfl, rfl, ?_⟩, ⟨_, rfl, rfl, rfl, ?_⟩, trivial⟩
        · intro K hK
          refine wp_append_clone (.tmp 21) (.tmp 23) 27 rfl fileK (by omega) w3.heap.size 37 i0 _ 32 Try.underlying27 hi0 hz0 hz1 hz2 rfl u38.heap.size rfl kF_39 size38 size39 _ _ _ s.files rfl rfl (HF3.out.later later39) hnm (by omega) ?_
          intro v40 u40 h1_40 hb40
          obtain ⟨A40, c40, rfl, _⟩ := own_form h1_40
          have kF_40 := (hb40.block _ (Array.getElem?_eq_some_iff.1 kF_39).1).trans kF_39
          have kL_40 := (hb40.block _ (Array.getElem?_eq_some_iff.1 kL_39).1).trans kL_39
          have later40 := Below.trans later39 (Below.mono hb40 size39)
          have size40 := later40.size
          refine hK _ _ hb40 ?_
          clear hK K
          refine tail_all [7, 9] rfl (by kernel_rfl) ⟨⟨_, rfl, rfl, rfl, ?_⟩, ⟨_, rfl, rfl, rfl, ?_⟩, trivial⟩
          · intro K hK
            refine wp_append_clone (.tmp 25) (.tmp 27) 28 rfl linkK (by omega) w3.heap.size 39 j0 _ 56 Try.underlying28 hj0 gz0 gz1 gz2 rfl w4.heap.size rfl kL_40 hb4.size size40 _ _ _ s.links rfl rfl (HL3.out.later later40) hmm (by omega) ?_
            intro v41 u41 h2_41 hb41
            obtain ⟨A41, c41, rfl, _⟩ := own_form h2_41
            have h1_41 := own_later h1_40 hb41
            have kF_41 := (hb41.block _ (Array.getElem?_eq_some_iff.1 kF_40).1).trans kF_40
            have kL_41 := (hb41.block _ (Array.getElem?_eq_some_iff.1 kL_40).1).trans kL_40
            have later41 := Below.trans later40 (Below.mono hb41 size40)
            have size41 := later41.size
            refine hK _ _ hb41 ?_
            clear hK K
            refine tail_all [8, 9] rfl (by kernel_rfl) ⟨⟨_, rfl, rfl, rfl, ?_⟩, ⟨_, rfl, rfl, rfl, ?_⟩, trivial⟩
            · intro K hK
              go_simp
              refine hK _ _ (Below.refl _ _) ?_
              clear hK K
              refine tail_all [9] rfl (by kernel_rfl) ⟨⟨_, rfl, rfl, rfl, ?_⟩, trivial⟩
              intro K hK
              go_simp
              refine hK _ _ (later_any _) ?_
              clear hK K
              have hb43 : Below u41.heap.size u41 ((u41).alloc (.cells #[.slice none 0 0, .slice none 0 0] 30)) := later_alloc _ _
              have hbs_43 : ((u41).alloc (.cells #[.slice none 0 0, .slice none 0 0] 30)).heap[u41.heap.size]? = some (.cells #[.slice none 0 0, .slice none 0 0] 30 (0, 0)) := heap_alloc_new _ _
              have h1_43 := own_later h1_41 hb43
              have h2_43 := own_later h2_41 hb43
              have kF_43 := (hb43.block _ (Array.getElem?_eq_some_iff.1 kF_41).1).trans kF_41
              have kL_43 := (hb43.block _ (Array.getElem?_eq_some_iff.1 kL_41).1).trans kL_41
              have later43 := Below.trans later41 (Below.mono hb43 size41)
              have size43 := later43.size
              generalize (u41).alloc (.cells #[.slice none 0 0, .slice none 0 0] 30) = u43 at *
              refine tail_loud (i := 10) (by kernel_rfl) rfl rfl rfl ?_
              intro K hK
              have q0 := cell_of_row u43 u41.heap.size 0 _ _ _ hbs_43
              have q1 := cell_of_row u43 u41.heap.size 1 _ _ _ hbs_43
              have q2 := frozen_of_row u43 u41.heap.size 0 _ _ hbs_43
              have q3 := frozen_of_row u43 u41.heap.size 1 _ _ hbs_43
              simp at q0 q1
              go_simp
              refine hK _ _ ?_
              clear hK K
              refine tail_done (by kernel_rfl) (NoPanic.normal ?_)
              go_wp2_with fail
              go_meet
              exact ⟨u41.heap.size, _, _, rfl, st_made hbs_43 size41 h1_43 h2_43, later43.setCell size41 _ |>.setCell size41 _⟩
            · intro K hK
              go_simp
              refine hK _ _ (later_any _) ?_
              clear hK K
              have hb44 : Below u41.heap.size u41 ((u41).alloc (.cells #[.slice none 0 0, .slice none 0 0] 30)) := later_alloc _ _
              have hbs_44 : ((u41).alloc (.cells #[.slice none 0 0, .slice none 0 0] 30)).heap[u41.heap.size]? = some (.cells #[.slice none 0 0, .slice none 0 0] 30 (0, 0)) := heap_alloc_new _ _
              have h1_44 := own_later h1_41 hb44
              have h2_44 := own_later h2_41 hb44
              have kF_44 := (hb44.block _ (Array.getElem?_eq_some_iff.1 kF_41).1).trans kF_41
              have kL_44 := (hb44.block _ (Array.getElem?_eq_some_iff.1 kL_41).1).trans kL_41
              have later44 := Below.trans later41 (Below.mono hb44 size41)
              have size44 := later44.size
              generalize (u41).alloc (.cells #[.slice none 0 0, .slice none 0 0] 30) = u44 at *
              refine tail_all [8] rfl (by kernel_rfl) ⟨⟨_, rfl, rfl, rfl, ?_⟩, trivial⟩
              intro K hK
              go_simp
              refine hK _ _ (Below.refl _ _) ?_
              clear hK K
              refine tail_loud (i := 10) (by kernel_rfl) rfl rfl rfl ?_
              intro K hK
              have q0 := cell_of_row u44 u41.heap.size 0 _ _ _ hbs_44
              have q1 := cell_of_row u44 u41.heap.size 1 _ _ _ hbs_44
              have q2 := frozen_of_row u44 u41.heap.size 0 _ _ hbs_44
              have q3 := frozen_of_row u44 u41.heap.size 1 _ _ hbs_44
              simp at q0 q1
              go_simp
              refine hK _ _ ?_
              clear hK K
              refine tail_done (by kernel_rfl) (NoPanic.normal ?_)
              go_wp2_with fail
              go_meet
              exact ⟨u41.heap.size, _, _, rfl, st_made hbs_44 size41 h1_44 h2_44, later44.setCell size41 _ |>.setCell size41 _⟩
          · intro K hK
            go_simp
            refine hK _ _ (later_any _) ?_
            clear hK K
            have hb46 : Below u40.heap.size u40 ((u40).alloc (.cells #[.slice none 0 0, .slice none 0 0] 30)) := later_alloc _ _
            have hbs_46 : ((u40).alloc (.cells #[.slice none 0 0, .slice none 0 0] 30)).heap[u40.heap.size]? = some (.cells #[.slice none 0 0, .slice none 0 0] 30 (0, 0)) := heap_alloc_new _ _
            have h1_46 := own_later h1_40 hb46
            have kF_46 := (hb46.block _ (Array.getElem?_eq_some_iff.1 kF_40).1).trans kF_40
            have kL_46 := (hb46.block _ (Array.getElem?_eq_some_iff.1 kL_40).1).trans kL_40
            have later46 := Below.trans later40 (Below.mono hb46 size40)
            have size46 := later46.size
            generalize (u40).alloc (.cells #[.slice none 0 0, .slice none 0 0] 30) = u46 at *
            refine tail_all [7] rfl (by kernel_rfl) ⟨⟨_, rfl, rfl, rfl, ?_⟩, trivial⟩
            intro K hK
            refine wp_append_clone (.tmp 25) (.tmp 27) 28 rfl linkK (by omega) w3.heap.size 39 j0 _ 56 Try.underlying28 hj0 gz0 gz1 gz2 rfl w4.heap.size rfl kL_46 hb4.size size46 _ _ _ s.links rfl rfl (HL3.out.later later46) hmm (by omega) ?_
            intro v47 u47 h2_47 hb47
            obtain ⟨A47, c47, rfl, _⟩ := own_form h2_47
            have h1_47 := own_later h1_46 hb47
            have hbs_47 := (hb47.block _ (Array.getElem?_eq_some_iff.1 hbs_46).1).trans hbs_46
            have kF_47 := (hb47.block _ (Array.getElem?_eq_some_iff.1 kF_46).1).trans kF_46
            have kL_47 := (hb47.block _ (Array.getElem?_eq_some_iff.1 kL_46).1).trans kL_46
            have later47 := Below.trans later46 (Below.mono hb47 size46)
            have size47 := later47.size
            refine hK _ _ hb47 ?_
            clear hK K
            refine tail_all [8] rfl (by kernel_rfl) ⟨⟨_, rfl, rfl, rfl, ?_⟩, trivial⟩
            intro K hK
            go_simp
            refine hK _ _ (Below.refl _ _) ?_
            clear hK K
            refine tail_loud (i := 10) (by kernel_rfl) rfl rfl rfl ?_
            intro K hK
            have q0 := cell_of_row u47 u40.heap.size 0 _ _ _ hbs_47
            have q1 := cell_of_row u47 u40.heap.size 1 _ _ _ hbs_47
            have q2 := frozen_of_row u47 u40.heap.size 0 _ _ hbs_47
            have q3 := frozen_of_row u47 u40.heap.size 1 _ _ hbs_47
            simp at q0 q1
            go_simp
            refine hK _ _ ?_
            clear hK K
            refine tail_done (by kernel_rfl) (NoPanic.normal ?_)
            go_wp2_with fail
            go_meet
            exact ⟨u40.heap.size, _, _, rfl, st_made hbs_47 size40 h1_47 h2_47, later47.setCell size40 _ |>.setCell size40 _⟩
        · intro K hK
          go_simp
          refine hK _ _ (later_any _) ?_
          clear hK K
          have hb49 : Below u39.heap.size u39 ((u39).alloc (.cells #[.slice none 0 0, .slice none 0 0] 30)) := later_alloc _ _
          have hbs_49 : ((u39).alloc (.cells #[.slice none 0 0, .slice none 0 0] 30)).heap[u39.heap.size]? = some (.cells #[.slice none 0 0, .slice none 0 0] 30 (0, 0)) := heap_alloc_new _ _
          have kF_49 := (hb49.block _ (Array.getElem?_eq_some_iff.1 kF_39).1).trans kF_39
          have kL_49 := (hb49.block _ (Array.getElem?_eq_some_iff.1 kL_39).1).trans kL_39
          have later49 := Below.trans later39 (Below.mono hb49 size39)
          have size49 := later49.size
          generalize (u39).alloc (.cells #[.slice none 0 0, .slice none 0 0] 30) = u49 at *
          refine tail_all [3] rfl (by kernel_rfl) ⟨⟨_, rfl, rfl, rfl, ?_⟩, trivial⟩
          intro K hK
          refine wp_append_clone (.tmp 21) (.tmp 23) 27 rfl fileK (by omega) w3.heap.size 37 i0 _ 32 Try.underlying27 hi0 hz0 hz1 hz2 rfl u38.heap.size rfl kF_49 size38 size49 _ _ _ s.files rfl rfl (HF3.out.later later49) hnm (by omega) ?_
          intro v50 u50 h1_50 hb50
          obtain ⟨A50, c50, rfl, _⟩ := own_form h1_50
          have hbs_50 := (hb50.block _ (Array.getElem?_eq_some_iff.1 hbs_49).1).trans hbs_49
          have kF_50 := (hb50.block _ (Array.getElem?_eq_some_iff.1 kF_49).1).trans kF_49
          have kL_50 := (hb50.block _ (Array.getElem?_eq_some_iff.1 kL_49).1).trans kL_49
          have later50 := Below.trans later49 (Below.mono hb50 size49)
          have size50 := later50.size
          refine hK _ _ hb50 ?_
          clear hK K
          refine tail_all [7] rfl (by kernel_rfl) ⟨⟨_, rfl, rfl, rfl, ?_⟩, trivial⟩
          intro K hK
          refine wp_append_clone (.tmp 25) (.tmp 27) 28 rfl linkK (by omega) w3.heap.size 39 j0 _ 56 Try.underlying28 hj0 gz0 gz1 gz2 rfl w4.heap.size rfl kL_50 hb4.size size50 _ _ _ s.links rfl rfl (HL3.out.later later50) hmm (by omega) ?_
          intro v51 u51 h2_51 hb51
          obtain ⟨A51, c51, rfl, _⟩ := own_form h2_51
          have h1_51 := own_later h1_50 hb51
          have hbs_51 := (hb51.block _ (Array.getElem?_eq_some_iff.1 hbs_50).1).trans hbs_50
          have kF_51 := (hb51.block _ (Array.getElem?_eq_some_iff.1 kF_50).1).trans kF_50
          have kL_51 := (hb51.block _ (Array.getElem?_eq_some_iff.1 kL_50).1).trans kL_50
          have later51 := Below.trans later50 (Below.mono hb51 size50)
          have size51 := later51.size
          refine hK _ _ hb51 ?_
          clear hK K
          refine tail_all [8] rfl (by kernel_rfl) ⟨⟨_, rfl, rfl, rfl, ?_⟩, trivial⟩
          intro K hK
          go_simp
          refine hK _ _ (Below.refl _ _) ?_
          clear hK K
          refine tail_loud (i := 10) (by kernel_rfl) rfl rfl rfl ?_
          intro K hK
          have q0 := cell_of_row u51 u39.heap.size 0 _ _ _ hbs_51
          have q1 := cell_of_row u51 u39.heap.size 1 _ _ _ hbs_51
          have q2 := frozen_of_row u51 u39.heap.size 0 _ _ hbs_51
          have q3 := frozen_of_row u51 u39.heap.size 1 _ _ hbs_51
          simp at q0 q1
          go_simp
          refine hK _ _ ?_
          clear hK K
          refine tail_done (by kernel_rfl) (NoPanic.normal ?_)
          go_wp2_with fail
          go_meet
          exact ⟨u39.heap.size, _, _, rfl, st_made hbs_51 size39 h1_51 h2_51, later51.setCell size39 _ |>.setCell size39 _⟩
      · intro K hK
        go_simp
        refine hK _ _ (later_any _) ?_
        clear hK K
        have hb53 : Below u38.heap.size u38 ((u38).alloc (.cells #[.slice none 0 0, .slice none 0 0] 30)) := later_alloc _ _
        have hbs_53 : ((u38).alloc (.cells #[.slice none 0 0, .slice none 0 0] 30)).heap[u38.heap.size]? = some (.cells #[.slice none 0 0, .slice none 0 0] 30 (0, 0)) := heap_alloc_new _ _
        have kL_53 := (hb53.block _ (Array.getElem?_eq_some_iff.1 kL_38).1).trans kL_38
        have later53 := Below.trans later38 (Below.mono hb53 size38)
        have size53 := later53.size
        generalize (u38).alloc (.cells #[.slice none 0 0, .slice none 0 0] 30) = u53 at *
        refine tail_all [0] rfl (by kernel_rfl) ⟨⟨_, rfl, rfl, rfl, ?_⟩, trivial⟩
        intro K hK
        go_simp
        refine hK _ _ (later_any _) ?_
        clear hK K
        have hb54 : Below u53.heap.size u53 ((u53).alloc (.cells #[] 37)) := later_alloc _ _
        have kF_54 : ((u53).alloc (.cells #[] 37)).heap[u53.heap.size]? = some (.cells #[] 37 (0, 0)) := heap_alloc_new _ _
        have hbs_54 := (hb54.block _ (Array.getElem?_eq_some_iff.1 hbs_53).1).trans hbs_53
        have kL_54 := (hb54.block _ (Array.getElem?_eq_some_iff.1 kL_53).1).trans kL_53
        have later54 := Below.trans later53 (Below.mono hb54 size53)
        have size54 := later54.size
        generalize (u53).alloc (.cells #[] 37) = u54 at *
        refine tail_all [3] rfl (by kernel_rfl) ⟨⟨_, rfl, rfl, rfl, ?_⟩, trivial⟩
        intro K hK
        refine wp_append_clone (.tmp 21) (.tmp 23) 27 rfl fileK (by omega) w3.heap.size 37 i0 _ 32 Try.underlying27 hi0 hz0 hz1 hz2 rfl u53.heap.size rfl kF_54 size53 size54 _ _ _ s.files rfl rfl (HF3.out.later later54) hnm (by omega) ?_
        intro v55 u55 h1_55 hb55
        obtain ⟨A55, c55, rfl, _⟩ := own_form h1_55
        have hbs_55 := (hb55.block _ (Array.getElem?_eq_some_iff.1 hbs_54).1).trans hbs_54
        have kF_55 := (hb55.block _ (Array.getElem?_eq_some_iff.1 kF_54).1).trans kF_54
        have kL_55 := (hb55.block _ (Array.getElem?_eq_some_iff.1 kL_54).1).trans kL_54
        have later55 := Below.trans later54 (Below.mono hb55 size54)
        have size55 := later55.size
        refine hK _ _ hb55 ?_
        clear hK K
        refine tail_all [7] rfl (by kernel_rfl) ⟨⟨_, rfl, rfl, rfl, ?_⟩, trivial⟩
        intro K hK
        refine wp_append_clone (.tmp 25) (.tmp 27) 28 rfl linkK (by omega) w3.heap.size 39 j0 _ 56 Try.underlying28 hj0 gz0 gz1 gz2 rfl w4.heap.size rfl kL_55 hb4.size size55 _ _ _ s.links rfl rfl (HL3.out.later later55) hmm (by omega) ?_
        intro v56 u56 h2_56 hb56
        obtain ⟨A56, c56, rfl, _⟩ := own_form h2_56
        have h1_56 := own_later h1_55 hb56
        have hbs_56 := (hb56.block _ (Array.getElem?_eq_some_iff.1 hbs_55).1).trans hbs_55
        have kF_56 := (hb56.block _ (Array.getElem?_eq_some_iff.1 kF_55).1).trans kF_55
        have kL_56 := (hb56.block _ (Array.getElem?_eq_some_iff.1 kL_55).1).trans kL_55
        have later56 := Below.trans later55 (Below.mono hb56 size55)
        have size56 := later56.size
        refine hK _ _ hb56 ?_
        clear hK K
        refine tail_all [8] rfl (by kernel_rfl) ⟨⟨_, rfl, rfl, rfl, ?_⟩, trivial⟩
        intro K hK
        go_simp
        refine hK _ _ (Below.refl _ _) ?_
        clear hK K
        refine tail_loud (i := 10) (by kernel_rfl) rfl rfl rfl ?_
        intro K hK
        have q0 := cell_of_row u56 u38.heap.size 0 _ _ _ hbs_56
        have q1 := cell_of_row u56 u38.heap.size 1 _ _ _ hbs_56
        have q2 := frozen_of_row u56 u38.heap.size 0 _ _ hbs_56
        have q3 := frozen_of_row u56 u38.heap.size 1 _ _ hbs_56
        simp at q0 q1
        go_simp
        refine hK _ _ ?_
        clear hK K
        refine tail_done (by kernel_rfl) (NoPanic.normal ?_)
        go_wp2_with fail
        go_meet
        exact ⟨u38.heap.size, _, _, rfl, st_made hbs_56 size38 h1_56 h2_56, later56.setCell size38 _ |>.setCell size38 _⟩
    · intro K hK
      go_simp
      refine hK _ _ (later_any _) ?_
      clear hK K
      have hb58 : Below w4.heap.size w4 ((w4).alloc (.cells #[.slice none 0 0, .slice none 0 0] 30)) := later_alloc _ _
      have hbs_58 : ((w4).alloc (.cells #[.slice none 0 0, .slice none 0 0] 30)).heap[w4.heap.size]? = some (.cells #[.slice none 0 0, .slice none 0 0] 30 (0, 0)) := heap_alloc_new _ _
      have later58 := Below.trans hb4 (Below.mono hb58 hb4.size)
      have size58 := later58.size
      generalize (w4).alloc (.cells #[.slice none 0 0, .slice none 0 0] 30) = u58 at *
      refine tail_all [0, 4] rfl (by kernel_rfl) ⟨⟨_, rfl, rfl, rfl, ?_⟩, ⟨_, rfl, rfl, rfl, ?_⟩, trivial⟩
      · intro K hK
        go_simp
        refine hK _ _ (later_any _) ?_
        clear hK K
        have hb59 : Below u58.heap.size u58 ((u58).alloc (.cells #[] 37)) := later_alloc _ _
        have kF_59 : ((u58).alloc (.cells #[] 37)).heap[u58.heap.size]? = some (.cells #[] 37 (0, 0)) := heap_alloc_new _ _
        have hbs_59 := (hb59.block _ (Array.getElem?_eq_some_iff.1 hbs_58).1).trans hbs_58
        have later59 := Below.trans later58 (Below.mono hb59 size58)
        have size59 := later59.size
        generalize (u58).alloc (.cells #[] 37) = u59 at *
        refine tail_all [3, 4] rfl (by kernel_rfl) ⟨⟨_, rfl, rfl, rfl, ?_⟩, ⟨_, rfl, rfl, rfl, ?_⟩, trivial⟩
        · intro K hK
          refine wp_append_clone (.tmp 21) (.tmp 23) 27 rfl fileK (by omega) w3.heap.size 37 i0 _ 32 Try.underlying27 hi0 hz0 hz1 hz2 rfl u58.heap.size rfl kF_59 size58 size59 _ _ _ s.files rfl rfl (HF3.out.later later59) hnm (by omega) ?_
          intro v60 u60 h1_60 hb60
          obtain ⟨A60, c60, rfl, _⟩ := own_form h1_60
          have hbs_60 := (hb60.block _ (Array.getElem?_eq_some_iff.1 hbs_59).1).trans hbs_59
          have kF_60 := (hb60.block _ (Array.getElem?_eq_some_iff.1 kF_59).1).trans kF_59
          have later60 := Below.trans later59 (Below.mono hb60 size59)
          have size60 := later60.size
          refine hK _ _ hb60 ?_
          clear hK K
          refine tail_all [4] rfl (by kernel_rfl) ⟨⟨_, rfl, rfl, rfl, ?_⟩, trivial⟩
          intro K hK
          go_simp
          refine hK _ _ (later_any _) ?_
          clear hK K
          have hb61 : Below u60.heap.size u60 ((u60).alloc (.cells #[] 39)) := later_alloc _ _
          have kL_61 : ((u60).alloc (.cells #[] 39)).heap[u60.heap.size]? = some (.cells #[] 39 (0, 0)) := heap_alloc_new _ _
          have h1_61 := own_later h1_60 hb61
          have hbs_61 := (hb61.block _ (Array.getElem?_eq_some_iff.1 hbs_60).1).trans hbs_60
          have kF_61 := (hb61.block _ (Array.getElem?_eq_some_iff.1 kF_60).1).trans kF_60
          have later61 := Below.trans later60 (Below.mono hb61 size60)
          have size61 := later61.size
          generalize (u60).alloc (.cells #[] 39) = u61 at *
          refine tail_all [7] rfl (by kernel_rfl) ⟨⟨_, rfl, rfl, rfl, ?_⟩, trivial⟩
          intro K hK
          refine wp_append_clone (.tmp 25) (.tmp 27) 28 rfl linkK (by omega) w3.heap.size 39 j0 _ 56 Try.underlying28 hj0 gz0 gz1 gz2 rfl u60.heap.size rfl kL_61 size60 size61 _ _ _ s.links rfl rfl (HL3.out.later later61) hmm (by omega) ?_
          intro v62 u62 h2_62 hb62
          obtain ⟨A62, c62, rfl, _⟩ := own_form h2_62
          have h1_62 := own_later h1_61 hb62
          have hbs_62 := (hb62.block _ (Array.getElem?_eq_some_iff.1 hbs_61).1).trans hbs_61
          have kF_62 := (hb62.block _ (Array.getElem?_eq_some_iff.1 kF_61).1).trans kF_61
          have kL_62 := (hb62.block _ (Array.getElem?_eq_some_iff.1 kL_61).1).trans kL_61
          have later62 := Below.trans later61 (Below.mono hb62 size61)
          have size62 := later62.size
          refine hK _ _ hb62 ?_
          clear hK K
          refine tail_all [8] rfl (by kernel_rfl) ⟨⟨_, rfl, rfl, rfl, ?_⟩, trivial⟩
          intro K hK
          go_simp
          refine hK _ _ (Below.refl _ _) ?_
          clear hK K
          refine tail_loud (i := 10) (by kernel_rfl) rfl rfl rfl ?_
          intro K hK
          have q0 := cell_of_row u62 w4.heap.size 0 _ _ _ hbs_62
          have q1 := cell_of_row u62 w4.heap.size 1 _ _ _ hbs_62
          have q2 := frozen_of_row u62 w4.heap.size 0 _ _ hbs_62
          have q3 := frozen_of_row u62 w4.heap.size 1 _ _ hbs_62
          simp at q0 q1
          go_simp
          refine hK _ _ ?_
          clear hK K
          refine tail_done (by kernel_rfl) (NoPanic.normal ?_)
          go_wp2_with fail
          go_meet
          exact ⟨w4.heap.size, _, _, rfl, st_made hbs_62 hb4.size h1_62 h2_62, later62.setCell hb4.size _ |>.setCell hb4.size _⟩
        · intro K hK
          go_simp
          refine hK _ _ (later_any _) ?_
          clear hK K
          have hb64 : Below u59.heap.size u59 ((u59).alloc (.cells #[] 39)) := later_alloc _ _
          have kL_64 : ((u59).alloc (.cells #[] 39)).heap[u59.heap.size]? = some (.cells #[] 39 (0, 0)) := heap_alloc_new _ _
          have hbs_64 := (hb64.block _ (Array.getElem?_eq_some_iff.1 hbs_59).1).trans hbs_59
          have kF_64 := (hb64.block _ (Array.getElem?_eq_some_iff.1 kF_59).1).trans kF_59
          have later64 := Below.trans later59 (Below.mono hb64 size59)
          have size64 := later64.size
          generalize (u59).alloc (.cells #[] 39) = u64 at *
          refine tail_all [3] rfl (by kernel_rfl) ⟨⟨_, rfl, rfl, rfl, ?_⟩, trivial⟩
          intro K hK
          refine wp_append_clone (.tmp 21) (.tmp 23) 27 rfl fileK (by omega) w3.heap.size 37 i0 _ 32 Try.underlying27 hi0 hz0 hz1 hz2 rfl u58.heap.size rfl kF_64 size58 size64 _ _ _ s.files rfl rfl (HF3.out.later later64) hnm (by omega) ?_
          intro v65 u65 h1_65 hb65
          obtain ⟨A65, c65, rfl, _⟩ := own_form h1_65
          have hbs_65 := (hb65.block _ (Array.getElem?_eq_some_iff.1 hbs_64).1).trans hbs_64
          have kF_65 := (hb65.block _ (Array.getElem?_eq_some_iff.1 kF_64).1).trans kF_64
          have kL_65 := (hb65.block _ (Array.getElem?_eq_some_iff.1 kL_64).1).trans kL_64
          have later65 := Below.trans later64 (Below.mono hb65 size64)
          have size65 := later65.size
          refine hK _ _ hb65 ?_
          clear hK K
          refine tail_all [7] rfl (by kernel_rfl) ⟨⟨_, rfl, rfl, rfl, ?_⟩, trivial⟩
          intro K hK
          refine wp_append_clone (.tmp 25) (.tmp 27) 28 rfl linkK (by omega) w3.heap.size 39 j0 _ 56 Try.underlying28 hj0 gz0 gz1 gz2 rfl u59.heap.size rfl kL_65 size59 size65 _ _ _ s.links rfl rfl (HL3.out.later later65) hmm (by omega) ?_
          intro v66 u66 h2_66 hb66
          obtain ⟨A66, c66, rfl, _⟩ := own_form h2_66
          have h1_66 := own_later h1_65 hb66
          have hbs_66 := (hb66.block _ (Array.getElem?_eq_some_iff.1 hbs_65).1).trans hbs_65
          have kF_66 := (hb66.block _ (Array.getElem?_eq_some_iff.1 kF_65).1).trans kF_65
          have kL_66 := (hb66.block _ (Array.getElem?_eq_some_iff.1 kL_65).1).trans kL_65
          have later66 := Below.trans later65 (Below.mono hb66 size65)
          have size66 := later66.size
          refine hK _ _ hb66 ?_
          clear hK K
          refine tail_all [8] rfl (by kernel_rfl) ⟨⟨_, rfl, rfl, rfl, ?_⟩, trivial⟩
          intro K hK
          go_simp
          refine hK _ _ (Below.refl _ _) ?_
          clear hK K
          refine tail_loud (i := 10) (by kernel_rfl) rfl rfl rfl ?_
          intro K hK
          have q0 := cell_of_row u66 w4.heap.size 0 _ _ _ hbs_66
          have q1 := cell_of_row u66 w4.heap.size 1 _ _ _ hbs_66
          have q2 := frozen_of_row u66 w4.heap.size 0 _ _ hbs_66
          have q3 := frozen_of_row u66 w4.heap.size 1 _ _ hbs_66
          simp at q0 q1
          go_simp
          refine hK _ _ ?_
          clear hK K
          refine tail_done (by kernel_rfl) (NoPanic.normal ?_)
          go_wp2_with fail
          go_meet
          exact ⟨w4.heap.size, _, _, rfl, st_made hbs_66 hb4.size h1_66 h2_66, later66.setCell hb4.size _ |>.setCell hb4.size _⟩
      · intro K hK
        go_simp
        refine hK _ _ (later_any _) ?_
        clear hK K
        have hb68 : Below u58.heap.size u58 ((u58).alloc (.cells #[] 39)) := later_alloc _ _
        have kL_68 : ((u58).alloc (.cells #[] 39)).heap[u58.heap.size]? = some (.cells #[] 39 (0, 0)) := heap_alloc_new _ _
        have hbs_68 := (hb68.block _ (Array.getElem?_eq_some_iff.1 hbs_58).1).trans hbs_58
        have later68 := Below.trans later58 (Below.mono hb68 size58)
        have size68 := later68.size
        generalize (u58).alloc (.cells #[] 39) = u68 at *
        refine tail_all [0] rfl (by kernel_rfl) ⟨⟨_, rfl, rfl, rfl, ?_⟩, trivial⟩
        intro K hK
        go_simp
        refine hK _ _ (later_any _) ?_
        clear hK K
        have hb69 : Below u68.heap.size u68 ((u68).alloc (.cells #[] 37)) := later_alloc _ _
        have kF_69 : ((u68).alloc (.cells #[] 37)).heap[u68.heap.size]? = some (.cells #[] 37 (0, 0)) := heap_alloc_new _ _
        have hbs_69 := (hb69.block _ (Array.getElem?_eq_some_iff.1 hbs_68).1).trans hbs_68
        have kL_69 := (hb69.block _ (Array.getElem?_eq_some_iff.1 kL_68).1).trans kL_68
        have later69 := Below.trans later68 (Below.mono hb69 size68)
        have size69 := later69.size
        generalize (u68).alloc (.cells #[] 37) = u69 at *
        refine tail_all [3] rfl (by kernel_rfl) ⟨⟨_, rfl, rfl, rfl, ?_⟩, trivial⟩
        intro K hK
        refine wp_append_clone (.tmp 21) (.tmp 23) 27 rfl fileK (by omega) w3.heap.size 37 i0 _ 32 Try.underlying27 hi0 hz0 hz1 hz2 rfl u68.heap.size rfl kF_69 size68 size69 _ _ _ s.files rfl rfl (HF3.out.later later69) hnm (by omega) ?_
        intro v70 u70 h1_70 hb70
        obtain ⟨A70, c70, rfl, _⟩ := own_form h1_70
        have hbs_70 := (hb70.block _ (Array.getElem?_eq_some_iff.1 hbs_69).1).trans hbs_69
        have kF_70 := (hb70.block _ (Array.getElem?_eq_some_iff.1 kF_69).1).trans kF_69
        have kL_70 := (hb70.block _ (Array.getElem?_eq_some_iff.1 kL_69).1).trans kL_69
        have later70 := Below.trans later69 (Below.mono hb70 size69)
        have size70 := later70.size
        refine hK _ _ hb70 ?_
        clear hK K
        refine tail_all [7] rfl (by kernel_rfl) ⟨⟨_, rfl, rfl, rfl, ?_⟩, trivial⟩
        intro K hK
        refine wp_append_clone (.tmp 25) (.tmp 27) 28 rfl linkK (by omega) w3.heap.size 39 j0 _ 56 Try.underlying28 hj0 gz0 gz1 gz2 rfl u58.heap.size rfl kL_70 size58 size70 _ _ _ s.links rfl rfl (HL3.out.later later70) hmm (by omega) ?_
        intro v71 u71 h2_71 hb71
        obtain ⟨A71, c71, rfl, _⟩ := own_form h2_71
        have h1_71 := own_later h1_70 hb71
        have hbs_71 := (hb71.block _ (Array.getElem?_eq_some_iff.1 hbs_70).1).trans hbs_70
        have kF_71 := (hb71.block _ (Array.getElem?_eq_some_iff.1 kF_70).1).trans kF_70
        have kL_71 := (hb71.block _ (Array.getElem?_eq_some_iff.1 kL_70).1).trans kL_70
        have later71 := Below.trans later70 (Below.mono hb71 size70)
        have size71 := later71.size
        refine hK _ _ hb71 ?_
        clear hK K
        refine tail_all [8] rfl (by kernel_rfl) ⟨⟨_, rfl, rfl, rfl, ?_⟩, trivial⟩
        intro K hK
        go_simp
        refine hK _ _ (Below.refl _ _) ?_
        clear hK K
        refine tail_loud (i := 10) (by kernel_rfl) rfl rfl rfl ?_
        intro K hK
        have q0 := cell_of_row u71 w4.heap.size 0 _ _ _ hbs_71
        have q1 := cell_of_row u71 w4.heap.size 1 _ _ _ hbs_71
        have q2 := frozen_of_row u71 w4.heap.size 0 _ _ hbs_71
        have q3 := frozen_of_row u71 w4.heap.size 1 _ _ hbs_71
        simp at q0 q1
        go_simp
        refine hK _ _ ?_
        clear hK K
        refine tail_done (by kernel_rfl) (NoPanic.normal ?_)
        go_wp2_with fail
        go_meet
        exact ⟨w4.heap.size, _, _, rfl, st_made hbs_71 hb4.size h1_71 h2_71, later71.setCell hb4.size _ |>.setCell hb4.size _⟩
  case rest =>
    have RR0 := Lib.hid R0; have RR1 := Lib.hid R1
    clear R0 R1
    obtain ⟨bs, v1, v2, rfl, hS, hb4⟩ := hcut
    have HS4 := Lib.hid hS
    have hB4 := hb4.size
    have hsz3 := cell_lt X0.out
    have e0 := (hb4.cell (cell_lt Z0.out)).trans Z0.out
    have e1 := (hb4.cell (cell_lt Z1.out)).trans Z1.out
    have e2 := (hb4.cell (cell_lt Z2.out)).trans Z2.out
    have e3 := (hb4.cell (cell_lt Z3.out)).trans Z3.out
    have e4 := (hb4.cell (cell_lt Z4.out)).trans Z4.out
    clear hS
    go_wp2_with fail
    refine (change_any _ w3.heap.size bs v1 v2 s k m f p q HS4.out (valid_len HV.out).1 (valid_len HV.out).2 hB4 hk15.out).mono ?_
    rintro e w5 he
    obtain ⟨rfl, ⟨v1', v2', hS5⟩, hb5⟩ := he
    have hb35 : Below w3.heap.size w3 w5 := hb4.trans hb5
    have HB35 := Lib.hid hb35
    clear e0 e1 e2 e3 e4 hb5 hb4 HS4
    have x0 := (hb35.cell (cell_lt X0.out)).trans X0.out
    have x1 := (hb35.cell (cell_lt X1.out)).trans X1.out
    have y0 := (hb35.frozen (p := ⟨w.heap.size + 2, 0, none⟩) (cell_lt X0.out)).trans Y0.out
    have y1 := (hb35.frozen (p := ⟨w.heap.size + 2, 1, none⟩) (cell_lt X1.out)).trans Y1.out
    have HW5 := Lib.hid (HBB.out.trans (hb35.mono HBB.out.size))
    cases hx : ((performS s ⟨k, m, f, p, q⟩).1 != 0) with
    | true =>
      have HR := Lib.hid (show stepS s ⟨k, m, f, p, q⟩ = (⟨[], []⟩, [], (performS s ⟨k, m, f, p, q⟩).1) by
        have : ¬ (performS s ⟨k, m, f, p, q⟩).1 = 0 := by simpa using hx
        unfold stepS; rw [HV.out, HE.out]; simp [this])
      go_wp2
      refine bodyPost_ret (v := .tuple #[.agg #[.slice none 0 0, .slice none 0 0], .slice none 0 0, .int .i64 (performS s ⟨k, m, f, p, q⟩).1]) (by simp [results, Try.results19, go_sem, x0, x1]) rfl ?_
      rw [HR.out]
      exact ⟨_, _, rfl, OwnSt.nil _ _, World.ownsRow_nil _ _ _ _, (HW5.out.setCell (by simp; omega) _).setCell (by simp; omega) _⟩
    | false =>
      have hz : (performS s ⟨k, m, f, p, q⟩).1 = 0 := by simpa using hx
      obtain ⟨t, ht⟩ : ∃ t, (performS s ⟨k, m, f, p, q⟩).2 = t := ⟨_, rfl⟩
      rw [ht] at hS5
      have HR := Lib.hid (show stepS s ⟨k, m, f, p, q⟩ = (t, outsS s t, 0) by
        unfold stepS; rw [HV.out, HE.out]; simp [hz, ht])
      have HS5 := Lib.hid hS5
      obtain ⟨TF, cF, TL, cL, rfl, rfl⟩ := hS5.forms
      have htb := perf_bounds s ⟨k, m, f, p, q⟩ (valid_len HV.out).1 (valid_len HV.out).2
      rw [ht] at htb
      have htf : t.files.length ≤ 65536 := by omega
      have htl : t.links.length ≤ 65536 := by omega
      have s0 := hS5.c0
      have s1 := hS5.c1
      rw [hz]
      clear hS5 hx hz ht HF3 HL3 Z0 Z1 Z2 Z3 Z4 x0 x1 y0 y1 htb hB4
      have hbs5 := cell_lt s0
      have b0 := (HB35.out.cell (cell_lt RR0.out)).trans RR0.out
      have b1 := (HB35.out.cell (cell_lt RR1.out)).trans RR1.out
      have hw5 := cell_lt b0
      go_wp2
      go_loopw [9, 10] (fun vo i wr => Below w5.heap.size w5 wr ∧ ∃ j : Nat, j ≤ t.links.length ∧ i = .int .i64 j ∧ Hid (wr.ownsRow w5.heap.size 61 2 vo (outsTo s t j).length ((outsTo s t j).flatMap OutR.cells))) (fun _ i _ => t.links.length - (intOf i).toNat)
      case atStart => exact ⟨Below.refl _ _, 0, Nat.zero_le _, rfl, World.ownsRow_nil _ _ _ _⟩
      case round =>
        obtain ⟨hbl, j, hj, rfl, HO⟩ := hrel
        have HW6 := Lib.hid (HW5.out.trans (hbl.mono HW5.out.size))
        have hszr := hbl.size
        have s0' := (hbl.cell (cell_lt s0)).trans s0
        have s1' := (hbl.cell (cell_lt s1)).trans s1
        have b0' := (hbl.cell (cell_lt b0)).trans b0
        have b1' := (hbl.cell (cell_lt b1)).trans b1
        have HSr := Lib.hid (HS5.out.later hbl)
        by_cases hlt : j < t.links.length
        · obtain ⟨b, off, rfl, hc⟩ := HSr.out.sl.2 j t.links[j] (by simp [hlt])
          have l0 := hc 0 _ rfl
          have hbb := cell_lt l0
          simp only [Nat.add_zero] at l0 hbb
          have hwr0 := cell_lt b0'
          have hwrs := cell_lt s0'
          clear hc s0 s1 b0 b1
          have HFr := Lib.hid (HF.out.later HW6.out)
          have HLr := Lib.hid (HL.out.later HW6.out)
          go_wp2_with fail
          have g0 := cell_later' b0'
          have g1 := cell_later' b1'
          have g2 := cell_later' s0'
          have g3 := cell_later' s1'
          refine wp_region_later (by kernel_rfl) (by kernel_rfl) ?_
          repeat (go_big_quiet_step (first
            | (go_at_call_of 16 (Value.agg #[Value.slice A s.files.length c, Value.slice D s.links.length d]); refine calls_later (status_ref _ _ _ _ _ _ s.files s.links t.links[j].media _ rfl rfl (by unfold maxLen; omega) (by unfold maxLen; omega) (HFr.out.later (Later.h _)) (HLr.out.later (Later.h _))))
            | (go_at_call_of 16 (Value.agg #[Value.slice TF t.files.length cF, Value.slice (some ⟨b, off, none⟩) t.links.length cL]); refine calls_later (status_ref _ _ _ _ _ _ t.files t.links t.links[j].media _ rfl rfl (by unfold maxLen; omega) (by unfold maxLen; omega) (HSr.out.sf.2.later (Later.h _)) (HSr.out.sl.2.later (Later.h _))))))
          refine wpQuiet_nil ?_
          intro w7 hw'
          have hb7 := later_out hw'
          clear hw' g0 g1 g2 g3
          have H17 := Lib.hid hb7
          have H57 := Lib.hid (hbl.trans (hb7.mono hbl.size))
          have t0 := (hb7.cell (cell_lt s0')).trans s0'
          have t1 := (hb7.cell (cell_lt s1')).trans s1'
          have HS7 := Lib.hid (HSr.out.later hb7)
          have HO7 := Lib.hid (own_later HO.out hb7)
          clear hb7
          cases hne : (status s.files s.links t.links[j].media != status t.files t.links t.links[j].media) with
          | false =>
            have hne2 : (status t.files t.links t.links[j].media != status s.files s.links t.links[j].media) = false := by rw [bne_comm]; exact hne
            have HN := Lib.hid (show outsTo s t (j + 1) = outsTo s t j by rw [outsTo_succ hlt]; simp [outF, hne2])
            clear hne2
            go_wp2
            go_roundw
            case rel => exact ⟨H57.out, j + 1, by omega, by go_num, by rw [HN.out]; exact HO7.out⟩
            case measure => simp [intOf]; omega
          | true =>
            have hne2 : (status t.files t.links t.links[j].media != status s.files s.links t.links[j].media) = true := by rw [bne_comm]; exact hne
            have HN := Lib.hid (show outsTo s t (j + 1) = outsTo s t j ++ [⟨t.links[j].media, status t.files t.links t.links[j].media⟩] by rw [outsTo_succ hlt]; simp [outF, hne2])
            clear hne2
            go_wp2_with fail
            refine (status_ref _ _ _ _ _ _ t.files t.links t.links[j].media _ rfl rfl (by unfold maxLen; omega) (by unfold maxLen; omega) HS7.out.sf.2 HS7.out.sl.2).mono ?_
            rintro e w8 ⟨rfl, hb8⟩
            have H58 := Lib.hid (H57.out.trans (hb8.mono H57.out.size))
            have HO8 := Lib.hid (own_later HO7.out hb8)
            have hs8 := H58.out.size
            clear hb8
            obtain ⟨i0, hi0, hz0, hz1, hz2⟩ := info_parts Try.info61
            have hol := outsTo_len s t j
            go_wp2_with (at_builtin; refine wpList_append_own_at _ rfl (.tmp 56) (.tmp 62) _ rfl w5.heap.size 61 i0 _ 2 24 Try.underlying48 hi0 hz0 hz1 hz2 rfl (by omega) _ _ _ rfl (HO8.out.alloc _) ⟨w8.heap.size, 0, none⟩ 1 1 [.string t.links[j].media, .int .i64 (status t.files t.links t.links[j].media)] rfl rfl (cells_new _ _) (by simp [Value.oneCell']) (by simp only [maxLen]; omega) (by omega) (by simp; omega) ?_
                         intro v' w9 hown hg hnil hat
                         have HO9 := Lib.hid hown
                         have HB9 := Lib.hid ((H58.out.alloc hs8 _).grown hg (by simp; omega) (fun q hq => (HO8.out.lt q hq).1))
                         clear hown hg hnil hat)
            go_roundw
            case rel => exact ⟨HB9.out, j + 1, by omega, by go_num, by rw [HN.out]; simpa [Hid, OutR.cells] using HO9.out⟩
            case measure => simp [intOf]; omega
        · have hje : j = t.links.length := by omega
          have HOe := Lib.hid (show outsTo s t j = outsS s t by rw [hje]; unfold outsTo outsS; rw [List.take_length])
          clear hje s0 s1 b0 b1 b0' b1'
          have x0 := (hbl.cell (Nat.lt_of_lt_of_le (cell_lt X0.out) HB35.out.size)).trans ((HB35.out.cell (cell_lt X0.out)).trans X0.out)
          have x1 := (hbl.cell (Nat.lt_of_lt_of_le (cell_lt X1.out) HB35.out.size)).trans ((HB35.out.cell (cell_lt X1.out)).trans X1.out)
          have y0 := (hbl.frozen (p := ⟨w.heap.size + 2, 0, none⟩) (Nat.lt_of_lt_of_le (cell_lt X0.out) HB35.out.size)).trans ((HB35.out.frozen (cell_lt X0.out)).trans Y0.out)
          have y1 := (hbl.frozen (p := ⟨w.heap.size + 2, 1, none⟩) (Nat.lt_of_lt_of_le (cell_lt X1.out) HB35.out.size)).trans ((HB35.out.frozen (cell_lt X1.out)).trans Y1.out)
          have hwA : w.heap.size ≤ w3.heap.size := HBB.out.size
          have hwB : w.heap.size ≤ w5.heap.size := HW5.out.size
          have hw35 : w3.heap.size ≤ w5.heap.size := HB35.out.size
          go_wp2
          refine bodyPost_ret (v := .tuple #[.agg #[.slice TF t.files.length cF, .slice TL t.links.length cL], u9, .int .i64 0]) (by simp [results, Try.results19, go_sem, x0, x1]) rfl ?_
          rw [HR.out]
          have k1 := ownsRow_setCell_below (ownsRow_setCell_below HSr.out.f (a := ⟨w.heap.size + 2, 0, none⟩) hsz3 (.slice TF t.files.length cF)) (a := ⟨w.heap.size + 2, 1, none⟩) hsz3 (.slice TL t.links.length cL)
          have k2 := ownsRow_setCell_below (ownsRow_setCell_below HSr.out.l (a := ⟨w.heap.size + 2, 0, none⟩) hsz3 (.slice TF t.files.length cF)) (a := ⟨w.heap.size + 2, 1, none⟩) hsz3 (.slice TL t.links.length cL)
          have k3 := ownsRow_setCell_below (ownsRow_setCell_below HO.out (a := ⟨w.heap.size + 2, 0, none⟩) (Nat.lt_of_lt_of_le hsz3 hw35) (.slice TF t.files.length cF)) (a := ⟨w.heap.size + 2, 1, none⟩) (Nat.lt_of_lt_of_le hsz3 hw35) (.slice TL t.links.length cL)
          refine ⟨_, _, rfl, ⟨_, _, rfl, own_mono k1 hwA, own_mono k2 hwA⟩, ?_, (HW6.out.setCell (by simp; omega) _).setCell (by simp; omega) _⟩
          rw [HOe.out] at k3
          exact own_mono k3 hwB
end Go.Proofs.Ytnbmiejjkkgckaa
