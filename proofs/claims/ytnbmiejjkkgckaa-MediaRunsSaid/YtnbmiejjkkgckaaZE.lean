/- Proved here: Contracts of the media package functions and of their reference, for use in the proofs of the given statements; conditions stand in each theorem. -/
import Derived.Test.YtnbmiejjkkgckaaZD
import Derived.Test.YtnbmiejjkkgckaaZB
import Derived.StillTailTactics
set_option linter.unusedSimpArgs false
set_option linter.unusedVariables false
namespace Go.Proofs.Ytnbmiejjkkgckaa
open Go.RowKit

set_option maxRecDepth 100000 in
set_option maxHeartbeats 16000000 in
theorem change_3 (w : World) (B bs : Nat) (v1 v2 : Value) (s : StateR) (m f p : ByteArray) (q : Int) (h : StO w B bs v1 v2 s) (hm : s.files.length ≤ 32) (hml : s.links.length ≤ 16) (hB : B ≤ w.heap.size) :
    Calls Try.prog 38 #[.pointer (some ⟨bs, 0, none⟩), .agg #[.int .i64 3, .string m, .string f, .string p, .int .u64 q]] w (StPost w B bs (performS s ⟨3, m, f, p, q⟩)) := by
  obtain ⟨A, c, D, d, rfl, rfl⟩ := h.forms
  obtain ⟨w0, hw0⟩ : ∃ w0, w0 = w.alloc (.cells #[.int .i64 3, .string m, .string f, .string p, .int .u64 q] 45) := ⟨_, rfl⟩
  have hal : Below w.heap.size w w0 := by rw [hw0]; exact later_alloc _ _
  have HS := Lib.hid (h.later hal); clear h
  have b0 : w0.cell? ⟨w.heap.size, 0, none⟩ = some (.int .i64 3) := by rw [hw0]; simp [go_sem]
  have b1 : w0.cell? ⟨w.heap.size, 1, none⟩ = some (.string m) := by rw [hw0]; simp [go_sem]
  have b2 : w0.cell? ⟨w.heap.size, 2, none⟩ = some (.string f) := by rw [hw0]; simp [go_sem]
  have b3 : w0.cell? ⟨w.heap.size, 3, none⟩ = some (.string p) := by rw [hw0]; simp [go_sem]
  have b4 : w0.cell? ⟨w.heap.size, 4, none⟩ = some (.int .u64 q) := by rw [hw0]; simp [go_sem]
  have HW := Lib.hid hw0
  clear hw0
  go_enter Try.func38, Try.ntmps38
  go_wp2_with fail
  rw [← HW.out]
  clear HW
  have x0 := cell_later' HS.out.c0
  have x1 := cell_later' HS.out.c1
  have y1 := cell_later' b1
  have y2 := cell_later' b2
  refine wp_region_later (by kernel_rfl) (by kernel_rfl) ?_
  repeat (go_big_quiet_step (first
    | (go_at_call 29; refine calls_later (link_ref _ _ _ _ s.links m _ rfl (by unfold maxLen; omega) (HS.out.sl.2.later (Later.h _))))
    | (go_at_call 28; refine calls_later (file_ref _ _ _ _ s.files f _ rfl (by unfold maxLen; omega) (HS.out.sf.2.later (Later.h _))))))
  refine wpQuiet_nil ?_
  intro w2 hw'
  have hb2 := later_out hw'
  clear hw' x0 x1 y1 y2
  have hbb : Below w.heap.size w w2 := hal.trans (hb2.mono hal.size)
  have HS2 := Lib.hid (HS.out.later hb2)
  have d0 := HS2.out.c0
  have d1 := HS2.out.c1
  have hbs := cell_lt d0
  have fr := HS2.out.fr
  have e0 := (hb2.cell (cell_lt b0)).trans b0
  have e1 := (hb2.cell (cell_lt b1)).trans b1
  have e2 := (hb2.cell (cell_lt b2)).trans b2
  have e3 := (hb2.cell (cell_lt b3)).trans b3
  have e4 := (hb2.cell (cell_lt b4)).trans b4
  have hsz := hbb.size
  have hbx := cell_lt e0
  clear b0 b1 b2 b3 b4 HS
  rcases fidx_cases s.files f with hi | ⟨j, hj, hi⟩
  · rcases lidx_cases s.links m with hl | ⟨k, hk, hl⟩
    · have HR := Lib.hid (show performS s ⟨3, m, f, p, q⟩ = (7, s) by simp [performS, connectS, here_none hi, hl])
      rw [hi, hl]
      clear hi hl
      go_wp2
      go_ret
      rw [HR.out]
      exact ⟨rfl, ⟨_, _, HS2.out⟩, hbb.mono hB⟩
    · have HR := Lib.hid (show performS s ⟨3, m, f, p, q⟩ = (8, s) by simp [performS, connectS, hl])
      have hk0 : (0:Int) ≤ k := by omega
      rw [hi, hl]
      clear hi hl
      go_wp2
      go_ret
      rw [HR.out]
      exact ⟨rfl, ⟨_, _, HS2.out⟩, hbb.mono hB⟩
  · have hh := here_some hj hi
    have HI := Lib.hid hi
    rw [hi]
    clear hi
    have hj0 : (0:Int) ≤ j := by omega
    obtain ⟨g, rfl, hg1, hg2⟩ := own_addr HS2.out.f (by omega)
    obtain ⟨b, off, hA, hc⟩ := HS2.out.sf.2 j s.files[j] (by simp [hj])
    injection hA with hA
    injection hA with hA1 hA2
    subst hA1 hA2
    have g1 := hc 1 _ rfl
    have g2 := hc 2 _ rfl
    simp only [Nat.zero_add] at g1 g2
    have fz := fun q => HS2.out.f.frozenAt q
    have hgb := cell_lt g1
    clear hc
    rcases lidx_cases s.links m with hl | ⟨k, hk, hl⟩
    · cases hp : s.files[j].present with
      | false =>
        rw [hp] at g2 hh
        have HR := Lib.hid (show performS s ⟨3, m, f, p, q⟩ = (7, s) by simp [performS, connectS, hh, hl])
        rw [hl]
        clear hp hh hl
        go_wp2
        go_ret
        rw [HR.out]
        exact ⟨rfl, ⟨_, _, HS2.out⟩, hbb.mono hB⟩
      | true =>
        rw [hp] at g2 hh
        by_cases h16 : 16 ≤ s.links.length
        · have HR := Lib.hid (show performS s ⟨3, m, f, p, q⟩ = (18, s) by simp [performS, connectS, hh, hl, h16])
          have heq : ((s.links.length : Int) == 16) = true := by simp; omega
          rw [hl]
          clear hp hh hl
          go_wp2
          go_ret
          rw [HR.out]
          exact ⟨rfl, ⟨_, _, HS2.out⟩, hbb.mono hB⟩
        · have HR := Lib.hid (show performS s ⟨3, m, f, p, q⟩ = (0, ⟨s.files, s.links ++ [⟨m, f, s.files[j].sum, ⟨#[]⟩⟩]⟩) by simp [performS, connectS, hh, hl, h16, HI.out, fileAt, hj])
          have heq : ((s.links.length : Int) == 16) = false := by simp; omega
          rw [hl]
          clear hp hh hl
          obtain ⟨i0, hi0, hz0, hz1, hz2⟩ := info_parts Try.info39
          go_wp2
          clear e0 e3 e4 g2 fz hg1 hg2 heq
          have x0 := cell_later' (w := w2.drew) d0
          have x1 := cell_later' (w := w2.drew) d1
          have y1 := cell_later' (w := w2.drew) e1
          have y2 := cell_later' (w := w2.drew) e2
          have z1 := cell_later' (w := w2.drew) g1
          refine wp_region_qt [true,true,true,true,true,true,true,true,true,true,true,true,true,true,true,true,true,true,false,false,false,false,false] [19, 20, 21, 22] (by kernel_rfl) (by kernel_rfl) (by kernel_rfl) rfl ?_ (by decide)
          dsimp only [pickQ]
          repeat (go_big_quiet_step (fail))
          refine wpQuiet_nil ?_
          clear x0 x1 y1 y2 z1 d0 d1 e1 e2 g1 hbs hgb fr
          refine tail_one (i := 18) (by kernel_rfl) rfl rfl rfl ?_
          intro K hK
          go_simp
          refine hK _ _ (below_dd (later_alloc w2 _)) ?_
          clear hK K
          refine tail_loud (i := 19) (by kernel_rfl) rfl rfl rfl ?_
          intro K hK
          refine wp_append_own_at (.tmp 101) (.tmp 115) _ rfl B 39 i0 _ 4 56 Try.underlying28 hi0 hz0 hz1 hz2 rfl (by omega) _ _ _ rfl (HS2.out.l.alloc _) ⟨w2.heap.size, 0, none⟩ 1 1 [.string m, .string f, .int .u64 s.files[j].sum, .string ⟨#[]⟩] rfl rfl (cells_new _ _) (by simp [Value.oneCell']) (by simp only [maxLen]; omega) (by omega) (by simp; omega) ?_
          intro v' w3 hown hg hnil hat
          obtain ⟨A', c', rfl, _⟩ := own_form hown
          have HAP := Lib.hid (HS2.out.appL (later_alloc _ _).drew (by omega) ⟨m, f, s.files[j].sum, ⟨#[]⟩⟩ hown hg)
          have q0 := (cell_of_row w3 bs 1 _ _ _ HAP.out.1)
          have q1 := (frozen_of_row w3 bs 1 _ _ HAP.out.1)
          clear hown hg hnil hat
          refine hK _ _ ?_
          clear hK K
          refine tail_loud (i := 20) (by kernel_rfl) rfl rfl rfl ?_
          intro K hK
          go_simp
          refine hK _ _ ?_
          clear hK K
          refine tail_loud (i := 21) (by kernel_rfl) rfl rfl rfl ?_
          intro K hK
          go_simp
          refine hK _ _ ?_
          clear hK K
          refine tail_loud (i := 22) (by kernel_rfl) rfl rfl rfl ?_
          intro K hK
          go_simp
          refine hK _ _ ?_
          clear hK K
          refine tail_done (by kernel_rfl) (NoPanic.normal ?_)
          go_wp2
          go_ret
          rw [HR.out]
          exact ⟨rfl, ⟨_, _, HAP.out.2.2.1⟩, (hbb.mono hB).trans HAP.out.2.2.2⟩
    · have HR := Lib.hid (show performS s ⟨3, m, f, p, q⟩ = (8, s) by simp [performS, connectS, hl])
      have hk0 : (0:Int) ≤ k := by omega
      rw [hl]
      clear hl hh
      cases hp : s.files[j].present with
      | false =>
        rw [hp] at g2
        clear hp
        go_wp2
        go_ret
        rw [HR.out]
        exact ⟨rfl, ⟨_, _, HS2.out⟩, hbb.mono hB⟩
      | true =>
        rw [hp] at g2
        clear hp
        go_wp2
        go_ret
        rw [HR.out]
        exact ⟨rfl, ⟨_, _, HS2.out⟩, hbb.mono hB⟩
end Go.Proofs.Ytnbmiejjkkgckaa
/- Proved here: Contracts of the media package functions and of their reference, for use in the proofs of the given statements; conditions stand in each theorem. -/
namespace Go.Proofs.Ytnbmiejjkkgckaa
open Go.RowKit

set_option maxRecDepth 100000 in
set_option maxHeartbeats 8000000 in
theorem change_5 (w : World) (B bs : Nat) (v1 v2 : Value) (s : StateR) (m f p : ByteArray) (q : Int) (h : StO w B bs v1 v2 s) (hm : s.files.length ≤ 32) (hml : s.links.length ≤ 16) (hB : B ≤ w.heap.size) :
    Calls Try.prog 38 #[.pointer (some ⟨bs, 0, none⟩), .agg #[.int .i64 5, .string m, .string f, .string p, .int .u64 q]] w (StPost w B bs (performS s ⟨5, m, f, p, q⟩)) := by
  obtain ⟨A, c, D, d, rfl, rfl⟩ := h.forms
  obtain ⟨w0, hw0⟩ : ∃ w0, w0 = w.alloc (.cells #[.int .i64 5, .string m, .string f, .string p, .int .u64 q] 45) := ⟨_, rfl⟩
  have hal : Below w.heap.size w w0 := by rw [hw0]; exact later_alloc _ _
  have HS := Lib.hid (h.later hal); clear h
  have b0 : w0.cell? ⟨w.heap.size, 0, none⟩ = some (.int .i64 5) := by rw [hw0]; simp [go_sem]
  have b1 : w0.cell? ⟨w.heap.size, 1, none⟩ = some (.string m) := by rw [hw0]; simp [go_sem]
  have b2 : w0.cell? ⟨w.heap.size, 2, none⟩ = some (.string f) := by rw [hw0]; simp [go_sem]
  have b3 : w0.cell? ⟨w.heap.size, 3, none⟩ = some (.string p) := by rw [hw0]; simp [go_sem]
  have b4 : w0.cell? ⟨w.heap.size, 4, none⟩ = some (.int .u64 q) := by rw [hw0]; simp [go_sem]
  have HW := Lib.hid hw0
  clear hw0
  go_enter Try.func38, Try.ntmps38
  go_wp2_with fail
  rw [← HW.out]
  clear HW
  have x0 := cell_later' HS.out.c0
  have x1 := cell_later' HS.out.c1
  have y1 := cell_later' b1
  have y2 := cell_later' b2
  refine wp_region_later (by kernel_rfl) (by kernel_rfl) ?_
  repeat (go_big_quiet_step (first
    | (go_at_call 29; refine calls_later (link_ref _ _ _ _ s.links m _ rfl (by unfold maxLen; omega) (HS.out.sl.2.later (Later.h _))))
    | (go_at_call 28; refine calls_later (file_ref _ _ _ _ s.files f _ rfl (by unfold maxLen; omega) (HS.out.sf.2.later (Later.h _))))))
  refine wpQuiet_nil ?_
  intro w2 hw'
  have hb2 := later_out hw'
  clear hw' x0 x1 y1 y2
  have hbb : Below w.heap.size w w2 := hal.trans (hb2.mono hal.size)
  have HS2 := Lib.hid (HS.out.later hb2)
  have d0 := HS2.out.c0
  have d1 := HS2.out.c1
  have hbs := cell_lt d0
  have fr := HS2.out.fr
  have e0 := (hb2.cell (cell_lt b0)).trans b0
  have e1 := (hb2.cell (cell_lt b1)).trans b1
  have e2 := (hb2.cell (cell_lt b2)).trans b2
  have e3 := (hb2.cell (cell_lt b3)).trans b3
  have e4 := (hb2.cell (cell_lt b4)).trans b4
  have hsz := hbb.size
  have hbx := cell_lt e0
  clear b0 b1 b2 b3 b4 HS
  rcases fidx_cases s.files f with hi | ⟨j, hj, hi⟩
  · have g2 : True := trivial
    rw [hi]
    clear hi
    cases heq : (p.toList == m.toList) with
    | true =>
      have HR := Lib.hid (show performS s ⟨5, m, f, p, q⟩ = (1, s) by simp [performS, attachS, heq])
      go_wp2
      go_ret
      rw [HR.out]
      exact ⟨rfl, ⟨_, _, HS2.out⟩, hbb.mono hB⟩
    | false =>
    have HE := Lib.hid heq
    rcases lidx_cases s.links m with hl | ⟨k, hk, hl⟩
    · have HR := Lib.hid (show performS s ⟨5, m, f, p, q⟩ = (7, s) by simp [performS, attachS, heq, hl])
      rw [hl]
      clear hl
      go_wp2
      go_quiet (fail)
      go_wp2
      go_ret
      rw [HR.out]
      exact ⟨rfl, ⟨_, _, HS2.out.later ((Below.refl _ _).drewN _)⟩, (hbb.mono hB).drewN _⟩
    have HL := Lib.hid hl
    rw [hl]
    have hk0 : (0:Int) ≤ k := by omega
    have hkn : ¬ ((k : Int) < 0) := by omega
    have HK := Lib.hid hkn
    clear hl hkn
    cases hp : emp p with
    | true =>
      have HP := Lib.hid (show p.toList = [] by simpa [emp] using hp)
      have HR := Lib.hid (show performS s ⟨5, m, f, p, q⟩ = (0, ⟨s.files, s.links.set k { s.links[k] with proxy := p }⟩) by
        simp [performS, attachS, HE.out, HL.out, hp, hk, HK.out])
      clear hp
      obtain ⟨g', rfl, hg1', hg2'⟩ := own_addr HS2.out.l (by omega)
      obtain ⟨b', off', hA, hc⟩ := HS2.out.sl.2 k s.links[k] (by simp [hk])
      injection hA with hA
      injection hA with hA1 hA2
      subst hA1 hA2
      have l3 := hc 3 _ rfl
      simp only [Nat.zero_add] at l3
      have fz' := fun q => HS2.out.l.frozenAt q
      clear hc
      go_wp2
      have hp' := HP.out
      have hkd : decide ((k : Int) < 0) = false := decide_eq_false (by omega)
      clear heq
      go_quiet (fail)
      go_wp2
      go_region
      all_goals
        go_wp2
        go_ret
        rw [HR.out]
        have s1 := HS2.out.setL hk 3 (by omega) { s.links[k] with proxy := p } (.string p) rfl (k * 4 + 3) rfl
        exact ⟨rfl, ⟨_, _, s1.1.later ((Below.refl _ _).drewN _)⟩, ((hbb.mono hB).trans s1.2).drewN _⟩
    | false =>
      have HP := Lib.hid (show p.toList.isEmpty = false from hp)
      have HPN := Lib.hid (show ¬ p.toList = [] by simpa [emp] using hp)
      go_wp2_with fail
      have hp' := HP.out
      have hkd : decide ((k : Int) < 0) = false := decide_eq_false (by omega)
      have hpn := HPN.out
      clear heq
      have x0 := cell_later' d0
      have x1 := cell_later' d1
      have y3 := cell_later' e3
      refine wp_region_later (by kernel_rfl) (by kernel_rfl) ?_
      repeat (go_big_quiet_step ((go_at_call 29; refine calls_later (link_ref _ _ _ _ s.links p _ rfl (by unfold maxLen; omega) (HS2.out.sl.2.later (Later.h _))))))
      refine wpQuiet_nil ?_
      intro w3 hw'
      have hb3 := later_out hw'
      clear hw' x0 x1 y3
      have hbb3 : Below w.heap.size w w3 := hbb.trans (hb3.mono hbb.size)
      have HS3 := Lib.hid (HS2.out.later hb3)
      clear d0 d1 hbs fr
      have d0 := HS3.out.c0
      have d1 := HS3.out.c1
      have hbs := cell_lt d0
      have fr := HS3.out.fr
      have e3' := (hb3.cell (cell_lt e3)).trans e3
      clear e0 e1 e2 e3 e4
      rcases lidx_cases s.links p with hl | ⟨k2, hk2, hl⟩
      · have HR := Lib.hid (show performS s ⟨5, m, f, p, q⟩ = (7, s) by simp [performS, attachS, HE.out, HL.out, hp, hl])
        rw [hl]
        clear hl hp
        go_wp2
        go_ret
        rw [HR.out]
        exact ⟨rfl, ⟨_, _, HS3.out⟩, hbb3.mono hB⟩
      · have hk20 : (0:Int) ≤ k2 := by omega
        have hk2n : ¬ ((k2 : Int) < 0) := by omega
        have HR := Lib.hid (show performS s ⟨5, m, f, p, q⟩ = (0, ⟨s.files, s.links.set k { s.links[k] with proxy := p }⟩) by
          simp [performS, attachS, HE.out, HL.out, hp, hl, hk, HK.out, hk2n])
        rw [hl]
        clear hl hp hk2n
        obtain ⟨g', rfl, hg1', hg2'⟩ := own_addr HS3.out.l (by omega)
        obtain ⟨b', off', hA, hc⟩ := HS3.out.sl.2 k s.links[k] (by simp [hk])
        injection hA with hA
        injection hA with hA1 hA2
        subst hA1 hA2
        have l3 := hc 3 _ rfl
        simp only [Nat.zero_add] at l3
        have fz' := fun q => HS3.out.l.frozenAt q
        clear hc
        go_wp2
        go_region
        all_goals
          go_wp2
          go_ret
          rw [HR.out]
          have s1 := HS3.out.setL hk 3 (by omega) { s.links[k] with proxy := p } (.string p) rfl (k * 4 + 3) rfl
          exact ⟨rfl, ⟨_, _, s1.1.later ((Below.refl _ _).drew)⟩, ((hbb3.mono hB).trans s1.2).drew⟩
  · rw [hi]
    clear hi
    have hj0 : (0:Int) ≤ j := by omega
    obtain ⟨gf, rfl, hg1, hg2⟩ := own_addr HS2.out.f (by omega)
    obtain ⟨b, off, hA, hc⟩ := HS2.out.sf.2 j s.files[j] (by simp [hj])
    injection hA with hA
    injection hA with hA1 hA2
    subst hA1 hA2
    have g2 := hc 2 _ rfl
    simp only [Nat.zero_add] at g2
    clear hc
    cases hpr : s.files[j].present with
    | false =>
      rw [hpr] at g2
      clear hpr
      cases heq : (p.toList == m.toList) with
      | true =>
        have HR := Lib.hid (show performS s ⟨5, m, f, p, q⟩ = (1, s) by simp [performS, attachS, heq])
        go_wp2
        go_ret
        rw [HR.out]
        exact ⟨rfl, ⟨_, _, HS2.out⟩, hbb.mono hB⟩
      | false =>
      have HE := Lib.hid heq
      rcases lidx_cases s.links m with hl | ⟨k, hk, hl⟩
      · have HR := Lib.hid (show performS s ⟨5, m, f, p, q⟩ = (7, s) by simp [performS, attachS, heq, hl])
        rw [hl]
        clear hl
        go_wp2
        go_quiet (fail)
        go_wp2
        go_ret
        rw [HR.out]
        exact ⟨rfl, ⟨_, _, HS2.out.later ((Below.refl _ _).drewN _)⟩, (hbb.mono hB).drewN _⟩
      have HL := Lib.hid hl
      rw [hl]
      have hk0 : (0:Int) ≤ k := by omega
      have hkn : ¬ ((k : Int) < 0) := by omega
      have HK := Lib.hid hkn
      clear hl hkn
      cases hp : emp p with
      | true =>
        have HP := Lib.hid (show p.toList = [] by simpa [emp] using hp)
        have HR := Lib.hid (show performS s ⟨5, m, f, p, q⟩ = (0, ⟨s.files, s.links.set k { s.links[k] with proxy := p }⟩) by
          simp [performS, attachS, HE.out, HL.out, hp, hk, HK.out])
        clear hp
        obtain ⟨g', rfl, hg1', hg2'⟩ := own_addr HS2.out.l (by omega)
        obtain ⟨b', off', hA, hc⟩ := HS2.out.sl.2 k s.links[k] (by simp [hk])
        injection hA with hA
        injection hA with hA1 hA2
        subst hA1 hA2
        have l3 := hc 3 _ rfl
        simp only [Nat.zero_add] at l3
        have fz' := fun q => HS2.out.l.frozenAt q
        clear hc
        go_wp2
        have hp' := HP.out
        have hkd : decide ((k : Int) < 0) = false := decide_eq_false (by omega)
        clear heq
        go_quiet (fail)
        go_wp2
        go_region
        all_goals
          go_wp2
          go_ret
          rw [HR.out]
          have s1 := HS2.out.setL hk 3 (by omega) { s.links[k] with proxy := p } (.string p) rfl (k * 4 + 3) rfl
          exact ⟨rfl, ⟨_, _, s1.1.later ((Below.refl _ _).drewN _)⟩, ((hbb.mono hB).trans s1.2).drewN _⟩
      | false =>
        have HP := Lib.hid (show p.toList.isEmpty = false from hp)
        have HPN := Lib.hid (show ¬ p.toList = [] by simpa [emp] using hp)
        go_wp2_with fail
        have hp' := HP.out
        have hkd : decide ((k : Int) < 0) = false := decide_eq_false (by omega)
        have hpn := HPN.out
        clear heq
        have x0 := cell_later' d0
        have x1 := cell_later' d1
        have y3 := cell_later' e3
        refine wp_region_later (by kernel_rfl) (by kernel_rfl) ?_
        repeat (go_big_quiet_step ((go_at_call 29; refine calls_later (link_ref _ _ _ _ s.links p _ rfl (by unfold maxLen; omega) (HS2.out.sl.2.later (Later.h _))))))
        refine wpQuiet_nil ?_
        intro w3 hw'
        have hb3 := later_out hw'
        clear hw' x0 x1 y3
        have hbb3 : Below w.heap.size w w3 := hbb.trans (hb3.mono hbb.size)
        have HS3 := Lib.hid (HS2.out.later hb3)
        clear d0 d1 hbs fr
        have d0 := HS3.out.c0
        have d1 := HS3.out.c1
        have hbs := cell_lt d0
        have fr := HS3.out.fr
        have e3' := (hb3.cell (cell_lt e3)).trans e3
        clear e0 e1 e2 e3 e4
        rcases lidx_cases s.links p with hl | ⟨k2, hk2, hl⟩
        · have HR := Lib.hid (show performS s ⟨5, m, f, p, q⟩ = (7, s) by simp [performS, attachS, HE.out, HL.out, hp, hl])
          rw [hl]
          clear hl hp
          go_wp2
          go_ret
          rw [HR.out]
          exact ⟨rfl, ⟨_, _, HS3.out⟩, hbb3.mono hB⟩
        · have hk20 : (0:Int) ≤ k2 := by omega
          have hk2n : ¬ ((k2 : Int) < 0) := by omega
          have HR := Lib.hid (show performS s ⟨5, m, f, p, q⟩ = (0, ⟨s.files, s.links.set k { s.links[k] with proxy := p }⟩) by
            simp [performS, attachS, HE.out, HL.out, hp, hl, hk, HK.out, hk2n])
          rw [hl]
          clear hl hp hk2n
          obtain ⟨g', rfl, hg1', hg2'⟩ := own_addr HS3.out.l (by omega)
          obtain ⟨b', off', hA, hc⟩ := HS3.out.sl.2 k s.links[k] (by simp [hk])
          injection hA with hA
          injection hA with hA1 hA2
          subst hA1 hA2
          have l3 := hc 3 _ rfl
          simp only [Nat.zero_add] at l3
          have fz' := fun q => HS3.out.l.frozenAt q
          clear hc
          go_wp2
          go_region
          all_goals
            go_wp2
            go_ret
            rw [HR.out]
            have s1 := HS3.out.setL hk 3 (by omega) { s.links[k] with proxy := p } (.string p) rfl (k * 4 + 3) rfl
            exact ⟨rfl, ⟨_, _, s1.1.later ((Below.refl _ _).drew)⟩, ((hbb3.mono hB).trans s1.2).drew⟩
    | true =>
      rw [hpr] at g2
      clear hpr
      cases heq : (p.toList == m.toList) with
      | true =>
        have HR := Lib.hid (show performS s ⟨5, m, f, p, q⟩ = (1, s) by simp [performS, attachS, heq])
        go_wp2
        go_ret
        rw [HR.out]
        exact ⟨rfl, ⟨_, _, HS2.out⟩, hbb.mono hB⟩
      | false =>
      have HE := Lib.hid heq
      rcases lidx_cases s.links m with hl | ⟨k, hk, hl⟩
      · have HR := Lib.hid (show performS s ⟨5, m, f, p, q⟩ = (7, s) by simp [performS, attachS, heq, hl])
        rw [hl]
        clear hl
        go_wp2
        go_quiet (fail)
        go_wp2
        go_ret
        rw [HR.out]
        exact ⟨rfl, ⟨_, _, HS2.out.later ((Below.refl _ _).drewN _)⟩, (hbb.mono hB).drewN _⟩
      have HL := Lib.hid hl
      rw [hl]
      have hk0 : (0:Int) ≤ k := by omega
      have hkn : ¬ ((k : Int) < 0) := by omega
      have HK := Lib.hid hkn
      clear hl hkn
      cases hp : emp p with
      | true =>
        have HP := Lib.hid (show p.toList = [] by simpa [emp] using hp)
        have HR := Lib.hid (show performS s ⟨5, m, f, p, q⟩ = (0, ⟨s.files, s.links.set k { s.links[k] with proxy := p }⟩) by
          simp [performS, attachS, HE.out, HL.out, hp, hk, HK.out])
        clear hp
        obtain ⟨g', rfl, hg1', hg2'⟩ := own_addr HS2.out.l (by omega)
        obtain ⟨b', off', hA, hc⟩ := HS2.out.sl.2 k s.links[k] (by simp [hk])
        injection hA with hA
        injection hA with hA1 hA2
        subst hA1 hA2
        have l3 := hc 3 _ rfl
        simp only [Nat.zero_add] at l3
        have fz' := fun q => HS2.out.l.frozenAt q
        clear hc
        go_wp2
        have hp' := HP.out
        have hkd : decide ((k : Int) < 0) = false := decide_eq_false (by omega)
        clear heq
        go_quiet (fail)
        go_wp2
        go_region
        all_goals
          go_wp2
          go_ret
          rw [HR.out]
          have s1 := HS2.out.setL hk 3 (by omega) { s.links[k] with proxy := p } (.string p) rfl (k * 4 + 3) rfl
          exact ⟨rfl, ⟨_, _, s1.1.later ((Below.refl _ _).drewN _)⟩, ((hbb.mono hB).trans s1.2).drewN _⟩
      | false =>
        have HP := Lib.hid (show p.toList.isEmpty = false from hp)
        have HPN := Lib.hid (show ¬ p.toList = [] by simpa [emp] using hp)
        go_wp2_with fail
        have hp' := HP.out
        have hkd : decide ((k : Int) < 0) = false := decide_eq_false (by omega)
        have hpn := HPN.out
        clear heq
        have x0 := cell_later' d0
        have x1 := cell_later' d1
        have y3 := cell_later' e3
        refine wp_region_later (by kernel_rfl) (by kernel_rfl) ?_
        repeat (go_big_quiet_step ((go_at_call 29; refine calls_later (link_ref _ _ _ _ s.links p _ rfl (by unfold maxLen; omega) (HS2.out.sl.2.later (Later.h _))))))
        refine wpQuiet_nil ?_
        intro w3 hw'
        have hb3 := later_out hw'
        clear hw' x0 x1 y3
        have hbb3 : Below w.heap.size w w3 := hbb.trans (hb3.mono hbb.size)
        have HS3 := Lib.hid (HS2.out.later hb3)
        clear d0 d1 hbs fr
        have d0 := HS3.out.c0
        have d1 := HS3.out.c1
        have hbs := cell_lt d0
        have fr := HS3.out.fr
        have e3' := (hb3.cell (cell_lt e3)).trans e3
        clear e0 e1 e2 e3 e4
        rcases lidx_cases s.links p with hl | ⟨k2, hk2, hl⟩
        · have HR := Lib.hid (show performS s ⟨5, m, f, p, q⟩ = (7, s) by simp [performS, attachS, HE.out, HL.out, hp, hl])
          rw [hl]
          clear hl hp
          go_wp2
          go_ret
          rw [HR.out]
          exact ⟨rfl, ⟨_, _, HS3.out⟩, hbb3.mono hB⟩
        · have hk20 : (0:Int) ≤ k2 := by omega
          have hk2n : ¬ ((k2 : Int) < 0) := by omega
          have HR := Lib.hid (show performS s ⟨5, m, f, p, q⟩ = (0, ⟨s.files, s.links.set k { s.links[k] with proxy := p }⟩) by
            simp [performS, attachS, HE.out, HL.out, hp, hl, hk, HK.out, hk2n])
          rw [hl]
          clear hl hp hk2n
          obtain ⟨g', rfl, hg1', hg2'⟩ := own_addr HS3.out.l (by omega)
          obtain ⟨b', off', hA, hc⟩ := HS3.out.sl.2 k s.links[k] (by simp [hk])
          injection hA with hA
          injection hA with hA1 hA2
          subst hA1 hA2
          have l3 := hc 3 _ rfl
          simp only [Nat.zero_add] at l3
          have fz' := fun q => HS3.out.l.frozenAt q
          clear hc
          go_wp2
          go_region
          all_goals
            go_wp2
            go_ret
            rw [HR.out]
            have s1 := HS3.out.setL hk 3 (by omega) { s.links[k] with proxy := p } (.string p) rfl (k * 4 + 3) rfl
            exact ⟨rfl, ⟨_, _, s1.1.later ((Below.refl _ _).drew)⟩, ((hbb3.mono hB).trans s1.2).drew⟩
end Go.Proofs.Ytnbmiejjkkgckaa
