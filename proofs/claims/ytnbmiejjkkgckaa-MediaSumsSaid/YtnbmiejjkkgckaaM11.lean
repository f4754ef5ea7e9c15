/- Proved here: Contracts of the media package functions and of their reference, for use in the proofs of the given statements; conditions stand in each theorem. -/
import Derived.Test.YtnbmiejjkkgckaaM10
namespace Go.Proofs.Ytnbmiejjkkgckaa
open Go.RowKit

theorem here_none {fs : List FileR} {nm : ByteArray} (h : fidx fs nm = -1) : hereB fs nm = false := by unfold hereB; rw [h]; rfl
theorem here_some {fs : List FileR} {nm : ByteArray} {j : Nat} (hj : j < fs.length) (h : fidx fs nm = j) : hereB fs nm = fs[j].present := by
  unfold hereB; rw [h]; simp [fileAt, hj]
theorem own_own {w : World} {B e e' k n k' n' c c' g g' : Nat} {xs ys : List Value} (h : w.ownsRow B e k (.slice (some ⟨g, 0, none⟩) n c) n xs) (h' : w.ownsRow B e' k' (.slice (some ⟨g', 0, none⟩) n' c') n' ys) (hne : e ≠ e') : g ≠ g' := by
  rcases own_own_ne h h' hne with h1 | h1
  · simp [Value.ownBlock] at h1
  · intro e; subst e; exact h1 rfl
set_option maxRecDepth 100000 in
set_option maxHeartbeats 4000000 in
theorem change_2 (w : World) (B bs : Nat) (v1 v2 : Value) (s : StateR) (m f p : ByteArray) (q : Int) (h : StO w B bs v1 v2 s) (hm : s.files.length ≤ 32) (hml : s.links.length ≤ 16) (hB : B ≤ w.heap.size) :
    Calls Try.prog 38 #[.pointer (some ⟨bs, 0, none⟩), .agg #[.int .i64 2, .string m, .string f, .string p, .int .u64 q]] w (StPost w B bs (performS s ⟨2, m, f, p, q⟩)) := by
  obtain ⟨A, c, D, d, rfl, rfl⟩ := h.forms
  obtain ⟨w0, hw0⟩ : ∃ w0, w0 = w.alloc (.cells #[.int .i64 2, .string m, .string f, .string p, .int .u64 q] 45) := ⟨_, rfl⟩
  have hal : Below w.heap.size w w0 := by rw [hw0]; exact later_alloc _ _
  have HS := Lib.hid (h.later hal); clear h
  have b0 : w0.cell? ⟨w.heap.size, 0, none⟩ = some (.int .i64 2) := by rw [hw0]; simp [go_sem]
  have b1 : w0.cell? ⟨w.heap.size, 1, none⟩ = some (.string m) := by rw [hw0]; simp [go_sem]
  have b2 : w0.cell? ⟨w.heap.size, 2, none⟩ = some (.string f) := by rw [hw0]; simp [go_sem]
  have b3 : w0.cell? ⟨w.heap.size, 3, none⟩ = some (.string p) := by rw [hw0]; simp [go_sem]
  have b4 : w0.cell? ⟨w.heap.size, 4, none⟩ = some (.int .u64 q) := by rw [hw0]; simp [go_sem]
  have HW := Lib.hid hw0
  clear hw0
  go_enter Try.func38, Try.ntmps38
  go_wp2_with fail
  rw [← HW.out]
  clear HW
  have x0 := cell_later' HS.out.c0
  have x1 := cell_later' HS.out.c1
  have y1 := cell_later' b1
  have y2 := cell_later' b2
  refine wp_region_later (by kernel_rfl) (by kernel_rfl) ?_
  repeat (go_big_quiet_step (first
    | (go_at_call 29; refine calls_later (link_ref _ _ _ _ s.links m _ rfl (by unfold maxLen; omega) (HS.out.sl.2.later (Later.h _))))
    | (go_at_call 28; refine calls_later (file_ref _ _ _ _ s.files f _ rfl (by unfold maxLen; omega) (HS.out.sf.2.later (Later.h _))))))
  refine wpQuiet_nil ?_
  intro w2 hw'
  have hb2 := later_out hw'
  clear hw' x0 x1 y1 y2
  have hbb : Below w.heap.size w w2 := hal.trans (hb2.mono hal.size)
  have HS2 := Lib.hid (HS.out.later hb2)
  have d0 := HS2.out.c0
  have d1 := HS2.out.c1
  have hbs := cell_lt d0
  have fr := HS2.out.fr
  have e0 := (hb2.cell (cell_lt b0)).trans b0
  have e1 := (hb2.cell (cell_lt b1)).trans b1
  have e2 := (hb2.cell (cell_lt b2)).trans b2
  have e3 := (hb2.cell (cell_lt b3)).trans b3
  have e4 := (hb2.cell (cell_lt b4)).trans b4
  have hsz := hbb.size
  have hbx := cell_lt e0
  clear b0 b1 b2 b3 b4 HS
  rcases fidx_cases s.files f with hi | ⟨j, hj, hi⟩
  · have HR := Lib.hid (show performS s ⟨2, m, f, p, q⟩ = (7, s) by simp [performS, leaveS, here_none hi])
    rw [hi]
    clear hi
    go_wp2
    go_ret
    rw [HR.out]
    exact ⟨rfl, ⟨_, _, HS2.out⟩, hbb.mono hB⟩
  · have hh := here_some hj hi
    have HI := Lib.hid hi
    rw [hi]
    clear hi
    have hj0 : (0:Int) ≤ j := by omega
    obtain ⟨g, rfl, hg1, hg2⟩ := own_addr HS2.out.f (by omega)
    obtain ⟨b, off, hA, hc⟩ := HS2.out.sf.2 j s.files[j] (by simp [hj])
    injection hA with hA
    injection hA with hA1 hA2
    subst hA1 hA2
    have g1 := hc 1 _ rfl
    have g2 := hc 2 _ rfl
    simp only [Nat.zero_add] at g1 g2
    have fz := fun q => HS2.out.f.frozenAt q
    have hgb := cell_lt g1
    clear hc
    cases hp : s.files[j].present with
    | false =>
      rw [hp] at g2 hh
      have HR := Lib.hid (show performS s ⟨2, m, f, p, q⟩ = (7, s) by simp [performS, leaveS, hh])
      clear hp hh
      go_wp2
      go_ret
      rw [HR.out]
      exact ⟨rfl, ⟨_, _, HS2.out⟩, hbb.mono hB⟩
    | true =>
      rw [hp] at g2 hh
      have HR := Lib.hid (show performS s ⟨2, m, f, p, q⟩ = (0, ⟨s.files.set j { s.files[j] with present := false }, s.links⟩) by simp [performS, leaveS, hh, HI.out, fileAt, hj])
      clear hp hh
      go_wp2
      all_goals
        go_ret
        rw [HR.out]
        have s1 := HS2.out.setF hj 2 (by omega) { s.files[j] with present := false } (.bool false) rfl (j * 3 + 2) rfl
        exact ⟨rfl, ⟨_, _, s1.1⟩, (hbb.mono hB).trans s1.2⟩
end Go.Proofs.Ytnbmiejjkkgckaa
