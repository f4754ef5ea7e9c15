/- Proved here: Contracts of the media package functions and of their reference, for use in the proofs of the given statements; conditions stand in each theorem. -/
import Derived.Test.YtnbmiejjkkgckaaM9
namespace Go.Proofs.Ytnbmiejjkkgckaa
open Go.RowKit

theorem eq_of_toList {a b : ByteArray} (h : (a.toList == b.toList) = true) : a = b := by
  have h1 : a.toList = b.toList := by simpa using h
  rw [ByteArray.toList_eq, ByteArray.toList_eq] at h1
  cases a; cases b
  simp at h1
  simp [h1]
theorem idxFrom_hit {α : Type} (p : α → Bool) : ∀ (l : List α) (k j : Nat) (hj : j < l.length), idxFrom p l k = (k + j : Nat) → p l[j] = true
  | x :: r, k, j, hj, h => by
    unfold idxFrom at h
    by_cases hx : p x = true
    · rw [if_pos hx] at h
      have : j = 0 := by omega
      subst this
      exact hx
    · rw [if_neg hx] at h
      cases j with
      | zero =>
        rcases idxFrom_range p r (k + 1) with h1 | h1 <;> omega
      | succ j => exact idxFrom_hit p r (k + 1) j (by simpa using hj) (by rw [h]; congr 1; omega)
theorem fidx_name {fs : List FileR} {nm : ByteArray} {j : Nat} (hj : j < fs.length) (h : fidx fs nm = j) : fs[j].name = nm :=
  eq_of_toList (idxFrom_hit _ fs 0 j hj (by unfold fidx idx at h; rw [h]; simp))
theorem lidx_name {fs : List LinkR} {nm : ByteArray} {j : Nat} (hj : j < fs.length) (h : lidx fs nm = j) : fs[j].media = nm :=
  eq_of_toList (idxFrom_hit _ fs 0 j hj (by unfold lidx idx at h; rw [h]; simp))
theorem fidx_cases (ls : List FileR) (md : ByteArray) : fidx ls md = -1 ∨ ∃ j : Nat, ∃ _ : j < ls.length, fidx ls md = j := by
  rcases idx_range (fun f : FileR => f.name.toList == md.toList) ls with hi | ⟨j, hj, hi⟩
  · exact .inl hi
  · exact .inr ⟨j, hj, hi⟩

set_option maxRecDepth 100000 in
set_option maxHeartbeats 4000000 in
theorem change_1 (w : World) (B bs : Nat) (v1 v2 : Value) (s : StateR) (m f p : ByteArray) (q : Int) (h : StO w B bs v1 v2 s) (hm : s.files.length ≤ 32) (hml : s.links.length ≤ 16) (hB : B ≤ w.heap.size) :
    Calls Try.prog 38 #[.pointer (some ⟨bs, 0, none⟩), .agg #[.int .i64 1, .string m, .string f, .string p, .int .u64 q]] w (StPost w B bs (performS s ⟨1, m, f, p, q⟩)) := by
  obtain ⟨A, c, D, d, rfl, rfl⟩ := h.forms
  obtain ⟨w0, hw0⟩ : ∃ w0, w0 = w.alloc (.cells #[.int .i64 1, .string m, .string f, .string p, .int .u64 q] 45) := ⟨_, rfl⟩
  have hal : Below w.heap.size w w0 := by rw [hw0]; exact later_alloc _ _
  have HS := Lib.hid (h.later hal); clear h
  have b0 : w0.cell? ⟨w.heap.size, 0, none⟩ = some (.int .i64 1) := by rw [hw0]; simp [go_sem]
  have b1 : w0.cell? ⟨w.heap.size, 1, none⟩ = some (.string m) := by rw [hw0]; simp [go_sem]
  have b2 : w0.cell? ⟨w.heap.size, 2, none⟩ = some (.string f) := by rw [hw0]; simp [go_sem]
  have b3 : w0.cell? ⟨w.heap.size, 3, none⟩ = some (.string p) := by rw [hw0]; simp [go_sem]
  have b4 : w0.cell? ⟨w.heap.size, 4, none⟩ = some (.int .u64 q) := by rw [hw0]; simp [go_sem]
  have HW := Lib.hid hw0
  clear hw0
  go_enter Try.func38, Try.ntmps38
  go_wp2_with fail
  rw [← HW.out]
  clear HW
  have x0 := cell_later' HS.out.c0
  have x1 := cell_later' HS.out.c1
  have y1 := cell_later' b1
  have y2 := cell_later' b2
  refine wp_region_later (by kernel_rfl) (by kernel_rfl) ?_
  repeat (go_big_quiet_step (first
    | (go_at_call 29; refine calls_later (link_ref _ _ _ _ s.links m _ rfl (by unfold maxLen; omega) (HS.out.sl.2.later (Later.h _))))
    | (go_at_call 28; refine calls_later (file_ref _ _ _ _ s.files f _ rfl (by unfold maxLen; omega) (HS.out.sf.2.later (Later.h _))))))
  refine wpQuiet_nil ?_
  intro w2 hw'
  have hb2 := later_out hw'
  clear hw' x0 x1 y1 y2
  have hbb : Below w.heap.size w w2 := hal.trans (hb2.mono hal.size)
  have HS2 := Lib.hid (HS.out.later hb2)
  have d0 := HS2.out.c0
  have d1 := HS2.out.c1
  have hbs := cell_lt d0
  have fr := HS2.out.fr
  have e0 := (hb2.cell (cell_lt b0)).trans b0
  have e1 := (hb2.cell (cell_lt b1)).trans b1
  have e2 := (hb2.cell (cell_lt b2)).trans b2
  have e3 := (hb2.cell (cell_lt b3)).trans b3
  have e4 := (hb2.cell (cell_lt b4)).trans b4
  have hsz := hbb.size
  have hbx := cell_lt e0
  clear b0 b1 b2 b3 b4 HS
  rcases fidx_cases s.files f with hi | ⟨j, hj, hi⟩
  · have HI := Lib.hid hi
    rw [hi]
    clear hi
    by_cases h32 : 32 ≤ s.files.length
    · have HR := Lib.hid (show performS s ⟨1, m, f, p, q⟩ = (18, s) by unfold performS arriveS; simp only [if_pos]; rw [HI.out]; simp [h32])
      have heq : ((s.files.length : Int) == 32) = true := by simp; omega
      go_wp2
      go_ret
      rw [HR.out]
      exact ⟨rfl, ⟨_, _, HS2.out⟩, hbb.mono hB⟩
    · have HR := Lib.hid (show performS s ⟨1, m, f, p, q⟩ = (0, ⟨s.files ++ [⟨f, q, true⟩], s.links⟩) by unfold performS arriveS; simp only [if_pos]; rw [HI.out]; simp [h32])
      have heq : ((s.files.length : Int) == 32) = false := by simp; omega
      obtain ⟨i0, hi0, hz0, hz1, hz2⟩ := info_parts Try.info37
      go_wp2
      go_region_law (refine step_append_own_at rfl (.tmp 64) (.tmp 70) _ rfl B 37 i0 _ 3 32 Try.underlying27 hi0 hz0 hz1 hz2 rfl (by omega) _ _ _ rfl (HS2.out.f.alloc _) ⟨w2.heap.size, 0, none⟩ 1 1 [.string f, .int .u64 q, .bool true] rfl rfl (cells_new _ _) (by simp [Value.oneCell']) (by simp only [maxLen]; omega) (by omega) (by simp; omega) ?_
                     intro v' w3 hown hg hnil hat
                     obtain ⟨A', c', rfl, _⟩ := own_form hown
                     have HAP := Lib.hid (HS2.out.appF (later_alloc _ _).drew (by omega) ⟨f, q, true⟩ hown hg)
                     have q0 := (cell_of_row w3 bs 0 _ _ _ HAP.out.1)
                     have q1 := (frozen_of_row w3 bs 0 _ _ HAP.out.1)
                     clear hown hg hnil hat)
      all_goals
        go_wp2
        go_ret
        rw [HR.out]
        exact ⟨rfl, ⟨_, _, HAP.out.2.2.1⟩, (hbb.mono hB).trans HAP.out.2.2.2⟩
  · have hn := fidx_name hj hi
    have HR := Lib.hid (show performS s ⟨1, m, f, p, q⟩ = (0, ⟨s.files.set j { s.files[j] with sum := q, present := true }, s.links⟩) by unfold performS arriveS; simp only [if_pos]; rw [hi]; simp [← hn])
    have hj0 : (0:Int) ≤ j := by omega
    rw [hi]
    clear hi hn
    obtain ⟨g, rfl, hg1, hg2⟩ := own_addr HS2.out.f (by omega)
    obtain ⟨b, off, hA, hc⟩ := HS2.out.sf.2 j s.files[j] (by simp [hj])
    injection hA with hA
    injection hA with hA1 hA2
    subst hA1 hA2
    have g0 := hc 0 _ rfl
    have g1 := hc 1 _ rfl
    have g2 := hc 2 _ rfl
    simp only [Nat.add_zero, Nat.zero_add] at g0 g1 g2
    have fz := fun q => HS2.out.f.frozenAt q
    clear hc
    go_wp2
    all_goals
      go_region
      all_goals
        go_wp2
        go_ret
        rw [HR.out]
        have s1 := HS2.out.setF hj 1 (by omega) { s.files[j] with sum := q } (.int .u64 q) rfl (j * 3 + 1) rfl
        have s2 := s1.1.setF (i := j) (by simpa using hj) 2 (by omega) { s.files[j] with sum := q, present := true } (.bool true) (by simp [FileR.cells]) (j * 3 + 2) rfl
        have s4 := s2.1
        simp only [List.set_set] at s4
        exact ⟨rfl, ⟨_, _, s4.later ((Below.refl _ _).drew)⟩, (((hbb.mono hB).trans s1.2).trans s2.2).drew⟩
end Go.Proofs.Ytnbmiejjkkgckaa
