/- Proved here: Contracts of the media package functions and of their reference, for use in the proofs of the given statements; conditions stand in each theorem. -/
import Derived.Test.YtnbmiejjkkgckaaM6
import Derived.BigRegion
namespace Go.Proofs.Ytnbmiejjkkgckaa
open Go.RowKit

def arriveS (s : StateR) (nm : ByteArray) (sum : Int) : Int × StateR :=
  if 0 ≤ fidx s.files nm then (0, ⟨s.files.set (fidx s.files nm).toNat ⟨nm, sum, true⟩, s.links⟩)
  else if 32 ≤ s.files.length then (18, s)
  else (0, ⟨s.files ++ [⟨nm, sum, true⟩], s.links⟩)

def StPost (w : World) (B bs : Nat) (r : Int × StateR) (e : Ending) (w' : World) : Prop :=
  e = .returned (.int .i64 r.1) ∧ (∃ v1 v2, StO w' B bs v1 v2 r.2) ∧ Below B w w'

set_option maxHeartbeats 1000000 in
theorem arrive_prog (w : World) (B bs : Nat) (v1 v2 : Value) (s : StateR) (nm : ByteArray) (sum : Int) (h : StO w B bs v1 v2 s) (hm : s.files.length ≤ 65536) (hB : B ≤ w.heap.size) :
    Calls Try.prog 43 #[.pointer (some ⟨bs, 0, none⟩), .string nm, .int .u64 sum] w (StPost w B bs (arriveS s nm sum)) := by
  obtain ⟨A, c, D, d, rfl, rfl⟩ := h.forms
  have c0 := h.c0
  have c1 := h.c1
  have hb := cell_lt c0
  have HS := Lib.hid h; clear h
  go_enter Try.func43, Try.ntmps43
  go_wp2_with fail
  refine (file_prog _ _ _ _ s.files nm _ rfl (by unfold maxLen; omega) (HS.out.sf.2.alloc _)).mono ?_
  rintro e w1 ⟨rfl, hb1⟩
  have hbb : Below w.heap.size w w1 := (later_alloc _ _).trans (hb1.mono (by simp))
  have HS1 := Lib.hid (HS.out.later hbb)
  have f0 := (hb1.cell (p := ⟨w.heap.size, 0, none⟩) (by simp))
  have f1 := (hb1.cell (p := ⟨w.heap.size, 1, none⟩) (by simp))
  have f2 := (hb1.cell (p := ⟨w.heap.size, 2, none⟩) (by simp))
  simp [go_sem] at f0 f1 f2
  have d0 := (hbb.cell (cell_lt c0)).trans c0
  have hsz : w.heap.size < w1.heap.size := by have := hb1.size; simp at this; omega
  have hbs := cell_lt d0
  clear c0 c1 HS
  rcases idx_range (fun f : FileR => f.name.toList == nm.toList) s.files with hi | ⟨j, hj, hi⟩
  · have hi' : fidx s.files nm = -1 := hi
    have HI := Lib.hid hi'
    rw [hi']
    clear hi hi'
    by_cases h32 : 32 ≤ s.files.length
    · have HR := Lib.hid (show arriveS s nm sum = (18, s) by unfold arriveS; rw [HI.out]; simp [h32])
      go_wp2
      go_ret
      rw [HR.out]
      exact ⟨rfl, ⟨_, _, HS1.out⟩, hbb.mono hB⟩
    · have HR := Lib.hid (show arriveS s nm sum = (0, ⟨s.files ++ [⟨nm, sum, true⟩], s.links⟩) by unfold arriveS; rw [HI.out]; simp [h32])
      obtain ⟨i0, hi0, hz0, hz1, hz2⟩ := info_parts Try.info37
      go_wp2
      go_region_law (refine step_append_own_at rfl (.tmp 36) (.tmp 38) _ rfl B 37 i0 _ 3 32 Try.underlying27 hi0 hz0 hz1 hz2 rfl (by omega) _ _ _ rfl (HS1.out.f.alloc _) ⟨w1.heap.size, 0, none⟩ 1 1 [.string nm, .int .u64 sum, .bool true] rfl rfl (cells_new _ _) (by simp [Value.oneCell']) (by simp only [maxLen]; omega) (by omega) (by simp; omega) ?_
                     intro v' w2 hown hg hnil hat
                     obtain ⟨A', c', rfl, _⟩ := own_form hown
                     have HAP := Lib.hid (HS1.out.appF (later_alloc _ _).drew (by omega) ⟨nm, sum, true⟩ hown hg)
                     have q0 := (cell_of_row w2 bs 0 _ _ _ HAP.out.1)
                     have q1 := (frozen_of_row w2 bs 0 _ _ HAP.out.1)
                     clear hown hg hnil hat)
      all_goals
        go_wp2
        go_ret
        rw [HR.out]
        exact ⟨rfl, ⟨_, _, HAP.out.2.2.1⟩, (hbb.mono hB).trans HAP.out.2.2.2⟩
  · have hi' : fidx s.files nm = (j : Int) := hi
    have HR := Lib.hid (show arriveS s nm sum = (0, ⟨s.files.set j ⟨nm, sum, true⟩, s.links⟩) by unfold arriveS; rw [hi']; simp)
    rw [hi']
    clear hi hi'
    obtain ⟨g, rfl, hg1, hg2⟩ := own_addr HS1.out.f (by omega)
    have e0 := HS1.out.sf.2 j s.files[j] (by simp [hj])
    obtain ⟨b, off, hA, hc⟩ := e0
    injection hA with hA
    injection hA with hA1 hA2
    subst hA1 hA2
    have g0 := hc 0 _ rfl
    have g1 := hc 1 _ rfl
    have g2 := hc 2 _ rfl
    simp only [Nat.add_zero, Nat.zero_add] at g0 g1 g2
    have fz := fun q => HS1.out.f.frozenAt q
    clear hc
    go_wp2
    go_region
    all_goals
      go_wp2
      go_ret
      rw [HR.out]
      have s1 := HS1.out.setF hj 0 (by omega) ⟨nm, s.files[j].sum, s.files[j].present⟩ (.string nm) rfl (j * 3) rfl
      have s2 := s1.1.setF (i := j) (by simpa using hj) 1 (by omega) ⟨nm, sum, s.files[j].present⟩ (.int .u64 sum) (by simp [FileR.cells]) (j * 3 + 1) rfl
      have s3 := s2.1.setF (i := j) (by simpa using hj) 2 (by omega) ⟨nm, sum, true⟩ (.bool true) (by simp [FileR.cells]) (j * 3 + 2) rfl
      have s4 := s3.1
      simp only [List.set_set] at s4
      exact ⟨rfl, ⟨_, _, s4.later ((Below.refl _ _).drew)⟩, ((((hbb.mono hB).trans s1.2).trans s2.2).trans s3.2).drew⟩

def leaveS (s : StateR) (nm : ByteArray) : Int × StateR :=
  if hereB s.files nm then (0, ⟨s.files.set (fidx s.files nm).toNat { fileAt s.files (fidx s.files nm) with present := false }, s.links⟩) else (7, s)

set_option maxHeartbeats 1000000 in
theorem leave_prog (w : World) (B bs : Nat) (v1 v2 : Value) (s : StateR) (nm : ByteArray) (h : StO w B bs v1 v2 s) (hm : s.files.length ≤ 65536) (hB : B ≤ w.heap.size) :
    Calls Try.prog 44 #[.pointer (some ⟨bs, 0, none⟩), .string nm] w (StPost w B bs (leaveS s nm)) := by
  have HS := Lib.hid h; clear h
  go_enter Try.func44, Try.ntmps44
  go_wp2_with fail
  refine (present_prog _ B bs v1 v2 s nm HS.out hm).mono ?_
  rintro e w1 ⟨rfl, hb1⟩
  have HS1 := Lib.hid (HS.out.later hb1)
  obtain ⟨A, c, D, d, rfl, rfl⟩ := HS.out.forms
  have d0 := HS1.out.c0
  have hbs := cell_lt d0
  cases hh : hereB s.files nm with
  | false =>
    have HR := Lib.hid (show leaveS s nm = (7, s) by unfold leaveS; rw [hh]; rfl)
    clear hh
    go_wp2
    go_ret
    rw [HR.out]
    exact ⟨rfl, ⟨_, _, HS1.out⟩, hb1.mono hB⟩
  | true =>
    rcases idx_range (fun f : FileR => f.name.toList == nm.toList) s.files with hi | ⟨j, hj, hi⟩
    · have hi' : fidx s.files nm = -1 := hi
      unfold hereB at hh; rw [hi'] at hh; simp at hh
    · have hi' : fidx s.files nm = (j : Int) := hi
      have HR := Lib.hid (show leaveS s nm = (0, ⟨s.files.set j { s.files[j] with present := false }, s.links⟩) by unfold leaveS; rw [hh, hi']; simp [fileAt, hj])
      rw [hi']
      clear hi hi' hh
      obtain ⟨g, rfl, hg1, hg2⟩ := own_addr HS1.out.f (by omega)
      have e0 := HS1.out.sf.2 j s.files[j] (by simp [hj])
      obtain ⟨b, off, hA, hc⟩ := e0
      injection hA with hA
      injection hA with hA1 hA2
      subst hA1 hA2
      have g2 := hc 2 _ rfl
      simp only [Nat.zero_add] at g2
      have fz := fun q => HS1.out.f.frozenAt q
      clear hc
      go_wp2
      go_ret
      rw [HR.out]
      have s1 := HS1.out.setF hj 2 (by omega) { s.files[j] with present := false } (.bool false) rfl (j * 3 + 2) rfl
      exact ⟨rfl, ⟨_, _, s1.1⟩, (hb1.mono hB).trans s1.2⟩
end Go.Proofs.Ytnbmiejjkkgckaa
