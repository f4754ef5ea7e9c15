/- Proved here: Contracts of the media package functions and of their reference, for use in the proofs of the given statements; conditions stand in each theorem. -/
import Derived.Test.YtnbmiejjkkgckaaM1
namespace Go.Proofs.Ytnbmiejjkkgckaa
open Go.RowKit

theorem idxFrom_range {α : Type} (p : α → Bool) : ∀ (l : List α) (k : Nat), idxFrom p l k = -1 ∨ ((k : Int) ≤ idxFrom p l k ∧ idxFrom p l k < k + l.length)
  | [], k => .inl rfl
  | x :: r, k => by
    unfold idxFrom
    split
    · exact .inr ⟨Int.le_refl _, by simp; omega⟩
    · rcases idxFrom_range p r (k + 1) with h | h
      · exact .inl h
      · exact .inr (by simp; omega)
theorem idx_range {α : Type} (p : α → Bool) (l : List α) : idx p l = -1 ∨ ∃ k : Nat, k < l.length ∧ idx p l = k := by
  rcases idxFrom_range p l 0 with h | h
  · exact .inl h
  · exact .inr ⟨(idx p l).toNat, by unfold idx; omega, by unfold idx; omega⟩

def fileAt (fs : List FileR) (i : Int) : FileR := fs.getD i.toNat default
def statusOf (fs : List FileR) (l : LinkR) : Int :=
  let k := fidx fs l.file
  if k < 0 || !(fileAt fs k).present then 3 else if (fileAt fs k).sum != l.sum then 2 else 1
def status (fs : List FileR) (ls : List LinkR) (s : ByteArray) : Int :=
  if lidx ls s < 0 then 0 else statusOf fs (ls.getD (lidx ls s).toNat default)

set_option maxHeartbeats 1000000 in
theorem status_ref (A B : Option Addr) (n c m d : Nat) (fs : List FileR) (ls : List LinkR) (s : ByteArray) (w : World) (hn : n = fs.length) (hm : m = ls.length) (hnm : n ≤ maxLen) (hmm : m ≤ maxLen)
   (hF : Sl FileR.cells 3 w A fs) (hL : Sl LinkR.cells 4 w B ls) :
    Calls Try.prog 16 #[.agg #[.slice A n c, .slice B m d], .string s] w fun e w' => e = .returned (.int .i64 (status fs ls s)) ∧ Below w.heap.size w w' := by
  have HN := Lib.hid hn; clear hn
  have HM := Lib.hid hm; clear hm
  have HF := Lib.hid hF; clear hF
  have HL := Lib.hid hL; clear hL
  go_enter Try.func16, Try.ntmps16
  go_wp2_with fail
  refine (link_ref _ _ _ _ ls s _ HM.out hmm (HL.out.alloc _)).mono ?_
  rintro e w1 ⟨rfl, hb⟩
  have hc0 := hb.cell (p := ⟨w.heap.size, 0, none⟩) (by simp)
  have hc1 := hb.cell (p := ⟨w.heap.size, 1, none⟩) (by simp)
  simp [go_sem] at hc0 hc1
  have hbb : Below w.heap.size w w1 := (later_alloc _ _).trans (hb.mono (by simp))
  rcases idx_range (fun f : LinkR => f.media.toList == s.toList) ls with hi | ⟨k, hk, hi⟩
  · have hneg : lidx ls s < 0 := by unfold lidx; omega
    go_wp2
    go_ret
    exact ⟨ret_int (by unfold status; rw [if_pos hneg]), hbb⟩
  · have hi' : lidx ls s = (k : Int) := hi
    have hst : status fs ls s = statusOf fs ls[k] := by
      unfold status; rw [if_neg (by omega), hi']; simp [hk]
    have HS := Lib.hid hst; clear hst
    rw [hi']
    clear hi hi'
    have hkm : k < m := by rw [HM.out]; exact hk
    have hmm' := hmm; unfold maxLen at hmm'
    go_wp2_with fail
    obtain ⟨b, off, rfl, hc⟩ := (HL.out.later hbb) k ls[k] (by simp [hk])
    have l1 := cell_later' (hc 1 _ rfl)
    have d0 := cell_later' hc0
    have d1 := cell_later' hc1
    refine wp_region_later (by kernel_rfl) (by kernel_rfl) ?_
    repeat (go_big_quiet_step ((go_at_call 28; refine calls_later (file_ref _ _ _ _ fs _ _ HN.out hnm ?_); exact (HF.out.later hbb).later (Later.h _))))
    refine wpQuiet_nil ?_
    intro w2 hw'
    have hb2 := later_out hw'
    clear hw'
    have hbb2 : Below w.heap.size w w2 := hbb.trans (hb2.mono hbb.size)
    have e0 := (hb2.cell (cell_lt hc0)).trans hc0
    have e1 := (hb2.cell (cell_lt hc1)).trans hc1
    clear l1 d0 d1 hc0 hc1
    rcases idx_range (fun f : FileR => f.name.toList == ls[k].file.toList) fs with hi | ⟨j, hj, hi⟩
    · have hneg : fidx fs ls[k].file < 0 := by unfold fidx; omega
      have hs3 : statusOf fs ls[k] = 3 := by unfold statusOf; simp [hneg]
      have HS3 := Lib.hid hs3; clear hs3 hi
      go_wp2
      go_ret
      exact ⟨ret_int (by rw [HS.out, HS3.out]), hbb2⟩
    · have hi' : fidx fs ls[k].file = (j : Int) := hi
      have hst : statusOf fs ls[k] = if !fs[j].present then 3 else if fs[j].sum != ls[k].sum then 2 else 1 := by
        unfold statusOf; rw [hi']; simp [fileAt, hj]
        have : ¬ ((j:Int) < 0) := by omega
        simp [this]
      have HST := Lib.hid hst; clear hst
      rw [hi']
      clear hi hi'
      have hjn : j < n := by rw [HN.out]; exact hj
      have hnm' := hnm; unfold maxLen at hnm'
      obtain ⟨b', off', rfl, hc'⟩ := (HF.out.later hbb2) j fs[j] (by simp [hj])
      have f1 := hc' 1 _ rfl
      have f2 := hc' 2 _ rfl
      have l2 := (hb2.cell (cell_lt (hc 2 _ rfl))).trans (hc 2 _ rfl)
      clear hc hc'
      cases hp : fs[j].present with
      | false =>
        rw [hp] at f2
        have hv : statusOf fs ls[k] = 3 := by rw [HST.out, hp]; rfl
        have HV := Lib.hid hv
        clear hv hp
        go_wp2
        go_ret
        exact ⟨ret_int (by rw [HS.out, HV.out]), hbb2⟩
      | true =>
        rw [hp] at f2
        have hv : statusOf fs ls[k] = if fs[j].sum != ls[k].sum then 2 else 1 := by rw [HST.out, hp]; rfl
        have HV := Lib.hid hv
        clear hv hp
        go_wp2_with fail
        go_quiet (fail)
        cases hs : (fs[j].sum != ls[k].sum) with
        | true =>
          have hv : statusOf fs ls[k] = 2 := by rw [HV.out, hs]; rfl
          have HV2 := Lib.hid hv
          clear hv
          go_wp2
          go_ret
          exact ⟨ret_int (by rw [HS.out, HV2.out]), hbb2.drewN _⟩
        | false =>
          have hv : statusOf fs ls[k] = 1 := by rw [HV.out, hs]; rfl
          have HV2 := Lib.hid hv
          clear hv
          go_wp2
          go_ret
          exact ⟨ret_int (by rw [HS.out, HV2.out]), hbb2.drewN _⟩
set_option maxHeartbeats 1000000 in
theorem status_prog (A B : Option Addr) (n c m d : Nat) (fs : List FileR) (ls : List LinkR) (s : ByteArray) (w : World) (hn : n = fs.length) (hm : m = ls.length) (hnm : n ≤ maxLen) (hmm : m ≤ maxLen)
   (hF : Sl FileR.cells 3 w A fs) (hL : Sl LinkR.cells 4 w B ls) :
    Calls Try.prog 15 #[.agg #[.slice A n c, .slice B m d], .string s] w fun e w' => e = .returned (.int .i64 (status fs ls s)) ∧ Below w.heap.size w w' := by
  have HN := Lib.hid hn; clear hn
  have HM := Lib.hid hm; clear hm
  have HF := Lib.hid hF; clear hF
  have HL := Lib.hid hL; clear hL
  go_enter Try.func15, Try.ntmps15
  go_wp2_with fail
  refine (link_prog _ _ _ _ ls s _ HM.out hmm (HL.out.alloc _)).mono ?_
  rintro e w1 ⟨rfl, hb⟩
  have hc0 := hb.cell (p := ⟨w.heap.size, 0, none⟩) (by simp)
  have hc1 := hb.cell (p := ⟨w.heap.size, 1, none⟩) (by simp)
  simp [go_sem] at hc0 hc1
  have hbb : Below w.heap.size w w1 := (later_alloc _ _).trans (hb.mono (by simp))
  rcases idx_range (fun f : LinkR => f.media.toList == s.toList) ls with hi | ⟨k, hk, hi⟩
  · have hneg : lidx ls s < 0 := by unfold lidx; omega
    go_wp2
    go_ret
    exact ⟨ret_int (by unfold status; rw [if_pos hneg]), hbb⟩
  · have hi' : lidx ls s = (k : Int) := hi
    have hst : status fs ls s = statusOf fs ls[k] := by
      unfold status; rw [if_neg (by omega), hi']; simp [hk]
    have HS := Lib.hid hst; clear hst
    rw [hi']
    clear hi hi'
    have hkm : k < m := by rw [HM.out]; exact hk
    have hmm' := hmm; unfold maxLen at hmm'
    go_wp2_with fail
    obtain ⟨b, off, rfl, hc⟩ := (HL.out.later hbb) k ls[k] (by simp [hk])
    have l1 := cell_later' (hc 1 _ rfl)
    have d0 := cell_later' hc0
    have d1 := cell_later' hc1
    refine wp_region_later (by kernel_rfl) (by kernel_rfl) ?_
    repeat (go_big_quiet_step ((go_at_call 31; refine calls_later (file_prog _ _ _ _ fs _ _ HN.out hnm ?_); exact (HF.out.later hbb).later (Later.h _))))
    refine wpQuiet_nil ?_
    intro w2 hw'
    have hb2 := later_out hw'
    clear hw'
    have hbb2 : Below w.heap.size w w2 := hbb.trans (hb2.mono hbb.size)
    have e0 := (hb2.cell (cell_lt hc0)).trans hc0
    have e1 := (hb2.cell (cell_lt hc1)).trans hc1
    clear l1 d0 d1 hc0 hc1
    rcases idx_range (fun f : FileR => f.name.toList == ls[k].file.toList) fs with hi | ⟨j, hj, hi⟩
    · have hneg : fidx fs ls[k].file < 0 := by unfold fidx; omega
      have hs3 : statusOf fs ls[k] = 3 := by unfold statusOf; simp [hneg]
      have HS3 := Lib.hid hs3; clear hs3 hi
      go_wp2
      go_ret
      exact ⟨ret_int (by rw [HS.out, HS3.out]), hbb2⟩
    · have hi' : fidx fs ls[k].file = (j : Int) := hi
      have hst : statusOf fs ls[k] = if !fs[j].present then 3 else if fs[j].sum != ls[k].sum then 2 else 1 := by
        unfold statusOf; rw [hi']; simp [fileAt, hj]
        have : ¬ ((j:Int) < 0) := by omega
        simp [this]
      have HST := Lib.hid hst; clear hst
      rw [hi']
      clear hi hi'
      have hjn : j < n := by rw [HN.out]; exact hj
      have hnm' := hnm; unfold maxLen at hnm'
      obtain ⟨b', off', rfl, hc'⟩ := (HF.out.later hbb2) j fs[j] (by simp [hj])
      have f1 := hc' 1 _ rfl
      have f2 := hc' 2 _ rfl
      have l2 := (hb2.cell (cell_lt (hc 2 _ rfl))).trans (hc 2 _ rfl)
      clear hc hc'
      cases hp : fs[j].present with
      | false =>
        rw [hp] at f2
        have hv : statusOf fs ls[k] = 3 := by rw [HST.out, hp]; rfl
        have HV := Lib.hid hv
        clear hv hp
        go_wp2
        go_ret
        exact ⟨ret_int (by rw [HS.out, HV.out]), hbb2⟩
      | true =>
        rw [hp] at f2
        have hv : statusOf fs ls[k] = if fs[j].sum != ls[k].sum then 2 else 1 := by rw [HST.out, hp]; rfl
        have HV := Lib.hid hv
        clear hv hp
        go_wp2_with fail
        go_quiet (fail)
        cases hs : (fs[j].sum != ls[k].sum) with
        | true =>
          have hv : statusOf fs ls[k] = 2 := by rw [HV.out, hs]; rfl
          have HV2 := Lib.hid hv
          clear hv
          go_wp2
          go_ret
          exact ⟨ret_int (by rw [HS.out, HV2.out]), hbb2.drewN _⟩
        | false =>
          have hv : statusOf fs ls[k] = 1 := by rw [HV.out, hs]; rfl
          have HV2 := Lib.hid hv
          clear hv
          go_wp2
          go_ret
          exact ⟨ret_int (by rw [HS.out, HV2.out]), hbb2.drewN _⟩
end Go.Proofs.Ytnbmiejjkkgckaa
