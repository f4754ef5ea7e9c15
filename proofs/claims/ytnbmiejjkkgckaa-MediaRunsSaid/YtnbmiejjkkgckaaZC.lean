/- Proved here: Contracts of the media package functions and of their reference, for use in the proofs of the given statements; conditions stand in each theorem. -/
import Derived.Test.YtnbmiejjkkgckaaProg
import Derived.Test.YtnbmiejjkkgckaaZA
set_option linter.unusedSimpArgs false
set_option linter.unusedVariables false
namespace Go.Proofs.Ytnbmiejjkkgckaa
open Go.RowKit

structure FileR where
  name : ByteArray
  sum : Int
  present : Bool
  deriving Inhabited
structure LinkR where
  media : ByteArray
  file : ByteArray
  sum : Int
  proxy : ByteArray
  deriving Inhabited

def FileR.cells (f : FileR) : List Value := [.string f.name, .int .u64 f.sum, .bool f.present]
def LinkR.cells (l : LinkR) : List Value := [.string l.media, .string l.file, .int .u64 l.sum, .string l.proxy]
def eqS (a b : ByteArray) : Bool := a.toList == b.toList
def fidx (fs : List FileR) (s : ByteArray) : Int := idx (fun f => f.name.toList == s.toList) fs
def lidx (ls : List LinkR) (s : ByteArray) : Int := idx (fun f => f.media.toList == s.toList) ls

set_option maxHeartbeats 1000000 in
theorem file_ref (A : Option Addr) (n c : Nat) (v2 : Value) (xs : List FileR) (s : ByteArray) (w : World) (hn : n = xs.length) (hm : n ≤ maxLen)
   (hS : Sl FileR.cells 3 w A xs) :
    Calls Try.prog 28 #[.agg #[.slice A n c, v2], .string s] w fun e w' => e = .returned (.int .i64 (fidx xs s)) ∧ Below w.heap.size w w' := by
  unfold maxLen at hm
  have HN := Lib.hid hn; clear hn
  have HS := Lib.hid hS; clear hS
  go_enter Try.func28, Try.ntmps28
  go_wp2
  go_loop [5] (fun i => ∃ k : Nat, k ≤ n ∧ i = .int .i64 k ∧ idxFrom (fun f => f.name.toList == s.toList) (xs.drop k) k = fidx xs s) (fun i => n - (intOf i).toNat)
  case atStart => exact ⟨0, Nat.zero_le _, rfl, rfl⟩
  case round =>
    obtain ⟨k, hk, rfl, hi⟩ := hrel
    have HI := Lib.hid hi; clear hi
    by_cases hlt : k < n
    · have hlt' : k < xs.length := by rw [← HN.out]; exact hlt
      obtain ⟨b, off, rfl, hc⟩ := HS.out k xs[k] (by simp [hlt'])
      have h0 := hc 0 _ rfl
      have hb := cell_lt h0
      simp only [Nat.add_zero] at h0 hb
      clear hc
      go_wp2
      · go_ret
        exact ⟨ret_int (by rw [← HI.out]; exact idx_hit hlt' (by assumption)), later_alloc _ _⟩
      · go_round
        case rel => exact ⟨k + 1, by omega, by go_num, by rw [← HI.out]; exact idx_step hlt' (by assumption)⟩
        case measure => simp [intOf]; omega
    · go_wp2
      go_ret
      exact ⟨ret_int (by rw [← HI.out]; exact idx_end (by rw [← HN.out]; exact hlt)), later_alloc _ _⟩

set_option maxHeartbeats 1000000 in
theorem link_ref (A : Option Addr) (n c : Nat) (v1 : Value) (xs : List LinkR) (s : ByteArray) (w : World) (hn : n = xs.length) (hm : n ≤ maxLen)
   (hS : Sl LinkR.cells 4 w A xs) :
    Calls Try.prog 29 #[.agg #[v1, .slice A n c], .string s] w fun e w' => e = .returned (.int .i64 (lidx xs s)) ∧ Below w.heap.size w w' := by
  unfold maxLen at hm
  have HN := Lib.hid hn; clear hn
  have HS := Lib.hid hS; clear hS
  go_enter Try.func29, Try.ntmps29
  go_wp2
  go_loop [5] (fun i => ∃ k : Nat, k ≤ n ∧ i = .int .i64 k ∧ idxFrom (fun f => f.media.toList == s.toList) (xs.drop k) k = lidx xs s) (fun i => n - (intOf i).toNat)
  case atStart => exact ⟨0, Nat.zero_le _, rfl, rfl⟩
  case round =>
    obtain ⟨k, hk, rfl, hi⟩ := hrel
    have HI := Lib.hid hi; clear hi
    by_cases hlt : k < n
    · have hlt' : k < xs.length := by rw [← HN.out]; exact hlt
      obtain ⟨b, off, rfl, hc⟩ := HS.out k xs[k] (by simp [hlt'])
      have h0 := hc 0 _ rfl
      have hb := cell_lt h0
      simp only [Nat.add_zero] at h0 hb
      clear hc
      go_wp2
      · go_ret
        exact ⟨ret_int (by rw [← HI.out]; exact idx_hit hlt' (by assumption)), later_alloc _ _⟩
      · go_round
        case rel => exact ⟨k + 1, by omega, by go_num, by rw [← HI.out]; exact idx_step hlt' (by assumption)⟩
        case measure => simp [intOf]; omega
    · go_wp2
      go_ret
      exact ⟨ret_int (by rw [← HI.out]; exact idx_end (by rw [← HN.out]; exact hlt)), later_alloc _ _⟩

/-- the closures -/
theorem linkP (m f p : ByteArray) (q : Int) (s : ByteArray) (b : Nat) (w : World) (h : w.cell? ⟨b, 0, none⟩ = some (.string s)) :
    Calls Try.prog 40 #[.agg #[.string m, .string f, .int .u64 q, .string p], .pointer (some ⟨b, 0, none⟩)] w fun e w' => e = .returned (.bool (m.toList == s.toList)) ∧ Below w.heap.size w w' := by
  have hb := cell_lt h
  go_enter Try.func40, Try.ntmps40
  go_wp2
  go_ret
  exact ⟨rfl, later_alloc _ _⟩
theorem fileP (m : ByteArray) (q : Int) (p : Bool) (s : ByteArray) (b : Nat) (w : World) (h : w.cell? ⟨b, 0, none⟩ = some (.string s)) :
    Calls Try.prog 42 #[.agg #[.string m, .int .u64 q, .bool p], .pointer (some ⟨b, 0, none⟩)] w fun e w' => e = .returned (.bool (m.toList == s.toList)) ∧ Below w.heap.size w w' := by
  have hb := cell_lt h
  go_enter Try.func42, Try.ntmps42
  go_wp2
  go_ret
  exact ⟨rfl, later_alloc _ _⟩

set_option maxHeartbeats 1000000 in
theorem indexFuncL (A : Option Addr) (n c : Nat) (xs : List LinkR) (s : ByteArray) (b1 : Nat) (w : World) (hn : n = xs.length) (hm : n ≤ maxLen)
   (hS : Sl LinkR.cells 4 w A xs) (hcl : w.cell? ⟨b1, 0, none⟩ = some (.string s)) :
    Calls Try.prog 39 #[.slice A n c, .func (.func 40) #[] #[.pointer (some ⟨b1, 0, none⟩)]] w fun e w' => e = .returned (.int .i64 (lidx xs s)) ∧ Below w.heap.size w w' := by
  unfold maxLen at hm
  have HN := Lib.hid hn; clear hn
  have HS := Lib.hid hS; clear hS
  have HC := Lib.hid hcl; clear hcl
  go_enter Try.func39, Try.ntmps39
  go_wp2
  go_loopw [8] (fun i wr => Below w.heap.size w wr ∧ ∃ k : Nat, k ≤ n ∧ i = .int .i64 k ∧ idxFrom (fun f => f.media.toList == s.toList) (xs.drop k) k = lidx xs s) (fun i _ => n - (intOf i).toNat)
  case atStart => exact ⟨Below.refl _ _, 0, Nat.zero_le _, rfl, rfl⟩
  case round =>
    obtain ⟨hbl, k, hk, rfl, hi⟩ := hrel
    have HI := Lib.hid hi; clear hi
    by_cases hlt : k < n
    · have hlt' : k < xs.length := by rw [← HN.out]; exact hlt
      obtain ⟨b, off, rfl, hc⟩ := (HS.out.later hbl) k xs[k] (by simp [hlt'])
      have h0 := hc 0 _ rfl
      have h1 := hc 1 _ rfl
      have h2 := hc 2 _ rfl
      have h3 := hc 3 _ rfl
      have hC := (hbl.cell (cell_lt HC.out)).trans HC.out
      have hb := cell_lt h0
      simp only [Nat.add_zero] at h0 hb
      clear hc
      go_wp2_with (go_at_call 40; refine (linkP _ _ _ _ _ _ _ hC).mono ?_; rintro e w' ⟨rfl, hb2⟩)
      · skip
        go_ret
        exact ⟨ret_int (by rw [← HI.out]; exact idx_hit hlt' (by assumption)), hbl.trans (hb2.mono hbl.size)⟩
      · go_roundw
        case rel => exact ⟨hbl.trans (hb2.mono hbl.size), k + 1, by omega, by go_num, by rw [← HI.out]; exact idx_step hlt' (by assumption)⟩
        case measure => simp [intOf]; omega
    · go_wp2
      go_ret
      exact ⟨ret_int (by rw [← HI.out]; exact idx_end (by rw [← HN.out]; exact hlt)), hbl⟩
set_option maxHeartbeats 1000000 in
theorem indexFuncF (A : Option Addr) (n c : Nat) (xs : List FileR) (s : ByteArray) (b1 : Nat) (w : World) (hn : n = xs.length) (hm : n ≤ maxLen)
   (hS : Sl FileR.cells 3 w A xs) (hcl : w.cell? ⟨b1, 0, none⟩ = some (.string s)) :
    Calls Try.prog 41 #[.slice A n c, .func (.func 42) #[] #[.pointer (some ⟨b1, 0, none⟩)]] w fun e w' => e = .returned (.int .i64 (fidx xs s)) ∧ Below w.heap.size w w' := by
  unfold maxLen at hm
  have HN := Lib.hid hn; clear hn
  have HS := Lib.hid hS; clear hS
  have HC := Lib.hid hcl; clear hcl
  go_enter Try.func41, Try.ntmps41
  go_wp2
  go_loopw [8] (fun i wr => Below w.heap.size w wr ∧ ∃ k : Nat, k ≤ n ∧ i = .int .i64 k ∧ idxFrom (fun f => f.name.toList == s.toList) (xs.drop k) k = fidx xs s) (fun i _ => n - (intOf i).toNat)
  case atStart => exact ⟨Below.refl _ _, 0, Nat.zero_le _, rfl, rfl⟩
  case round =>
    obtain ⟨hbl, k, hk, rfl, hi⟩ := hrel
    have HI := Lib.hid hi; clear hi
    by_cases hlt : k < n
    · have hlt' : k < xs.length := by rw [← HN.out]; exact hlt
      obtain ⟨b, off, rfl, hc⟩ := (HS.out.later hbl) k xs[k] (by simp [hlt'])
      have h0 := hc 0 _ rfl
      have h1 := hc 1 _ rfl
      have h2 := hc 2 _ rfl
      have hC := (hbl.cell (cell_lt HC.out)).trans HC.out
      have hb := cell_lt h0
      simp only [Nat.add_zero] at h0 hb
      clear hc
      go_wp2_with (go_at_call 42; refine (fileP _ _ _ _ _ _ hC).mono ?_; rintro e w' ⟨rfl, hb2⟩)
      · skip
        go_ret
        exact ⟨ret_int (by rw [← HI.out]; exact idx_hit hlt' (by assumption)), hbl.trans (hb2.mono hbl.size)⟩
      · go_roundw
        case rel => exact ⟨hbl.trans (hb2.mono hbl.size), k + 1, by omega, by go_num, by rw [← HI.out]; exact idx_step hlt' (by assumption)⟩
        case measure => simp [intOf]; omega
    · go_wp2
      go_ret
      exact ⟨ret_int (by rw [← HI.out]; exact idx_end (by rw [← HN.out]; exact hlt)), hbl⟩

set_option maxHeartbeats 1000000 in
theorem link_prog (A : Option Addr) (n c : Nat) (v1 : Value) (xs : List LinkR) (s : ByteArray) (w : World) (hn : n = xs.length) (hm : n ≤ maxLen)
   (hS : Sl LinkR.cells 4 w A xs) :
    Calls Try.prog 30 #[.agg #[v1, .slice A n c], .string s] w fun e w' => e = .returned (.int .i64 (lidx xs s)) ∧ Below w.heap.size w w' := by
  have HN := Lib.hid hn; clear hn
  have HS := Lib.hid hS; clear hS
  go_enter Try.func30, Try.ntmps30
  go_wp2_with fail

  refine (indexFuncL _ _ _ _ s _ _ HN.out hm ((HS.out.alloc _).alloc _) (by simp [go_sem])).mono ?_
  rintro e w' ⟨rfl, hb⟩
  go_wp2
  go_ret
  exact ⟨rfl, ((later_alloc _ _).alloc (by simp) _).trans (hb.mono (by simp; omega))⟩
set_option maxHeartbeats 1000000 in
theorem file_prog (A : Option Addr) (n c : Nat) (v1 : Value) (xs : List FileR) (s : ByteArray) (w : World) (hn : n = xs.length) (hm : n ≤ maxLen)
   (hS : Sl FileR.cells 3 w A xs) :
    Calls Try.prog 31 #[.agg #[.slice A n c, v1], .string s] w fun e w' => e = .returned (.int .i64 (fidx xs s)) ∧ Below w.heap.size w w' := by
  have HN := Lib.hid hn; clear hn
  have HS := Lib.hid hS; clear hS
  go_enter Try.func31, Try.ntmps31
  go_wp2_with fail

  refine (indexFuncF _ _ _ _ s _ _ HN.out hm ((HS.out.alloc _).alloc _) (by simp [go_sem])).mono ?_
  rintro e w' ⟨rfl, hb⟩
  go_wp2
  go_ret
  exact ⟨rfl, ((later_alloc _ _).alloc (by simp) _).trans (hb.mono (by simp; omega))⟩
end Go.Proofs.Ytnbmiejjkkgckaa
/- Proved here: Contracts of the media package functions and of their reference, for use in the proofs of the given statements; conditions stand in each theorem. -/
namespace Go.Proofs.Ytnbmiejjkkgckaa
open Go.RowKit

theorem idxFrom_range {α : Type} (p : α → Bool) : ∀ (l : List α) (k : Nat), idxFrom p l k = -1 ∨ ((k : Int) ≤ idxFrom p l k ∧ idxFrom p l k < k + l.length)
  | [], k => .inl rfl
  | x :: r, k => by
    unfold idxFrom
    split
    · exact .inr ⟨Int.le_refl _, by simp; omega⟩
    · rcases idxFrom_range p r (k + 1) with h | h
      · exact .inl h
      · exact .inr (by simp; omega)
theorem idx_range {α : Type} (p : α → Bool) (l : List α) : idx p l = -1 ∨ ∃ k : Nat, k < l.length ∧ idx p l = k := by
  rcases idxFrom_range p l 0 with h | h
  · exact .inl h
  · exact .inr ⟨(idx p l).toNat, by unfold idx; omega, by unfold idx; omega⟩

def fileAt (fs : List FileR) (i : Int) : FileR := fs.getD i.toNat default
def statusOf (fs : List FileR) (l : LinkR) : Int :=
  let k := fidx fs l.file
  if k < 0 || !(fileAt fs k).present then 3 else if (fileAt fs k).sum != l.sum then 2 else 1
def status (fs : List FileR) (ls : List LinkR) (s : ByteArray) : Int :=
  if lidx ls s < 0 then 0 else statusOf fs (ls.getD (lidx ls s).toNat default)

set_option maxHeartbeats 1000000 in
theorem status_ref (A B : Option Addr) (n c m d : Nat) (fs : List FileR) (ls : List LinkR) (s : ByteArray) (w : World) (hn : n = fs.length) (hm : m = ls.length) (hnm : n ≤ maxLen) (hmm : m ≤ maxLen)
   (hF : Sl FileR.cells 3 w A fs) (hL : Sl LinkR.cells 4 w B ls) :
    Calls Try.prog 16 #[.agg #[.slice A n c, .slice B m d], .string s] w fun e w' => e = .returned (.int .i64 (status fs ls s)) ∧ Below w.heap.size w w' := by
  have HN := Lib.hid hn; clear hn
  have HM := Lib.hid hm; clear hm
  have HF := Lib.hid hF; clear hF
  have HL := Lib.hid hL; clear hL
  go_enter Try.func16, Try.ntmps16
  go_wp2_with fail
  refine (link_ref _ _ _ _ ls s _ HM.out hmm (HL.out.alloc _)).mono ?_
  rintro e w1 ⟨rfl, hb⟩
  have hc0 := hb.cell (p := ⟨w.heap.size, 0, none⟩) (by simp)
  have hc1 := hb.cell (p := ⟨w.heap.size, 1, none⟩) (by simp)
  simp [go_sem] at hc0 hc1
  have hbb : Below w.heap.size w w1 := (later_alloc _ _).trans (hb.mono (by simp))
  rcases idx_range (fun f : LinkR => f.media.toList == s.toList) ls with hi | ⟨k, hk, hi⟩
  · have hneg : lidx ls s < 0 := by unfold lidx; omega
    go_wp2
    go_ret
    exact ⟨ret_int (by unfold status; rw [if_pos hneg]), hbb⟩
  · have hi' : lidx ls s = (k : Int) := hi
    have hst : status fs ls s = statusOf fs ls[k] := by
      unfold status; rw [if_neg (by omega), hi']; simp [hk]
    have HS := Lib.hid hst; clear hst
    rw [hi']
    clear hi hi'
    have hkm : k < m := by rw [HM.out]; exact hk
    have hmm' := hmm; unfold maxLen at hmm'
    go_wp2_with fail
    obtain ⟨b, off, rfl, hc⟩ := (HL.out.later hbb) k ls[k] (by simp [hk])
    have l1 := cell_later' (hc 1 _ rfl)
    have d0 := cell_later' hc0
    have d1 := cell_later' hc1
    refine wp_region_later (by kernel_rfl) (by kernel_rfl) ?_
    repeat (go_big_quiet_step ((go_at_call 28; refine calls_later (file_ref _ _ _ _ fs _ _ HN.out hnm ?_); exact (HF.out.later hbb).later (Later.h _))))
    refine wpQuiet_nil ?_
    intro w2 hw'
    have hb2 := later_out hw'
    clear hw'
    have hbb2 : Below w.heap.size w w2 := hbb.trans (hb2.mono hbb.size)
    have e0 := (hb2.cell (cell_lt hc0)).trans hc0
    have e1 := (hb2.cell (cell_lt hc1)).trans hc1
    clear l1 d0 d1 hc0 hc1
    rcases idx_range (fun f : FileR => f.name.toList == ls[k].file.toList) fs with hi | ⟨j, hj, hi⟩
    · have hneg : fidx fs ls[k].file < 0 := by unfold fidx; omega
      have hs3 : statusOf fs ls[k] = 3 := by unfold statusOf; simp [hneg]
      have HS3 := Lib.hid hs3; clear hs3 hi
      go_wp2
      go_ret
      exact ⟨ret_int (by rw [HS.out, HS3.out]), hbb2⟩
    · have hi' : fidx fs ls[k].file = (j : Int) := hi
      have hst : statusOf fs ls[k] = if !fs[j].present then 3 else if fs[j].sum != ls[k].sum then 2 else 1 := by
        unfold statusOf; rw [hi']; simp [fileAt, hj]
        have : ¬ ((j:Int) < 0) := by omega
        simp [this]
      have HST := Lib.hid hst; clear hst
      rw [hi']
      clear hi hi'
      have hjn : j < n := by rw [HN.out]; exact hj
      have hnm' := hnm; unfold maxLen at hnm'
      obtain ⟨b', off', rfl, hc'⟩ := (HF.out.later hbb2) j fs[j] (by simp [hj])
      have f1 := hc' 1 _ rfl
      have f2 := hc' 2 _ rfl
      have l2 := (hb2.cell (cell_lt (hc 2 _ rfl))).trans (hc 2 _ rfl)
      clear hc hc'
      cases hp : fs[j].present with
      | false =>
        rw [hp] at f2
        have hv : statusOf fs ls[k] = 3 := by rw [HST.out, hp]; rfl
        have HV := Lib.hid hv
        clear hv hp
        go_wp2
        go_ret
        exact ⟨ret_int (by rw [HS.out, HV.out]), hbb2⟩
      | true =>
        rw [hp] at f2
        have hv : statusOf fs ls[k] = if fs[j].sum != ls[k].sum then 2 else 1 := by rw [HST.out, hp]; rfl
        have HV := Lib.hid hv
        clear hv hp
        go_wp2_with fail
        go_quiet (fail)
        cases hs : (fs[j].sum != ls[k].sum) with
        | true =>
          have hv : statusOf fs ls[k] = 2 := by rw [HV.out, hs]; rfl
          have HV2 := Lib.hid hv
          clear hv
          go_wp2
          go_ret
          exact ⟨ret_int (by rw [HS.out, HV2.out]), hbb2.drewN _⟩
        | false =>
          have hv : statusOf fs ls[k] = 1 := by rw [HV.out, hs]; rfl
          have HV2 := Lib.hid hv
          clear hv
          go_wp2
          go_ret
          exact ⟨ret_int (by rw [HS.out, HV2.out]), hbb2.drewN _⟩
set_option maxHeartbeats 1000000 in
theorem status_prog (A B : Option Addr) (n c m d : Nat) (fs : List FileR) (ls : List LinkR) (s : ByteArray) (w : World) (hn : n = fs.length) (hm : m = ls.length) (hnm : n ≤ maxLen) (hmm : m ≤ maxLen)
   (hF : Sl FileR.cells 3 w A fs) (hL : Sl LinkR.cells 4 w B ls) :
    Calls Try.prog 15 #[.agg #[.slice A n c, .slice B m d], .string s] w fun e w' => e = .returned (.int .i64 (status fs ls s)) ∧ Below w.heap.size w w' := by
  have HN := Lib.hid hn; clear hn
  have HM := Lib.hid hm; clear hm
  have HF := Lib.hid hF; clear hF
  have HL := Lib.hid hL; clear hL
  go_enter Try.func15, Try.ntmps15
  go_wp2_with fail
  refine (link_prog _ _ _ _ ls s _ HM.out hmm (HL.out.alloc _)).mono ?_
  rintro e w1 ⟨rfl, hb⟩
  have hc0 := hb.cell (p := ⟨w.heap.size, 0, none⟩) (by simp)
  have hc1 := hb.cell (p := ⟨w.heap.size, 1, none⟩) (by simp)
  simp [go_sem] at hc0 hc1
  have hbb : Below w.heap.size w w1 := (later_alloc _ _).trans (hb.mono (by simp))
  rcases idx_range (fun f : LinkR => f.media.toList == s.toList) ls with hi | ⟨k, hk, hi⟩
  · have hneg : lidx ls s < 0 := by unfold lidx; omega
    go_wp2
    go_ret
    exact ⟨ret_int (by unfold status; rw [if_pos hneg]), hbb⟩
  · have hi' : lidx ls s = (k : Int) := hi
    have hst : status fs ls s = statusOf fs ls[k] := by
      unfold status; rw [if_neg (by omega), hi']; simp [hk]
    have HS := Lib.hid hst; clear hst
    rw [hi']
    clear hi hi'
    have hkm : k < m := by rw [HM.out]; exact hk
    have hmm' := hmm; unfold maxLen at hmm'
    go_wp2_with fail
    obtain ⟨b, off, rfl, hc⟩ := (HL.out.later hbb) k ls[k] (by simp [hk])
    have l1 := cell_later' (hc 1 _ rfl)
    have d0 := cell_later' hc0
    have d1 := cell_later' hc1
    refine wp_region_later (by kernel_rfl) (by kernel_rfl) ?_
    repeat (go_big_quiet_step ((go_at_call 31; refine calls_later (file_prog _ _ _ _ fs _ _ HN.out hnm ?_); exact (HF.out.later hbb).later (Later.h _))))
    refine wpQuiet_nil ?_
    intro w2 hw'
    have hb2 := later_out hw'
    clear hw'
    have hbb2 : Below w.heap.size w w2 := hbb.trans (hb2.mono hbb.size)
    have e0 := (hb2.cell (cell_lt hc0)).trans hc0
    have e1 := (hb2.cell (cell_lt hc1)).trans hc1
    clear l1 d0 d1 hc0 hc1
    rcases idx_range (fun f : FileR => f.name.toList == ls[k].file.toList) fs with hi | ⟨j, hj, hi⟩
    · have hneg : fidx fs ls[k].file < 0 := by unfold fidx; omega
      have hs3 : statusOf fs ls[k] = 3 := by unfold statusOf; simp [hneg]
      have HS3 := Lib.hid hs3; clear hs3 hi
      go_wp2
      go_ret
      exact ⟨ret_int (by rw [HS.out, HS3.out]), hbb2⟩
    · have hi' : fidx fs ls[k].file = (j : Int) := hi
      have hst : statusOf fs ls[k] = if !fs[j].present then 3 else if fs[j].sum != ls[k].sum then 2 else 1 := by
        unfold statusOf; rw [hi']; simp [fileAt, hj]
        have : ¬ ((j:Int) < 0) := by omega
        simp [this]
      have HST := Lib.hid hst; clear hst
      rw [hi']
      clear hi hi'
      have hjn : j < n := by rw [HN.out]; exact hj
      have hnm' := hnm; unfold maxLen at hnm'
      obtain ⟨b', off', rfl, hc'⟩ := (HF.out.later hbb2) j fs[j] (by simp [hj])
      have f1 := hc' 1 _ rfl
      have f2 := hc' 2 _ rfl
      have l2 := (hb2.cell (cell_lt (hc 2 _ rfl))).trans (hc 2 _ rfl)
      clear hc hc'
      cases hp : fs[j].present with
      | false =>
        rw [hp] at f2
        have hv : statusOf fs ls[k] = 3 := by rw [HST.out, hp]; rfl
        have HV := Lib.hid hv
        clear hv hp
        go_wp2
        go_ret
        exact ⟨ret_int (by rw [HS.out, HV.out]), hbb2⟩
      | true =>
        rw [hp] at f2
        have hv : statusOf fs ls[k] = if fs[j].sum != ls[k].sum then 2 else 1 := by rw [HST.out, hp]; rfl
        have HV := Lib.hid hv
        clear hv hp
        go_wp2_with fail
        go_quiet (fail)
        cases hs : (fs[j].sum != ls[k].sum) with
        | true =>
          have hv : statusOf fs ls[k] = 2 := by rw [HV.out, hs]; rfl
          have HV2 := Lib.hid hv
          clear hv
          go_wp2
          go_ret
          exact ⟨ret_int (by rw [HS.out, HV2.out]), hbb2.drewN _⟩
        | false =>
          have hv : statusOf fs ls[k] = 1 := by rw [HV.out, hs]; rfl
          have HV2 := Lib.hid hv
          clear hv
          go_wp2
          go_ret
          exact ⟨ret_int (by rw [HS.out, HV2.out]), hbb2.drewN _⟩
end Go.Proofs.Ytnbmiejjkkgckaa
/- Proved here: Contracts of the media package functions and of their reference, for use in the proofs of the given statements; conditions stand in each theorem. -/
namespace Go.Proofs.Ytnbmiejjkkgckaa
open Go.RowKit

def sumStep (h b : Int) : Int := IntKind.u64.wrap (bits BinOp.xor IntKind.u64 h b * 1099511628211)
def sumOf (xs : List Int) : Int := xs.foldl sumStep 14695981039346656037
theorem sumOf_snoc (xs : List Int) (k : Nat) (h : k < xs.length) : sumOf (xs.take (k+1)) = sumStep (sumOf (xs.take k)) xs[k] := by
  rw [List.take_succ_eq_append_getElem h]; unfold sumOf; rw [List.foldl_append]; rfl

set_option maxHeartbeats 1000000 in
theorem sum_ref (A : Option Addr) (n c : Nat) (xs : List Int) (w : World) (hn : n = xs.length) (hm : n ≤ maxLen) (hu : ∀ x ∈ xs, 0 ≤ x ∧ x ≤ 255)
   (hS : Sl1 (Value.int .u8) w A xs) :
    Calls Try.prog 10 #[.slice A n c] w fun e w' => e = .returned (.int .u64 (sumOf xs)) ∧ w = w' := by
  unfold maxLen at hm
  have HN := Lib.hid hn; clear hn
  have HS := Lib.hid hS; clear hS
  have HU := Lib.hid hu; clear hu
  go_enter Try.func10, Try.ntmps10
  go_wp2
  go_loop [3, 4] (fun h i => ∃ k : Nat, k ≤ n ∧ i = .int .i64 k ∧ h = .int .u64 (sumOf (xs.take k))) (fun _ i => n - (intOf i).toNat)
  case atStart => exact ⟨0, Nat.zero_le _, rfl, rfl⟩
  case round =>
    obtain ⟨k, hk, rfl, rfl⟩ := hrel
    by_cases hlt : k < n
    · have hlt' : k < xs.length := by rw [← HN.out]; exact hlt
      obtain ⟨b, off, rfl, h0⟩ := HS.out k xs[k] (by simp [hlt'])
      have hr := HU.out xs[k] (List.getElem_mem _)
      have hr1 := hr.1
      have hr2 := hr.2
      clear hr
      go_wp2
      go_round
      case rel => exact ⟨k + 1, by omega, by go_num, by rw [sumOf_snoc xs k hlt']; rfl⟩
      case measure => simp [intOf]; omega
    · go_wp2
      go_ret
      exact ⟨ret_int (by rw [List.take_of_length_le (by rw [← HN.out]; omega)]), rfl⟩

set_option maxHeartbeats 1000000 in
theorem sum_prog (A : Option Addr) (n c : Nat) (xs : List Int) (w : World) (hn : n = xs.length) (hm : n ≤ maxLen) (hu : ∀ x ∈ xs, 0 ≤ x ∧ x ≤ 255)
   (hS : Sl1 (Value.int .u8) w A xs) :
    Calls Try.prog 9 #[.slice A n c] w fun e w' => e = .returned (.int .u64 (sumOf xs)) ∧ w = w' := by
  unfold maxLen at hm
  have HN := Lib.hid hn; clear hn
  have HS := Lib.hid hS; clear hS
  have HU := Lib.hid hu; clear hu
  go_enter Try.func9, Try.ntmps9
  go_wp2
  go_loop [3, 8] (fun h i => ∃ k : Nat, k ≤ n ∧ i = .int .i64 k ∧ h = .int .u64 (sumOf (xs.take k))) (fun _ i => n - (intOf i).toNat)
  case atStart => exact ⟨0, Nat.zero_le _, rfl, rfl⟩
  case round =>
    obtain ⟨k, hk, rfl, rfl⟩ := hrel
    by_cases hlt : k < n
    · have hlt' : k < xs.length := by rw [← HN.out]; exact hlt
      obtain ⟨b, off, rfl, h0⟩ := HS.out k xs[k] (by simp [hlt'])
      have hr := HU.out xs[k] (List.getElem_mem _)
      have hr1 := hr.1
      have hr2 := hr.2
      clear hr
      go_wp2
      go_round
      case rel => exact ⟨k + 1, by omega, by go_num, by rw [sumOf_snoc xs k hlt']; rfl⟩
      case measure => simp [intOf]; omega
    · go_wp2
      go_ret
      exact ⟨ret_int (by rw [List.take_of_length_le (by rw [← HN.out]; omega)]), rfl⟩

/-! names -/
def nameI (c : Int) : Bool := decide (97 ≤ c ∧ c ≤ 122) || decide (48 ≤ c ∧ c ≤ 57) || decide (c = 45) || decide (c = 95) || decide (c = 46)
def nameAll (s : ByteArray) (k : Nat) : Bool := (List.range k).all fun j => nameI (s.data.toList.getD j 0).toNat
def validNm (s : ByteArray) : Bool := decide (1 ≤ s.size) && decide (s.size ≤ 32) && nameAll s s.size
theorem nameAll_succ (s : ByteArray) (k : Nat) : nameAll s (k+1) = (nameAll s k && nameI (s.data.toList.getD k 0).toNat) := by
  simp [nameAll, List.range_succ]
theorem nameAll_lt (s : ByteArray) : ∀ (k m : Nat), k ≤ m → nameAll s m = true → nameAll s k = true := by
  intro k m h h1
  simp only [nameAll, List.all_eq_true, List.mem_range] at *
  exact fun x hx => h1 x (by omega)
theorem byte_at (s : ByteArray) (k : Nat) (h : k < s.size) : s.data.toList.getD k 0 = s[k] := by
  have : k < s.data.toList.length := by simpa using h
  rw [List.getD_eq_getElem?_getD, List.getElem?_eq_getElem this]; rfl
theorem nameAll_stop (s : ByteArray) (k : Nat) (h : k < s.size) (hf : nameI (s.data.toList.getD k 0).toNat = false) : nameAll s s.size = false := by
  cases hc : nameAll s s.size with
  | false => rfl
  | true =>
    have := nameAll_lt s (k+1) s.size (by omega) hc
    rw [nameAll_succ, hf] at this
    simp at this

theorem nameI_true {c : Int} (h : (97 ≤ c ∧ c ≤ 122) ∨ (48 ≤ c ∧ c ≤ 57) ∨ c = 45 ∨ c = 95 ∨ c = 46) : nameI c = true := by
  simp only [nameI, Bool.or_eq_true, decide_eq_true_eq]; omega
theorem nameI_false {c : Int} (h : ¬ ((97 ≤ c ∧ c ≤ 122) ∨ (48 ≤ c ∧ c ≤ 57) ∨ c = 45 ∨ c = 95 ∨ c = 46)) : nameI c = false := by
  simp only [nameI, Bool.or_eq_false_iff, decide_eq_false_iff_not]; omega
theorem valid_stop (s : ByteArray) (k : Nat) (h : k < s.size) (hf : nameI s[k].toNat = false) : validNm s = false := by
  rw [← byte_at s k h] at hf
  simp [validNm, nameAll_stop s k h hf]
theorem valid_on (s : ByteArray) (k : Nat) (h : k < s.size) (ha : nameAll s k = true) (hf : nameI s[k].toNat = true) : nameAll s (k+1) = true := by
  rw [← byte_at s k h] at hf
  rw [nameAll_succ, ha, hf]; rfl
theorem ret_bool {a b : Bool} (h : a = b) : Ending.returned (.bool a) = .returned (.bool b) := by rw [h]

set_option maxHeartbeats 2000000 in
theorem validName_ref (s : ByteArray) (w : World) (hs : s.size ≤ maxLen) (r : Bool) (hr : validNm s = r) :
    Calls Try.prog 27 #[.string s] w fun e w' => e = .returned (.bool r) ∧ w = w' := by
  unfold maxLen at hs
  have HR := Lib.hid hr; clear hr
  go_enter Try.func27, Try.ntmps27
  go_wp2
  go_loop [3] (fun i => ∃ k : Nat, k ≤ s.size ∧ i = .int .i64 k ∧ Hid (nameAll s k = true)) (fun i => s.size - (intOf i).toNat)
  case atStart => exact ⟨0, Nat.zero_le _, rfl, rfl⟩
  case round =>
    obtain ⟨k, hk, rfl, HA⟩ := hrel
    by_cases hlt : k < s.size
    · go_wp2
      all_goals first
        | (go_ret
           exact ⟨ret_bool (by rw [← HR.out]; exact (valid_stop s k hlt (nameI_false (by simp only [bne_iff_ne, ne_eq] at *; omega))).symm), rfl⟩)
        | (go_round
           case rel => exact ⟨k + 1, by omega, by go_num, valid_on s k hlt HA.out (nameI_true (by simp only [bne_iff_ne, ne_eq, bne_eq_false_iff_eq] at *; omega))⟩
           case measure => simp [intOf]; omega)
    · have hke : k = s.size := by omega
      subst hke
      have HF := Lib.hid (show r = (decide (1 ≤ s.size) && decide (s.size ≤ 32)) by rw [← HR.out]; simp [validNm, HA.out])
      go_wp2
      all_goals
        go_ret
        exact ⟨ret_bool (by rw [HF.out, Bool.eq_iff_iff]; simp; omega), rfl⟩

set_option maxHeartbeats 2000000 in
theorem validName_prog (s : ByteArray) (w : World) (hs : s.size ≤ maxLen) (r : Bool) (hr : validNm s = r) :
    Calls Try.prog 25 #[.string s] w fun e w' => e = .returned (.bool r) ∧ w = w' := by
  unfold maxLen at hs
  have HR := Lib.hid hr; clear hr
  by_cases h1 : s.size < 1
  · have HF := Lib.hid (show false = r by rw [← HR.out]; simp [validNm]; omega)
    go_enter Try.func25, Try.ntmps25
    go_wp2
    go_ret
    exact ⟨ret_bool HF.out, rfl⟩
  by_cases h2 : 32 < s.size
  · have HF := Lib.hid (show false = r by rw [← HR.out]; simp [validNm]; omega)
    go_enter Try.func25, Try.ntmps25
    go_wp2
    go_ret
    exact ⟨ret_bool HF.out, rfl⟩
  have b1 : ((s.size : Int) < 1) = False := by simp; omega
  go_enter Try.func25, Try.ntmps25
  go_wp2
  go_loop [15] (fun i => ∃ k : Nat, k ≤ s.size ∧ i = .int .i64 k ∧ Hid (nameAll s k = true)) (fun i => s.size - (intOf i).toNat)
  case atStart => exact ⟨0, Nat.zero_le _, rfl, rfl⟩
  case round =>
    obtain ⟨k, hk, rfl, HA⟩ := hrel
    by_cases hlt : k < s.size
    · go_wp2
      all_goals first
        | (go_ret
           exact ⟨ret_bool (by rw [← HR.out]; exact (valid_stop s k hlt (nameI_false (by simp only [bne_iff_ne, ne_eq] at *; omega))).symm), rfl⟩)
        | (go_round
           case rel => exact ⟨k + 1, by omega, by go_num, valid_on s k hlt HA.out (nameI_true (by simp only [bne_iff_ne, ne_eq, bne_eq_false_iff_eq] at *; omega))⟩
           case measure => simp [intOf]; omega)
    · have hke : k = s.size := by omega
      subst hke
      have HF := Lib.hid (show true = r by rw [← HR.out]; simp [validNm, HA.out]; omega)
      go_wp2
      go_ret
      exact ⟨ret_bool HF.out, rfl⟩

/-- the empty string is no name -/
theorem validNm_empty : validNm ⟨#[]⟩ = false := rfl
def validPx (s : ByteArray) : Bool := s.toList.isEmpty || validNm s
theorem validProxy_prog (s : ByteArray) (w : World) (hs : s.size ≤ maxLen) (r : Bool) (hr : validPx s = r) :
    Calls Try.prog 26 #[.string s] w fun e w' => e = .returned (.bool r) ∧ w = w' := by
  cases he : s.toList.isEmpty with
  | true =>
    have HF := Lib.hid (show true = r by rw [← hr]; simp [validPx, he])
    clear hr
    have he' : s.toList = [] := by simpa using he
    go_enter Try.func26, Try.ntmps26
    go_wp2
    go_ret
    exact ⟨ret_bool HF.out, rfl⟩
  | false =>
    have hv : validNm s = r := by rw [← hr]; simp [validPx, he]
    have HV := Lib.hid hv
    clear hr hv
    go_enter Try.func26, Try.ntmps26
    go_wp2_with (go_at_call 25; refine (validName_prog _ _ hs r HV.out).mono ?_; rintro e w' ⟨rfl, rfl⟩)
    go_ret
    exact ⟨rfl, rfl⟩
end Go.Proofs.Ytnbmiejjkkgckaa
/- Proved here: Contracts of the media package functions and of their reference, for use in the proofs of the given statements; conditions stand in each theorem. -/
namespace Go.Proofs.Ytnbmiejjkkgckaa
open Go.RowKit

structure EventR where
  kind : Int
  media : ByteArray
  file : ByteArray
  proxy : ByteArray
  sum : Int
  deriving Inhabited
def EventR.cells (e : EventR) : List Value := [.int .i64 e.kind, .string e.media, .string e.file, .string e.proxy, .int .u64 e.sum]
def emp (s : ByteArray) : Bool := s.toList.isEmpty
def validEv (e : EventR) : Bool :=
  if e.kind = 1 then validNm e.file && emp e.media && emp e.proxy
  else if e.kind = 2 then validNm e.file && emp e.media && emp e.proxy && (e.sum == 0)
  else if e.kind = 3 ∨ e.kind = 4 then validNm e.media && validNm e.file && emp e.proxy && (e.sum == 0)
  else if e.kind = 5 then validNm e.media && validPx e.proxy && emp e.file && (e.sum == 0)
  else false
theorem emp_not (s : ByteArray) (h : emp s = true) : validNm s = false := by
  have : s.size = 0 := by
    have h2 : s.toList = [] := by simpa [emp] using h
    rw [ByteArray.toList_eq] at h2
    have := congrArg List.length h2
    simpa using this
  simp [validNm, this]
theorem quiet_left {P : Program} {f : FuncId} {args : Array Value} {w : World} {n : Nat} {v : Value}
    (h : Calls P f args (w.drewN n) fun e w' => e = .returned v ∧ w.drewN n = w') : Calls P f args (w.drewN n) fun e w'' => e = .returned v ∧ ∃ m, w'' = w.drewN m :=
  h.mono fun _ _ ⟨he, hm⟩ => ⟨he, n, hm.symm⟩

set_option maxHeartbeats 4000000 in
theorem validEvent_prog (k : Int) (m f p : ByteArray) (q : Int) (w : World) (hm : m.size ≤ maxLen) (hf : f.size ≤ maxLen) (hp : p.size ≤ maxLen) (r : Bool) (hr : validEv ⟨k, m, f, p, q⟩ = r) :
    Calls Try.prog 33 #[.agg #[.int .i64 k, .string m, .string f, .string p, .int .u64 q]] w fun e w' => e = .returned (.bool r) ∧ Below w.heap.size w w' := by
  have HR := Lib.hid hr; clear hr
  obtain ⟨bm, hbm⟩ : ∃ b, validNm m = b := ⟨_, rfl⟩
  obtain ⟨bf, hbf⟩ : ∃ b, validNm f = b := ⟨_, rfl⟩
  obtain ⟨bp, hbp⟩ : ∃ b, validPx p = b := ⟨_, rfl⟩
  have HM := Lib.hid hbm; have HF := Lib.hid hbf; have HP := Lib.hid hbp
  clear hbm hbf hbp
  go_enter Try.func33, Try.ntmps33
  go_wp2_with fail
  go_quiet (first
    | (go_at_call_of 25 (Value.string m); refine quiet_left (validName_prog _ _ hm bm HM.out))
    | (go_at_call_of 25 (Value.string f); refine quiet_left (validName_prog _ _ hf bf HF.out))
    | (go_at_call_of 26 (Value.string p); refine quiet_left (validProxy_prog _ _ hp bp HP.out)))
  have hE : Hid (r = (if k = 1 then bf && emp m && emp p
  else if k = 2 then bf && emp m && emp p && (q == 0)
  else if k = 3 ∨ k = 4 then bm && bf && emp p && (q == 0)
  else if k = 5 then bm && bp && emp f && (q == 0)
  else false)) := by
    have h1 := HM.out; have h2 := HF.out; have h3 := HP.out
    unfold Hid; rw [← HR.out]; unfold validEv; simp only [h1, h2, h3]
  by_cases k1 : k = 1
  · subst k1
    go_wp2
    all_goals
      go_ret
      exact ⟨ret_bool (by rw [hE.out]; simp_all [emp]), (later_alloc _ _).drewN _⟩
  by_cases k2 : k = 2
  · subst k2
    go_wp2
    all_goals
      go_ret
      exact ⟨ret_bool (by rw [hE.out]; simp_all [emp]), (later_alloc _ _).drewN _⟩
  by_cases k3 : k = 3
  · subst k3
    go_wp2
    all_goals
      go_ret
      exact ⟨ret_bool (by rw [hE.out]; simp_all [emp]), (later_alloc _ _).drewN _⟩
  by_cases k4 : k = 4
  · subst k4
    go_wp2
    all_goals
      go_ret
      exact ⟨ret_bool (by rw [hE.out]; simp_all [emp]), (later_alloc _ _).drewN _⟩
  by_cases k5 : k = 5
  · subst k5
    go_wp2
    all_goals
      go_ret
      exact ⟨ret_bool (by rw [hE.out]; simp_all [emp]), (later_alloc _ _).drewN _⟩
  go_wp2
  go_ret
  exact ⟨ret_bool (by rw [hE.out]; simp_all), (later_alloc _ _).drewN _⟩

set_option maxHeartbeats 4000000 in
theorem event_ref (k : Int) (m f p : ByteArray) (q : Int) (w : World) (hm : m.size ≤ maxLen) (hf : f.size ≤ maxLen) (hp : p.size ≤ maxLen) (r : Bool) (hr : validEv ⟨k, m, f, p, q⟩ = r) :
    Calls Try.prog 37 #[.agg #[.int .i64 k, .string m, .string f, .string p, .int .u64 q]] w fun e w' => e = .returned (.bool r) ∧ Below w.heap.size w w' := by
  have HR := Lib.hid hr; clear hr
  obtain ⟨bm, hbm⟩ : ∃ b, validNm m = b := ⟨_, rfl⟩
  obtain ⟨bf, hbf⟩ : ∃ b, validNm f = b := ⟨_, rfl⟩
  obtain ⟨bp, hbp⟩ : ∃ b, validNm p = b := ⟨_, rfl⟩
  have HM := Lib.hid hbm; have HF := Lib.hid hbf; have HP := Lib.hid hbp
  clear hbm hbf hbp
  go_enter Try.func37, Try.ntmps37
  go_wp2_with fail
  go_quiet (fail)
  have hE : Hid (r = (if k = 1 then bf && emp m && emp p
  else if k = 2 then bf && emp m && emp p && (q == 0)
  else if k = 3 ∨ k = 4 then bm && bf && emp p && (q == 0)
  else if k = 5 then bm && (emp p || bp) && emp f && (q == 0)
  else false)) := by
    have h1 := HM.out; have h2 := HF.out; have h3 := HP.out
    unfold Hid; rw [← HR.out]; unfold validEv validPx; simp only [h1, h2, h3, emp]
  have nm := emp_not m
  have nf := emp_not f
  have np := emp_not p
  rw [HM.out] at nm
  rw [HF.out] at nf
  rw [HP.out] at np
  have NM := Lib.hid nm; have NF := Lib.hid nf; have NP := Lib.hid np
  clear nm nf np
  by_cases k1 : k = 1
  · subst k1
    go_wp2_with (first
      | (go_at_call_of 27 (Value.string m); refine (validName_ref _ _ hm bm HM.out).mono ?_; rintro e w' ⟨rfl, rfl⟩)
      | (go_at_call_of 27 (Value.string f); refine (validName_ref _ _ hf bf HF.out).mono ?_; rintro e w' ⟨rfl, rfl⟩)
      | (go_at_call_of 27 (Value.string p); refine (validName_ref _ _ hp bp HP.out).mono ?_; rintro e w' ⟨rfl, rfl⟩))
    all_goals
      go_ret
      have N1 := NM.out; have N2 := NF.out; have N3 := NP.out
      exact ⟨ret_bool (by rw [hE.out]; simp_all [emp]), (later_alloc _ _).drewN _⟩
  by_cases k2 : k = 2
  · subst k2
    go_wp2_with (first
      | (go_at_call_of 27 (Value.string m); refine (validName_ref _ _ hm bm HM.out).mono ?_; rintro e w' ⟨rfl, rfl⟩)
      | (go_at_call_of 27 (Value.string f); refine (validName_ref _ _ hf bf HF.out).mono ?_; rintro e w' ⟨rfl, rfl⟩)
      | (go_at_call_of 27 (Value.string p); refine (validName_ref _ _ hp bp HP.out).mono ?_; rintro e w' ⟨rfl, rfl⟩))
    all_goals
      go_ret
      have N1 := NM.out; have N2 := NF.out; have N3 := NP.out
      exact ⟨ret_bool (by rw [hE.out]; simp_all [emp]), (later_alloc _ _).drewN _⟩
  by_cases k3 : k = 3
  · subst k3
    go_wp2_with (first
      | (go_at_call_of 27 (Value.string m); refine (validName_ref _ _ hm bm HM.out).mono ?_; rintro e w' ⟨rfl, rfl⟩)
      | (go_at_call_of 27 (Value.string f); refine (validName_ref _ _ hf bf HF.out).mono ?_; rintro e w' ⟨rfl, rfl⟩)
      | (go_at_call_of 27 (Value.string p); refine (validName_ref _ _ hp bp HP.out).mono ?_; rintro e w' ⟨rfl, rfl⟩))
    all_goals
      go_ret
      have N1 := NM.out; have N2 := NF.out; have N3 := NP.out
      exact ⟨ret_bool (by rw [hE.out]; simp_all [emp]), (later_alloc _ _).drewN _⟩
  by_cases k4 : k = 4
  · subst k4
    go_wp2_with (first
      | (go_at_call_of 27 (Value.string m); refine (validName_ref _ _ hm bm HM.out).mono ?_; rintro e w' ⟨rfl, rfl⟩)
      | (go_at_call_of 27 (Value.string f); refine (validName_ref _ _ hf bf HF.out).mono ?_; rintro e w' ⟨rfl, rfl⟩)
      | (go_at_call_of 27 (Value.string p); refine (validName_ref _ _ hp bp HP.out).mono ?_; rintro e w' ⟨rfl, rfl⟩))
    all_goals
      go_ret
      have N1 := NM.out; have N2 := NF.out; have N3 := NP.out
      exact ⟨ret_bool (by rw [hE.out]; simp_all [emp]), (later_alloc _ _).drewN _⟩
  by_cases k5 : k = 5
  · subst k5
    go_wp2_with (first
      | (go_at_call_of 27 (Value.string m); refine (validName_ref _ _ hm bm HM.out).mono ?_; rintro e w' ⟨rfl, rfl⟩)
      | (go_at_call_of 27 (Value.string f); refine (validName_ref _ _ hf bf HF.out).mono ?_; rintro e w' ⟨rfl, rfl⟩)
      | (go_at_call_of 27 (Value.string p); refine (validName_ref _ _ hp bp HP.out).mono ?_; rintro e w' ⟨rfl, rfl⟩))
    all_goals
      go_ret
      have N1 := NM.out; have N2 := NF.out; have N3 := NP.out
      exact ⟨ret_bool (by rw [hE.out]; simp_all [emp]), (later_alloc _ _).drewN _⟩
  · go_wp2_with (first
      | (go_at_call_of 27 (Value.string m); refine (validName_ref _ _ hm bm HM.out).mono ?_; rintro e w' ⟨rfl, rfl⟩)
      | (go_at_call_of 27 (Value.string f); refine (validName_ref _ _ hf bf HF.out).mono ?_; rintro e w' ⟨rfl, rfl⟩)
      | (go_at_call_of 27 (Value.string p); refine (validName_ref _ _ hp bp HP.out).mono ?_; rintro e w' ⟨rfl, rfl⟩))
    all_goals
      go_ret
      have N1 := NM.out; have N2 := NF.out; have N3 := NP.out
      exact ⟨ret_bool (by rw [hE.out]; simp_all [emp]), (later_alloc _ _).drewN _⟩
end Go.Proofs.Ytnbmiejjkkgckaa
