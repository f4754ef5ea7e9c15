/- Proved here: Contracts of the media package functions and of their reference, for use in the proofs of the given statements; conditions stand in each theorem. -/
import Derived.Test.YtnbmiejjkkgckaaProg
import Derived.Test.YtnbmiejjkkgckaaBase
namespace Go.Proofs.Ytnbmiejjkkgckaa
open Go.RowKit

structure FileR where
  name : ByteArray
  sum : Int
  present : Bool
  deriving Inhabited
structure LinkR where
  media : ByteArray
  file : ByteArray
  sum : Int
  proxy : ByteArray
  deriving Inhabited

def FileR.cells (f : FileR) : List Value := [.string f.name, .int .u64 f.sum, .bool f.present]
def LinkR.cells (l : LinkR) : List Value := [.string l.media, .string l.file, .int .u64 l.sum, .string l.proxy]
def eqS (a b : ByteArray) : Bool := a.toList == b.toList
def fidx (fs : List FileR) (s : ByteArray) : Int := idx (fun f => f.name.toList == s.toList) fs
def lidx (ls : List LinkR) (s : ByteArray) : Int := idx (fun f => f.media.toList == s.toList) ls

set_option maxHeartbeats 1000000 in
theorem file_ref (A : Option Addr) (n c : Nat) (v2 : Value) (xs : List FileR) (s : ByteArray) (w : World) (hn : n = xs.length) (hm : n ≤ maxLen)
   (hS : Sl FileR.cells 3 w A xs) :
    Calls Try.prog 28 #[.agg #[.slice A n c, v2], .string s] w fun e w' => e = .returned (.int .i64 (fidx xs s)) ∧ Below w.heap.size w w' := by
  unfold maxLen at hm
  have HN := Lib.hid hn; clear hn
  have HS := Lib.hid hS; clear hS
  go_enter Try.func28, Try.ntmps28
  go_wp2
  go_loop [5] (fun i => ∃ k : Nat, k ≤ n ∧ i = .int .i64 k ∧ idxFrom (fun f => f.name.toList == s.toList) (xs.drop k) k = fidx xs s) (fun i => n - (intOf i).toNat)
  case atStart => exact ⟨0, Nat.zero_le _, rfl, rfl⟩
  case round =>
    obtain ⟨k, hk, rfl, hi⟩ := hrel
    have HI := Lib.hid hi; clear hi
    by_cases hlt : k < n
    · have hlt' : k < xs.length := by rw [← HN.out]; exact hlt
      obtain ⟨b, off, rfl, hc⟩ := HS.out k xs[k] (by simp [hlt'])
      have h0 := hc 0 _ rfl
      have hb := cell_lt h0
      simp only [Nat.add_zero] at h0 hb
      clear hc
      go_wp2
      · go_ret
        exact ⟨ret_int (by rw [← HI.out]; exact idx_hit hlt' (by assumption)), later_alloc _ _⟩
      · go_round
        case rel => exact ⟨k + 1, by omega, by go_num, by rw [← HI.out]; exact idx_step hlt' (by assumption)⟩
        case measure => simp [intOf]; omega
    · go_wp2
      go_ret
      exact ⟨ret_int (by rw [← HI.out]; exact idx_end (by rw [← HN.out]; exact hlt)), later_alloc _ _⟩

set_option maxHeartbeats 1000000 in
theorem link_ref (A : Option Addr) (n c : Nat) (v1 : Value) (xs : List LinkR) (s : ByteArray) (w : World) (hn : n = xs.length) (hm : n ≤ maxLen)
   (hS : Sl LinkR.cells 4 w A xs) :
    Calls Try.prog 29 #[.agg #[v1, .slice A n c], .string s] w fun e w' => e = .returned (.int .i64 (lidx xs s)) ∧ Below w.heap.size w w' := by
  unfold maxLen at hm
  have HN := Lib.hid hn; clear hn
  have HS := Lib.hid hS; clear hS
  go_enter Try.func29, Try.ntmps29
  go_wp2
  go_loop [5] (fun i => ∃ k : Nat, k ≤ n ∧ i = .int .i64 k ∧ idxFrom (fun f => f.media.toList == s.toList) (xs.drop k) k = lidx xs s) (fun i => n - (intOf i).toNat)
  case atStart => exact ⟨0, Nat.zero_le _, rfl, rfl⟩
  case round =>
    obtain ⟨k, hk, rfl, hi⟩ := hrel
    have HI := Lib.hid hi; clear hi
    by_cases hlt : k < n
    · have hlt' : k < xs.length := by rw [← HN.out]; exact hlt
      obtain ⟨b, off, rfl, hc⟩ := HS.out k xs[k] (by simp [hlt'])
      have h0 := hc 0 _ rfl
      have hb := cell_lt h0
      simp only [Nat.add_zero] at h0 hb
      clear hc
      go_wp2
      · go_ret
        exact ⟨ret_int (by rw [← HI.out]; exact idx_hit hlt' (by assumption)), later_alloc _ _⟩
      · go_round
        case rel => exact ⟨k + 1, by omega, by go_num, by rw [← HI.out]; exact idx_step hlt' (by assumption)⟩
        case measure => simp [intOf]; omega
    · go_wp2
      go_ret
      exact ⟨ret_int (by rw [← HI.out]; exact idx_end (by rw [← HN.out]; exact hlt)), later_alloc _ _⟩

/-- the closures -/
theorem linkP (m f p : ByteArray) (q : Int) (s : ByteArray) (b : Nat) (w : World) (h : w.cell? ⟨b, 0, none⟩ = some (.string s)) :
    Calls Try.prog 40 #[.agg #[.string m, .string f, .int .u64 q, .string p], .pointer (some ⟨b, 0, none⟩)] w fun e w' => e = .returned (.bool (m.toList == s.toList)) ∧ Below w.heap.size w w' := by
  have hb := cell_lt h
  go_enter Try.func40, Try.ntmps40
  go_wp2
  go_ret
  exact ⟨rfl, later_alloc _ _⟩
theorem fileP (m : ByteArray) (q : Int) (p : Bool) (s : ByteArray) (b : Nat) (w : World) (h : w.cell? ⟨b, 0, none⟩ = some (.string s)) :
    Calls Try.prog 42 #[.agg #[.string m, .int .u64 q, .bool p], .pointer (some ⟨b, 0, none⟩)] w fun e w' => e = .returned (.bool (m.toList == s.toList)) ∧ Below w.heap.size w w' := by
  have hb := cell_lt h
  go_enter Try.func42, Try.ntmps42
  go_wp2
  go_ret
  exact ⟨rfl, later_alloc _ _⟩

set_option maxHeartbeats 1000000 in
theorem indexFuncL (A : Option Addr) (n c : Nat) (xs : List LinkR) (s : ByteArray) (b1 : Nat) (w : World) (hn : n = xs.length) (hm : n ≤ maxLen)
   (hS : Sl LinkR.cells 4 w A xs) (hcl : w.cell? ⟨b1, 0, none⟩ = some (.string s)) :
    Calls Try.prog 39 #[.slice A n c, .func (.func 40) #[] #[.pointer (some ⟨b1, 0, none⟩)]] w fun e w' => e = .returned (.int .i64 (lidx xs s)) ∧ Below w.heap.size w w' := by
  unfold maxLen at hm
  have HN := Lib.hid hn; clear hn
  have HS := Lib.hid hS; clear hS
  have HC := Lib.hid hcl; clear hcl
  go_enter Try.func39, Try.ntmps39
  go_wp2
  go_loopw [8] (fun i wr => Below w.heap.size w wr ∧ ∃ k : Nat, k ≤ n ∧ i = .int .i64 k ∧ idxFrom (fun f => f.media.toList == s.toList) (xs.drop k) k = lidx xs s) (fun i _ => n - (intOf i).toNat)
  case atStart => exact ⟨Below.refl _ _, 0, Nat.zero_le _, rfl, rfl⟩
  case round =>
    obtain ⟨hbl, k, hk, rfl, hi⟩ := hrel
    have HI := Lib.hid hi; clear hi
    by_cases hlt : k < n
    · have hlt' : k < xs.length := by rw [← HN.out]; exact hlt
      obtain ⟨b, off, rfl, hc⟩ := (HS.out.later hbl) k xs[k] (by simp [hlt'])
      have h0 := hc 0 _ rfl
      have h1 := hc 1 _ rfl
      have h2 := hc 2 _ rfl
      have h3 := hc 3 _ rfl
      have hC := (hbl.cell (cell_lt HC.out)).trans HC.out
      have hb := cell_lt h0
      simp only [Nat.add_zero] at h0 hb
      clear hc
      go_wp2_with (go_at_call 40; refine (linkP _ _ _ _ _ _ _ hC).mono ?_; rintro e w' ⟨rfl, hb2⟩)
      · skip
        go_ret
        exact ⟨ret_int (by rw [← HI.out]; exact idx_hit hlt' (by assumption)), hbl.trans (hb2.mono hbl.size)⟩
      · go_roundw
        case rel => exact ⟨hbl.trans (hb2.mono hbl.size), k + 1, by omega, by go_num, by rw [← HI.out]; exact idx_step hlt' (by assumption)⟩
        case measure => simp [intOf]; omega
    · go_wp2
      go_ret
      exact ⟨ret_int (by rw [← HI.out]; exact idx_end (by rw [← HN.out]; exact hlt)), hbl⟩
set_option maxHeartbeats 1000000 in
theorem indexFuncF (A : Option Addr) (n c : Nat) (xs : List FileR) (s : ByteArray) (b1 : Nat) (w : World) (hn : n = xs.length) (hm : n ≤ maxLen)
   (hS : Sl FileR.cells 3 w A xs) (hcl : w.cell? ⟨b1, 0, none⟩ = some (.string s)) :
    Calls Try.prog 41 #[.slice A n c, .func (.func 42) #[] #[.pointer (some ⟨b1, 0, none⟩)]] w fun e w' => e = .returned (.int .i64 (fidx xs s)) ∧ Below w.heap.size w w' := by
  unfold maxLen at hm
  have HN := Lib.hid hn; clear hn
  have HS := Lib.hid hS; clear hS
  have HC := Lib.hid hcl; clear hcl
  go_enter Try.func41, Try.ntmps41
  go_wp2
  go_loopw [8] (fun i wr => Below w.heap.size w wr ∧ ∃ k : Nat, k ≤ n ∧ i = .int .i64 k ∧ idxFrom (fun f => f.name.toList == s.toList) (xs.drop k) k = fidx xs s) (fun i _ => n - (intOf i).toNat)
  case atStart => exact ⟨Below.refl _ _, 0, Nat.zero_le _, rfl, rfl⟩
  case round =>
    obtain ⟨hbl, k, hk, rfl, hi⟩ := hrel
    have HI := Lib.hid hi; clear hi
    by_cases hlt : k < n
    · have hlt' : k < xs.length := by rw [← HN.out]; exact hlt
      obtain ⟨b, off, rfl, hc⟩ := (HS.out.later hbl) k xs[k] (by simp [hlt'])
      have h0 := hc 0 _ rfl
      have h1 := hc 1 _ rfl
      have h2 := hc 2 _ rfl
      have hC := (hbl.cell (cell_lt HC.out)).trans HC.out
      have hb := cell_lt h0
      simp only [Nat.add_zero] at h0 hb
      clear hc
      go_wp2_with (go_at_call 42; refine (fileP _ _ _ _ _ _ hC).mono ?_; rintro e w' ⟨rfl, hb2⟩)
      · skip
        go_ret
        exact ⟨ret_int (by rw [← HI.out]; exact idx_hit hlt' (by assumption)), hbl.trans (hb2.mono hbl.size)⟩
      · go_roundw
        case rel => exact ⟨hbl.trans (hb2.mono hbl.size), k + 1, by omega, by go_num, by rw [← HI.out]; exact idx_step hlt' (by assumption)⟩
        case measure => simp [intOf]; omega
    · go_wp2
      go_ret
      exact ⟨ret_int (by rw [← HI.out]; exact idx_end (by rw [← HN.out]; exact hlt)), hbl⟩

set_option maxHeartbeats 1000000 in
theorem link_prog (A : Option Addr) (n c : Nat) (v1 : Value) (xs : List LinkR) (s : ByteArray) (w : World) (hn : n = xs.length) (hm : n ≤ maxLen)
   (hS : Sl LinkR.cells 4 w A xs) :
    Calls Try.prog 30 #[.agg #[v1, .slice A n c], .string s] w fun e w' => e = .returned (.int .i64 (lidx xs s)) ∧ Below w.heap.size w w' := by
  have HN := Lib.hid hn; clear hn
  have HS := Lib.hid hS; clear hS
  go_enter Try.func30, Try.ntmps30
  go_wp2_with fail

  refine (indexFuncL _ _ _ _ s _ _ HN.out hm ((HS.out.alloc _).alloc _) (by simp [go_sem])).mono ?_
  rintro e w' ⟨rfl, hb⟩
  go_wp2
  go_ret
  exact ⟨rfl, ((later_alloc _ _).alloc (by simp) _).trans (hb.mono (by simp; omega))⟩
set_option maxHeartbeats 1000000 in
theorem file_prog (A : Option Addr) (n c : Nat) (v1 : Value) (xs : List FileR) (s : ByteArray) (w : World) (hn : n = xs.length) (hm : n ≤ maxLen)
   (hS : Sl FileR.cells 3 w A xs) :
    Calls Try.prog 31 #[.agg #[.slice A n c, v1], .string s] w fun e w' => e = .returned (.int .i64 (fidx xs s)) ∧ Below w.heap.size w w' := by
  have HN := Lib.hid hn; clear hn
  have HS := Lib.hid hS; clear hS
  go_enter Try.func31, Try.ntmps31
  go_wp2_with fail

  refine (indexFuncF _ _ _ _ s _ _ HN.out hm ((HS.out.alloc _).alloc _) (by simp [go_sem])).mono ?_
  rintro e w' ⟨rfl, hb⟩
  go_wp2
  go_ret
  exact ⟨rfl, ((later_alloc _ _).alloc (by simp) _).trans (hb.mono (by simp; omega))⟩
end Go.Proofs.Ytnbmiejjkkgckaa
