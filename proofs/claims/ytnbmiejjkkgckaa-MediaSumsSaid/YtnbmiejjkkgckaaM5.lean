/- Proved here: Contracts of the media package functions and of their reference, for use in the proofs of the given statements; conditions stand in each theorem. -/
import Derived.Test.YtnbmiejjkkgckaaM2
import Derived.Test.YtnbmiejjkkgckaaBase2
namespace Go.Proofs.Ytnbmiejjkkgckaa
open Go.RowKit

theorem fileK (x : FileR) : x.cells.length = 3 := rfl
theorem linkK (x : LinkR) : x.cells.length = 4 := rfl
theorem Try.info37 : (Try.prog.info? 37).map (fun i => (i.zero, i.size, i.bytes)) = some (some (.agg #[.string ⟨#[]⟩, .int .u64 0, .bool false]), 3, 32) := by kernel_rfl
theorem Try.info39 : (Try.prog.info? 39).map (fun i => (i.zero, i.size, i.bytes)) = some (some (.agg #[.string ⟨#[]⟩, .string ⟨#[]⟩, .int .u64 0, .string ⟨#[]⟩]), 4, 56) := by kernel_rfl
theorem file1 (xs : List FileR) : ∀ u ∈ xs.flatMap FileR.cells, u.oneCell' = true := by
  intro u hu
  simp [FileR.cells] at hu
  obtain ⟨a, _, h | h | h⟩ := hu <;> subst h <;> rfl
theorem link1 (xs : List LinkR) : ∀ u ∈ xs.flatMap LinkR.cells, u.oneCell' = true := by
  intro u hu
  simp [LinkR.cells] at hu
  obtain ⟨a, _, h | h | h | h⟩ := hu <;> subst h <;> rfl

set_option maxHeartbeats 1000000 in
theorem cloneF (A : Option Addr) (n c : Nat) (xs : List FileR) (w : World) (hn : n = xs.length) (hm : n ≤ 65536) (hS : Sl FileR.cells 3 w A xs) :
    Calls Try.prog 34 #[.slice A n c] w fun e w' => ∃ v, e = .returned v ∧ w'.ownsRow w.heap.size 37 3 v n (xs.flatMap FileR.cells) ∧ Below w.heap.size w w' := by
  obtain ⟨i0, hi0, hz0, hz1, hz2⟩ := info_parts Try.info37
  have hfl : (xs.flatMap FileR.cells).length = n * 3 := by rw [flat_len fileK, hn]
  have HN := Lib.hid hn; clear hn
  have HL := Lib.hid hfl; clear hfl
  have HS := Lib.hid hS; clear hS
  have he := fun (a : Option Addr) (l c : Nat) (w : World) => Lib.run_eql_slice_nil (P := Try.prog) w 27 37 a l c 0 0 Try.underlying27
  cases A with
  | none =>
    have hx : xs = [] := by
      cases xs with
      | nil => rfl
      | cons x r => obtain ⟨b, off, h, _⟩ := HS.out 0 x rfl; cases h
    have hn0 : n = 0 := by rw [HN.out, hx]; rfl
    subst hx; subst hn0
    go_enter Try.func34, Try.ntmps34
    go_wp2
    go_ret
    exact ⟨_, rfl, World.ownsRow_nil _ _ _ _, Below.refl _ _⟩
  | some ad =>
    have hnews := Lib.hid (sl_news fileK HS.out)
    go_enter Try.func34, Try.ntmps34
    go_wp2_with (at_builtin; refine wpList_append_own_at _ rfl (.tmp 5) (.tmp 6) _ rfl w.heap.size 37 i0 _ 3 32 Try.underlying27 hi0 hz0 hz1 hz2 rfl (by omega) (.slice (some ⟨w.heap.size, 0, none⟩) 0 0) 0 [] rfl (World.ownsRow_lit w #[] 0 (Nat.le_refl _) (Nat.zero_le _) rfl) ad n c (xs.flatMap FileR.cells) rfl HL.out (fun j u hu => ((later_alloc w _).cell (cell_lt (hnews.out j u hu))).trans (hnews.out j u hu)) (file1 xs) (by simp only [maxLen]; omega) (by omega) (by simp) ?_; intro v' w1 hown hg _ hat)
    go_ret
    refine ⟨v', rfl, by simpa using hown, (later_alloc w _).grown hg (by simp) (fun q hq => ?_)⟩
    simp [Value.ownBlock] at hq
    omega
set_option maxHeartbeats 1000000 in
theorem cloneL (A : Option Addr) (n c : Nat) (xs : List LinkR) (w : World) (hn : n = xs.length) (hm : n ≤ 65536) (hS : Sl LinkR.cells 4 w A xs) :
    Calls Try.prog 35 #[.slice A n c] w fun e w' => ∃ v, e = .returned v ∧ w'.ownsRow w.heap.size 39 4 v n (xs.flatMap LinkR.cells) ∧ Below w.heap.size w w' := by
  obtain ⟨i0, hi0, hz0, hz1, hz2⟩ := info_parts Try.info39
  have hfl : (xs.flatMap LinkR.cells).length = n * 4 := by rw [flat_len linkK, hn]
  have HN := Lib.hid hn; clear hn
  have HL := Lib.hid hfl; clear hfl
  have HS := Lib.hid hS; clear hS
  have he := fun (a : Option Addr) (l c : Nat) (w : World) => Lib.run_eql_slice_nil (P := Try.prog) w 28 39 a l c 0 0 Try.underlying28
  cases A with
  | none =>
    have hx : xs = [] := by
      cases xs with
      | nil => rfl
      | cons x r => obtain ⟨b, off, h, _⟩ := HS.out 0 x rfl; cases h
    have hn0 : n = 0 := by rw [HN.out, hx]; rfl
    subst hx; subst hn0
    go_enter Try.func35, Try.ntmps35
    go_wp2
    go_ret
    exact ⟨_, rfl, World.ownsRow_nil _ _ _ _, Below.refl _ _⟩
  | some ad =>
    have hnews := Lib.hid (sl_news linkK HS.out)
    go_enter Try.func35, Try.ntmps35
    go_wp2_with (at_builtin; refine wpList_append_own_at _ rfl (.tmp 5) (.tmp 6) _ rfl w.heap.size 39 i0 _ 4 56 Try.underlying28 hi0 hz0 hz1 hz2 rfl (by omega) (.slice (some ⟨w.heap.size, 0, none⟩) 0 0) 0 [] rfl (World.ownsRow_lit w #[] 0 (Nat.le_refl _) (Nat.zero_le _) rfl) ad n c (xs.flatMap LinkR.cells) rfl HL.out (fun j u hu => ((later_alloc w _).cell (cell_lt (hnews.out j u hu))).trans (hnews.out j u hu)) (link1 xs) (by simp only [maxLen]; omega) (by omega) (by simp) ?_; intro v' w1 hown hg _ hat)
    go_ret
    refine ⟨v', rfl, by simpa using hown, (later_alloc w _).grown hg (by simp) (fun q hq => ?_)⟩
    simp [Value.ownBlock] at hq
    omega
end Go.Proofs.Ytnbmiejjkkgckaa
