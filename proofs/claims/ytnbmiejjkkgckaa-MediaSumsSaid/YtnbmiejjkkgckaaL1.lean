/- Proved here: Walks of the laws, for use in the proofs of the given statements; conditions stand in each theorem. -/
import Derived.Test.YtnbmiejjkkgckaaW1
namespace Go.Proofs.Ytnbmiejjkkgckaa
open Go.RowKit

set_option maxRecDepth 100000 in
set_option maxHeartbeats 400000 in
theorem mediaSums_any (A : Option Addr) (n c : Nat) (xs : List Int) (w : World) (hn : n = xs.length) (hm : n ≤ maxLen) (hu : ∀ x ∈ xs, 0 ≤ x ∧ x ≤ 255) (hS : Sl1 (Value.int .u8) w A xs) :
    Calls Try.prog 3 #[.slice A n c] w fun e w' => e = .returned (.bool true) ∧ Below w.heap.size w w' := by
  have h1 := sum_prog A n c xs w hn hm hu hS
  have h2 := sum_ref A n c xs w hn hm hu hS
  obtain ⟨h, hh⟩ : ∃ h, sumOf xs = h := ⟨_, rfl⟩
  rw [hh] at h1 h2
  have H1 := Lib.hid h1
  have H2 := Lib.hid h2
  have H3 := Lib.hid (awake_prog w)
  clear hn hm hu hS hh h1 h2
  go_enter Try.func3, Try.ntmps3
  go_wp2_with fail
  refine H1.out.mono ?_
  rintro e w2 ⟨rfl, rfl⟩
  go_wp2_with fail
  refine H2.out.mono ?_
  rintro e w2 ⟨rfl, rfl⟩
  go_wp2_with fail
  refine H3.out.mono ?_
  rintro e w3 ⟨rfl, hb⟩
  go_wp2
  go_ret
  exact ⟨rfl, hb⟩
end Go.Proofs.Ytnbmiejjkkgckaa
