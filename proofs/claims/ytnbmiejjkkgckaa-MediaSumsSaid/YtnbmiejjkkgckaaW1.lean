/- Proved here: The combined contract of Run, and the contract of awake, for use in the proofs of the given statements; conditions stand in each theorem. -/
import Derived.Test.YtnbmiejjkkgckaaR2
import Derived.Test.YtnbmiejjkkgckaaM3
namespace Go.Proofs.Ytnbmiejjkkgckaa
open Go.RowKit

theorem run_prog (A D E : Option Addr) (c d ec : Nat) (s : StateR) (evs : List EventR) (n : Nat) (hn : n = evs.length) (w : World) (hnm : s.files.length ≤ 65536) (hmm : s.links.length ≤ 65536) (hen : n ≤ 65536)
   (hff : ∀ f ∈ s.files, f.fits) (hlf : ∀ l ∈ s.links, l.fits) (hes : ∀ e ∈ evs, e.fits)
   (hF : Sl FileR.cells 3 w A s.files) (hL : Sl LinkR.cells 4 w D s.links) (hE : Sl EventR.cells 5 w E evs) :
    Calls Try.prog 22 #[.agg #[.slice A s.files.length c, .slice D s.links.length d], .slice E n ec] w (RunPost w (runS s evs)) := by
  cases hv : validSt s.files s.links with
  | true => exact run_good A D E c d ec s evs n hn w hen (valid_fit hv hff hlf) hes hF hL hE hv
  | false => exact run_bad A D E c d ec s evs n hn w hnm hmm hen hff hlf hF hL hv

def bf : ByteArray := ⟨#[102]⟩
def ba : ByteArray := ⟨#[97]⟩
def awEvs : List EventR := [⟨1, ⟨#[]⟩, bf, ⟨#[]⟩, 7⟩, ⟨3, ba, bf, ⟨#[]⟩, 0⟩, ⟨2, ⟨#[]⟩, bf, ⟨#[]⟩, 0⟩, ⟨1, ⟨#[]⟩, bf, ⟨#[]⟩, 7⟩]
theorem aw_errs : (runS ⟨[], []⟩ awEvs).2.2.length = 4 := of_decide_eq_true (by kernel_rfl)
theorem aw_outs : (runS ⟨[], []⟩ awEvs).2.1.map (·.status) = [1, 3, 1] := of_decide_eq_true (by kernel_rfl)
theorem aw_stat : status (runS ⟨[], []⟩ awEvs).1.files (runS ⟨[], []⟩ awEvs).1.links ba = 1 := of_decide_eq_true (by kernel_rfl)

theorem aw_cells : (runS ⟨[], []⟩ awEvs).2.1.flatMap OutR.cells = [.string ba, .int .i64 1, .string ba, .int .i64 3, .string ba, .int .i64 1] := by kernel_rfl
theorem aw_olen : (runS ⟨[], []⟩ awEvs).2.1.length = 3 := of_decide_eq_true (by kernel_rfl)
theorem aw_flen : (runS ⟨[], []⟩ awEvs).1.files.length = 1 := of_decide_eq_true (by kernel_rfl)
theorem aw_llen : (runS ⟨[], []⟩ awEvs).1.links.length = 1 := of_decide_eq_true (by kernel_rfl)
theorem aw_sum : sumOf [] = 14695981039346656037 := rfl
theorem aw_st0 : status [] [] ba = 0 := of_decide_eq_true (by kernel_rfl)
def awCells : Array Value := #[.int .i64 1, .string ⟨#[]⟩, .string bf, .string ⟨#[]⟩, .int .u64 7, .int .i64 3, .string ba, .string bf, .string ⟨#[]⟩, .int .u64 0, .int .i64 2, .string ⟨#[]⟩, .string bf, .string ⟨#[]⟩, .int .u64 0, .int .i64 1, .string ⟨#[]⟩, .string bf, .string ⟨#[]⟩, .int .u64 7]
theorem aw_sl (w : World) : Sl EventR.cells 5 (w.alloc (.cells awCells 45)) (some ⟨w.heap.size, 0, none⟩) awEvs :=
  own_sl eventK (World.ownsRow_lit (base := 0) (e := 45) (size := 5) w awCells 4 (Nat.zero_le _) (by unfold maxLen; omega) rfl)
theorem aw_fits : ∀ e ∈ awEvs, e.fits := by
  intro e he
  have h : ∀ b : ByteArray, b.size ≤ 1 → b.size ≤ maxLen := fun b hb => Nat.le_trans hb (by unfold maxLen; omega)
  simp only [awEvs, List.mem_cons, List.not_mem_nil, or_false] at he
  rcases he with rfl | rfl | rfl | rfl <;> exact ⟨h _ (by decide), h _ (by decide), h _ (by decide)⟩
set_option maxRecDepth 100000 in
set_option maxHeartbeats 4000000 in
theorem awake_prog (w : World) : Calls Try.prog 11 #[] w fun e w' => e = .returned (.bool true) ∧ Below w.heap.size w w' := by
  have HRUN := Lib.hid (run_prog none none (some ⟨w.heap.size, 0, none⟩) 0 0 4 ⟨[], []⟩ awEvs 4 rfl (w.alloc (.cells awCells 45)) (Nat.zero_le _) (Nat.zero_le _) (by omega) (fun f hf => by cases hf) (fun f hf => by cases hf) aw_fits (Sl.nil _ _ _ _) (Sl.nil _ _ _ _) (aw_sl w))
  go_enter Try.func11, Try.ntmps11
  go_wp2_with fail
  refine HRUN.out.mono ?_
  rintro e w1 ⟨v, vo, ve, rfl, hos, hoo, hoe, hb1⟩
  obtain ⟨u1, u2, rfl, hu1, hu2⟩ := hos.ex
  rw [aw_olen, aw_cells] at hoo
  rw [aw_errs] at hoe
  obtain ⟨X1, e1, rfl, _⟩ := own_form hu1
  obtain ⟨X2, e2, rfl, _⟩ := own_form hu2
  obtain ⟨X3, e3, rfl, _⟩ := own_form hoo
  obtain ⟨X4, e4, rfl, _⟩ := own_form hoe
  obtain ⟨g, rfl, _, _⟩ := own_addr hoo (by omega)
  have k1 := hoo.cellAt 1 (by omega)
  have k3 := hoo.cellAt 3 (by omega)
  have k5 := hoo.cellAt 5 (by omega)
  simp at k1 k3 k5
  have HF := Lib.hid (own_sl fileK hu1)
  have HL := Lib.hid (own_sl linkK hu2)
  have HB := Lib.hid ((later_alloc w (.cells awCells 45)).trans (hb1.mono (by simp)))
  clear hu1 hu2 hoo hoe hos hb1
  have HAL := Lib.hid (later_alloc w1 (.cells #[.slice X1 (runS ⟨[], []⟩ awEvs).1.files.length e1, .slice X2 (runS ⟨[], []⟩ awEvs).1.links.length e2] 30))
  have hkl := cell_lt k1
  go_wp2_with fail
  refine (sum_prog none 0 0 [] _ rfl (by unfold maxLen; omega) (fun x hx => by cases hx) (Sl1.nil _ _ _)).mono ?_
  rintro e w2 ⟨rfl, rfl⟩
  rw [aw_sum]
  have n0 := cell_of_row _ w1.heap.size 0 _ _ _ (heap_alloc_new w1 (.cells #[.slice X1 (runS ⟨[], []⟩ awEvs).1.files.length e1, .slice X2 (runS ⟨[], []⟩ awEvs).1.links.length e2] 30))
  have n1 := cell_of_row _ w1.heap.size 1 _ _ _ (heap_alloc_new w1 (.cells #[.slice X1 (runS ⟨[], []⟩ awEvs).1.files.length e1, .slice X2 (runS ⟨[], []⟩ awEvs).1.links.length e2] 30))
  have l1 := (HAL.out.cell hkl).trans k1
  have l3 := (HAL.out.cell (cell_lt k3)).trans k3
  have l5 := (HAL.out.cell (cell_lt k5)).trans k5
  have HB2 := Lib.hid (HB.out.trans (HAL.out.mono HB.out.size))
  have HF2 := Lib.hid (HF.out.later HAL.out)
  have HL2 := Lib.hid (HL.out.later HAL.out)
  go_wp2_with fail
  generalize w1.alloc (.cells #[.slice X1 (runS ⟨[], []⟩ awEvs).1.files.length e1, .slice X2 (runS ⟨[], []⟩ awEvs).1.links.length e2] 30) = w2 at *
  simp at n0 n1
  refine (status_prog none none 0 0 0 0 [] [] ba _ rfl rfl (by unfold maxLen; omega) (by unfold maxLen; omega) (Sl.nil _ _ _ _) (Sl.nil _ _ _ _)).mono ?_
  rintro e w3 ⟨rfl, hb3⟩
  rw [aw_st0]
  have m0 := (hb3.cell (cell_lt n0)).trans n0
  have m1 := (hb3.cell (cell_lt n1)).trans n1
  have l1' := (hb3.cell (cell_lt l1)).trans l1
  have l3' := (hb3.cell (cell_lt l3)).trans l3
  have l5' := (hb3.cell (cell_lt l5)).trans l5
  have HB3 := Lib.hid (HB2.out.trans (hb3.mono HB2.out.size))
  have HF3 := Lib.hid (HF2.out.later hb3)
  have HL3 := Lib.hid (HL2.out.later hb3)
  clear hb3 n0 n1 k1 k3 k5 l1 l3 l5
  go_wp2_with fail
  refine (status_prog X1 X2 _ e1 _ e2 _ _ ba _ rfl rfl (by rw [aw_flen]; unfold maxLen; omega) (by rw [aw_llen]; unfold maxLen; omega) HF3.out HL3.out).mono ?_
  rintro e w4 ⟨rfl, hb4⟩
  rw [aw_stat]
  have l1 := (hb4.cell (cell_lt l1')).trans l1'
  have l3 := (hb4.cell (cell_lt l3')).trans l3'
  have l5 := (hb4.cell (cell_lt l5')).trans l5'
  have HB4 := Lib.hid (HB3.out.trans (hb4.mono HB3.out.size))
  clear hb4 l1' l3' l5'
  go_wp2
  go_ret
  exact ⟨rfl, HB4.out⟩
end Go.Proofs.Ytnbmiejjkkgckaa
