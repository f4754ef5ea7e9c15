/- Proved here: slices.Concat of two tracks, for use in the proofs of the given statements; conditions stand in each theorem. -/
import Derived.Test.YtkppmlignfhdeaaGreatZY
import Derived.Test.YtkppmlignfhdeaaGreatZI
import Derived.Test.YtkppmlignfhdeaaGreatZS
set_option linter.unusedSimpArgs false
set_option linter.unusedVariables false
set_option linter.unusedSectionVars false
set_option linter.unusedSimpArgs false
set_option linter.unusedVariables false
set_option linter.unnecessarySimpa false
namespace Go.Proofs.YtkppmlignfhdeaaGreat
open Go.RowKit
set_option maxRecDepth 4000
open Go.Lib
def zClipV : Value := .agg #[.int .i64 0, .int .i64 0, .int .i64 0, .string ⟨#[]⟩, .int .i64 0, .int .i64 0, .int .i64 0, .int .i64 0, .bool false, .int .i64 0, .string ⟨#[]⟩, .int .i64 0, .int .i64 0, .int .i64 0, .int .i64 0, .bool false, .int .i64 0, .int .i64 0, .int .i64 0, .string ⟨#[]⟩, .int .i64 0, .slice none 0 0]
theorem info_clip : (Tryz.prog.info? 104).map (fun i => (i.zero, i.size, i.bytes)) = some (some zClipV, 22, 216) := by kernel_rfl
set_option maxHeartbeats 2000000 in
theorem run_growC (n : Nat) (h0 : 0 < n) (hn : n ≤ 1000000) (w : World) : Calls Tryz.prog 147 #[.slice none 0 0, .int .i64 n] w fun e w' =>
    e = .returned (.slice (some ⟨w.heap.size, 0, none⟩) 0 (grownCap w n 0 104)) ∧ w' = w.drew.alloc (.cells (Builtin.zeroCells zClipV.cells n ++ Builtin.zeroCells zClipV.cells (grownCap w n 0 104 - n)) 104) := by
  obtain ⟨i0, hi, hz0, hz1, hz2⟩ := info_parts info_clip
  have h1 : ¬ ((n : Int) < 0) := by omega
  have h2 : Go.RowKit.wrap64 ((0 : Int) - 0) = 0 := by unfold Go.RowKit.wrap64; omega
  have h3 : Go.RowKit.wrap64 ((n : Int) - 0) = (n : Int) := by unfold Go.RowKit.wrap64; omega
  have h4 : (n : Int) > 0 := by omega
  have hrz : ∀ ty, (Builtin.append_ #[46, 3] ty #[.slice none 0 0, .int .i64 n]).run Tryz.prog w = .ok (.slice (some ⟨w.heap.size, 0, none⟩) n (grownCap w n 0 104)) (w.drew.alloc (.cells (Builtin.zeroCells zClipV.cells n ++ Builtin.zeroCells zClipV.cells (grownCap w n 0 104 - n)) 104)) := fun ty =>
    run_append_nil_zeros w _ _ ty _ i0 _ .i64 .i64 Tryz.underlying46 Tryz.underlying3 hi hz0 n h0 (by omega) (by omega) (by rw [hz2]; omega)
  have hGn : n ≤ grownCap w n 0 104 := grownCap_ge w _ _ _
  obtain ⟨G, hG⟩ : ∃ G, G = grownCap w n 0 104 := ⟨_, rfl⟩
  rw [← hG] at hrz hGn ⊢
  generalize Builtin.zeroCells zClipV.cells n = ZA at *
  generalize Builtin.zeroCells zClipV.cells (G - n) = ZB at *
  go_enter Tryz.func147, Tryz.ntmps147
  go_wp2_with (at_builtin; refine Lib.wpList_append_run _ rfl _ _ _ _ rfl _ _ rfl rfl _ _ (hrz _) ?_)
  all_goals (go_ret; exact ⟨rfl, rfl⟩)
set_option maxHeartbeats 2000000 in
theorem run_growC0 (w : World) : Calls Tryz.prog 147 #[.slice none 0 0, .int .i64 0] w fun e w' => e = .returned (.slice none 0 0) ∧ w' = w := by
  have h2 : Go.RowKit.wrap64 ((0 : Int) - 0) = 0 := by unfold Go.RowKit.wrap64; omega
  go_enter Tryz.func147, Tryz.ntmps147
  go_wp2
  all_goals (go_ret; exact ⟨rfl, rfl⟩)
theorem igrowC {σ : St} {d : Option Tmp} {n : Nat} {K : St → Prop} (hn : n ≤ 1000000) (dd : List T) (hK : K ((σ.add (.row 104 22 dd [])).put d (.own σ.nx))) : ICall Tryz.prog σ d 147 [.t (.lit (.slice none 0 0)), vint n] K := by
  refine icall_grow Tryz.xen147 (fun w => ?_) hK
  rcases Nat.eq_zero_or_pos n with rfl | h0
  · exact (run_growC0 w).mono fun e w' h => .inl ⟨rfl, h⟩
  · refine (run_growC n h0 hn w).mono ?_
    rintro e w' ⟨rfl, rfl⟩
    have h1 := grownCap_ge w n 0 104
    refine .inr ⟨_, _, rfl, rfl, ?_, grownCap_le_maxLen w n 0 _ (by unfold maxLen; omega)⟩
    simp only [Array.size_append, size_zeros]
    have : zClipV.cells.size = 22 := rfl
    rw [this]
    omega
theorem cConcatC (d : List T) (a b : List ClipR) (ha : a.length ≤ 64) (hb : b.length ≤ 64) : CPure Tryz.prog 83 [.t (.list 1 d [[tclips a], [tclips b]])] (.t (tclips (a ++ b))) := by
  refine cpure_of Tryz.xen83 Tryz.func83 rfl Tryz.ntmps83 (by rw [Tryz.results83]) (aw_ok _ ?_)
  simp only [go_sem, ↓reduceIte, Nat.reduceAdd, Nat.reduceSub]
  have c2 : ((2 : Nat) : Int) = 2 := rfl
  have w1 : IntKind.i64.wrap 1 = 1 := by decide
  have w2 : IntKind.i64.wrap 2 = 2 := by decide
  have e0 : IntKind.i64.wrap (0 + (a.length : Int)) = a.length := by rw [Go.Proofs.YtkppmlignfhdeaaGreat.wrap64 (by omega) (by omega)]; omega
  have e0' : IntKind.i64.wrap (a.length : Int) = a.length := by rw [Go.Proofs.YtkppmlignfhdeaaGreat.wrap64 (by omega) (by omega)]
  have e1 : IntKind.i64.wrap ((a.length : Int) + (b.length : Int)) = ((a ++ b).length : Nat) := by rw [Go.Proofs.YtkppmlignfhdeaaGreat.wrap64 (by omega) (by omega), List.length_append]; omega
  have n0 : ¬ ((a.length : Int) < 0) := by omega
  have n1 : ¬ ((((a ++ b).length : Nat) : Int) < 0) := by omega
  refine awp_loopL ?_
  refine awpL_step (aw_ok _ ?_)
  simp only [go_sem, ↓reduceIte, Nat.reduceAdd, Int.reduceLT, Int.reduceLE, Int.reduceAdd, Int.reduceToNat, decide_true, decide_false, nth, Option.getD_some, List.getElem?_cons_zero, w1, c2, e0, n0, forall_const]
  refine awpL_step (aw_ok _ ?_)
  simp only [go_sem, ↓reduceIte, Nat.reduceAdd, Int.reduceLT, Int.reduceLE, Int.reduceAdd, Int.reduceToNat, decide_true, decide_false, nth, Option.getD_some, List.getElem?_cons_zero, List.getElem?_cons_succ, w2, c2, e1, n1, forall_const]
  refine awpL_step (aw_ok _ ?_)
  simp only [go_sem, ↓reduceIte, Int.reduceLT, decide_false, forall_const]
  refine igrowC (n := (a ++ b).length) (by rw [List.length_append]; omega) (ClipR.c default) ?_
  simp only [go_sem, ↓reduceIte, Nat.reduceAdd]
  refine awp_loopL ?_
  refine awpL_step (aw_ok _ ?_)
  simp only [go_sem, Nat.reduceLT, ↓reduceIte, Nat.reduceAdd, Int.reduceLT, Int.reduceLE, Int.reduceAdd, Int.reduceToNat, decide_true, nth, Option.getD_some, List.getElem?_cons_zero, w1, c2, forall_const]
  refine ⟨⟨by unfold maxLen; omega, by omega⟩, ?_⟩
  refine awpL_step (aw_ok _ ?_)
  simp only [go_sem, Nat.reduceLT, ↓reduceIte, Nat.reduceAdd, Int.reduceLT, Int.reduceLE, Int.reduceAdd, Int.reduceToNat, decide_true, nth, Option.getD_some, List.getElem?_cons_zero, List.getElem?_cons_succ, w2, c2, forall_const]
  refine ⟨⟨by unfold maxLen; omega, by omega⟩, ?_⟩
  refine awpL_step (aw_ok _ ?_)
  simp only [go_sem, ↓reduceIte, Int.reduceLT, decide_false, forall_const]
  rw [List.map_append]
end Go.Proofs.YtkppmlignfhdeaaGreat
