/- Proved here: The contract of the function that makes a clip of a sound track from a tape, for use in the proofs of the given statements; conditions stand in each theorem. -/
import Derived.Test.YtihgmaamkgobkaaGreatZQ
set_option linter.unusedSimpArgs false
set_option linter.unusedVariables false
set_option linter.unusedSectionVars false
set_option linter.unusedSimpArgs false
set_option linter.unusedVariables false
set_option linter.unnecessarySimpa false
namespace Go.Proofs.YtihgmaamkgobkaaGreat
open Go.RowKit
set_option maxRecDepth 4000
def sKinds : List Int := [1, 1, 0, 2]
def sGains : List Int := [4096, 4096, 2048, 0, 8192, 5000]
def quiet (s : SourceR) : SourceR := { s with smooth := false }
def soundAt (L : List Int) (k : Nat) (m s : Int) : ClipR × Nat :=
  let len := 1 + tapeN L k 9
  let kind := sKinds.getD (tapeN L (k + 1) 4).toNat 0
  if kind = 0 then (⟨len, 0, zSource, zSource, 0, 0, 0, ⟨#[]⟩, 0, []⟩, k + 2)
  else
    let a := srcAt L (k + 2) m s
    if kind = 2 then
      let b := srcAt L a.2 m s
      let off := tapeN L b.2 3
      let total := off + len + tapeN L (b.2 + 1) 3
      (⟨len, kind, quiet a.1, quiet b.1, off, total, 0, ⟨#[]⟩, sGains.getD (tapeN L (b.2 + 2) 6).toNat 0, [tapeN L (b.2 + 3) 4 - 1, tapeN L (b.2 + 4) 4 - 1]⟩, b.2 + 5)
    else (⟨len, kind, quiet a.1, zSource, 0, 0, 0, ⟨#[]⟩, sGains.getD (tapeN L a.2 6).toNat 0, [tapeN L (a.2 + 1) 4 - 1, tapeN L (a.2 + 2) 4 - 1]⟩, a.2 + 3)
def vclipN (c : ClipR) : V := if c.chan = [] then vclipZ c else vclip c
theorem as_clipN (c : ClipR) : ∀ (w : World) (E : Env) v, RdV w E (vclipN c) v → RdV w E (vclip c) v := by
  intro w E v h
  unfold vclipN at h
  split at h
  · rename_i hc; exact as_clipZ hc w E v h
  · exact h
theorem cSoundZ (L : List Int) (k : Nat) (m s : Int) (hk : k ≤ 800000) (hm : 0 ≤ m ∧ m ≤ 9) (hs : 0 ≤ s ∧ s ≤ 9) :
    CBox Tryz.prog 31 [.t (tints L), vint k] [vint m, vint s, vint 2] (vclipN (soundAt L k m s).1) [.t (tints L), vint ((soundAt L k m s).2 : Int)] := by
  refine cbox_of Tryz.xen31 Tryz.func31 rfl Tryz.ntmps31 (by rw [Tryz.results31]) (aw_ok _ ?_)
  simp only [go_sem, Nat.reduceGT, Nat.reducePow, Nat.reduceLT, ↓reduceIte, Nat.reduceAdd, Nat.reduceMul, Nat.reduceSub, Nat.reduceMod, Nat.reduceLeDiff, Nat.reduceEqDiff, Nat.reduceBEq, reduceCtorEq]
  refine icall_box (cNext L k 9 (by omega) (by omega) (by omega)) rfl rfl rfl ?_
  have n9 := tapeN_lt (L := L) (k := k) (n := 9) (by omega)
  simp only [go_sem, Nat.reduceGT, Nat.reducePow, Nat.reduceLT, ↓reduceIte, Nat.reduceAdd, Nat.reduceMul, Nat.reduceSub, Nat.reduceMod, Nat.reduceLeDiff, Nat.reduceEqDiff, Nat.reduceBEq, reduceCtorEq, wrap64 (x := 1 + tapeN L k 9) (by omega) (by omega)]
  refine icall_box (cNext L (k + 1) 4 (by omega) (by omega) (by omega)) rfl rfl rfl ?_
  have n4 := tapeN_lt (L := L) (k := k + 1) (n := 4) (by omega)
  simp only [go_sem, Nat.reduceGT, Nat.reducePow, Nat.reduceLT, ↓reduceIte, Nat.reduceAdd, Nat.reduceMul, Nat.reduceSub, Nat.reduceMod, Nat.reduceLeDiff, Nat.reduceEqDiff, Nat.reduceBEq, reduceCtorEq]
  refine ⟨⟨by omega, by omega⟩, by omega, ?_⟩
  obtain ⟨kd, hkd⟩ : ∃ kd, sKinds.getD (tapeN L (k + 1) 4).toNat 0 = kd := ⟨_, rfl⟩
  have hkd' := hkd
  unfold sKinds at hkd'
  rw [hkd']
  have hl0 : 1 ≤ 1 + tapeN L k 9 ∧ 1 + tapeN L k 9 ≤ 9 := by omega
  generalize hlen : 1 + tapeN L k 9 = len at hl0
  refine ⟨fun h0 => ?_, fun h0 => ?_⟩
  · have e0 : kd = 0 := by simpa using h0
    have e : soundAt L k m s = (⟨len, 0, zSource, zSource, 0, 0, 0, ⟨#[]⟩, 0, []⟩, k + 2) := by unfold soundAt; simp only [hkd, hlen, e0, if_true]
    rw [e]
    unfold awS
    simp only [go_sem, Nat.reduceGT, Nat.reducePow, Nat.reduceLT, ↓reduceIte, Nat.reduceAdd, Nat.reduceMul, Nat.reduceSub, Nat.reduceMod, Nat.reduceLeDiff, Nat.reduceEqDiff, Nat.reduceBEq, reduceCtorEq]
    rw [e0]
    exact ⟨rfl, rfl⟩
  · have e0 : ¬ kd = 0 := by simpa using h0
    unfold awS
    simp only [go_sem, Nat.reduceGT, Nat.reducePow, Nat.reduceLT, ↓reduceIte, Nat.reduceAdd, Nat.reduceMul, Nat.reduceSub, Nat.reduceMod, Nat.reduceLeDiff, Nat.reduceEqDiff, Nat.reduceBEq, reduceCtorEq]
    refine icall_box (cSource L (k + 2) m s (by omega) hm hs) rfl rfl rfl ?_
    obtain ⟨⟨a, ka⟩, ha⟩ : ∃ a, srcAt L (k + 2) m s = a := ⟨_, rfl⟩
    have hka := srcAt_le L (k + 2) m s
    rw [ha] at hka ⊢
    simp only at hka
    have hk5 : kd = 1 ∨ kd = 2 := by
      have : (tapeN L (k + 1) 4).toNat = 0 ∨ (tapeN L (k + 1) 4).toNat = 1 ∨ (tapeN L (k + 1) 4).toNat = 2 ∨ (tapeN L (k + 1) 4).toNat = 3 := by omega
      rcases this with h | h | h | h <;> rw [h] at hkd' <;> simp at hkd' <;> omega
    clear hkd'
    rcases hk5 with rfl | rfl
    · have e : soundAt L k m s = (⟨len, 1, quiet a, zSource, 0, 0, 0, ⟨#[]⟩, sGains.getD (tapeN L ka 6).toNat 0, [tapeN L (ka + 1) 4 - 1, tapeN L (ka + 2) 4 - 1]⟩, ka + 3) := by unfold soundAt; simp only [hkd, hlen, ha]; first | rfl | simp
      rw [e]
      simp only [go_sem, Nat.reduceGT, Nat.reducePow, Nat.reduceLT, ↓reduceIte, Nat.reduceAdd, Nat.reduceMul, Nat.reduceSub, Nat.reduceMod, Nat.reduceLeDiff, Nat.reduceEqDiff, Nat.reduceBEq, reduceCtorEq, Int.reduceLT, Int.reduceLE, Int.reduceGT, Int.reduceGE, Int.reduceEq, Int.reduceNe, Int.reduceBEq, Int.reduceBNe, Int.reduceAdd, Int.reduceSub, Int.reduceNeg, Int.reduceToNat, decide_true, decide_false, Bool.or_false, Bool.false_or, Bool.or_true, Bool.true_or, Bool.and_true, Bool.true_and, Bool.and_false, Bool.false_and]
      have v1 : IntKind.i64.wrap 1 = 1 := by decide
      have v2 : IntKind.i64.wrap 2 = 2 := by decide
      refine icall_box (cNext L ka 6 (by omega) (by omega) (by omega)) rfl rfl rfl ?_
      have n6 := tapeN_lt (L := L) (k := ka) (n := 6) (by omega)
      simp only [go_sem, Nat.reduceGT, Nat.reducePow, Nat.reduceLT, ↓reduceIte, Nat.reduceAdd, Nat.reduceMul, Nat.reduceSub, Nat.reduceMod, Nat.reduceLeDiff, Nat.reduceEqDiff, Nat.reduceBEq, reduceCtorEq, Int.reduceLT, Int.reduceLE, Int.reduceGT, Int.reduceGE, Int.reduceEq, Int.reduceNe, Int.reduceBEq, Int.reduceBNe, Int.reduceAdd, Int.reduceSub, Int.reduceNeg, Int.reduceToNat, decide_true, decide_false, Bool.or_false, Bool.false_or, Bool.or_true, Bool.true_or, Bool.and_true, Bool.true_and, Bool.and_false, Bool.false_and]
      refine ⟨⟨by omega, by omega⟩, by omega, ?_⟩
      have hgn : [4096, 4096, 2048, 0, 8192, 5000].getD (tapeN L ka 6).toNat 0 = sGains.getD (tapeN L ka 6).toNat 0 := rfl
      rw [hgn]
      generalize sGains.getD (tapeN L ka 6).toNat 0 = gn
      refine awp_loopL ?_
      refine awpL_step (aw_ok _ ?_)
      simp only [go_sem, Nat.reduceGT, Nat.reducePow, Nat.reduceLT, ↓reduceIte, Nat.reduceAdd, Nat.reduceMul, Nat.reduceSub, Nat.reduceMod, Nat.reduceLeDiff, Nat.reduceEqDiff, Nat.reduceBEq, reduceCtorEq, Int.reduceLT, Int.reduceLE, Int.reduceGT, Int.reduceGE, Int.reduceEq, Int.reduceNe, Int.reduceBEq, Int.reduceBNe, Int.reduceAdd, Int.reduceSub, Int.reduceNeg, Int.reduceToNat, decide_true, decide_false, Bool.or_false, Bool.false_or, Bool.or_true, Bool.true_or, Bool.and_true, Bool.true_and, Bool.and_false, Bool.false_and, v1, v2]
      refine drawC_of 9 .done rfl (by kernel_rfl) (by kernel_rfl) (by decide) ?_
      simp only [go_sem, Nat.reduceGT, Nat.reducePow, Nat.reduceLT, ↓reduceIte, Nat.reduceAdd, Nat.reduceMul, Nat.reduceSub, Nat.reduceMod, Nat.reduceLeDiff, Nat.reduceEqDiff, Nat.reduceBEq, reduceCtorEq, Int.reduceLT, Int.reduceLE, Int.reduceGT, Int.reduceGE, Int.reduceEq, Int.reduceNe, Int.reduceBEq, Int.reduceBNe, Int.reduceAdd, Int.reduceSub, Int.reduceNeg, Int.reduceToNat, decide_true, decide_false, Bool.or_false, Bool.false_or, Bool.or_true, Bool.true_or, Bool.and_true, Bool.true_and, Bool.and_false, Bool.false_and]
      refine bcall (cNext L (ka + 1) 4 (by omega) (by omega) (by omega)) rfl rfl rfl ?_
      have c4 := tapeN_lt (L := L) (k := ka + 1) (n := 4) (by omega)
      simp only [go_sem, Nat.reduceGT, Nat.reducePow, Nat.reduceLT, ↓reduceIte, Nat.reduceAdd, Nat.reduceMul, Nat.reduceSub, Nat.reduceMod, Nat.reduceLeDiff, Nat.reduceEqDiff, Nat.reduceBEq, reduceCtorEq, Int.reduceLT, Int.reduceLE, Int.reduceGT, Int.reduceGE, Int.reduceEq, Int.reduceNe, Int.reduceBEq, Int.reduceBNe, Int.reduceAdd, Int.reduceSub, Int.reduceNeg, Int.reduceToNat, decide_true, decide_false, Bool.or_false, Bool.false_or, Bool.or_true, Bool.true_or, Bool.and_true, Bool.true_and, Bool.and_false, Bool.false_and, wrap64 (x := tapeN L (ka + 1) 4 - 1) (by omega) (by omega)]
      refine ⟨by decide, by kernel_rfl, ?_⟩
      refine awpL_step (aw_ok _ ?_)
      simp only [go_sem, Nat.reduceGT, Nat.reducePow, Nat.reduceLT, ↓reduceIte, Nat.reduceAdd, Nat.reduceMul, Nat.reduceSub, Nat.reduceMod, Nat.reduceLeDiff, Nat.reduceEqDiff, Nat.reduceBEq, reduceCtorEq, Int.reduceLT, Int.reduceLE, Int.reduceGT, Int.reduceGE, Int.reduceEq, Int.reduceNe, Int.reduceBEq, Int.reduceBNe, Int.reduceAdd, Int.reduceSub, Int.reduceNeg, Int.reduceToNat, decide_true, decide_false, Bool.or_false, Bool.false_or, Bool.or_true, Bool.true_or, Bool.and_true, Bool.true_and, Bool.and_false, Bool.false_and, v1, v2]
      refine drawC_of 9 .done rfl (by kernel_rfl) (by kernel_rfl) (by decide) ?_
      simp only [go_sem, Nat.reduceGT, Nat.reducePow, Nat.reduceLT, ↓reduceIte, Nat.reduceAdd, Nat.reduceMul, Nat.reduceSub, Nat.reduceMod, Nat.reduceLeDiff, Nat.reduceEqDiff, Nat.reduceBEq, reduceCtorEq, Int.reduceLT, Int.reduceLE, Int.reduceGT, Int.reduceGE, Int.reduceEq, Int.reduceNe, Int.reduceBEq, Int.reduceBNe, Int.reduceAdd, Int.reduceSub, Int.reduceNeg, Int.reduceToNat, decide_true, decide_false, Bool.or_false, Bool.false_or, Bool.or_true, Bool.true_or, Bool.and_true, Bool.true_and, Bool.and_false, Bool.false_and]
      refine bcall (cNext L (ka + 2) 4 (by omega) (by omega) (by omega)) rfl rfl rfl ?_
      have d4 := tapeN_lt (L := L) (k := ka + 2) (n := 4) (by omega)
      simp only [go_sem, Nat.reduceGT, Nat.reducePow, Nat.reduceLT, ↓reduceIte, Nat.reduceAdd, Nat.reduceMul, Nat.reduceSub, Nat.reduceMod, Nat.reduceLeDiff, Nat.reduceEqDiff, Nat.reduceBEq, reduceCtorEq, Int.reduceLT, Int.reduceLE, Int.reduceGT, Int.reduceGE, Int.reduceEq, Int.reduceNe, Int.reduceBEq, Int.reduceBNe, Int.reduceAdd, Int.reduceSub, Int.reduceNeg, Int.reduceToNat, decide_true, decide_false, Bool.or_false, Bool.false_or, Bool.or_true, Bool.true_or, Bool.and_true, Bool.true_and, Bool.and_false, Bool.false_and, wrap64 (x := tapeN L (ka + 2) 4 - 1) (by omega) (by omega)]
      refine ⟨by decide, by kernel_rfl, ?_⟩
      refine awpL_step (aw_ok _ ?_)
      simp only [go_sem, Nat.reduceGT, Nat.reducePow, Nat.reduceLT, ↓reduceIte, Nat.reduceAdd, Nat.reduceMul, Nat.reduceSub, Nat.reduceMod, Nat.reduceLeDiff, Nat.reduceEqDiff, Nat.reduceBEq, reduceCtorEq, Int.reduceLT, Int.reduceLE, Int.reduceGT, Int.reduceGE, Int.reduceEq, Int.reduceNe, Int.reduceBEq, Int.reduceBNe, Int.reduceAdd, Int.reduceSub, Int.reduceNeg, Int.reduceToNat, decide_true, decide_false, Bool.or_false, Bool.false_or, Bool.or_true, Bool.true_or, Bool.and_true, Bool.true_and, Bool.and_false, Bool.false_and, v1, v2]
      exact ⟨rfl, rfl⟩
    · have e : soundAt L k m s = (let b := srcAt L ka m s; (⟨len, 2, quiet a, quiet b.1, tapeN L b.2 3, tapeN L b.2 3 + len + tapeN L (b.2 + 1) 3, 0, ⟨#[]⟩, sGains.getD (tapeN L (b.2 + 2) 6).toNat 0, [tapeN L (b.2 + 3) 4 - 1, tapeN L (b.2 + 4) 4 - 1]⟩, b.2 + 5)) := by unfold soundAt; simp only [hkd, hlen, ha]; first | rfl | simp
      rw [e]
      simp only [go_sem, Nat.reduceGT, Nat.reducePow, Nat.reduceLT, ↓reduceIte, Nat.reduceAdd, Nat.reduceMul, Nat.reduceSub, Nat.reduceMod, Nat.reduceLeDiff, Nat.reduceEqDiff, Nat.reduceBEq, reduceCtorEq, Int.reduceLT, Int.reduceLE, Int.reduceGT, Int.reduceGE, Int.reduceEq, Int.reduceNe, Int.reduceBEq, Int.reduceBNe, Int.reduceAdd, Int.reduceSub, Int.reduceNeg, Int.reduceToNat, decide_true, decide_false, Bool.or_false, Bool.false_or, Bool.or_true, Bool.true_or, Bool.and_true, Bool.true_and, Bool.and_false, Bool.false_and]
      refine icall_box (cSource L ka m s (by omega) hm hs) rfl rfl rfl ?_
      obtain ⟨⟨b, kb⟩, hb⟩ : ∃ b, srcAt L ka m s = b := ⟨_, rfl⟩
      have hkb := srcAt_le L ka m s
      rw [hb] at hkb ⊢
      simp only at hkb
      simp only [go_sem, Nat.reduceGT, Nat.reducePow, Nat.reduceLT, ↓reduceIte, Nat.reduceAdd, Nat.reduceMul, Nat.reduceSub, Nat.reduceMod, Nat.reduceLeDiff, Nat.reduceEqDiff, Nat.reduceBEq, reduceCtorEq, Int.reduceLT, Int.reduceLE, Int.reduceGT, Int.reduceGE, Int.reduceEq, Int.reduceNe, Int.reduceBEq, Int.reduceBNe, Int.reduceAdd, Int.reduceSub, Int.reduceNeg, Int.reduceToNat, decide_true, decide_false, Bool.or_false, Bool.false_or, Bool.or_true, Bool.true_or, Bool.and_true, Bool.true_and, Bool.and_false, Bool.false_and]
      refine icall_box (cNext L kb 3 (by omega) (by omega) (by omega)) rfl rfl rfl ?_
      have o3 := tapeN_lt (L := L) (k := kb) (n := 3) (by omega)
      simp only [go_sem, Nat.reduceGT, Nat.reducePow, Nat.reduceLT, ↓reduceIte, Nat.reduceAdd, Nat.reduceMul, Nat.reduceSub, Nat.reduceMod, Nat.reduceLeDiff, Nat.reduceEqDiff, Nat.reduceBEq, reduceCtorEq, Int.reduceLT, Int.reduceLE, Int.reduceGT, Int.reduceGE, Int.reduceEq, Int.reduceNe, Int.reduceBEq, Int.reduceBNe, Int.reduceAdd, Int.reduceSub, Int.reduceNeg, Int.reduceToNat, decide_true, decide_false, Bool.or_false, Bool.false_or, Bool.or_true, Bool.true_or, Bool.and_true, Bool.true_and, Bool.and_false, Bool.false_and]
      refine drawC_of 10 .done rfl (by kernel_rfl) (by kernel_rfl) (by decide) ?_
      simp only [go_sem, Nat.reduceGT, Nat.reducePow, Nat.reduceLT, ↓reduceIte, Nat.reduceAdd, Nat.reduceMul, Nat.reduceSub, Nat.reduceMod, Nat.reduceLeDiff, Nat.reduceEqDiff, Nat.reduceBEq, reduceCtorEq, Int.reduceLT, Int.reduceLE, Int.reduceGT, Int.reduceGE, Int.reduceEq, Int.reduceNe, Int.reduceBEq, Int.reduceBNe, Int.reduceAdd, Int.reduceSub, Int.reduceNeg, Int.reduceToNat, decide_true, decide_false, Bool.or_false, Bool.false_or, Bool.or_true, Bool.true_or, Bool.and_true, Bool.true_and, Bool.and_false, Bool.false_and]
      refine bcall (cNext L (kb + 1) 3 (by omega) (by omega) (by omega)) rfl rfl rfl ?_
      have p3 := tapeN_lt (L := L) (k := kb + 1) (n := 3) (by omega)
      simp only [go_sem, Nat.reduceGT, Nat.reducePow, Nat.reduceLT, ↓reduceIte, Nat.reduceAdd, Nat.reduceMul, Nat.reduceSub, Nat.reduceMod, Nat.reduceLeDiff, Nat.reduceEqDiff, Nat.reduceBEq, reduceCtorEq, Int.reduceLT, Int.reduceLE, Int.reduceGT, Int.reduceGE, Int.reduceEq, Int.reduceNe, Int.reduceBEq, Int.reduceBNe, Int.reduceAdd, Int.reduceSub, Int.reduceNeg, Int.reduceToNat, decide_true, decide_false, Bool.or_false, Bool.false_or, Bool.or_true, Bool.true_or, Bool.and_true, Bool.true_and, Bool.and_false, Bool.false_and, wrap64 (x := tapeN L kb 3 + len) (by omega) (by omega), wrap64 (x := tapeN L kb 3 + len + tapeN L (kb + 1) 3) (by omega) (by omega)]
      refine ⟨by kernel_rfl, ?_⟩
      have v1 : IntKind.i64.wrap 1 = 1 := by decide
      have v2 : IntKind.i64.wrap 2 = 2 := by decide
      refine icall_box (cNext L (kb + 2) 6 (by omega) (by omega) (by omega)) rfl rfl rfl ?_
      have n6 := tapeN_lt (L := L) (k := (kb + 2)) (n := 6) (by omega)
      simp only [go_sem, Nat.reduceGT, Nat.reducePow, Nat.reduceLT, ↓reduceIte, Nat.reduceAdd, Nat.reduceMul, Nat.reduceSub, Nat.reduceMod, Nat.reduceLeDiff, Nat.reduceEqDiff, Nat.reduceBEq, reduceCtorEq, Int.reduceLT, Int.reduceLE, Int.reduceGT, Int.reduceGE, Int.reduceEq, Int.reduceNe, Int.reduceBEq, Int.reduceBNe, Int.reduceAdd, Int.reduceSub, Int.reduceNeg, Int.reduceToNat, decide_true, decide_false, Bool.or_false, Bool.false_or, Bool.or_true, Bool.true_or, Bool.and_true, Bool.true_and, Bool.and_false, Bool.false_and]
      refine ⟨⟨by omega, by omega⟩, by omega, ?_⟩
      have hgn : [4096, 4096, 2048, 0, 8192, 5000].getD (tapeN L (kb + 2) 6).toNat 0 = sGains.getD (tapeN L (kb + 2) 6).toNat 0 := rfl
      rw [hgn]
      generalize sGains.getD (tapeN L (kb + 2) 6).toNat 0 = gn
      refine awp_loopL ?_
      refine awpL_step (aw_ok _ ?_)
      simp only [go_sem, Nat.reduceGT, Nat.reducePow, Nat.reduceLT, ↓reduceIte, Nat.reduceAdd, Nat.reduceMul, Nat.reduceSub, Nat.reduceMod, Nat.reduceLeDiff, Nat.reduceEqDiff, Nat.reduceBEq, reduceCtorEq, Int.reduceLT, Int.reduceLE, Int.reduceGT, Int.reduceGE, Int.reduceEq, Int.reduceNe, Int.reduceBEq, Int.reduceBNe, Int.reduceAdd, Int.reduceSub, Int.reduceNeg, Int.reduceToNat, decide_true, decide_false, Bool.or_false, Bool.false_or, Bool.or_true, Bool.true_or, Bool.and_true, Bool.true_and, Bool.and_false, Bool.false_and, v1, v2]
      refine drawC_of 9 .done rfl (by kernel_rfl) (by kernel_rfl) (by decide) ?_
      simp only [go_sem, Nat.reduceGT, Nat.reducePow, Nat.reduceLT, ↓reduceIte, Nat.reduceAdd, Nat.reduceMul, Nat.reduceSub, Nat.reduceMod, Nat.reduceLeDiff, Nat.reduceEqDiff, Nat.reduceBEq, reduceCtorEq, Int.reduceLT, Int.reduceLE, Int.reduceGT, Int.reduceGE, Int.reduceEq, Int.reduceNe, Int.reduceBEq, Int.reduceBNe, Int.reduceAdd, Int.reduceSub, Int.reduceNeg, Int.reduceToNat, decide_true, decide_false, Bool.or_false, Bool.false_or, Bool.or_true, Bool.true_or, Bool.and_true, Bool.true_and, Bool.and_false, Bool.false_and]
      refine bcall (cNext L ((kb + 2) + 1) 4 (by omega) (by omega) (by omega)) rfl rfl rfl ?_
      have c4 := tapeN_lt (L := L) (k := (kb + 2) + 1) (n := 4) (by omega)
      simp only [go_sem, Nat.reduceGT, Nat.reducePow, Nat.reduceLT, ↓reduceIte, Nat.reduceAdd, Nat.reduceMul, Nat.reduceSub, Nat.reduceMod, Nat.reduceLeDiff, Nat.reduceEqDiff, Nat.reduceBEq, reduceCtorEq, Int.reduceLT, Int.reduceLE, Int.reduceGT, Int.reduceGE, Int.reduceEq, Int.reduceNe, Int.reduceBEq, Int.reduceBNe, Int.reduceAdd, Int.reduceSub, Int.reduceNeg, Int.reduceToNat, decide_true, decide_false, Bool.or_false, Bool.false_or, Bool.or_true, Bool.true_or, Bool.and_true, Bool.true_and, Bool.and_false, Bool.false_and, wrap64 (x := tapeN L ((kb + 2) + 1) 4 - 1) (by omega) (by omega)]
      refine ⟨by decide, by kernel_rfl, ?_⟩
      refine awpL_step (aw_ok _ ?_)
      simp only [go_sem, Nat.reduceGT, Nat.reducePow, Nat.reduceLT, ↓reduceIte, Nat.reduceAdd, Nat.reduceMul, Nat.reduceSub, Nat.reduceMod, Nat.reduceLeDiff, Nat.reduceEqDiff, Nat.reduceBEq, reduceCtorEq, Int.reduceLT, Int.reduceLE, Int.reduceGT, Int.reduceGE, Int.reduceEq, Int.reduceNe, Int.reduceBEq, Int.reduceBNe, Int.reduceAdd, Int.reduceSub, Int.reduceNeg, Int.reduceToNat, decide_true, decide_false, Bool.or_false, Bool.false_or, Bool.or_true, Bool.true_or, Bool.and_true, Bool.true_and, Bool.and_false, Bool.false_and, v1, v2]
      refine drawC_of 9 .done rfl (by kernel_rfl) (by kernel_rfl) (by decide) ?_
      simp only [go_sem, Nat.reduceGT, Nat.reducePow, Nat.reduceLT, ↓reduceIte, Nat.reduceAdd, Nat.reduceMul, Nat.reduceSub, Nat.reduceMod, Nat.reduceLeDiff, Nat.reduceEqDiff, Nat.reduceBEq, reduceCtorEq, Int.reduceLT, Int.reduceLE, Int.reduceGT, Int.reduceGE, Int.reduceEq, Int.reduceNe, Int.reduceBEq, Int.reduceBNe, Int.reduceAdd, Int.reduceSub, Int.reduceNeg, Int.reduceToNat, decide_true, decide_false, Bool.or_false, Bool.false_or, Bool.or_true, Bool.true_or, Bool.and_true, Bool.true_and, Bool.and_false, Bool.false_and]
      refine bcall (cNext L ((kb + 2) + 2) 4 (by omega) (by omega) (by omega)) rfl rfl rfl ?_
      have d4 := tapeN_lt (L := L) (k := (kb + 2) + 2) (n := 4) (by omega)
      simp only [go_sem, Nat.reduceGT, Nat.reducePow, Nat.reduceLT, ↓reduceIte, Nat.reduceAdd, Nat.reduceMul, Nat.reduceSub, Nat.reduceMod, Nat.reduceLeDiff, Nat.reduceEqDiff, Nat.reduceBEq, reduceCtorEq, Int.reduceLT, Int.reduceLE, Int.reduceGT, Int.reduceGE, Int.reduceEq, Int.reduceNe, Int.reduceBEq, Int.reduceBNe, Int.reduceAdd, Int.reduceSub, Int.reduceNeg, Int.reduceToNat, decide_true, decide_false, Bool.or_false, Bool.false_or, Bool.or_true, Bool.true_or, Bool.and_true, Bool.true_and, Bool.and_false, Bool.false_and, wrap64 (x := tapeN L ((kb + 2) + 2) 4 - 1) (by omega) (by omega)]
      refine ⟨by decide, by kernel_rfl, ?_⟩
      refine awpL_step (aw_ok _ ?_)
      simp only [go_sem, Nat.reduceGT, Nat.reducePow, Nat.reduceLT, ↓reduceIte, Nat.reduceAdd, Nat.reduceMul, Nat.reduceSub, Nat.reduceMod, Nat.reduceLeDiff, Nat.reduceEqDiff, Nat.reduceBEq, reduceCtorEq, Int.reduceLT, Int.reduceLE, Int.reduceGT, Int.reduceGE, Int.reduceEq, Int.reduceNe, Int.reduceBEq, Int.reduceBNe, Int.reduceAdd, Int.reduceSub, Int.reduceNeg, Int.reduceToNat, decide_true, decide_false, Bool.or_false, Bool.false_or, Bool.or_true, Bool.true_or, Bool.and_true, Bool.true_and, Bool.and_false, Bool.false_and, v1, v2]
      exact ⟨rfl, rfl⟩
theorem soundAt_fit (L : List Int) (k : Nat) (m s : Int) (hm : m ≤ 9) (hs : s ≤ 9) : (soundAt L k m s).1.fit := by
  have n9 := tapeN_lt (L := L) (k := k) (n := 9) (by omega)
  obtain ⟨_, fa⟩ := srcAt_ok L (k + 2) m s hm hs
  obtain ⟨_, fb⟩ := srcAt_ok L (srcAt L (k + 2) m s).2 m s hm hs
  have o3 := tapeN_lt (L := L) (k := (srcAt L (srcAt L (k + 2) m s).2 m s).2) (n := 3) (by omega)
  have p3 := tapeN_lt (L := L) (k := (srcAt L (srcAt L (k + 2) m s).2 m s).2 + 1) (n := 3) (by omega)
  have hk : ∀ i : Nat, -1000000 ≤ sKinds.getD i 0 ∧ sKinds.getD i 0 ≤ 1000000 := fun i => by
    rcases i with _ | _ | _ | _ | i <;> simp [sKinds]
  have hg : ∀ i : Nat, -1000000 ≤ sGains.getD i 0 ∧ sGains.getD i 0 ≤ 1000000 := fun i => by
    rcases i with _ | _ | _ | _ | _ | _ | i <;> simp [sGains]
  have hl : I64 (1 + tapeN L k 9) := small64 (by omega) (by omega)
  have qf : ∀ s : SourceR, s.fit → (quiet s).fit := fun s h => ⟨h.kind, h.pos, h.speed⟩
  unfold soundAt
  simp only
  split
  · exact ⟨hl, i0, zfit, zfit, i0, i0, i0, i0⟩
  · split
    · exact ⟨hl, small64 (hk _).1 (hk _).2, qf _ fa, qf _ fb, small64 (by simp only; omega) (by simp only; omega), small64 (by simp only; omega) (by simp only; omega), i0, small64 (hg _).1 (hg _).2⟩
    · exact ⟨hl, small64 (hk _).1 (hk _).2, qf _ fa, zfit, i0, i0, i0, small64 (hg _).1 (hg _).2⟩
theorem cSound (L : List Int) (k : Nat) (m s : Int) (hk : k ≤ 800000) (hm : 0 ≤ m ∧ m ≤ 9) (hs : 0 ≤ s ∧ s ≤ 9) :
    CBox Tryz.prog 31 [.t (tints L), vint k] [vint m, vint s, vint 2] (vclip (soundAt L k m s).1) [.t (tints L), vint ((soundAt L k m s).2 : Int)] :=
  cbox_as (as_clipN _) (cSoundZ L k m s hk hm hs)
end Go.Proofs.YtihgmaamkgobkaaGreat
