/- Proved here: 'TimelineNormalForm' returns true, for use in the proofs of the given statements; conditions stand in each theorem. -/
import Derived.Test.YtihgmaamkgobkaaGreatZR
import Derived.Test.YtihgmaamkgobkaaGreatZG
import Derived.Test.YtihgmaamkgobkaaGreatZQ
set_option linter.unusedSimpArgs false
set_option linter.unusedVariables false
set_option linter.unusedSectionVars false
set_option linter.unusedSimpArgs false
set_option linter.unusedVariables false
set_option linter.unnecessarySimpa false
namespace Go.Proofs.YtihgmaamkgobkaaGreat
open Go.RowKit
set_option maxRecDepth 4000
/-- the track of a tape, as a value -/
theorem cTrackP (L : List Int) : CPure Tryz.prog 19 [.t (tints L)] (.t (tclips (trackT L))) := by
  refine cpure_of Tryz.xen19 Tryz.func19 rfl Tryz.ntmps19 (by rw [Tryz.results19]) (aw_ok _ ?_)
  simp only [go_sem, Nat.reduceGT, Nat.reducePow, Nat.reduceLT, ↓reduceIte, Nat.reduceAdd, Nat.reduceMul, Nat.reduceSub, Nat.reduceMod, Nat.reduceLeDiff, Nat.reduceEqDiff, Nat.reduceBEq, reduceCtorEq]
  refine icall_io (cTrackIO L 0 3 2 9 (by omega) (by omega) (by omega) (by omega) (by omega)) [0] rfl (by omega) (by decide) ?_ rfl rfl rfl rfl ?_
  · simp only [go_sem, Nat.reduceGT, Nat.reducePow, Nat.reduceLT, ↓reduceIte, Nat.reduceAdd, Nat.reduceMul, Nat.reduceSub, Nat.reduceMod, Nat.reduceLeDiff, Nat.reduceEqDiff, Nat.reduceBEq, reduceCtorEq]
    rfl
  · simp only [go_sem, Nat.reduceGT, Nat.reducePow, Nat.reduceLT, ↓reduceIte, Nat.reduceAdd, Nat.reduceMul, Nat.reduceSub, Nat.reduceMod, Nat.reduceLeDiff, Nat.reduceEqDiff, Nat.reduceBEq, reduceCtorEq, List.getElem?_nil]
    rfl
theorem normal10 (L : List Int) : CPure Tryz.prog 9 [.t (tints L)] (vbool true) := by
  refine cpure_of Tryz.xen9 Tryz.func9 rfl Tryz.ntmps9 (by rw [Tryz.results9]) (aw_ok _ ?_)
  simp only [go_sem, Nat.reduceGT, Nat.reducePow, Nat.reduceLT, ↓reduceIte, Nat.reduceAdd, Nat.reduceMul, Nat.reduceSub, Nat.reduceMod, Nat.reduceLeDiff, Nat.reduceEqDiff, Nat.reduceBEq, reduceCtorEq]
  refine icall_pure (cTrackP L) rfl ?_
  have hv := trackT_ok L
  have hf := trackT_fit L
  generalize trackT L = A at *
  have p1 := pack_vTrack hv hf
  have p2 := pack_fit hv hf
  have p3 := pack_idem hv hf
  have p4 := pack_len hv hf
  have n1 := norm_vTrack hv hf
  have n2 := norm_fit hv hf
  have n3 := norm_idem hv hf
  have n4 := norm_of_pack hv hf
  have n5 := (norm_facts hv hf).1
  obtain ⟨k, k1, k2⟩ := norm_take hv hf
  have hnl : (normT A).length ≤ (packT A).length ∧ (packT A).length ≤ (normT A).length + 1 := by
    rw [k1]; simp only [List.length_take]; omega
  have hpl := (track_all p1).1
  have s1 : sameT A (packT A) = true := by unfold sameT; rw [hv, p1, n4, eqT_self]; rfl
  have s2 : sameT A (normT A) = true := by unfold sameT; rw [hv, n1, n3, eqT_self]; rfl
  simp only [go_sem, Nat.reduceGT, Nat.reducePow, Nat.reduceLT, ↓reduceIte, Nat.reduceAdd, Nat.reduceMul, Nat.reduceSub, Nat.reduceMod, Nat.reduceLeDiff, Nat.reduceEqDiff, Nat.reduceBEq, reduceCtorEq]
  refine ⟨_, cPack A hf, ?_⟩
  simp only [go_sem, Nat.reduceGT, Nat.reducePow, Nat.reduceLT, ↓reduceIte, Nat.reduceAdd, Nat.reduceMul, Nat.reduceSub, Nat.reduceMod, Nat.reduceLeDiff, Nat.reduceEqDiff, Nat.reduceBEq, reduceCtorEq]
  refine ⟨_, cNormal A hf, ?_⟩
  generalize packT A = P at *
  generalize normT A = N at *
  simp only [go_sem, Nat.reduceGT, Nat.reducePow, Nat.reduceLT, ↓reduceIte, Nat.reduceAdd, Nat.reduceMul, Nat.reduceSub, Nat.reduceMod, Nat.reduceLeDiff, Nat.reduceEqDiff, Nat.reduceBEq, reduceCtorEq]
  refine ⟨_, cPLength P p2, ?_⟩
  simp only [go_sem, Nat.reduceGT, Nat.reducePow, Nat.reduceLT, ↓reduceIte, Nat.reduceAdd, Nat.reduceMul, Nat.reduceSub, Nat.reduceMod, Nat.reduceLeDiff, Nat.reduceEqDiff, Nat.reduceBEq, reduceCtorEq]
  refine ⟨_, cPLength A hf, ?_⟩
  rw [p4]
  simp only [go_sem, Nat.reduceGT, Nat.reducePow, Nat.reduceLT, ↓reduceIte, Nat.reduceAdd, Nat.reduceMul, Nat.reduceSub, Nat.reduceMod, Nat.reduceLeDiff, Nat.reduceEqDiff, Nat.reduceBEq, reduceCtorEq, bne_self_eq_false]
  refine ⟨_, cPack P p2, ?_⟩
  rw [p3]
  simp only [go_sem, Nat.reduceGT, Nat.reducePow, Nat.reduceLT, ↓reduceIte, Nat.reduceAdd, Nat.reduceMul, Nat.reduceSub, Nat.reduceMod, Nat.reduceLeDiff, Nat.reduceEqDiff, Nat.reduceBEq, reduceCtorEq]
  refine ⟨_, cREqual _ _, ?_⟩
  simp only [go_sem, Nat.reduceGT, Nat.reducePow, Nat.reduceLT, ↓reduceIte, Nat.reduceAdd, Nat.reduceMul, Nat.reduceSub, Nat.reduceMod, Nat.reduceLeDiff, Nat.reduceEqDiff, Nat.reduceBEq, reduceCtorEq, eqT_self, Bool.not_true, Bool.or_false]
  refine ⟨_, cNormal N n2, ?_⟩
  rw [n3]
  simp only [go_sem, Nat.reduceGT, Nat.reducePow, Nat.reduceLT, ↓reduceIte, Nat.reduceAdd, Nat.reduceMul, Nat.reduceSub, Nat.reduceMod, Nat.reduceLeDiff, Nat.reduceEqDiff, Nat.reduceBEq, reduceCtorEq]
  refine ⟨_, cREqual _ _, ?_⟩
  simp only [go_sem, Nat.reduceGT, Nat.reducePow, Nat.reduceLT, ↓reduceIte, Nat.reduceAdd, Nat.reduceMul, Nat.reduceSub, Nat.reduceMod, Nat.reduceLeDiff, Nat.reduceEqDiff, Nat.reduceBEq, reduceCtorEq, eqT_self, Bool.not_true, Bool.or_false]
  refine ⟨_, cNormal P p2, ?_⟩
  rw [n4]
  simp only [go_sem, Nat.reduceGT, Nat.reducePow, Nat.reduceLT, ↓reduceIte, Nat.reduceAdd, Nat.reduceMul, Nat.reduceSub, Nat.reduceMod, Nat.reduceLeDiff, Nat.reduceEqDiff, Nat.reduceBEq, reduceCtorEq]
  refine ⟨_, cREqual _ _, ?_⟩
  simp only [go_sem, Nat.reduceGT, Nat.reducePow, Nat.reduceLT, ↓reduceIte, Nat.reduceAdd, Nat.reduceMul, Nat.reduceSub, Nat.reduceMod, Nat.reduceLeDiff, Nat.reduceEqDiff, Nat.reduceBEq, reduceCtorEq, eqT_self, Bool.not_true, Bool.or_false]
  have wN : 0 < N.length → IntKind.i64.wrap ((N.length : Int) - 1) = ((N.length - 1 : Nat) : Int) := fun h => by rw [wrap64 (by omega) (by omega)]; omega
  have hcond : (decide ((N.length : Int) > 0) && (N.getD (IntKind.i64.wrap ((N.length : Int) - 1)).toNat default).kind == 0 || decide ((N.length : Int) < IntKind.i64.wrap ((P.length : Int) - 1))) = false := by
    rw [Bool.or_eq_false_iff]
    refine ⟨?_, decide_eq_false ?_⟩
    · unfold gapLast at n5
      by_cases h : 0 < N.length
      · rw [wN h, Int.toNat_natCast]
        rw [decide_eq_true h] at n5
        rw [decide_eq_true (by omega : (N.length : Int) > 0)]
        exact n5
      · rw [decide_eq_false (by omega)]; rfl
    · rw [wrap64 (by omega) (by omega)]; omega
  rw [hcond]
  refine ⟨fun h => ?_, fun h => (by cases h), fun _ => ?_⟩
  · simp only [decide_eq_true_eq, decide_eq_false_iff_not, beq_iff_eq, bne_iff_ne, ne_eq, beq_eq_false_iff_ne, Bool.not_eq_true', Bool.not_eq_true, Bool.not_eq_false', Bool.or_eq_true, Bool.and_eq_true, Bool.or_eq_false_iff, Bool.and_eq_false_iff, Bool.false_eq_true, Bool.not_eq_eq_eq_not, Bool.not_true, Bool.not_false] at h
    rw [wN (by omega)]
    omega
  · have s3 : sameT N A = true := by rw [sameT_comm]; exact s2
    unfold awS
    simp only [go_sem, Nat.reduceGT, Nat.reducePow, Nat.reduceLT, ↓reduceIte, Nat.reduceAdd, Nat.reduceMul, Nat.reduceSub, Nat.reduceMod, Nat.reduceLeDiff, Nat.reduceEqDiff, Nat.reduceBEq, reduceCtorEq]
    refine ⟨_, cPSame A P hf p2, ?_⟩
    simp only [go_sem, Nat.reduceGT, Nat.reducePow, Nat.reduceLT, ↓reduceIte, Nat.reduceAdd, Nat.reduceMul, Nat.reduceSub, Nat.reduceMod, Nat.reduceLeDiff, Nat.reduceEqDiff, Nat.reduceBEq, reduceCtorEq, s1]
    refine ⟨_, cPSame A N hf n2, ?_⟩
    simp only [go_sem, Nat.reduceGT, Nat.reducePow, Nat.reduceLT, ↓reduceIte, Nat.reduceAdd, Nat.reduceMul, Nat.reduceSub, Nat.reduceMod, Nat.reduceLeDiff, Nat.reduceEqDiff, Nat.reduceBEq, reduceCtorEq, s2]
    refine ⟨_, cPSame N A n2 hf, ?_⟩
    simp only [go_sem, Nat.reduceGT, Nat.reducePow, Nat.reduceLT, ↓reduceIte, Nat.reduceAdd, Nat.reduceMul, Nat.reduceSub, Nat.reduceMod, Nat.reduceLeDiff, Nat.reduceEqDiff, Nat.reduceBEq, reduceCtorEq, s3]
    refine ⟨_, cAwake, ?_⟩
    simp only [go_sem, Nat.reduceGT, Nat.reducePow, Nat.reduceLT, ↓reduceIte, Nat.reduceAdd, Nat.reduceMul, Nat.reduceSub, Nat.reduceMod, Nat.reduceLeDiff, Nat.reduceEqDiff, Nat.reduceBEq, reduceCtorEq]
end Go.Proofs.YtihgmaamkgobkaaGreat
