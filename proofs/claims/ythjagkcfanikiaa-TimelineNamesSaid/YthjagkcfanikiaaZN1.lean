/- Proved here: 'TimelineNames' returns true, and how its arguments are read, for use in the proofs of the given statements; conditions stand in each theorem. -/
import Derived.Test.YthjagkcfanikiaaZP
import Derived.Test.YthjagkcfanikiaaZS
import Derived.Test.YthjagkcfanikiaaZN
set_option linter.unusedSimpArgs false
set_option linter.unusedVariables false
set_option linter.unusedSectionVars false
set_option linter.unusedSimpArgs false
set_option linter.unusedVariables false
set_option linter.unnecessarySimpa false
namespace Go.Proofs.Ythjagkcfanikiaa
open Go.RowKit
set_option maxRecDepth 4000
open Go.ChangeShapes Go.WideShapes
theorem names3 (s : ByteArray) (c : CueR) (h : c.fit) : CPure Try.prog 3 [vstr s, vcue c] (vbool true) := by
  refine cpure_of Try.xen3 Try.func3 rfl Try.ntmps3 (by rw [Try.results3]) (aw_ok _ ?_)
  simp only [go_sem, Nat.reduceGT, Nat.reducePow, Nat.reduceLT, ↓reduceIte, Nat.reduceAdd, Nat.reduceMul, Nat.reduceSub, Nat.reduceMod, Nat.reduceLeDiff, Nat.reduceEqDiff, Nat.reduceBEq, reduceCtorEq]
  refine drawR_of [0, 1, 2, 3, 4, 5, 6, 7, 8, 9, 10, 11, 12, 13, 14, 15] .done rfl (by kernel_rfl) (by kernel_rfl) (by decide) ?_
  simp only [go_sem, Nat.reduceGT, Nat.reducePow, Nat.reduceLT, ↓reduceIte, Nat.reduceAdd, Nat.reduceMul, Nat.reduceSub, Nat.reduceMod, Nat.reduceLeDiff, Nat.reduceEqDiff, Nat.reduceBEq, reduceCtorEq]
  refine ⟨_, cPName s, ?_⟩
  simp only [go_sem, Nat.reduceGT, Nat.reducePow, Nat.reduceLT, ↓reduceIte, Nat.reduceAdd, Nat.reduceMul, Nat.reduceSub, Nat.reduceMod, Nat.reduceLeDiff, Nat.reduceEqDiff, Nat.reduceBEq, reduceCtorEq]
  refine ⟨_, cRName s, ?_⟩
  simp only [go_sem, Nat.reduceGT, Nat.reducePow, Nat.reduceLT, ↓reduceIte, Nat.reduceAdd, Nat.reduceMul, Nat.reduceSub, Nat.reduceMod, Nat.reduceLeDiff, Nat.reduceEqDiff, Nat.reduceBEq, reduceCtorEq, beq_self_eq_true]
  refine ⟨_, cPCue c h, ?_⟩
  simp only [go_sem, Nat.reduceGT, Nat.reducePow, Nat.reduceLT, ↓reduceIte, Nat.reduceAdd, Nat.reduceMul, Nat.reduceSub, Nat.reduceMod, Nat.reduceLeDiff, Nat.reduceEqDiff, Nat.reduceBEq, reduceCtorEq]
  refine ⟨_, cRCue c h, ?_⟩
  simp only [go_sem, Nat.reduceGT, Nat.reducePow, Nat.reduceLT, ↓reduceIte, Nat.reduceAdd, Nat.reduceMul, Nat.reduceSub, Nat.reduceMod, Nat.reduceLeDiff, Nat.reduceEqDiff, Nat.reduceBEq, reduceCtorEq, beq_self_eq_true]
  refine ⟨_, cAwake, ?_⟩
  simp only [go_sem, Nat.reduceGT, Nat.reducePow, Nat.reduceLT, ↓reduceIte, Nat.reduceAdd, Nat.reduceMul, Nat.reduceSub, Nat.reduceMod, Nat.reduceLeDiff, Nat.reduceEqDiff, Nat.reduceBEq, reduceCtorEq]
abbrev CueF := { c : CueR // c.fit }
theorem oStrs : Opens Try.prog 22 fun l : List ByteArray => [tstrs l] := opens_slice (strC ⟨#[]⟩) Try.underlying22 oStr (by kernel_rfl) (fun _ => rfl) (by decide)
theorem oCue : Opens Try.prog 24 fun c : CueF => c.1.c :=
  Opens.map (fun x : I64s × I64s × List ByteArray × Unit => (⟨⟨x.1.1, x.2.1.1, x.2.2.1⟩, x.1.2, x.2.1.2⟩ : CueF)) (fun _ => rfl) (opens_struct Try.underlying24 (by kernel_rfl) (opensF_cons oI64 (opensF_cons oI64 (opensF_cons oStrs opensF_nil))))
theorem aCue : OpensV Try.prog 24 fun c : CueF => vcue c.1 := opensV_struct Try.underlying24 oCue
end Go.Proofs.Ythjagkcfanikiaa
