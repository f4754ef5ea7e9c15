/- Proved here: The expressions that a tape gives, as functions, for use in the proofs of the given statements; conditions stand in each theorem. -/
import Derived.Test.YtkppmlignfhdeaaZO
import Derived.Test.YtkppmlignfhdeaaZS
import Derived.Test.YtkppmlignfhdeaaY4
set_option linter.unusedSimpArgs false
set_option linter.unusedVariables false
set_option linter.unusedSectionVars false
set_option linter.unusedSimpArgs false
set_option linter.unusedVariables false
set_option linter.unnecessarySimpa false
namespace Go.Proofs.Ytkppmlignfhdeaa
open Go.RowKit
set_option maxRecDepth 4000
def dens3 : List Int := [4, 5, 7]
def texts2 : List ByteArray := [⟨#[65]⟩, ⟨#[69, 78, 68, 32, 50]⟩]
def kindE (L : List Int) (k d : Nat) : Int × Nat :=
  if (decide ((d : Int) < 1) && decide (tapeN L k 8 > 3)) = true then (1 + tapeN L (k + 1) 3, k + 2) else (tapeN L k 8, k + 1)
def srcE (L : List Int) (k : Nat) : ExprR × Nat := (.mk 1 (nameB ⟨#[109]⟩ (tapeN L k 3)) (tapeN L (k + 1) 8) 0 0 0 ⟨#[]⟩ [], k + 2)
def num3 (n : Int) : Int := if (n == 2) = true then 3 else n
def mixE (rec : Nat → ExprR × Nat) (L : List Int) (op num den param : Int) (k : Nat) : ExprR × Nat :=
  if 0 < tapeN L (rec k).2 4 then (.mk op ⟨#[]⟩ 0 num den param ⟨#[]⟩ [(rec k).1, (rec ((rec k).2 + 1)).1], (rec ((rec k).2 + 1)).2)
  else (.mk op ⟨#[]⟩ 0 num den param ⟨#[]⟩ [(rec k).1, (rec k).1], (rec k).2 + 1)
def exprStep (rec : Nat → ExprR × Nat) (L : List Int) (q : Int) (k : Nat) : ExprR × Nat :=
  if q = 0 then (zeroE, k)
  else if q = 4 then mixE rec L 2 (num3 (1 + tapeN L k 3)) (dens3.getD (tapeN L (k + 1) 3).toNat 0) 0 (k + 2)
  else if q = 5 then mixE rec L 3 (num3 (1 + tapeN L k 3)) (dens3.getD (tapeN L (k + 1) 3).toNat 0) (tapeN L (k + 2) 4) (k + 3)
  else if q = 6 then (.mk 4 ⟨#[]⟩ 0 0 0 (tapeN L k 256) ⟨#[]⟩ [(rec (k + 1)).1, (rec (rec (k + 1)).2).1], (rec (rec (k + 1)).2).2)
  else if q = 7 then (.mk 5 ⟨#[]⟩ 0 0 0 0 (texts2.getD (tapeN L k 2).toNat ⟨#[]⟩) [(rec (k + 1)).1], (rec (k + 1)).2)
  else srcE L k
def exprAt (L : List Int) : Nat → Nat → ExprR × Nat
  | 0, k => exprStep (fun k => (zeroE, k)) L (kindE L k 0).1 (kindE L k 0).2
  | d + 1, k => exprStep (exprAt L d) L (kindE L k (d + 1)).1 (kindE L k (d + 1)).2
def vexZ (op : Int) (media : ByteArray) (frame num den param : Int) (text : ByteArray) (args : List ExprR) : V :=
  match args with
  | [] => .agg [vint op, vstr media, vint frame, vint num, vint den, vint param, vstr text, .t (.lit (.slice none 0 0))]
  | a :: l => vex op media frame num den param text (a :: l)
def vexprZ : ExprR → V
  | .mk op media frame num den param text args => vexZ op media frame num den param text args
theorem as_Z : ∀ (e : ExprR) (w : World) (E : Env) v, RdV w E (vexprZ e) v → RdV w E (vexpr e) v
  | .mk op media frame num den param text [] => as_agg (by exact ⟨.inl rfl, .inl rfl, .inl rfl, .inl rfl, .inl rfl, .inl rfl, .inl rfl, .inr ⟨rfl, _, _, rfl⟩, trivial⟩)
  | .mk op media frame num den param text (a :: l) => fun _ _ _ h => h
theorem cExprStep (L : List Int) (d k B : Nat) (rec : Nat → ExprR × Nat) (hk : k + 10 + 2 * B ≤ 900000) (hd : d ≤ 10)
    (hrec : 4 ≤ (kindE L k d).1 → ∀ k', k' + B ≤ 900000 → (rec k').2 ≤ k' + B ∧ CBox Try.prog 7 [.t (tints L), vint k'] [vint ((d : Int) - 1)] (vexpr (rec k').1) [.t (tints L), vint ((rec k').2 : Int)]) :
    CBox Try.prog 7 [.t (tints L), vint k] [vint d] (vexprZ (exprStep rec L (kindE L k d).1 (kindE L k d).2).1) [.t (tints L), vint ((exprStep rec L (kindE L k d).1 (kindE L k d).2).2 : Int)] := by
  have wd : IntKind.i64.wrap ((d : Int) - 1) = (d : Int) - 1 := wrap64 (by omega) (by omega)
  refine cbox_of Try.xen7 Try.func7 rfl Try.ntmps7 (by rw [Try.results7]) (aw_ok _ ?_)
  simp only [go_sem, ↓reduceIte, Nat.reduceAdd, Nat.reduceSub]
  refine icall_box (cNext L k 8 (by omega) (by omega) (by omega)) rfl rfl rfl ?_
  have n8 := tapeN_lt (L := L) (k := k) (n := 8) (by omega)
  simp only [go_sem, ↓reduceIte, reduceCtorEq]
  refine brW (b := decide ((d : Int) < 1) && decide (tapeN L k 8 > 3)) ?_ ⟨fun hr => ?_, fun hr => ?_⟩
  · rfl
  · have e : kindE L k d = (1 + tapeN L (k + 1) 3, k + 2) := by unfold kindE; rw [if_pos hr]
    rw [e]
    unfold awS
    simp only [go_sem, ↓reduceIte]
    refine icall_box (cNext L (k + 1) 3 (by omega) (by omega) (by omega)) rfl rfl rfl ?_
    have n3 := tapeN_lt (L := L) (k := k + 1) (n := 3) (by omega)
    have e2 : exprStep rec L (1 + tapeN L (k + 1) 3) (k + 2) = srcE L (k + 2) := by unfold exprStep; rw [if_neg (by omega), if_neg (by omega), if_neg (by omega), if_neg (by omega), if_neg (by omega)]
    rw [e2]
    simp only [go_sem, ↓reduceIte, reduceCtorEq, wrap64 (x := 1 + tapeN L (k + 1) 3) (by omega) (by omega)]
    refine ⟨fun h => absurd h (by simp; omega), fun _ => ?_⟩
    unfold awS
    simp only [go_sem, ↓reduceIte]
    refine ⟨fun h => absurd h (by simp; omega), fun _ => ?_⟩
    unfold awS
    simp only [go_sem, ↓reduceIte]
    refine ⟨fun h => absurd h (by simp; omega), fun _ => ?_⟩
    unfold awS
    simp only [go_sem, ↓reduceIte]
    refine ⟨fun h => absurd h (by simp; omega), fun _ => ?_⟩
    unfold awS
    simp only [go_sem, ↓reduceIte]
    refine ⟨fun h => absurd h (by simp; omega), fun _ => ?_⟩
    unfold awS
    simp only [go_sem, ↓reduceIte]
    refine icall_box (cNext L (k + 2) 3 (by omega) (by omega) (by omega)) rfl rfl rfl ?_
    have m3 := tapeN_lt (L := L) (k := k + 2) (n := 3) (by omega)
    simp only [go_sem, ↓reduceIte, reduceCtorEq]
    refine ⟨_, cName ⟨#[109]⟩ (tapeN L (k + 2) 3) m3.1 (by omega) (by decide), ?_⟩
    simp only [go_sem, ↓reduceIte]
    refine icall_box (cNext L (k + 2 + 1) 8 (by omega) (by omega) (by omega)) rfl rfl rfl ?_
    simp only [go_sem, Nat.reduceGT, ↓reduceIte, Nat.reduceAdd, Nat.reduceLeDiff, reduceCtorEq]
    exact ⟨rfl, rfl, rfl⟩
  · have e : kindE L k d = (tapeN L k 8, k + 1) := by unfold kindE; rw [if_neg (by rw [hr]; exact Bool.false_ne_true)]
    rw [e] at hrec ⊢
    unfold awS
    simp only [go_sem, ↓reduceIte]
    refine ⟨fun h0 => ?_, fun h0 => ?_⟩
    · have hq : tapeN L k 8 = 0 := by simpa using h0
      rw [hq]
      unfold awS
      simp only [go_sem, ↓reduceIte, Nat.reduceAdd, Nat.reduceLeDiff, reduceCtorEq]
      exact ⟨rfl, rfl, rfl⟩
    · unfold awS
      simp only [go_sem, ↓reduceIte]
      refine ⟨fun h4 => ?_, fun h4 => ?_⟩
      · unfold awS
        simp only [go_sem]
        refine ⟨fun _ => ?_, fun hx => absurd (h4.symm.trans hx) (by decide)⟩
        unfold awS
        simp only [go_sem, ↓reduceIte]
        have hq : tapeN L k 8 = 4 := by simpa using h4
        have n3 := tapeN_lt (L := L) (k := k + 1) (n := 3) (by omega)
        have w3 : IntKind.i64.wrap (1 + tapeN L (k + 1) 3) = 1 + tapeN L (k + 1) 3 := wrap64 (by omega) (by omega)
        have d3 := tapeN_lt (L := L) (k := k + 1 + 1) (n := 3) (by omega)
        rw [hq] at hrec ⊢
        have e2 : exprStep rec L 4 (k + 1) = mixE rec L 2 (num3 (1 + tapeN L (k + 1) 3)) (dens3.getD (tapeN L (k + 1 + 1) 3).toNat 0) 0 (k + 1 + 2) := rfl
        rw [e2]
        refine icall_box (cNext L (k + 1) 3 (by omega) (by omega) (by omega)) rfl rfl rfl ?_
        simp only [go_sem, Nat.reducePow, Nat.reduceLT, ↓reduceIte, Nat.reduceAdd, Nat.reduceMul, Nat.reduceLeDiff, reduceCtorEq, Int.reduceGT, Int.reduceBEq, decide_true, Bool.and_true, w3]
        refine icall_box (cNext L (k + 1 + 1) 3 (by omega) (by omega) (by omega)) rfl rfl rfl ?_
        simp only [go_sem, Nat.reduceGT, ↓reduceIte, Nat.reduceAdd, Nat.reduceLeDiff, reduceCtorEq, Int.reduceBEq, Bool.and_true]
        refine ⟨⟨by omega, by omega⟩, by omega, ?_⟩
        refine ⟨fun h2 => ?_, fun h2 => ?_⟩
        · have hn : num3 (1 + tapeN L (k + 1) 3) = 3 := by unfold num3; rw [if_pos h2]
          rw [hn]
          unfold awS
          simp only [go_sem, ↓reduceIte, Nat.reduceAdd, Nat.reduceLeDiff, Bool.and_true, wd]
          obtain ⟨hle, hc⟩ := hrec (by simp) (k + 1 + 2) (by omega)
          have hM : ∀ num den : Int, mixE rec L 2 num den 0 (k + 1 + 2) = (if 0 < tapeN L (rec (k + 1 + 2)).2 4 then (.mk 2 ⟨#[]⟩ 0 num den 0 ⟨#[]⟩ [(rec (k + 1 + 2)).1, (rec ((rec (k + 1 + 2)).2 + 1)).1], (rec ((rec (k + 1 + 2)).2 + 1)).2)
            else (.mk 2 ⟨#[]⟩ 0 num den 0 ⟨#[]⟩ [(rec (k + 1 + 2)).1, (rec (k + 1 + 2)).1], (rec (k + 1 + 2)).2 + 1)) := fun num den => rfl
          rw [hM]
          obtain ⟨⟨a, ka⟩, ha⟩ : ∃ p, rec (k + 1 + 2) = p := ⟨_, rfl⟩
          rw [ha] at hle hc ⊢
          simp only at hle hc
          obtain ⟨o1, m1, fr1, nu1, de1, pa1, te1, ar1⟩ := a
          refine icall_box hc rfl rfl rfl ?_
          simp only [go_sem, Nat.reducePow, Nat.reduceLT, ↓reduceIte, Nat.reduceAdd, Nat.reduceMul, Nat.reduceLeDiff, Nat.reduceEqDiff, reduceCtorEq, Bool.and_true]
          refine icall_box (cNext L ka 4 (by omega) (by omega) (by omega)) rfl rfl rfl ?_
          simp only [go_sem, ↓reduceIte, reduceCtorEq]
          refine ⟨fun h3 => ?_, fun h3 => ?_⟩
          · have h3' : 0 < tapeN L ka 4 := by simpa using h3
            rw [if_pos h3']
            obtain ⟨hle2, hc2⟩ := hrec (by simp) (ka + 1) (by omega)
            obtain ⟨⟨b, kb⟩, hb⟩ : ∃ p, rec (ka + 1) = p := ⟨_, rfl⟩
            rw [hb] at hle2 hc2 ⊢
            simp only at hle2 hc2
            obtain ⟨o2, m2, fr2, nu2, de2, pa2, te2, ar2⟩ := b
            unfold awS
            simp only [go_sem]
            refine drawC_of 8 .done rfl (by kernel_rfl) (by kernel_rfl) (by decide) ?_
            simp only [go_sem, ↓reduceIte, Nat.reduceAdd, Nat.reduceEqDiff, wd]
            refine bcall hc2 rfl rfl rfl ?_
            simp only [go_sem, Nat.reduceLT, ↓reduceIte, Nat.reduceAdd, Nat.reduceLeDiff, Nat.reduceEqDiff, reduceCtorEq, Int.reduceLE, Int.reduceToNat, Bool.and_true, tRows, nthV, Option.getD_some, List.getElem?_cons_zero, List.getElem?_cons_succ, List.map_cons, List.map_nil, List.set_cons_zero, List.set_cons_succ, List.drop_succ_cons, List.drop_zero, List.drop_nil]
            refine ⟨by decide, by kernel_rfl, ?_⟩
            ((repeat' apply And.intro) <;> first | rfl | (simp only [vexprZ, vexZ, vex, texprs, List.map_cons, List.map_nil, ExprR.c, cs_eq]; rfl))
          · have h3' : ¬ 0 < tapeN L ka 4 := by simpa using h3
            rw [if_neg h3']
            unfold awS
            simp only [go_sem, ↓reduceIte, Nat.reduceAdd, Nat.reduceLeDiff, Nat.reduceEqDiff, reduceCtorEq, Bool.and_true]
            ((repeat' apply And.intro) <;> first | rfl | (simp only [vexprZ, vexZ, vex, texprs, List.map_cons, List.map_nil, ExprR.c, cs_eq]; rfl))
        · have hn : num3 (1 + tapeN L (k + 1) 3) = 1 + tapeN L (k + 1) 3 := by unfold num3; rw [if_neg (by rw [h2]; exact Bool.false_ne_true)]
          rw [hn]
          unfold awS
          simp only [go_sem, ↓reduceIte, wd]
          obtain ⟨hle, hc⟩ := hrec (by simp) (k + 1 + 2) (by omega)
          have hM : ∀ num den : Int, mixE rec L 2 num den 0 (k + 1 + 2) = (if 0 < tapeN L (rec (k + 1 + 2)).2 4 then (.mk 2 ⟨#[]⟩ 0 num den 0 ⟨#[]⟩ [(rec (k + 1 + 2)).1, (rec ((rec (k + 1 + 2)).2 + 1)).1], (rec ((rec (k + 1 + 2)).2 + 1)).2)
            else (.mk 2 ⟨#[]⟩ 0 num den 0 ⟨#[]⟩ [(rec (k + 1 + 2)).1, (rec (k + 1 + 2)).1], (rec (k + 1 + 2)).2 + 1)) := fun num den => rfl
          rw [hM]
          obtain ⟨⟨a, ka⟩, ha⟩ : ∃ p, rec (k + 1 + 2) = p := ⟨_, rfl⟩
          rw [ha] at hle hc ⊢
          simp only at hle hc
          obtain ⟨o1, m1, fr1, nu1, de1, pa1, te1, ar1⟩ := a
          refine icall_box hc rfl rfl rfl ?_
          simp only [go_sem, Nat.reducePow, Nat.reduceLT, ↓reduceIte, Nat.reduceAdd, Nat.reduceMul, Nat.reduceLeDiff, Nat.reduceEqDiff, reduceCtorEq, Bool.and_true]
          refine icall_box (cNext L ka 4 (by omega) (by omega) (by omega)) rfl rfl rfl ?_
          simp only [go_sem, ↓reduceIte, reduceCtorEq]
          refine ⟨fun h3 => ?_, fun h3 => ?_⟩
          · have h3' : 0 < tapeN L ka 4 := by simpa using h3
            rw [if_pos h3']
            obtain ⟨hle2, hc2⟩ := hrec (by simp) (ka + 1) (by omega)
            obtain ⟨⟨b, kb⟩, hb⟩ : ∃ p, rec (ka + 1) = p := ⟨_, rfl⟩
            rw [hb] at hle2 hc2 ⊢
            simp only at hle2 hc2
            obtain ⟨o2, m2, fr2, nu2, de2, pa2, te2, ar2⟩ := b
            unfold awS
            simp only [go_sem]
            refine drawC_of 8 .done rfl (by kernel_rfl) (by kernel_rfl) (by decide) ?_
            simp only [go_sem, ↓reduceIte, Nat.reduceAdd, Nat.reduceEqDiff, wd]
            refine bcall hc2 rfl rfl rfl ?_
            simp only [go_sem, Nat.reduceLT, ↓reduceIte, Nat.reduceAdd, Nat.reduceLeDiff, Nat.reduceEqDiff, reduceCtorEq, Int.reduceLE, Int.reduceToNat, Bool.and_true, tRows, nthV, Option.getD_some, List.getElem?_cons_zero, List.getElem?_cons_succ, List.map_cons, List.map_nil, List.set_cons_zero, List.set_cons_succ, List.drop_succ_cons, List.drop_zero, List.drop_nil]
            refine ⟨by decide, by kernel_rfl, ?_⟩
            ((repeat' apply And.intro) <;> first | rfl | (simp only [vexprZ, vexZ, vex, texprs, List.map_cons, List.map_nil, ExprR.c, cs_eq]; rfl))
          · have h3' : ¬ 0 < tapeN L ka 4 := by simpa using h3
            rw [if_neg h3']
            unfold awS
            simp only [go_sem, ↓reduceIte, Nat.reduceAdd, Nat.reduceLeDiff, Nat.reduceEqDiff, reduceCtorEq, Bool.and_true]
            ((repeat' apply And.intro) <;> first | rfl | (simp only [vexprZ, vexZ, vex, texprs, List.map_cons, List.map_nil, ExprR.c, cs_eq]; rfl))
      · unfold awS
        simp only [go_sem, ↓reduceIte]
        refine ⟨fun h5 => ?_, fun h5 => ?_⟩
        · unfold awS
          simp only [go_sem, ↓reduceIte]
          have hq : tapeN L k 8 = 5 := by simpa using h5
          have n3 := tapeN_lt (L := L) (k := k + 1) (n := 3) (by omega)
          have w3 : IntKind.i64.wrap (1 + tapeN L (k + 1) 3) = 1 + tapeN L (k + 1) 3 := wrap64 (by omega) (by omega)
          have d3 := tapeN_lt (L := L) (k := k + 1 + 1) (n := 3) (by omega)
          rw [hq] at hrec ⊢
          have e2 : exprStep rec L 5 (k + 1) = mixE rec L 3 (num3 (1 + tapeN L (k + 1) 3)) (dens3.getD (tapeN L (k + 1 + 1) 3).toNat 0) (tapeN L (k + 1 + 2) 4) (k + 1 + 3) := rfl
          rw [e2]
          refine icall_box (cNext L (k + 1) 3 (by omega) (by omega) (by omega)) rfl rfl rfl ?_
          simp only [go_sem, Nat.reducePow, Nat.reduceLT, ↓reduceIte, Nat.reduceAdd, Nat.reduceMul, Nat.reduceLeDiff, reduceCtorEq, Int.reduceGT, Int.reduceBEq, decide_true, Bool.and_true, w3]
          refine icall_box (cNext L (k + 1 + 1) 3 (by omega) (by omega) (by omega)) rfl rfl rfl ?_
          simp only [go_sem, Nat.reduceGT, ↓reduceIte, Nat.reduceAdd, Nat.reduceLeDiff, reduceCtorEq, Bool.and_true]
          refine ⟨⟨by omega, by omega⟩, by omega, ?_⟩
          refine icall_box (cNext L (k + 1 + 2) 4 (by omega) (by omega) (by omega)) rfl rfl rfl ?_
          simp only [go_sem, ↓reduceIte, Nat.reduceAdd, Nat.reduceLeDiff, reduceCtorEq, Bool.and_true]
          refine ⟨fun h2 => ?_, fun h2 => ?_⟩
          · have hn : num3 (1 + tapeN L (k + 1) 3) = 3 := by unfold num3; rw [if_pos h2]
            rw [hn]
            unfold awS
            simp only [go_sem, ↓reduceIte, Nat.reduceAdd, Nat.reduceLeDiff, Bool.and_true, wd]
            obtain ⟨hle, hc⟩ := hrec (by simp) (k + 1 + 3) (by omega)
            have hM : ∀ num den : Int, mixE rec L 3 num den (tapeN L (k + 1 + 2) 4) (k + 1 + 3) = (if 0 < tapeN L (rec (k + 1 + 3)).2 4 then (.mk 3 ⟨#[]⟩ 0 num den (tapeN L (k + 1 + 2) 4) ⟨#[]⟩ [(rec (k + 1 + 3)).1, (rec ((rec (k + 1 + 3)).2 + 1)).1], (rec ((rec (k + 1 + 3)).2 + 1)).2)
              else (.mk 3 ⟨#[]⟩ 0 num den (tapeN L (k + 1 + 2) 4) ⟨#[]⟩ [(rec (k + 1 + 3)).1, (rec (k + 1 + 3)).1], (rec (k + 1 + 3)).2 + 1)) := fun num den => rfl
            rw [hM]
            obtain ⟨⟨a, ka⟩, ha⟩ : ∃ p, rec (k + 1 + 3) = p := ⟨_, rfl⟩
            rw [ha] at hle hc ⊢
            simp only at hle hc
            obtain ⟨o1, m1, fr1, nu1, de1, pa1, te1, ar1⟩ := a
            refine icall_box hc rfl rfl rfl ?_
            simp only [go_sem, Nat.reducePow, Nat.reduceLT, ↓reduceIte, Nat.reduceAdd, Nat.reduceMul, Nat.reduceLeDiff, Nat.reduceEqDiff, reduceCtorEq, Bool.and_true]
            refine icall_box (cNext L ka 4 (by omega) (by omega) (by omega)) rfl rfl rfl ?_
            simp only [go_sem, ↓reduceIte, reduceCtorEq]
            refine ⟨fun h3 => ?_, fun h3 => ?_⟩
            · have h3' : 0 < tapeN L ka 4 := by simpa using h3
              rw [if_pos h3']
              obtain ⟨hle2, hc2⟩ := hrec (by simp) (ka + 1) (by omega)
              obtain ⟨⟨b, kb⟩, hb⟩ : ∃ p, rec (ka + 1) = p := ⟨_, rfl⟩
              rw [hb] at hle2 hc2 ⊢
              simp only at hle2 hc2
              obtain ⟨o2, m2, fr2, nu2, de2, pa2, te2, ar2⟩ := b
              unfold awS
              simp only [go_sem]
              refine drawC_of 8 .done rfl (by kernel_rfl) (by kernel_rfl) (by decide) ?_
              simp only [go_sem, ↓reduceIte, Nat.reduceAdd, Nat.reduceEqDiff, wd]
              refine bcall hc2 rfl rfl rfl ?_
              simp only [go_sem, Nat.reduceLT, ↓reduceIte, Nat.reduceAdd, Nat.reduceLeDiff, Nat.reduceEqDiff, reduceCtorEq, Int.reduceLE, Int.reduceToNat, Bool.and_true, tRows, nthV, Option.getD_some, List.getElem?_cons_zero, List.getElem?_cons_succ, List.map_cons, List.map_nil, List.set_cons_zero, List.set_cons_succ, List.drop_succ_cons, List.drop_zero, List.drop_nil]
              refine ⟨by decide, by kernel_rfl, ?_⟩
              ((repeat' apply And.intro) <;> first | rfl | (simp only [vexprZ, vexZ, vex, texprs, List.map_cons, List.map_nil, ExprR.c, cs_eq]; rfl))
            · have h3' : ¬ 0 < tapeN L ka 4 := by simpa using h3
              rw [if_neg h3']
              unfold awS
              simp only [go_sem, ↓reduceIte, Nat.reduceAdd, Nat.reduceLeDiff, Nat.reduceEqDiff, reduceCtorEq, Bool.and_true]
              ((repeat' apply And.intro) <;> first | rfl | (simp only [vexprZ, vexZ, vex, texprs, List.map_cons, List.map_nil, ExprR.c, cs_eq]; rfl))
          · have hn : num3 (1 + tapeN L (k + 1) 3) = 1 + tapeN L (k + 1) 3 := by unfold num3; rw [if_neg (by rw [h2]; exact Bool.false_ne_true)]
            rw [hn]
            unfold awS
            simp only [go_sem, ↓reduceIte, wd]
            obtain ⟨hle, hc⟩ := hrec (by simp) (k + 1 + 3) (by omega)
            have hM : ∀ num den : Int, mixE rec L 3 num den (tapeN L (k + 1 + 2) 4) (k + 1 + 3) = (if 0 < tapeN L (rec (k + 1 + 3)).2 4 then (.mk 3 ⟨#[]⟩ 0 num den (tapeN L (k + 1 + 2) 4) ⟨#[]⟩ [(rec (k + 1 + 3)).1, (rec ((rec (k + 1 + 3)).2 + 1)).1], (rec ((rec (k + 1 + 3)).2 + 1)).2)
              else (.mk 3 ⟨#[]⟩ 0 num den (tapeN L (k + 1 + 2) 4) ⟨#[]⟩ [(rec (k + 1 + 3)).1, (rec (k + 1 + 3)).1], (rec (k + 1 + 3)).2 + 1)) := fun num den => rfl
            rw [hM]
            obtain ⟨⟨a, ka⟩, ha⟩ : ∃ p, rec (k + 1 + 3) = p := ⟨_, rfl⟩
            rw [ha] at hle hc ⊢
            simp only at hle hc
            obtain ⟨o1, m1, fr1, nu1, de1, pa1, te1, ar1⟩ := a
            refine icall_box hc rfl rfl rfl ?_
            simp only [go_sem, Nat.reducePow, Nat.reduceLT, ↓reduceIte, Nat.reduceAdd, Nat.reduceMul, Nat.reduceLeDiff, Nat.reduceEqDiff, reduceCtorEq, Bool.and_true]
            refine icall_box (cNext L ka 4 (by omega) (by omega) (by omega)) rfl rfl rfl ?_
            simp only [go_sem, ↓reduceIte, reduceCtorEq]
            refine ⟨fun h3 => ?_, fun h3 => ?_⟩
            · have h3' : 0 < tapeN L ka 4 := by simpa using h3
              rw [if_pos h3']
              obtain ⟨hle2, hc2⟩ := hrec (by simp) (ka + 1) (by omega)
              obtain ⟨⟨b, kb⟩, hb⟩ : ∃ p, rec (ka + 1) = p := ⟨_, rfl⟩
              rw [hb] at hle2 hc2 ⊢
              simp only at hle2 hc2
              obtain ⟨o2, m2, fr2, nu2, de2, pa2, te2, ar2⟩ := b
              unfold awS
              simp only [go_sem]
              refine drawC_of 8 .done rfl (by kernel_rfl) (by kernel_rfl) (by decide) ?_
              simp only [go_sem, ↓reduceIte, Nat.reduceAdd, Nat.reduceEqDiff, wd]
              refine bcall hc2 rfl rfl rfl ?_
              simp only [go_sem, Nat.reduceLT, ↓reduceIte, Nat.reduceAdd, Nat.reduceLeDiff, Nat.reduceEqDiff, reduceCtorEq, Int.reduceLE, Int.reduceToNat, Bool.and_true, tRows, nthV, Option.getD_some, List.getElem?_cons_zero, List.getElem?_cons_succ, List.map_cons, List.map_nil, List.set_cons_zero, List.set_cons_succ, List.drop_succ_cons, List.drop_zero, List.drop_nil]
              refine ⟨by decide, by kernel_rfl, ?_⟩
              ((repeat' apply And.intro) <;> first | rfl | (simp only [vexprZ, vexZ, vex, texprs, List.map_cons, List.map_nil, ExprR.c, cs_eq]; rfl))
            · have h3' : ¬ 0 < tapeN L ka 4 := by simpa using h3
              rw [if_neg h3']
              unfold awS
              simp only [go_sem, ↓reduceIte, Nat.reduceAdd, Nat.reduceLeDiff, Nat.reduceEqDiff, reduceCtorEq, Bool.and_true]
              ((repeat' apply And.intro) <;> first | rfl | (simp only [vexprZ, vexZ, vex, texprs, List.map_cons, List.map_nil, ExprR.c, cs_eq]; rfl))
        · unfold awS
          simp only [go_sem, ↓reduceIte]
          refine ⟨fun h6 => ?_, fun h6 => ?_⟩
          · unfold awS
            simp only [go_sem, ↓reduceIte]
            have hq : tapeN L k 8 = 6 := by simpa using h6
            rw [hq] at hrec ⊢
            have e2 : exprStep rec L 6 (k + 1) = (.mk 4 ⟨#[]⟩ 0 0 0 (tapeN L (k + 1) 256) ⟨#[]⟩ [(rec (k + 1 + 1)).1, (rec (rec (k + 1 + 1)).2).1], (rec (rec (k + 1 + 1)).2).2) := rfl
            rw [e2]
            refine icall_box (cNext L (k + 1) 256 (by omega) (by omega) (by omega)) rfl rfl rfl ?_
            simp only [go_sem, ↓reduceIte, reduceCtorEq, Int.reduceGT, Int.reduceBEq, decide_true, Bool.and_true, wd]
            obtain ⟨hle, hc⟩ := hrec (by simp) (k + 1 + 1) (by omega)
            obtain ⟨⟨a, ka⟩, ha⟩ : ∃ p, rec (k + 1 + 1) = p := ⟨_, rfl⟩
            rw [ha] at hle hc ⊢
            simp only at hle hc
            obtain ⟨o1, m1, fr1, nu1, de1, pa1, te1, ar1⟩ := a
            refine icall_box hc rfl rfl rfl ?_
            simp only [go_sem, ↓reduceIte, reduceCtorEq, wd]
            obtain ⟨hle2, hc2⟩ := hrec (by simp) ka (by omega)
            obtain ⟨⟨b, kb⟩, hb⟩ : ∃ p, rec ka = p := ⟨_, rfl⟩
            rw [hb] at hle2 hc2 ⊢
            simp only at hle2 hc2
            obtain ⟨o2, m2, fr2, nu2, de2, pa2, te2, ar2⟩ := b
            refine icall_box hc2 rfl rfl rfl ?_
            simp only [go_sem, Nat.reduceGT, Nat.reducePow, Nat.reduceLT, ↓reduceIte, Nat.reduceAdd, Nat.reduceMul, Nat.reduceLeDiff, Nat.reduceEqDiff, reduceCtorEq, Bool.and_true]
            ((repeat' apply And.intro) <;> first | rfl | (simp only [vexprZ, vexZ, vex, texprs, List.map_cons, List.map_nil, ExprR.c, cs_eq]; rfl))
          · unfold awS
            simp only [go_sem, ↓reduceIte]
            refine ⟨fun h7 => ?_, fun h7 => ?_⟩
            · unfold awS
              simp only [go_sem]
              have hq : tapeN L k 8 = 7 := by simpa using h7
              rw [hq] at hrec ⊢
              have e2 : exprStep rec L 7 (k + 1) = (.mk 5 ⟨#[]⟩ 0 0 0 0 (texts2.getD (tapeN L (k + 1) 2).toNat ⟨#[]⟩) [(rec (k + 1 + 1)).1], (rec (k + 1 + 1)).2) := rfl
              rw [e2]
              have n2 := tapeN_lt (L := L) (k := k + 1) (n := 2) (by omega)
              refine drawC_of 12 .done rfl (by kernel_rfl) (by kernel_rfl) (by decide) ?_
              simp only [go_sem, Nat.reducePow, Nat.reduceLT, ↓reduceIte, Nat.reduceAdd, Nat.reduceMul, Nat.reduceLeDiff, Int.reduceGT, Int.reduceBEq, decide_true, Bool.and_true]
              refine bcall (cNext L (k + 1) 2 (by omega) (by omega) (by omega)) rfl rfl rfl ?_
              simp only [go_sem, ↓reduceIte, Nat.reduceAdd, reduceCtorEq, wd]
              obtain ⟨hle, hc⟩ := hrec (by simp) (k + 1 + 1) (by omega)
              obtain ⟨⟨a, ka⟩, ha⟩ : ∃ p, rec (k + 1 + 1) = p := ⟨_, rfl⟩
              rw [ha] at hle hc ⊢
              simp only at hle hc
              obtain ⟨o1, m1, fr1, nu1, de1, pa1, te1, ar1⟩ := a
              refine ⟨⟨by omega, by omega⟩, by omega, ?_⟩
              refine bcall hc rfl rfl rfl ?_
              simp only [go_sem, Nat.reduceGT, Nat.reducePow, Nat.reduceLT, ↓reduceIte, Nat.reduceAdd, Nat.reduceMul, Nat.reduceLeDiff, Nat.reduceEqDiff, reduceCtorEq, Bool.and_true]
              refine ⟨by kernel_rfl, ?_⟩
              ((repeat' apply And.intro) <;> first | rfl | (simp only [vexprZ, vexZ, vex, texprs, List.map_cons, List.map_nil, ExprR.c, cs_eq]; rfl))
            · unfold awS
              simp only [go_sem, ↓reduceIte]
              have e2 : exprStep rec L (tapeN L k 8) (k + 1) = srcE L (k + 1) := by
                simp only [beq_eq_false_iff_ne, ne_eq] at h0 h4 h5 h6 h7
                unfold exprStep
                rw [if_neg h0, if_neg h4, if_neg h5, if_neg h6, if_neg h7]
              rw [e2]
              refine icall_box (cNext L (k + 1) 3 (by omega) (by omega) (by omega)) rfl rfl rfl ?_
              have m3 := tapeN_lt (L := L) (k := k + 1) (n := 3) (by omega)
              simp only [go_sem, ↓reduceIte, reduceCtorEq]
              refine ⟨_, cName ⟨#[109]⟩ (tapeN L (k + 1) 3) m3.1 (by omega) (by decide), ?_⟩
              simp only [go_sem, ↓reduceIte]
              refine icall_box (cNext L (k + 1 + 1) 8 (by omega) (by omega) (by omega)) rfl rfl rfl ?_
              simp only [go_sem, Nat.reduceGT, ↓reduceIte, Nat.reduceAdd, Nat.reduceLeDiff, reduceCtorEq]
              exact ⟨rfl, rfl, rfl⟩
end Go.Proofs.Ytkppmlignfhdeaa
/- Proved here: The expressions that a tape gives: contract, and that they are valid, for use in the proofs of the given statements; conditions stand in each theorem. -/
set_option linter.unusedSimpArgs false
set_option linter.unusedVariables false
set_option linter.unnecessarySimpa false
namespace Go.Proofs.Ytkppmlignfhdeaa
open Go.RowKit
set_option maxRecDepth 4000
def bndE : Nat → Nat
  | 0 => 6
  | d + 1 => 26 + 2 * bndE d
theorem kindE_le (L : List Int) (k d : Nat) : (kindE L k d).2 ≤ k + 2 := by
  unfold kindE
  split <;> simp
theorem mixE_le {rec : Nat → ExprR × Nat} {B : Nat} (h : ∀ k, (rec k).2 ≤ k + B) (L : List Int) (op num den param : Int) (k : Nat) : (mixE rec L op num den param k).2 ≤ k + 1 + 2 * B := by
  have h1 := h k
  have h2 := h ((rec k).2 + 1)
  unfold mixE
  split <;> simp only <;> omega
theorem exprStep_le {rec : Nat → ExprR × Nat} {B : Nat} (h : ∀ k, (rec k).2 ≤ k + B) (L : List Int) (q : Int) (k : Nat) : (exprStep rec L q k).2 ≤ k + 4 + 2 * B := by
  unfold exprStep srcE
  have h1 := h (k + 1)
  have h2 := h (rec (k + 1)).2
  have m2 := fun op num den param => mixE_le h L op num den param (k + 2)
  have m3 := fun op num den param => mixE_le h L op num den param (k + 3)
  split
  · simp only; omega
  split
  · have := m2 2 (num3 (1 + tapeN L k 3)) (dens3.getD (tapeN L (k + 1) 3).toNat 0) 0
    omega
  split
  · have := m3 3 (num3 (1 + tapeN L k 3)) (dens3.getD (tapeN L (k + 1) 3).toNat 0) (tapeN L (k + 2) 4)
    omega
  split
  · simp only; omega
  split
  · simp only; omega
  · simp only; omega
theorem exprAt_le (L : List Int) : ∀ (d k : Nat), (exprAt L d k).2 ≤ k + bndE d
  | 0, k => by
    have h := exprStep_le (rec := fun k => (zeroE, k)) (B := 0) (fun k => Nat.le_refl _) L (kindE L k 0).1 (kindE L k 0).2
    have := kindE_le L k 0
    simp only [exprAt, bndE]
    omega
  | d + 1, k => by
    have h := exprStep_le (rec := exprAt L d) (B := bndE d) (fun k => exprAt_le L d k) L (kindE L k (d + 1)).1 (kindE L k (d + 1)).2
    have := kindE_le L k (d + 1)
    simp only [exprAt, bndE]
    omega
theorem cExprT (L : List Int) : ∀ (d k : Nat), d ≤ 10 → k + 10 + bndE d ≤ 900000 → CBox Try.prog 7 [.t (tints L), vint k] [vint d] (vexpr (exprAt L d k).1) [.t (tints L), vint ((exprAt L d k).2 : Int)]
  | 0, k, _, hk => by
    simp only [bndE] at hk
    refine cbox_as (as_Z _) (cExprStep L 0 k 0 (fun k => (zeroE, k)) (by omega) (by omega) fun h => ?_)
    exfalso
    have n8 := tapeN_lt (L := L) (k := k) (n := 8) (by omega)
    have n3 := tapeN_lt (L := L) (k := k + 1) (n := 3) (by omega)
    unfold kindE at h
    split at h
    · simp only at h; omega
    · rename_i hn
      simp only [Int.natCast_zero, Bool.and_eq_true, decide_eq_true_eq, not_and] at hn h
      have := hn (by omega)
      omega
  | d + 1, k, hd, hk => by
    simp only [bndE] at hk
    refine cbox_as (as_Z _) (cExprStep L (d + 1) k (bndE d + 10) (exprAt L d) (by omega) (by omega) fun _ k' hk' => ⟨by have := exprAt_le L d k'; omega, ?_⟩)
    have := cExprT L d k' (by omega) (by omega)
    have e : (((d + 1 : Nat) : Int) - 1) = (d : Int) := by omega
    rw [e]
    exact this
theorem exprStep_ok {rec : Nat → ExprR × Nat} (L : List Int) (q : Int) (h : 4 ≤ q → ∀ k, validE (rec k).1 = true ∧ (rec k).1.fit) (k : Nat) : validE (exprStep rec L q k).1 = true ∧ (exprStep rec L q k).1.fit := by
  have i0 : I64 0 := ⟨by decide, by decide⟩
  have il : ∀ n : Int, 0 ≤ n → n ≤ 1000 → I64 n := fun n h1 h2 => ⟨by omega, by omega⟩
  have n3 := tapeN_lt (L := L) (k := k) (n := 3) (by omega)
  have d3 := tapeN_lt (L := L) (k := k + 1) (n := 3) (by omega)
  have p4 := tapeN_lt (L := L) (k := k + 2) (n := 4) (by omega)
  have hN : num3 (1 + tapeN L k 3) = 1 ∨ num3 (1 + tapeN L k 3) = 3 := by
    have : tapeN L k 3 = 0 ∨ tapeN L k 3 = 1 ∨ tapeN L k 3 = 2 := by omega
    rcases this with h | h | h <;> rw [h] <;> decide
  have hD : dens3.getD (tapeN L (k + 1) 3).toNat 0 = 4 ∨ dens3.getD (tapeN L (k + 1) 3).toNat 0 = 5 ∨ dens3.getD (tapeN L (k + 1) 3).toNat 0 = 7 := by
    have : (tapeN L (k + 1) 3).toNat = 0 ∨ (tapeN L (k + 1) 3).toNat = 1 ∨ (tapeN L (k + 1) 3).toNat = 2 := by omega
    rcases this with h | h | h <;> rw [h] <;> decide
  have mixOk : ∀ (op num den param : Int) (k : Nat), (∀ k, validE (rec k).1 = true ∧ (rec k).1.fit) → I64 op → I64 num → I64 den → I64 param → fieldsOk op ⟨#[]⟩ 0 num den param ⟨#[]⟩ 2 = true → validE (mixE rec L op num den param k).1 = true ∧ (mixE rec L op num den param k).1.fit := by
    intro op num den param k hr h1 h2 h3 h4 h5
    have r1 := hr k
    have r2 := hr ((rec k).2 + 1)
    unfold mixE
    split
    · exact ⟨validE_mk h5 (by simp [r1.1, r2.1]), by simp only [ExprR.fit, ExprR.fits]; exact ⟨h1, i0, h2, h3, h4, r1.2, r2.2, trivial⟩⟩
    · exact ⟨validE_mk h5 (by simp [r1.1]), by simp only [ExprR.fit, ExprR.fits]; exact ⟨h1, i0, h2, h3, h4, r1.2, r1.2, trivial⟩⟩
  have share : ∀ num den : Int, (num = 1 ∨ num = 3) → (den = 4 ∨ den = 5 ∨ den = 7) → shareB num den = true := by
    intro num den h1 h2
    rcases h1 with rfl | rfl <;> rcases h2 with rfl | rfl | rfl <;> exact of_decide_eq_true (by kernel_rfl)
  have nb : noB ⟨#[]⟩ = true := by simp [noB]
  have iN : I64 (num3 (1 + tapeN L k 3)) := by rcases hN with h | h <;> rw [h] <;> exact ⟨by decide, by decide⟩
  have iD : I64 (dens3.getD (tapeN L (k + 1) 3).toNat 0) := by rcases hD with h | h | h <;> rw [h] <;> exact ⟨by decide, by decide⟩
  unfold exprStep
  generalize dens3.getD (tapeN L (k + 1) 3).toNat 0 = den at *
  generalize num3 (1 + tapeN L k 3) = num at *
  split
  · exact ⟨validE_zero, by simp only [zeroE, ExprR.fit, ExprR.fits]; exact ⟨i0, i0, i0, i0, i0, trivial⟩⟩
  split
  · rename_i hq
    exact mixOk _ _ _ _ _ (h (by omega)) (il 2 (by omega) (by omega)) iN iD i0 (by simp [fieldsOk, nb, share _ _ hN hD])
  split
  · rename_i hq
    exact mixOk _ _ _ _ _ (h (by omega)) (il 3 (by omega) (by omega)) iN iD (il _ (by omega) (by omega)) (by simp [fieldsOk, nb, share _ _ hN hD]; omega)
  split
  · rename_i hq
    have r1 := h (by omega) (k + 1)
    have r2 := h (by omega) (rec (k + 1)).2
    have p := tapeN_lt (L := L) (k := k) (n := 256) (by omega)
    exact ⟨validE_mk (by simp [fieldsOk, nb]; omega) (by simp [r1.1, r2.1]), by simp only [ExprR.fit, ExprR.fits]; exact ⟨il 4 (by omega) (by omega), i0, i0, i0, il _ (by omega) (by omega), r1.2, r2.2, trivial⟩⟩
  split
  · rename_i hq
    have r1 := h (by omega) (k + 1)
    have p := tapeN_lt (L := L) (k := k) (n := 2) (by omega)
    have hT : vLine (texts2.getD (tapeN L k 2).toNat ⟨#[]⟩) = true := by
      have : (tapeN L k 2).toNat = 0 ∨ (tapeN L k 2).toNat = 1 := by omega
      rcases this with h | h <;> rw [h] <;> exact of_decide_eq_true (by kernel_rfl)
    generalize texts2.getD (tapeN L k 2).toNat ⟨#[]⟩ = tx at *
    exact ⟨validE_mk (by simp [fieldsOk, nb, hT]) (by simp [r1.1]), by simp only [ExprR.fit, ExprR.fits]; exact ⟨il 5 (by omega) (by omega), i0, i0, i0, i0, r1.2, trivial⟩⟩
  · have p := tapeN_lt (L := L) (k := k + 1) (n := 8) (by omega)
    have hm : vName (nameB ⟨#[109]⟩ (tapeN L k 3)) = true := by
      have : tapeN L k 3 = 0 ∨ tapeN L k 3 = 1 ∨ tapeN L k 3 = 2 := by omega
      rcases this with h | h | h <;> rw [h] <;> exact of_decide_eq_true (by kernel_rfl)
    exact ⟨validE_mk (by simp [fieldsOk, nb, hm]; omega) (by simp), by simp only [srcE, ExprR.fit, ExprR.fits]; exact ⟨il 1 (by omega) (by omega), il _ (by omega) (by omega), i0, i0, i0, trivial⟩⟩
theorem exprAt_ok (L : List Int) : ∀ (d k : Nat), validE (exprAt L d k).1 = true ∧ (exprAt L d k).1.fit
  | 0, k => by
    simp only [exprAt]
    refine exprStep_ok L _ (fun h => ?_) _
    exfalso
    have n8 := tapeN_lt (L := L) (k := k) (n := 8) (by omega)
    have n3 := tapeN_lt (L := L) (k := k + 1) (n := 3) (by omega)
    unfold kindE at h
    split at h
    · simp only at h; omega
    · rename_i hn
      simp only [Int.natCast_zero, Bool.and_eq_true, decide_eq_true_eq, not_and] at hn h
      have := hn (by omega)
      omega
  | d + 1, k => by
    simp only [exprAt]
    exact exprStep_ok L _ (fun _ k => exprAt_ok L d k) _
end Go.Proofs.Ytkppmlignfhdeaa
