/- Proved here: When two expressions are the same by the reference, for use in the proofs of the given statements; conditions stand in each theorem. -/
import Derived.Test.YtkppmlignfhdeaaGreatY1
set_option linter.unusedSimpArgs false
set_option linter.unusedVariables false
set_option linter.unusedSectionVars false
set_option linter.unusedSimpArgs false
set_option linter.unusedVariables false
set_option linter.unnecessarySimpa false
namespace Go.Proofs.YtkppmlignfhdeaaGreat
open Go.RowKit
set_option maxRecDepth 4000
def headEqE (op : Int) (media : ByteArray) (frame num den param : Int) (text : ByteArray) (n : Int) (op2 : Int) (media2 : ByteArray) (frame2 num2 den2 param2 : Int) (text2 : ByteArray) (n2 : Int) : Bool :=
  op == op2 && (media.toList == media2.toList) && frame == frame2 && num == num2 && den == den2 && param == param2 && (text.toList == text2.toList) && n == n2
theorem eqE_head {op : Int} {media : ByteArray} {frame num den param : Int} {text : ByteArray} {args : List ExprR} {op2 : Int} {media2 : ByteArray} {frame2 num2 den2 param2 : Int} {text2 : ByteArray} {args2 : List ExprR} :
    eqE (.mk op media frame num den param text args) (.mk op2 media2 frame2 num2 den2 param2 text2 args2) = (headEqE op media frame num den param text args.length op2 media2 frame2 num2 den2 param2 text2 args2.length && eqEs args args2) := by
  unfold eqE headEqE
  by_cases h : args.length = args2.length
  · have : ((args.length : Int) == args2.length) = true := by rw [beq_iff_eq, h]
    rw [this, Bool.and_true]
  · rw [eqEs_len h, Bool.and_false, Bool.and_false]
theorem cRSameE1 : ∀ (m : Nat) (a b : ExprR), SizeOf.sizeOf a < m → CPure Tryz.prog 15 [vexpr a, vexpr b] (vbool (eqE a b))
  | 0, e, _, h => absurd h (Nat.not_lt_zero _)
  | m + 1, .mk op media frame num den param text args, .mk op2 media2 frame2 num2 den2 param2 text2 args2, hm => by
    have ih : ∀ x ∈ args, ∀ y ∈ args2, CPure Tryz.prog 15 [vexpr x, vexpr y] (vbool (eqE x y)) := fun x hx y _ => cRSameE1 m x y (by have := arg_lt hx op media frame num den param text; omega)
    rw [vexpr_mk, vexpr_mk]
    refine cpure_of Tryz.xen15 Tryz.func15 rfl Tryz.ntmps15 (by rw [Tryz.results15]) (awp_facts fun hf => aw_ok _ ?_)
    simp only [go_sem, Nat.reduceAdd, Nat.reduceSub, factsT, List.length_map] at hf
    have hla : args.length ≤ maxLen := by omega
    simp only [go_sem, ↓reduceIte, Nat.reduceAdd, Nat.reduceSub, reduceCtorEq]
    refine brW (b := !headEqE op media frame num den param text args.length op2 media2 frame2 num2 den2 param2 text2 args2.length) ?_ ⟨fun h1 => ?_, fun h1 => ?_⟩
    · unfold headEqE
      simp only [bne, Bool.not_and]
    · unfold awS
      simp only [go_sem, ↓reduceIte]
      rw [eqE_head, nt h1]
      rfl
    · unfold awS
      simp only [go_sem, ↓reduceIte]
      have hH := nf h1
      have hl : args.length = args2.length := by
        unfold headEqE at hH
        simp only [Bool.and_eq_true, beq_iff_eq] at hH
        omega
      rw [eqE_head, hH, Bool.true_and]
      refine awp_loop_f (fun (k : Nat) σ => setS 5 (vint k) (deadS [62, 63, 64, 65, 66, 67, 68, 69, 70, 71, 72, 73, 74, 75, 76, 77, 78, 79, 80] (cleanS σ))) (fun k => k ≤ args.length ∧ ∀ i, i < k → eqE (args.getD i default) (args2.getD i default) = true) (fun k => args.length - k) 0 (weak_self ?_) ⟨Nat.zero_le _, by omega⟩ ?_
      · simp only [go_sem, Nat.reduceLT, ↓reduceIte, Nat.reduceLeDiff, reduceCtorEq]
        simp
      · rintro k ⟨hk, hi⟩
        refine aw_ok _ ?_
        simp only [go_sem, ↓reduceIte, reduceCtorEq]
        refine ⟨fun hlt => ?_, fun hge => ?_⟩
        · simp only [decide_eq_true_eq] at hlt
          have hn1 := nth_expr zE (show k < args.length by omega)
          have hn2 := nth_expr zE (show k < args2.length by omega)
          have ihk := ih _ (mem_getDE (show k < args.length by omega)) _ (mem_getDE (show k < args2.length by omega))
          have hhit := @eqEs_hit args args2 k
          have hup : eqE (args.getD k default) (args2.getD k default) = true → ∀ i, i < k + 1 → eqE (args.getD i default) (args2.getD i default) = true := fun h => upto hi h
          rcases hx : args.getD k default with ⟨o1, m1, fr1, nu1, de1, pa1, te1, ar1⟩
          rcases hy : args2.getD k default with ⟨o2, m2, fr2, nu2, de2, pa2, te2, ar2⟩
          rw [hx] at hn1 ihk hhit hup
          rw [hy] at hn2 ihk hhit hup
          unfold awS
          simp only [go_sem]
          refine drawR_of [0, 1, 2, 3, 4, 5, 6, 7, 8, 9, 10, 11] .done rfl (by kernel_rfl) (by kernel_rfl) (by decide) ?_
          simp only [go_sem, ↓reduceIte, Nat.reduceAdd, Nat.reduceLeDiff, reduceCtorEq, hn1, hn2, ExprR.c, cs_eq]
          refine ⟨⟨by omega, by omega⟩, ⟨by omega, by omega⟩, _, ihk, ?_⟩
          simp only [go_sem]
          refine ⟨fun h2 => ?_, fun h2 => ?_⟩
          · unfold awS
            simp only [go_sem, ↓reduceIte]
            rw [hhit (by simpa using h2)]
          · unfold awS
            simp only [go_sem, ↓reduceIte]
            refine ⟨k + 1, weak_self ?_, ⟨by omega, hup (by simpa using h2)⟩, by omega⟩
            simp only [go_sem, Nat.reduceLT, ↓reduceIte, Nat.reduceLeDiff, reduceCtorEq]
            simp [wrap_of (show k < args.length by omega) hla]
        · simp only [decide_eq_false_iff_not] at hge
          unfold awS
          simp only [go_sem, ↓reduceIte]
          rw [eqEs_done hl (fun i h2 => hi i (by omega))]
end Go.Proofs.YtkppmlignfhdeaaGreat
/- Proved here: Which expressions are valid by the reference, for use in the proofs of the given statements; conditions stand in each theorem. -/
set_option linter.unusedSimpArgs false
set_option linter.unusedVariables false
set_option linter.unnecessarySimpa false
namespace Go.Proofs.YtkppmlignfhdeaaGreat
open Go.RowKit
set_option maxRecDepth 4000
theorem cRShare (op : Int) (media : ByteArray) (frame num den param : Int) (text : ByteArray) (args : List ExprR) (h : I64 num) (h' : I64 den) :
    CPure Tryz.prog 47 [vex op media frame num den param text args] (vbool (shareB num den)) := by
  obtain ⟨a1, a2⟩ := h
  obtain ⟨b1, b2⟩ := h'
  refine cpure_of Tryz.xen47 Tryz.func47 rfl Tryz.ntmps47 (by rw [Tryz.results47]) (aw_ok _ ?_)
  simp only [go_sem, ↓reduceIte, Nat.reduceSub]
  refine ⟨vint (Nat.gcd num.natAbs den.natAbs), fun hg => ?_, ?_⟩
  · simp only [decide_eq_true_eq, Bool.and_eq_true] at hg
    have e1 : den = ((den.natAbs : Nat) : Int) := by omega
    have := cRGcd num den.natAbs (by omega) (by omega)
    rw [← e1] at this
    exact this
  simp only [go_sem, ↓reduceIte]
  have : (decide (num > 0) && decide (num < den) && decide (den ≤ 2147483648) && (((Nat.gcd num.natAbs den.natAbs : Nat) : Int) == 1)) = shareB num den := by
    unfold shareB vRat
    rw [Bool.eq_iff_iff]; simp only [decide_eq_true_eq, beq_iff_eq, Bool.and_eq_true]; omega
  rw [this]
def bareB (op : Int) (media : ByteArray) (frame num den param : Int) (text : ByteArray) : Bool :=
  !((!(op == 1) && (!(noB media) || frame != 0)) || (!(op == 2 || op == 3) && (num != 0 || den != 0))) && ((op == 3 || op == 4 || param == 0) && (op == 5 || noB text))
theorem cRBare (op : Int) (media : ByteArray) (frame num den param : Int) (text : ByteArray) (args : List ExprR) :
    CPure Tryz.prog 49 [vex op media frame num den param text args] (vbool (bareB op media frame num den param text)) := by
  refine cpure_of Tryz.xen49 Tryz.func49 rfl Tryz.ntmps49 (by rw [Tryz.results49]) (aw_ok _ ?_)
  simp only [go_sem, ↓reduceIte, Nat.reduceSub]
  refine drawR_of [0, 1, 2, 3, 4, 5, 6, 7, 8, 9, 10, 11, 12] .done rfl (by kernel_rfl) (by kernel_rfl) (by decide) ?_
  simp only [go_sem, ↓reduceIte]
  have hb : bareB op media frame num den param text = (!((!(op == 1) && (!(media.toList == (⟨#[]⟩ : ByteArray).toList) || frame != 0)) || (!(op == 2 || op == 3) && (num != 0 || den != 0))) && ((op == 3 || op == 4 || param == 0) && (op == 5 || (text.toList == (⟨#[]⟩ : ByteArray).toList)))) := rfl
  refine ⟨fun h => ?_, fun h => ?_⟩
  · unfold awS
    simp only [go_sem, ↓reduceIte]
    rw [hb]
    simp only [bne] at h ⊢
    rw [h]
    rfl
  · unfold awS
    simp only [go_sem, ↓reduceIte]
    rw [hb]
    simp only [bne] at h ⊢
    rw [h]
    rfl
/-- what the reference asks of an expression's own fields, but for 'bare' and the number of arguments -/
def opsOk (op : Int) (media : ByteArray) (frame num den param : Int) (text : ByteArray) : Bool :=
  if (op == 0) = true then true
  else if (op == 1) = true then vName media && decide (0 ≤ frame) && decide (frame < 2147483647)
  else if (op == 2 || op == 3) = true then shareB num den && decide (0 ≤ param) && decide (param ≤ 3)
  else if (op == 4) = true then decide (0 ≤ param) && decide (param ≤ 255)
  else if (op == 5) = true then vLine text
  else false
def manyE (op : Int) : Int := if (op == 2 || op == 3 || op == 4) = true then 2 else if (op == 5) = true then 1 else 0
theorem fields_ref (op : Int) (media : ByteArray) (frame num den param : Int) (text : ByteArray) (n : Int) : fieldsOk op media frame num den param text n =
    (opsOk op media frame num den param text && (bareB op media frame num den param text && n == manyE op)) := by
  unfold fieldsOk opsOk bareB manyE
  generalize noB media = m
  generalize noB text = t
  generalize vName media = vm
  generalize vLine text = vt
  generalize shareB num den = sh
  by_cases h0 : op = 0
  · subst h0
    rw [Bool.eq_iff_iff]
    cases m <;> cases t <;> simp <;> omega
  by_cases h1 : op = 1
  · subst h1
    rw [Bool.eq_iff_iff]
    cases m <;> cases t <;> cases vm <;> simp <;> omega
  by_cases h2 : op = 2
  · subst h2
    rw [Bool.eq_iff_iff]
    cases m <;> cases t <;> cases sh <;> simp <;> omega
  by_cases h3 : op = 3
  · subst h3
    rw [Bool.eq_iff_iff]
    cases m <;> cases t <;> cases sh <;> simp <;> omega
  by_cases h4 : op = 4
  · subst h4
    rw [Bool.eq_iff_iff]
    cases m <;> cases t <;> simp <;> omega
  by_cases h5 : op = 5
  · subst h5
    rw [Bool.eq_iff_iff]
    cases m <;> cases t <;> cases vt <;> simp <;> omega
  simp [h0, h1, h2, h3, h4, h5]
theorem ref_no {op : Int} {media : ByteArray} {frame num den param : Int} {text : ByteArray} {args : List ExprR} (h : opsOk op media frame num den param text = false) : validE (.mk op media frame num den param text args) = false := by
  unfold validE
  rw [fields_ref, h]
  rfl
theorem ref_no2 {op : Int} {media : ByteArray} {frame num den param : Int} {text : ByteArray} {args : List ExprR} (h : (bareB op media frame num den param text && ((args.length : Nat) : Int) == manyE op) = false) : validE (.mk op media frame num den param text args) = false := by
  unfold validE
  rw [fields_ref, h, Bool.and_false]
  rfl
theorem ref_yes {op : Int} {media : ByteArray} {frame num den param : Int} {text : ByteArray} {args : List ExprR} (h1 : opsOk op media frame num den param text = true) (h : (bareB op media frame num den param text && ((args.length : Nat) : Int) == manyE op) = true) : validE (.mk op media frame num den param text args) = args.all validE := by
  unfold validE
  rw [fields_ref, h1, h, Bool.true_and, Bool.true_and, validEs_eq]
theorem cRValidE1 : ∀ (m : Nat) (e : ExprR), SizeOf.sizeOf e < m → e.fit → CPure Tryz.prog 16 [vexpr e] (vbool (validE e))
  | 0, e, h, _ => absurd h (Nat.not_lt_zero _)
  | m + 1, .mk op media frame num den param text args, hm, hfit => by
    simp only [ExprR.fit] at hfit
    obtain ⟨f1, f2, f3, f4, f5, f6⟩ := hfit
    have ih : ∀ e ∈ args, CPure Tryz.prog 16 [vexpr e] (vbool (validE e)) := fun e he => cRValidE1 m e (by have := arg_lt he op media frame num den param text; omega) (fits_mem f6 e he)
    clear hm
    rw [vexpr_mk]
    refine cpure_of Tryz.xen16 Tryz.func16 rfl Tryz.ntmps16 (by rw [Tryz.results16]) (aw_ok _ ?_)
    simp only [go_sem, ↓reduceIte, Nat.reduceSub]
    refine ⟨fun h0 => ?_, fun h0 => ?_⟩
    · have hop : op = 0 := by simpa using h0
      have hops : opsOk op media frame num den param text = true := by unfold opsOk; rw [if_pos h0]
      have hm : manyE op = 0 := by rw [hop]; rfl
      unfold awS
      simp only [go_sem, ↓reduceIte, Nat.reduceAdd, Nat.reduceLeDiff]
      refine ⟨_, cRBare op media frame num den param text args, ?_⟩
      simp only [go_sem, ↓reduceIte]
      refine brW (b := !(bareB op media frame num den param text && ((args.length : Nat) : Int) == manyE op)) ?_ ⟨fun hb => ?_, fun hb => ?_⟩
      · rw [hm, Bool.not_and]
        rfl
      · unfold awS
        simp only [go_sem, ↓reduceIte]
        rw [ref_no2 (nt hb)]
      · have hv := ref_yes hops (nf hb)
        have hl : ((args.length : Nat) : Int) = 0 := by
          have := nf hb
          rw [Bool.and_eq_true, beq_iff_eq, hm] at this
          exact this.2
        rw [hv]
        unfold awS
        simp only [go_sem, ↓reduceIte]
        refine awp_loop_f (fun (k : Nat) σ => setS 4 (vint k) (deadS [67, 68, 69, 70, 71, 72, 73, 74, 75, 76, 77, 78] (cleanS σ))) (fun k => k ≤ args.length ∧ ∀ i, i < k → validE (args.getD i default) = true) (fun k => args.length - k) 0 (weak_self ?_) ⟨Nat.zero_le _, by omega⟩ ?_
        · simp only [go_sem, Nat.reduceLT, ↓reduceIte, Nat.reduceLeDiff]
          simp
        · rintro k ⟨hk, hi⟩
          refine aw_ok _ ?_
          simp only [go_sem, ↓reduceIte]
          refine ⟨fun hlt => ?_, fun hge => ?_⟩
          · simp only [decide_eq_true_eq] at hlt
            have hmem : args.getD k default ∈ args := by rw [getD_of_lt (by omega)]; exact List.getElem_mem (by omega)
            have hn := nth_expr zE (show k < args.length by omega)
            have ihk := ih _ hmem
            have hall := @all_hit ExprR default validE args k (by omega)
            have hup : validE (args.getD k default) = true → ∀ i, i < k + 1 → validE (args.getD i default) = true := fun h => upto hi h
            rcases hx : args.getD k default with ⟨o2, m2, fr2, nu2, de2, pa2, te2, ar2⟩
            rw [hx] at hn ihk hall hup
            unfold awS
            simp only [go_sem, ↓reduceIte, Nat.reduceAdd, Nat.reduceLeDiff, hn, ExprR.c, cs_eq]
            refine ⟨⟨by omega, by omega⟩, _, ihk, ?_⟩
            simp only [go_sem]
            refine ⟨fun h2 => ?_, fun h2 => ?_⟩
            · unfold awS
              simp only [go_sem, ↓reduceIte]
              rw [hall (nt h2)]
            · unfold awS
              simp only [go_sem, ↓reduceIte]
              refine ⟨k + 1, weak_self ?_, ⟨by omega, hup (nf h2)⟩, by omega⟩
              simp only [go_sem, Nat.reduceLT, ↓reduceIte, Nat.reduceLeDiff]
              simp [wrap1 (show k < 9223372036854775807 by omega)]
          · simp only [decide_eq_false_iff_not] at hge
            unfold awS
            simp only [go_sem, ↓reduceIte]
            rw [all_done (d := default) (p := validE) (fun i h2 => hi i (by omega))]
    · unfold awS
      simp only [go_sem, ↓reduceIte]
      refine ⟨fun h1 => ?_, fun h1 => ?_⟩
      · have hop : op = 1 := by simpa using h1
        have hm : manyE op = 0 := by rw [hop]; rfl
        unfold awS
        simp only [go_sem, ↓reduceIte]
        refine ⟨_, cRName media, ?_⟩
        simp only [go_sem, ↓reduceIte]
        refine brW (b := !opsOk op media frame num den param text) ?_ ⟨fun ho => ?_, fun ho => ?_⟩
        · unfold opsOk
          rw [if_neg (by rw [h0]; exact Bool.false_ne_true), if_pos h1]
          generalize vName media = vm
          cases vm
          · rfl
          · rw [Bool.eq_iff_iff]; simp <;> omega
        · unfold awS
          simp only [go_sem, ↓reduceIte]
          rw [ref_no (nt ho)]
        · have hops := nf ho
          unfold awS
          simp only [go_sem, ↓reduceIte, Nat.reduceAdd, Nat.reduceLeDiff]
          refine ⟨_, cRBare op media frame num den param text args, ?_⟩
          simp only [go_sem, ↓reduceIte]
          refine brW (b := !(bareB op media frame num den param text && ((args.length : Nat) : Int) == manyE op)) ?_ ⟨fun hb => ?_, fun hb => ?_⟩
          · rw [hm, Bool.not_and]
            rfl
          · unfold awS
            simp only [go_sem, ↓reduceIte]
            rw [ref_no2 (nt hb)]
          · have hv := ref_yes hops (nf hb)
            have hl : ((args.length : Nat) : Int) = 0 := by
              have := nf hb
              rw [Bool.and_eq_true, beq_iff_eq, hm] at this
              exact this.2
            rw [hv]
            unfold awS
            simp only [go_sem, ↓reduceIte]
            refine awp_loop_f (fun (k : Nat) σ => setS 4 (vint k) (deadS [67, 68, 69, 70, 71, 72, 73, 74, 75, 76, 77, 78] (cleanS σ))) (fun k => k ≤ args.length ∧ ∀ i, i < k → validE (args.getD i default) = true) (fun k => args.length - k) 0 (weak_self ?_) ⟨Nat.zero_le _, by omega⟩ ?_
            · simp only [go_sem, Nat.reduceLT, ↓reduceIte, Nat.reduceLeDiff]
              simp
            · rintro k ⟨hk, hi⟩
              refine aw_ok _ ?_
              simp only [go_sem, ↓reduceIte]
              refine ⟨fun hlt => ?_, fun hge => ?_⟩
              · simp only [decide_eq_true_eq] at hlt
                have hmem : args.getD k default ∈ args := by rw [getD_of_lt (by omega)]; exact List.getElem_mem (by omega)
                have hn := nth_expr zE (show k < args.length by omega)
                have ihk := ih _ hmem
                have hall := @all_hit ExprR default validE args k (by omega)
                have hup : validE (args.getD k default) = true → ∀ i, i < k + 1 → validE (args.getD i default) = true := fun h => upto hi h
                rcases hx : args.getD k default with ⟨o2, m2, fr2, nu2, de2, pa2, te2, ar2⟩
                rw [hx] at hn ihk hall hup
                unfold awS
                simp only [go_sem, ↓reduceIte, Nat.reduceAdd, Nat.reduceLeDiff, hn, ExprR.c, cs_eq]
                refine ⟨⟨by omega, by omega⟩, _, ihk, ?_⟩
                simp only [go_sem]
                refine ⟨fun h2 => ?_, fun h2 => ?_⟩
                · unfold awS
                  simp only [go_sem, ↓reduceIte]
                  rw [hall (nt h2)]
                · unfold awS
                  simp only [go_sem, ↓reduceIte]
                  refine ⟨k + 1, weak_self ?_, ⟨by omega, hup (nf h2)⟩, by omega⟩
                  simp only [go_sem, Nat.reduceLT, ↓reduceIte, Nat.reduceLeDiff]
                  simp [wrap1 (show k < 9223372036854775807 by omega)]
              · simp only [decide_eq_false_iff_not] at hge
                unfold awS
                simp only [go_sem, ↓reduceIte]
                rw [all_done (d := default) (p := validE) (fun i h2 => hi i (by omega))]
      · unfold awS
        simp only [go_sem, ↓reduceIte]
        refine ⟨fun h2 => ?_, fun h2 => ?_⟩
        · have hop : op = 2 := by simpa using h2
          have hm : manyE op = 2 := by rw [hop]; rfl
          unfold awS
          simp only [go_sem]
          refine ⟨fun _ => ?_, fun hx => absurd (h2.symm.trans hx) (by decide)⟩
          unfold awS
          simp only [go_sem, ↓reduceIte, Nat.reduceAdd, Nat.reduceLeDiff]
          refine ⟨_, cRShare op media frame num den param text args f3 f4, ?_⟩
          simp only [go_sem, ↓reduceIte]
          refine brW (b := !opsOk op media frame num den param text) ?_ ⟨fun ho => ?_, fun ho => ?_⟩
          · unfold opsOk
            rw [if_neg (by rw [h0]; exact Bool.false_ne_true), if_neg (by rw [h1]; exact Bool.false_ne_true), if_pos (by rw [hop]; rfl)]
            generalize shareB num den = vm
            cases vm
            · rfl
            · rw [Bool.eq_iff_iff]; simp <;> omega
          · unfold awS
            simp only [go_sem, ↓reduceIte]
            rw [ref_no (nt ho)]
          · have hops := nf ho
            unfold awS
            simp only [go_sem, ↓reduceIte, Nat.reduceAdd, Nat.reduceLeDiff]
            refine ⟨_, cRBare op media frame num den param text args, ?_⟩
            simp only [go_sem, ↓reduceIte]
            refine brW (b := !(bareB op media frame num den param text && ((args.length : Nat) : Int) == manyE op)) ?_ ⟨fun hb => ?_, fun hb => ?_⟩
            · rw [hm, Bool.not_and]
              rfl
            · unfold awS
              simp only [go_sem, ↓reduceIte]
              rw [ref_no2 (nt hb)]
            · have hv := ref_yes hops (nf hb)
              have hl : ((args.length : Nat) : Int) = 2 := by
                have := nf hb
                rw [Bool.and_eq_true, beq_iff_eq, hm] at this
                exact this.2
              rw [hv]
              unfold awS
              simp only [go_sem, ↓reduceIte]
              refine awp_loop_f (fun (k : Nat) σ => setS 4 (vint k) (deadS [67, 68, 69, 70, 71, 72, 73, 74, 75, 76, 77, 78] (cleanS σ))) (fun k => k ≤ args.length ∧ ∀ i, i < k → validE (args.getD i default) = true) (fun k => args.length - k) 0 (weak_self ?_) ⟨Nat.zero_le _, by omega⟩ ?_
              · simp only [go_sem, Nat.reduceLT, ↓reduceIte, Nat.reduceLeDiff]
                simp
              · rintro k ⟨hk, hi⟩
                refine aw_ok _ ?_
                simp only [go_sem, ↓reduceIte]
                refine ⟨fun hlt => ?_, fun hge => ?_⟩
                · simp only [decide_eq_true_eq] at hlt
                  have hmem : args.getD k default ∈ args := by rw [getD_of_lt (by omega)]; exact List.getElem_mem (by omega)
                  have hn := nth_expr zE (show k < args.length by omega)
                  have ihk := ih _ hmem
                  have hall := @all_hit ExprR default validE args k (by omega)
                  have hup : validE (args.getD k default) = true → ∀ i, i < k + 1 → validE (args.getD i default) = true := fun h => upto hi h
                  rcases hx : args.getD k default with ⟨o2, m2, fr2, nu2, de2, pa2, te2, ar2⟩
                  rw [hx] at hn ihk hall hup
                  unfold awS
                  simp only [go_sem, ↓reduceIte, Nat.reduceAdd, Nat.reduceLeDiff, hn, ExprR.c, cs_eq]
                  refine ⟨⟨by omega, by omega⟩, _, ihk, ?_⟩
                  simp only [go_sem]
                  refine ⟨fun h2 => ?_, fun h2 => ?_⟩
                  · unfold awS
                    simp only [go_sem, ↓reduceIte]
                    rw [hall (nt h2)]
                  · unfold awS
                    simp only [go_sem, ↓reduceIte]
                    refine ⟨k + 1, weak_self ?_, ⟨by omega, hup (nf h2)⟩, by omega⟩
                    simp only [go_sem, Nat.reduceLT, ↓reduceIte, Nat.reduceLeDiff]
                    simp [wrap1 (show k < 9223372036854775807 by omega)]
                · simp only [decide_eq_false_iff_not] at hge
                  unfold awS
                  simp only [go_sem, ↓reduceIte]
                  rw [all_done (d := default) (p := validE) (fun i h2 => hi i (by omega))]
        · unfold awS
          simp only [go_sem, ↓reduceIte]
          refine ⟨fun h3 => ?_, fun h3 => ?_⟩
          · have hop : op = 3 := by simpa using h3
            have hm : manyE op = 2 := by rw [hop]; rfl
            unfold awS
            simp only [go_sem, ↓reduceIte, Nat.reduceAdd, Nat.reduceLeDiff]
            refine ⟨_, cRShare op media frame num den param text args f3 f4, ?_⟩
            simp only [go_sem, ↓reduceIte]
            refine brW (b := !opsOk op media frame num den param text) ?_ ⟨fun ho => ?_, fun ho => ?_⟩
            · unfold opsOk
              rw [if_neg (by rw [h0]; exact Bool.false_ne_true), if_neg (by rw [h1]; exact Bool.false_ne_true), if_pos (by rw [hop]; rfl)]
              generalize shareB num den = vm
              cases vm
              · rfl
              · rw [Bool.eq_iff_iff]; simp <;> omega
            · unfold awS
              simp only [go_sem, ↓reduceIte]
              rw [ref_no (nt ho)]
            · have hops := nf ho
              unfold awS
              simp only [go_sem, ↓reduceIte, Nat.reduceAdd, Nat.reduceLeDiff]
              refine ⟨_, cRBare op media frame num den param text args, ?_⟩
              simp only [go_sem, ↓reduceIte]
              refine brW (b := !(bareB op media frame num den param text && ((args.length : Nat) : Int) == manyE op)) ?_ ⟨fun hb => ?_, fun hb => ?_⟩
              · rw [hm, Bool.not_and]
                rfl
              · unfold awS
                simp only [go_sem, ↓reduceIte]
                rw [ref_no2 (nt hb)]
              · have hv := ref_yes hops (nf hb)
                have hl : ((args.length : Nat) : Int) = 2 := by
                  have := nf hb
                  rw [Bool.and_eq_true, beq_iff_eq, hm] at this
                  exact this.2
                rw [hv]
                unfold awS
                simp only [go_sem, ↓reduceIte]
                refine awp_loop_f (fun (k : Nat) σ => setS 4 (vint k) (deadS [67, 68, 69, 70, 71, 72, 73, 74, 75, 76, 77, 78] (cleanS σ))) (fun k => k ≤ args.length ∧ ∀ i, i < k → validE (args.getD i default) = true) (fun k => args.length - k) 0 (weak_self ?_) ⟨Nat.zero_le _, by omega⟩ ?_
                · simp only [go_sem, Nat.reduceLT, ↓reduceIte, Nat.reduceLeDiff]
                  simp
                · rintro k ⟨hk, hi⟩
                  refine aw_ok _ ?_
                  simp only [go_sem, ↓reduceIte]
                  refine ⟨fun hlt => ?_, fun hge => ?_⟩
                  · simp only [decide_eq_true_eq] at hlt
                    have hmem : args.getD k default ∈ args := by rw [getD_of_lt (by omega)]; exact List.getElem_mem (by omega)
                    have hn := nth_expr zE (show k < args.length by omega)
                    have ihk := ih _ hmem
                    have hall := @all_hit ExprR default validE args k (by omega)
                    have hup : validE (args.getD k default) = true → ∀ i, i < k + 1 → validE (args.getD i default) = true := fun h => upto hi h
                    rcases hx : args.getD k default with ⟨o2, m2, fr2, nu2, de2, pa2, te2, ar2⟩
                    rw [hx] at hn ihk hall hup
                    unfold awS
                    simp only [go_sem, ↓reduceIte, Nat.reduceAdd, Nat.reduceLeDiff, hn, ExprR.c, cs_eq]
                    refine ⟨⟨by omega, by omega⟩, _, ihk, ?_⟩
                    simp only [go_sem]
                    refine ⟨fun h2 => ?_, fun h2 => ?_⟩
                    · unfold awS
                      simp only [go_sem, ↓reduceIte]
                      rw [hall (nt h2)]
                    · unfold awS
                      simp only [go_sem, ↓reduceIte]
                      refine ⟨k + 1, weak_self ?_, ⟨by omega, hup (nf h2)⟩, by omega⟩
                      simp only [go_sem, Nat.reduceLT, ↓reduceIte, Nat.reduceLeDiff]
                      simp [wrap1 (show k < 9223372036854775807 by omega)]
                  · simp only [decide_eq_false_iff_not] at hge
                    unfold awS
                    simp only [go_sem, ↓reduceIte]
                    rw [all_done (d := default) (p := validE) (fun i h2 => hi i (by omega))]
          · unfold awS
            simp only [go_sem, ↓reduceIte]
            have h23 : ¬ (op == 2 || op == 3) = true := by rw [h2, h3]; exact Bool.false_ne_true
            refine ⟨fun h4 => ?_, fun h4 => ?_⟩
            · have hop : op = 4 := by simpa using h4
              have hm : manyE op = 2 := by rw [hop]; rfl
              unfold awS
              simp only [go_sem, ↓reduceIte]
              refine brW (b := !opsOk op media frame num den param text) ?_ ⟨fun ho => ?_, fun ho => ?_⟩
              · unfold opsOk
                rw [if_neg (by rw [h0]; exact Bool.false_ne_true), if_neg (by rw [h1]; exact Bool.false_ne_true), if_neg h23, if_pos h4]
                rw [Bool.eq_iff_iff]; simp only [decide_eq_true_eq, decide_eq_false_iff_not, Bool.or_eq_true, Bool.and_eq_false_iff, Bool.not_eq_eq_eq_not, Bool.not_true]; omega
              · unfold awS
                simp only [go_sem, ↓reduceIte]
                rw [ref_no (nt ho)]
              · have hops := nf ho
                unfold awS
                simp only [go_sem, ↓reduceIte, Nat.reduceAdd, Nat.reduceLeDiff]
                refine ⟨_, cRBare op media frame num den param text args, ?_⟩
                simp only [go_sem, ↓reduceIte]
                refine brW (b := !(bareB op media frame num den param text && ((args.length : Nat) : Int) == manyE op)) ?_ ⟨fun hb => ?_, fun hb => ?_⟩
                · rw [hm, Bool.not_and]
                  rfl
                · unfold awS
                  simp only [go_sem, ↓reduceIte]
                  rw [ref_no2 (nt hb)]
                · have hv := ref_yes hops (nf hb)
                  have hl : ((args.length : Nat) : Int) = 2 := by
                    have := nf hb
                    rw [Bool.and_eq_true, beq_iff_eq, hm] at this
                    exact this.2
                  rw [hv]
                  unfold awS
                  simp only [go_sem, ↓reduceIte]
                  refine awp_loop_f (fun (k : Nat) σ => setS 4 (vint k) (deadS [67, 68, 69, 70, 71, 72, 73, 74, 75, 76, 77, 78] (cleanS σ))) (fun k => k ≤ args.length ∧ ∀ i, i < k → validE (args.getD i default) = true) (fun k => args.length - k) 0 (weak_self ?_) ⟨Nat.zero_le _, by omega⟩ ?_
                  · simp only [go_sem, Nat.reduceLT, ↓reduceIte, Nat.reduceLeDiff]
                    simp
                  · rintro k ⟨hk, hi⟩
                    refine aw_ok _ ?_
                    simp only [go_sem, ↓reduceIte]
                    refine ⟨fun hlt => ?_, fun hge => ?_⟩
                    · simp only [decide_eq_true_eq] at hlt
                      have hmem : args.getD k default ∈ args := by rw [getD_of_lt (by omega)]; exact List.getElem_mem (by omega)
                      have hn := nth_expr zE (show k < args.length by omega)
                      have ihk := ih _ hmem
                      have hall := @all_hit ExprR default validE args k (by omega)
                      have hup : validE (args.getD k default) = true → ∀ i, i < k + 1 → validE (args.getD i default) = true := fun h => upto hi h
                      rcases hx : args.getD k default with ⟨o2, m2, fr2, nu2, de2, pa2, te2, ar2⟩
                      rw [hx] at hn ihk hall hup
                      unfold awS
                      simp only [go_sem, ↓reduceIte, Nat.reduceAdd, Nat.reduceLeDiff, hn, ExprR.c, cs_eq]
                      refine ⟨⟨by omega, by omega⟩, _, ihk, ?_⟩
                      simp only [go_sem]
                      refine ⟨fun h2 => ?_, fun h2 => ?_⟩
                      · unfold awS
                        simp only [go_sem, ↓reduceIte]
                        rw [hall (nt h2)]
                      · unfold awS
                        simp only [go_sem, ↓reduceIte]
                        refine ⟨k + 1, weak_self ?_, ⟨by omega, hup (nf h2)⟩, by omega⟩
                        simp only [go_sem, Nat.reduceLT, ↓reduceIte, Nat.reduceLeDiff]
                        simp [wrap1 (show k < 9223372036854775807 by omega)]
                    · simp only [decide_eq_false_iff_not] at hge
                      unfold awS
                      simp only [go_sem, ↓reduceIte]
                      rw [all_done (d := default) (p := validE) (fun i h2 => hi i (by omega))]
            · unfold awS
              simp only [go_sem, ↓reduceIte]
              refine ⟨fun h5 => ?_, fun h5 => ?_⟩
              · have hop : op = 5 := by simpa using h5
                have hm : manyE op = 1 := by rw [hop]; rfl
                unfold awS
                simp only [go_sem, ↓reduceIte]
                refine ⟨_, cRLine text, ?_⟩
                simp only [go_sem]
                have hops' : opsOk op media frame num den param text = vLine text := by
                  unfold opsOk
                  rw [if_neg (by rw [h0]; exact Bool.false_ne_true), if_neg (by rw [h1]; exact Bool.false_ne_true), if_neg h23, if_neg (by rw [h4]; exact Bool.false_ne_true), if_pos h5]
                refine ⟨fun ho => ?_, fun ho => ?_⟩
                · unfold awS
                  simp only [go_sem, ↓reduceIte]
                  rw [ref_no (by rw [hops', nt ho])]
                · have hops : opsOk op media frame num den param text = true := by rw [hops', nf ho]
                  unfold awS
                  simp only [go_sem, ↓reduceIte, Nat.reduceAdd, Nat.reduceLeDiff]
                  refine ⟨_, cRBare op media frame num den param text args, ?_⟩
                  simp only [go_sem, ↓reduceIte]
                  refine brW (b := !(bareB op media frame num den param text && ((args.length : Nat) : Int) == manyE op)) ?_ ⟨fun hb => ?_, fun hb => ?_⟩
                  · rw [hm, Bool.not_and]
                    rfl
                  · unfold awS
                    simp only [go_sem, ↓reduceIte]
                    rw [ref_no2 (nt hb)]
                  · have hv := ref_yes hops (nf hb)
                    have hl : ((args.length : Nat) : Int) = 1 := by
                      have := nf hb
                      rw [Bool.and_eq_true, beq_iff_eq, hm] at this
                      exact this.2
                    rw [hv]
                    unfold awS
                    simp only [go_sem, ↓reduceIte]
                    refine awp_loop_f (fun (k : Nat) σ => setS 4 (vint k) (deadS [67, 68, 69, 70, 71, 72, 73, 74, 75, 76, 77, 78] (cleanS σ))) (fun k => k ≤ args.length ∧ ∀ i, i < k → validE (args.getD i default) = true) (fun k => args.length - k) 0 (weak_self ?_) ⟨Nat.zero_le _, by omega⟩ ?_
                    · simp only [go_sem, Nat.reduceLT, ↓reduceIte, Nat.reduceLeDiff]
                      simp
                    · rintro k ⟨hk, hi⟩
                      refine aw_ok _ ?_
                      simp only [go_sem, ↓reduceIte]
                      refine ⟨fun hlt => ?_, fun hge => ?_⟩
                      · simp only [decide_eq_true_eq] at hlt
                        have hmem : args.getD k default ∈ args := by rw [getD_of_lt (by omega)]; exact List.getElem_mem (by omega)
                        have hn := nth_expr zE (show k < args.length by omega)
                        have ihk := ih _ hmem
                        have hall := @all_hit ExprR default validE args k (by omega)
                        have hup : validE (args.getD k default) = true → ∀ i, i < k + 1 → validE (args.getD i default) = true := fun h => upto hi h
                        rcases hx : args.getD k default with ⟨o2, m2, fr2, nu2, de2, pa2, te2, ar2⟩
                        rw [hx] at hn ihk hall hup
                        unfold awS
                        simp only [go_sem, ↓reduceIte, Nat.reduceAdd, Nat.reduceLeDiff, hn, ExprR.c, cs_eq]
                        refine ⟨⟨by omega, by omega⟩, _, ihk, ?_⟩
                        simp only [go_sem]
                        refine ⟨fun h2 => ?_, fun h2 => ?_⟩
                        · unfold awS
                          simp only [go_sem, ↓reduceIte]
                          rw [hall (nt h2)]
                        · unfold awS
                          simp only [go_sem, ↓reduceIte]
                          refine ⟨k + 1, weak_self ?_, ⟨by omega, hup (nf h2)⟩, by omega⟩
                          simp only [go_sem, Nat.reduceLT, ↓reduceIte, Nat.reduceLeDiff]
                          simp [wrap1 (show k < 9223372036854775807 by omega)]
                      · simp only [decide_eq_false_iff_not] at hge
                        unfold awS
                        simp only [go_sem, ↓reduceIte]
                        rw [all_done (d := default) (p := validE) (fun i h2 => hi i (by omega))]
              · unfold awS
                simp only [go_sem, ↓reduceIte]
                rw [ref_no]
                unfold opsOk
                rw [if_neg (by rw [h0]; exact Bool.false_ne_true), if_neg (by rw [h1]; exact Bool.false_ne_true), if_neg h23, if_neg (by rw [h4]; exact Bool.false_ne_true), if_neg (by rw [h5]; exact Bool.false_ne_true)]
theorem cRValidE (e : ExprR) (h : e.fit) : CPure Tryz.prog 16 [vexpr e] (vbool (validE e)) := cRValidE1 _ e (Nat.lt_succ_self _) h
end Go.Proofs.YtkppmlignfhdeaaGreat
