/- Proved here: Plain laws of the simplified expression, for use in the proofs of the given statements; conditions stand in each theorem. -/
import Derived.Test.YtkppmlignfhdeaaY2
set_option linter.unusedSimpArgs false
set_option linter.unusedVariables false
set_option linter.unusedSectionVars false
set_option linter.unusedSimpArgs false
set_option linter.unusedVariables false
set_option linter.unnecessarySimpa false
namespace Go.Proofs.Ytkppmlignfhdeaa
open Go.RowKit
set_option maxRecDepth 4000
theorem noB_eq {s : ByteArray} (h : noB s = true) : s = ⟨#[]⟩ := by
  unfold noB at h
  exact bytes_inj (by simpa using h)
theorem fields_op0 {media : ByteArray} {frame num den param : Int} {text : ByteArray} {n : Int} (h : fieldsOk 0 media frame num den param text n = true) :
    media = ⟨#[]⟩ ∧ frame = 0 ∧ num = 0 ∧ den = 0 ∧ param = 0 ∧ text = ⟨#[]⟩ ∧ n = 0 := by
  unfold fieldsOk at h
  rw [if_pos (by rfl)] at h
  simp only [Bool.and_eq_true, beq_iff_eq] at h
  exact ⟨noB_eq h.1.1.1.1.1, h.1.1.1.1.2, h.1.1.1.2.1, h.1.1.1.2.2, h.1.1.2, noB_eq h.1.2, h.2⟩
theorem validE_parts {op : Int} {media : ByteArray} {frame num den param : Int} {text : ByteArray} {args : List ExprR} (h : validE (.mk op media frame num den param text args) = true) :
    fieldsOk op media frame num den param text args.length = true ∧ ∀ e ∈ args, validE e = true := by
  unfold validE at h
  rw [Bool.and_eq_true, validEs_eq, List.all_eq_true] at h
  exact h
theorem validE_mk {op : Int} {media : ByteArray} {frame num den param : Int} {text : ByteArray} {args : List ExprR} (h : fieldsOk op media frame num den param text args.length = true) (h2 : ∀ e ∈ args, validE e = true) :
    validE (.mk op media frame num den param text args) = true := by
  unfold validE
  rw [Bool.and_eq_true, validEs_eq, List.all_eq_true]
  exact ⟨h, h2⟩
theorem op_zero {e : ExprR} (hv : validE e = true) (h : opE e = 0) : e = zeroE := by
  obtain ⟨op, media, frame, num, den, param, text, args⟩ := e
  have hop : op = 0 := h
  subst hop
  obtain ⟨h1, h2, h3, h4, h5, h6, h7⟩ := fields_op0 (validE_parts hv).1
  have : args = [] := by cases args with
    | nil => rfl
    | cons _ _ => simp at h7; omega
  rw [h1, h2, h3, h4, h5, h6, this]
  rfl
mutual
def leastE : ExprR → Bool
  | .mk op _ _ _ _ _ _ args => !((args.length == 2 && eqE (args.getD 0 default) (args.getD 1 default)) || (op == 4 && opE (args.getD 0 default) == 0)) && leastEs args
def leastEs : List ExprR → Bool
  | [] => true
  | e :: es => leastE e && leastEs es
end
theorem validE_zero : validE zeroE = true := by simp [zeroE, validE, validEs, fieldsOk, noB]
theorem leastE_zero : leastE zeroE = true := by simp [zeroE, leastE, leastEs]
theorem simE_zero : simE zeroE = zeroE := by simp only [zeroE, simE, simEs]; rfl
theorem fields_op4 {media : ByteArray} {frame num den param : Int} {text : ByteArray} {n : Int} (h : fieldsOk 4 media frame num den param text n = true) : n = 2 := by
  unfold fieldsOk at h
  rw [if_neg (by decide), if_neg (by decide), if_neg (by decide), if_neg (by decide), if_pos (by decide)] at h
  simp only [Bool.and_eq_true, beq_iff_eq] at h
  exact h.2
theorem simE_good : ∀ (m : Nat) (e : ExprR), SizeOf.sizeOf e < m → validE e = true → validE (simE e) = true ∧ leastE (simE e) = true ∧ simE (simE e) = simE e
  | 0, _, h, _ => absurd h (Nat.not_lt_zero _)
  | m + 1, .mk op media frame num den param text args, hm, hv => by
    obtain ⟨h1, h2⟩ := validE_parts hv
    have hl := fields_len h1
    have ih : ∀ e ∈ args, validE (simE e) = true ∧ leastE (simE e) = true ∧ simE (simE e) = simE e := fun e he => simE_good m e (by have := arg_lt he op media frame num den param text; omega) (h2 e he)
    match args, hl, ih, h1 with
    | [], _, _, h1 =>
      have e1 : simE (.mk op media frame num den param text []) = .mk op media frame num den param text [] := by
        conv => lhs; unfold simE
        simp only [simEs]
        rfl
      rw [e1]
      refine ⟨validE_mk h1 (by simp), ?_, e1⟩
      have h4 : (op == 4) = false := by
        rw [Bool.eq_false_iff]
        intro h4
        rw [beq_iff_eq] at h4
        subst h4
        have := fields_op4 h1
        simp at this
      simp [leastE, leastEs, h4]
    | [a], _, ih, h1 =>
      obtain ⟨i1, i2, i3⟩ := ih a (by simp)
      rw [simE_one]
      refine ⟨validE_mk h1 (by simpa using i1), ?_, by rw [simE_one, i3]⟩
      have h4 : (op == 4) = false := by
        rw [Bool.eq_false_iff]
        intro h4
        rw [beq_iff_eq] at h4
        subst h4
        have := fields_op4 h1
        simp at this
      simp [leastE, leastEs, h4, i2]
    | [a, b], _, ih, h1 =>
      obtain ⟨i1, i2, i3⟩ := ih a (by simp)
      obtain ⟨j1, j2, j3⟩ := ih b (by simp)
      rw [simE_two, redE_two]
      split
      · exact ⟨i1, i2, i3⟩
      · rename_i hne
        split
        · split
          · exact ⟨j1, j2, j3⟩
          · exact ⟨validE_zero, leastE_zero, simE_zero⟩
        · rename_i hk
          refine ⟨validE_mk h1 (by simp [i1, j1]), ?_, ?_⟩
          · rw [Bool.not_eq_true] at hne hk
            simp [leastE, leastEs, i2, j2, hne, hk]
          · rw [simE_two, i3, j3, redE_two, if_neg hne, if_neg hk]
    | _ :: _ :: _ :: _, h, _, _ => simp at h
theorem simE_valid {e : ExprR} (h : validE e = true) : validE (simE e) = true := (simE_good _ e (Nat.lt_succ_self _) h).1
end Go.Proofs.Ytkppmlignfhdeaa
