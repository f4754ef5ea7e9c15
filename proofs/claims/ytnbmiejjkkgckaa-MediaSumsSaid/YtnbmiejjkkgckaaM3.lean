/- Proved here: Contracts of the media package functions and of their reference, for use in the proofs of the given statements; conditions stand in each theorem. -/
import Derived.Test.YtnbmiejjkkgckaaProg
import Derived.Test.YtnbmiejjkkgckaaBase
namespace Go.Proofs.Ytnbmiejjkkgckaa
open Go.RowKit

def sumStep (h b : Int) : Int := IntKind.u64.wrap (bits BinOp.xor IntKind.u64 h b * 1099511628211)
def sumOf (xs : List Int) : Int := xs.foldl sumStep 14695981039346656037
theorem sumOf_snoc (xs : List Int) (k : Nat) (h : k < xs.length) : sumOf (xs.take (k+1)) = sumStep (sumOf (xs.take k)) xs[k] := by
  rw [List.take_succ_eq_append_getElem h]; unfold sumOf; rw [List.foldl_append]; rfl

set_option maxHeartbeats 1000000 in
theorem sum_ref (A : Option Addr) (n c : Nat) (xs : List Int) (w : World) (hn : n = xs.length) (hm : n ≤ maxLen) (hu : ∀ x ∈ xs, 0 ≤ x ∧ x ≤ 255)
   (hS : Sl1 (Value.int .u8) w A xs) :
    Calls Try.prog 10 #[.slice A n c] w fun e w' => e = .returned (.int .u64 (sumOf xs)) ∧ w = w' := by
  unfold maxLen at hm
  have HN := Lib.hid hn; clear hn
  have HS := Lib.hid hS; clear hS
  have HU := Lib.hid hu; clear hu
  go_enter Try.func10, Try.ntmps10
  go_wp2
  go_loop [3, 4] (fun h i => ∃ k : Nat, k ≤ n ∧ i = .int .i64 k ∧ h = .int .u64 (sumOf (xs.take k))) (fun _ i => n - (intOf i).toNat)
  case atStart => exact ⟨0, Nat.zero_le _, rfl, rfl⟩
  case round =>
    obtain ⟨k, hk, rfl, rfl⟩ := hrel
    by_cases hlt : k < n
    · have hlt' : k < xs.length := by rw [← HN.out]; exact hlt
      obtain ⟨b, off, rfl, h0⟩ := HS.out k xs[k] (by simp [hlt'])
      have hr := HU.out xs[k] (List.getElem_mem _)
      have hr1 := hr.1
      have hr2 := hr.2
      clear hr
      go_wp2
      go_round
      case rel => exact ⟨k + 1, by omega, by go_num, by rw [sumOf_snoc xs k hlt']; rfl⟩
      case measure => simp [intOf]; omega
    · go_wp2
      go_ret
      exact ⟨ret_int (by rw [List.take_of_length_le (by rw [← HN.out]; omega)]), rfl⟩

set_option maxHeartbeats 1000000 in
theorem sum_prog (A : Option Addr) (n c : Nat) (xs : List Int) (w : World) (hn : n = xs.length) (hm : n ≤ maxLen) (hu : ∀ x ∈ xs, 0 ≤ x ∧ x ≤ 255)
   (hS : Sl1 (Value.int .u8) w A xs) :
    Calls Try.prog 9 #[.slice A n c] w fun e w' => e = .returned (.int .u64 (sumOf xs)) ∧ w = w' := by
  unfold maxLen at hm
  have HN := Lib.hid hn; clear hn
  have HS := Lib.hid hS; clear hS
  have HU := Lib.hid hu; clear hu
  go_enter Try.func9, Try.ntmps9
  go_wp2
  go_loop [3, 8] (fun h i => ∃ k : Nat, k ≤ n ∧ i = .int .i64 k ∧ h = .int .u64 (sumOf (xs.take k))) (fun _ i => n - (intOf i).toNat)
  case atStart => exact ⟨0, Nat.zero_le _, rfl, rfl⟩
  case round =>
    obtain ⟨k, hk, rfl, rfl⟩ := hrel
    by_cases hlt : k < n
    · have hlt' : k < xs.length := by rw [← HN.out]; exact hlt
      obtain ⟨b, off, rfl, h0⟩ := HS.out k xs[k] (by simp [hlt'])
      have hr := HU.out xs[k] (List.getElem_mem _)
      have hr1 := hr.1
      have hr2 := hr.2
      clear hr
      go_wp2
      go_round
      case rel => exact ⟨k + 1, by omega, by go_num, by rw [sumOf_snoc xs k hlt']; rfl⟩
      case measure => simp [intOf]; omega
    · go_wp2
      go_ret
      exact ⟨ret_int (by rw [List.take_of_length_le (by rw [← HN.out]; omega)]), rfl⟩

/-! names -/
def nameI (c : Int) : Bool := decide (97 ≤ c ∧ c ≤ 122) || decide (48 ≤ c ∧ c ≤ 57) || decide (c = 45) || decide (c = 95) || decide (c = 46)
def nameAll (s : ByteArray) (k : Nat) : Bool := (List.range k).all fun j => nameI (s.data.toList.getD j 0).toNat
def validNm (s : ByteArray) : Bool := decide (1 ≤ s.size) && decide (s.size ≤ 32) && nameAll s s.size
theorem nameAll_succ (s : ByteArray) (k : Nat) : nameAll s (k+1) = (nameAll s k && nameI (s.data.toList.getD k 0).toNat) := by
  simp [nameAll, List.range_succ]
theorem nameAll_lt (s : ByteArray) : ∀ (k m : Nat), k ≤ m → nameAll s m = true → nameAll s k = true := by
  intro k m h h1
  simp only [nameAll, List.all_eq_true, List.mem_range] at *
  exact fun x hx => h1 x (by omega)
theorem byte_at (s : ByteArray) (k : Nat) (h : k < s.size) : s.data.toList.getD k 0 = s[k] := by
  have : k < s.data.toList.length := by simpa using h
  rw [List.getD_eq_getElem?_getD, List.getElem?_eq_getElem this]; rfl
theorem nameAll_stop (s : ByteArray) (k : Nat) (h : k < s.size) (hf : nameI (s.data.toList.getD k 0).toNat = false) : nameAll s s.size = false := by
  cases hc : nameAll s s.size with
  | false => rfl
  | true =>
    have := nameAll_lt s (k+1) s.size (by omega) hc
    rw [nameAll_succ, hf] at this
    simp at this

theorem nameI_true {c : Int} (h : (97 ≤ c ∧ c ≤ 122) ∨ (48 ≤ c ∧ c ≤ 57) ∨ c = 45 ∨ c = 95 ∨ c = 46) : nameI c = true := by
  simp only [nameI, Bool.or_eq_true, decide_eq_true_eq]; omega
theorem nameI_false {c : Int} (h : ¬ ((97 ≤ c ∧ c ≤ 122) ∨ (48 ≤ c ∧ c ≤ 57) ∨ c = 45 ∨ c = 95 ∨ c = 46)) : nameI c = false := by
  simp only [nameI, Bool.or_eq_false_iff, decide_eq_false_iff_not]; omega
theorem valid_stop (s : ByteArray) (k : Nat) (h : k < s.size) (hf : nameI s[k].toNat = false) : validNm s = false := by
  rw [← byte_at s k h] at hf
  simp [validNm, nameAll_stop s k h hf]
theorem valid_on (s : ByteArray) (k : Nat) (h : k < s.size) (ha : nameAll s k = true) (hf : nameI s[k].toNat = true) : nameAll s (k+1) = true := by
  rw [← byte_at s k h] at hf
  rw [nameAll_succ, ha, hf]; rfl
theorem ret_bool {a b : Bool} (h : a = b) : Ending.returned (.bool a) = .returned (.bool b) := by rw [h]

set_option maxHeartbeats 2000000 in
theorem validName_ref (s : ByteArray) (w : World) (hs : s.size ≤ maxLen) (r : Bool) (hr : validNm s = r) :
    Calls Try.prog 27 #[.string s] w fun e w' => e = .returned (.bool r) ∧ w = w' := by
  unfold maxLen at hs
  have HR := Lib.hid hr; clear hr
  go_enter Try.func27, Try.ntmps27
  go_wp2
  go_loop [3] (fun i => ∃ k : Nat, k ≤ s.size ∧ i = .int .i64 k ∧ Hid (nameAll s k = true)) (fun i => s.size - (intOf i).toNat)
  case atStart => exact ⟨0, Nat.zero_le _, rfl, rfl⟩
  case round =>
    obtain ⟨k, hk, rfl, HA⟩ := hrel
    by_cases hlt : k < s.size
    · go_wp2
      all_goals first
        | (go_ret
           exact ⟨ret_bool (by rw [← HR.out]; exact (valid_stop s k hlt (nameI_false (by simp only [bne_iff_ne, ne_eq] at *; omega))).symm), rfl⟩)
        | (go_round
           case rel => exact ⟨k + 1, by omega, by go_num, valid_on s k hlt HA.out (nameI_true (by simp only [bne_iff_ne, ne_eq, bne_eq_false_iff_eq] at *; omega))⟩
           case measure => simp [intOf]; omega)
    · have hke : k = s.size := by omega
      subst hke
      have HF := Lib.hid (show r = (decide (1 ≤ s.size) && decide (s.size ≤ 32)) by rw [← HR.out]; simp [validNm, HA.out])
      go_wp2
      all_goals
        go_ret
        exact ⟨ret_bool (by rw [HF.out, Bool.eq_iff_iff]; simp; omega), rfl⟩

set_option maxHeartbeats 2000000 in
theorem validName_prog (s : ByteArray) (w : World) (hs : s.size ≤ maxLen) (r : Bool) (hr : validNm s = r) :
    Calls Try.prog 25 #[.string s] w fun e w' => e = .returned (.bool r) ∧ w = w' := by
  unfold maxLen at hs
  have HR := Lib.hid hr; clear hr
  by_cases h1 : s.size < 1
  · have HF := Lib.hid (show false = r by rw [← HR.out]; simp [validNm]; omega)
    go_enter Try.func25, Try.ntmps25
    go_wp2
    go_ret
    exact ⟨ret_bool HF.out, rfl⟩
  by_cases h2 : 32 < s.size
  · have HF := Lib.hid (show false = r by rw [← HR.out]; simp [validNm]; omega)
    go_enter Try.func25, Try.ntmps25
    go_wp2
    go_ret
    exact ⟨ret_bool HF.out, rfl⟩
  have b1 : ((s.size : Int) < 1) = False := by simp; omega
  go_enter Try.func25, Try.ntmps25
  go_wp2
  go_loop [15] (fun i => ∃ k : Nat, k ≤ s.size ∧ i = .int .i64 k ∧ Hid (nameAll s k = true)) (fun i => s.size - (intOf i).toNat)
  case atStart => exact ⟨0, Nat.zero_le _, rfl, rfl⟩
  case round =>
    obtain ⟨k, hk, rfl, HA⟩ := hrel
    by_cases hlt : k < s.size
    · go_wp2
      all_goals first
        | (go_ret
           exact ⟨ret_bool (by rw [← HR.out]; exact (valid_stop s k hlt (nameI_false (by simp only [bne_iff_ne, ne_eq] at *; omega))).symm), rfl⟩)
        | (go_round
           case rel => exact ⟨k + 1, by omega, by go_num, valid_on s k hlt HA.out (nameI_true (by simp only [bne_iff_ne, ne_eq, bne_eq_false_iff_eq] at *; omega))⟩
           case measure => simp [intOf]; omega)
    · have hke : k = s.size := by omega
      subst hke
      have HF := Lib.hid (show true = r by rw [← HR.out]; simp [validNm, HA.out]; omega)
      go_wp2
      go_ret
      exact ⟨ret_bool HF.out, rfl⟩

/-- the empty string is no name -/
theorem validNm_empty : validNm ⟨#[]⟩ = false := rfl
def validPx (s : ByteArray) : Bool := s.toList.isEmpty || validNm s
theorem validProxy_prog (s : ByteArray) (w : World) (hs : s.size ≤ maxLen) (r : Bool) (hr : validPx s = r) :
    Calls Try.prog 26 #[.string s] w fun e w' => e = .returned (.bool r) ∧ w = w' := by
  cases he : s.toList.isEmpty with
  | true =>
    have HF := Lib.hid (show true = r by rw [← hr]; simp [validPx, he])
    clear hr
    have he' : s.toList = [] := by simpa using he
    go_enter Try.func26, Try.ntmps26
    go_wp2
    go_ret
    exact ⟨ret_bool HF.out, rfl⟩
  | false =>
    have hv : validNm s = r := by rw [← hr]; simp [validPx, he]
    have HV := Lib.hid hv
    clear hr hv
    go_enter Try.func26, Try.ntmps26
    go_wp2_with (go_at_call 25; refine (validName_prog _ _ hs r HV.out).mono ?_; rintro e w' ⟨rfl, rfl⟩)
    go_ret
    exact ⟨rfl, rfl⟩
end Go.Proofs.Ytnbmiejjkkgckaa
