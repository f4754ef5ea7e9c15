/- Proved here: Contracts of the media package functions and of their reference, for use in the proofs of the given statements; conditions stand in each theorem. -/
import Derived.Test.YtnbmiejjkkgckaaM3
namespace Go.Proofs.Ytnbmiejjkkgckaa
open Go.RowKit

structure EventR where
  kind : Int
  media : ByteArray
  file : ByteArray
  proxy : ByteArray
  sum : Int
  deriving Inhabited
def EventR.cells (e : EventR) : List Value := [.int .i64 e.kind, .string e.media, .string e.file, .string e.proxy, .int .u64 e.sum]
def emp (s : ByteArray) : Bool := s.toList.isEmpty
def validEv (e : EventR) : Bool :=
  if e.kind = 1 then validNm e.file && emp e.media && emp e.proxy
  else if e.kind = 2 then validNm e.file && emp e.media && emp e.proxy && (e.sum == 0)
  else if e.kind = 3 ∨ e.kind = 4 then validNm e.media && validNm e.file && emp e.proxy && (e.sum == 0)
  else if e.kind = 5 then validNm e.media && validPx e.proxy && emp e.file && (e.sum == 0)
  else false
theorem emp_not (s : ByteArray) (h : emp s = true) : validNm s = false := by
  have : s.size = 0 := by
    have h2 : s.toList = [] := by simpa [emp] using h
    rw [ByteArray.toList_eq] at h2
    have := congrArg List.length h2
    simpa using this
  simp [validNm, this]
theorem quiet_left {P : Program} {f : FuncId} {args : Array Value} {w : World} {n : Nat} {v : Value}
    (h : Calls P f args (w.drewN n) fun e w' => e = .returned v ∧ w.drewN n = w') : Calls P f args (w.drewN n) fun e w'' => e = .returned v ∧ ∃ m, w'' = w.drewN m :=
  h.mono fun _ _ ⟨he, hm⟩ => ⟨he, n, hm.symm⟩

set_option maxHeartbeats 4000000 in
theorem validEvent_prog (k : Int) (m f p : ByteArray) (q : Int) (w : World) (hm : m.size ≤ maxLen) (hf : f.size ≤ maxLen) (hp : p.size ≤ maxLen) (r : Bool) (hr : validEv ⟨k, m, f, p, q⟩ = r) :
    Calls Try.prog 33 #[.agg #[.int .i64 k, .string m, .string f, .string p, .int .u64 q]] w fun e w' => e = .returned (.bool r) ∧ Below w.heap.size w w' := by
  have HR := Lib.hid hr; clear hr
  obtain ⟨bm, hbm⟩ : ∃ b, validNm m = b := ⟨_, rfl⟩
  obtain ⟨bf, hbf⟩ : ∃ b, validNm f = b := ⟨_, rfl⟩
  obtain ⟨bp, hbp⟩ : ∃ b, validPx p = b := ⟨_, rfl⟩
  have HM := Lib.hid hbm; have HF := Lib.hid hbf; have HP := Lib.hid hbp
  clear hbm hbf hbp
  go_enter Try.func33, Try.ntmps33
  go_wp2_with fail
  go_quiet (first
    | (go_at_call_of 25 (Value.string m); refine quiet_left (validName_prog _ _ hm bm HM.out))
    | (go_at_call_of 25 (Value.string f); refine quiet_left (validName_prog _ _ hf bf HF.out))
    | (go_at_call_of 26 (Value.string p); refine quiet_left (validProxy_prog _ _ hp bp HP.out)))
  have hE : Hid (r = (if k = 1 then bf && emp m && emp p
  else if k = 2 then bf && emp m && emp p && (q == 0)
  else if k = 3 ∨ k = 4 then bm && bf && emp p && (q == 0)
  else if k = 5 then bm && bp && emp f && (q == 0)
  else false)) := by
    have h1 := HM.out; have h2 := HF.out; have h3 := HP.out
    unfold Hid; rw [← HR.out]; unfold validEv; simp only [h1, h2, h3]
  by_cases k1 : k = 1
  · subst k1
    go_wp2
    all_goals
      go_ret
      exact ⟨ret_bool (by rw [hE.out]; simp_all [emp]), (later_alloc _ _).drewN _⟩
  by_cases k2 : k = 2
  · subst k2
    go_wp2
    all_goals
      go_ret
      exact ⟨ret_bool (by rw [hE.out]; simp_all [emp]), (later_alloc _ _).drewN _⟩
  by_cases k3 : k = 3
  · subst k3
    go_wp2
    all_goals
      go_ret
      exact ⟨ret_bool (by rw [hE.out]; simp_all [emp]), (later_alloc _ _).drewN _⟩
  by_cases k4 : k = 4
  · subst k4
    go_wp2
    all_goals
      go_ret
      exact ⟨ret_bool (by rw [hE.out]; simp_all [emp]), (later_alloc _ _).drewN _⟩
  by_cases k5 : k = 5
  · subst k5
    go_wp2
    all_goals
      go_ret
      exact ⟨ret_bool (by rw [hE.out]; simp_all [emp]), (later_alloc _ _).drewN _⟩
  go_wp2
  go_ret
  exact ⟨ret_bool (by rw [hE.out]; simp_all), (later_alloc _ _).drewN _⟩

set_option maxHeartbeats 4000000 in
theorem event_ref (k : Int) (m f p : ByteArray) (q : Int) (w : World) (hm : m.size ≤ maxLen) (hf : f.size ≤ maxLen) (hp : p.size ≤ maxLen) (r : Bool) (hr : validEv ⟨k, m, f, p, q⟩ = r) :
    Calls Try.prog 37 #[.agg #[.int .i64 k, .string m, .string f, .string p, .int .u64 q]] w fun e w' => e = .returned (.bool r) ∧ Below w.heap.size w w' := by
  have HR := Lib.hid hr; clear hr
  obtain ⟨bm, hbm⟩ : ∃ b, validNm m = b := ⟨_, rfl⟩
  obtain ⟨bf, hbf⟩ : ∃ b, validNm f = b := ⟨_, rfl⟩
  obtain ⟨bp, hbp⟩ : ∃ b, validNm p = b := ⟨_, rfl⟩
  have HM := Lib.hid hbm; have HF := Lib.hid hbf; have HP := Lib.hid hbp
  clear hbm hbf hbp
  go_enter Try.func37, Try.ntmps37
  go_wp2_with fail
  go_quiet (fail)
  have hE : Hid (r = (if k = 1 then bf && emp m && emp p
  else if k = 2 then bf && emp m && emp p && (q == 0)
  else if k = 3 ∨ k = 4 then bm && bf && emp p && (q == 0)
  else if k = 5 then bm && (emp p || bp) && emp f && (q == 0)
  else false)) := by
    have h1 := HM.out; have h2 := HF.out; have h3 := HP.out
    unfold Hid; rw [← HR.out]; unfold validEv validPx; simp only [h1, h2, h3, emp]
  have nm := emp_not m
  have nf := emp_not f
  have np := emp_not p
  rw [HM.out] at nm
  rw [HF.out] at nf
  rw [HP.out] at np
  have NM := Lib.hid nm; have NF := Lib.hid nf; have NP := Lib.hid np
  clear nm nf np
  by_cases k1 : k = 1
  · subst k1
    go_wp2_with (first
      | (go_at_call_of 27 (Value.string m); refine (validName_ref _ _ hm bm HM.out).mono ?_; rintro e w' ⟨rfl, rfl⟩)
      | (go_at_call_of 27 (Value.string f); refine (validName_ref _ _ hf bf HF.out).mono ?_; rintro e w' ⟨rfl, rfl⟩)
      | (go_at_call_of 27 (Value.string p); refine (validName_ref _ _ hp bp HP.out).mono ?_; rintro e w' ⟨rfl, rfl⟩))
    all_goals
      go_ret
      have N1 := NM.out; have N2 := NF.out; have N3 := NP.out
      exact ⟨ret_bool (by rw [hE.out]; simp_all [emp]), (later_alloc _ _).drewN _⟩
  by_cases k2 : k = 2
  · subst k2
    go_wp2_with (first
      | (go_at_call_of 27 (Value.string m); refine (validName_ref _ _ hm bm HM.out).mono ?_; rintro e w' ⟨rfl, rfl⟩)
      | (go_at_call_of 27 (Value.string f); refine (validName_ref _ _ hf bf HF.out).mono ?_; rintro e w' ⟨rfl, rfl⟩)
      | (go_at_call_of 27 (Value.string p); refine (validName_ref _ _ hp bp HP.out).mono ?_; rintro e w' ⟨rfl, rfl⟩))
    all_goals
      go_ret
      have N1 := NM.out; have N2 := NF.out; have N3 := NP.out
      exact ⟨ret_bool (by rw [hE.out]; simp_all [emp]), (later_alloc _ _).drewN _⟩
  by_cases k3 : k = 3
  · subst k3
    go_wp2_with (first
      | (go_at_call_of 27 (Value.string m); refine (validName_ref _ _ hm bm HM.out).mono ?_; rintro e w' ⟨rfl, rfl⟩)
      | (go_at_call_of 27 (Value.string f); refine (validName_ref _ _ hf bf HF.out).mono ?_; rintro e w' ⟨rfl, rfl⟩)
      | (go_at_call_of 27 (Value.string p); refine (validName_ref _ _ hp bp HP.out).mono ?_; rintro e w' ⟨rfl, rfl⟩))
    all_goals
      go_ret
      have N1 := NM.out; have N2 := NF.out; have N3 := NP.out
      exact ⟨ret_bool (by rw [hE.out]; simp_all [emp]), (later_alloc _ _).drewN _⟩
  by_cases k4 : k = 4
  · subst k4
    go_wp2_with (first
      | (go_at_call_of 27 (Value.string m); refine (validName_ref _ _ hm bm HM.out).mono ?_; rintro e w' ⟨rfl, rfl⟩)
      | (go_at_call_of 27 (Value.string f); refine (validName_ref _ _ hf bf HF.out).mono ?_; rintro e w' ⟨rfl, rfl⟩)
      | (go_at_call_of 27 (Value.string p); refine (validName_ref _ _ hp bp HP.out).mono ?_; rintro e w' ⟨rfl, rfl⟩))
    all_goals
      go_ret
      have N1 := NM.out; have N2 := NF.out; have N3 := NP.out
      exact ⟨ret_bool (by rw [hE.out]; simp_all [emp]), (later_alloc _ _).drewN _⟩
  by_cases k5 : k = 5
  · subst k5
    go_wp2_with (first
      | (go_at_call_of 27 (Value.string m); refine (validName_ref _ _ hm bm HM.out).mono ?_; rintro e w' ⟨rfl, rfl⟩)
      | (go_at_call_of 27 (Value.string f); refine (validName_ref _ _ hf bf HF.out).mono ?_; rintro e w' ⟨rfl, rfl⟩)
      | (go_at_call_of 27 (Value.string p); refine (validName_ref _ _ hp bp HP.out).mono ?_; rintro e w' ⟨rfl, rfl⟩))
    all_goals
      go_ret
      have N1 := NM.out; have N2 := NF.out; have N3 := NP.out
      exact ⟨ret_bool (by rw [hE.out]; simp_all [emp]), (later_alloc _ _).drewN _⟩
  · go_wp2_with (first
      | (go_at_call_of 27 (Value.string m); refine (validName_ref _ _ hm bm HM.out).mono ?_; rintro e w' ⟨rfl, rfl⟩)
      | (go_at_call_of 27 (Value.string f); refine (validName_ref _ _ hf bf HF.out).mono ?_; rintro e w' ⟨rfl, rfl⟩)
      | (go_at_call_of 27 (Value.string p); refine (validName_ref _ _ hp bp HP.out).mono ?_; rintro e w' ⟨rfl, rfl⟩))
    all_goals
      go_ret
      have N1 := NM.out; have N2 := NF.out; have N3 := NP.out
      exact ⟨ret_bool (by rw [hE.out]; simp_all [emp]), (later_alloc _ _).drewN _⟩
end Go.Proofs.Ytnbmiejjkkgckaa
