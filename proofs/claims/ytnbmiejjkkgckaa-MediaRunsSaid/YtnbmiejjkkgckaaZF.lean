/- Proved here: Contracts of the two functions Valid, for use in the proofs of the given statements; conditions stand in each theorem. -/
import Derived.Test.YtnbmiejjkkgckaaZD
import Derived.Test.YtnbmiejjkkgckaaZB
import Derived.Test.YtnbmiejjkkgckaaZC
set_option linter.unusedSimpArgs false
set_option linter.unusedVariables false
namespace Go.Proofs.Ytnbmiejjkkgckaa
open Go.RowKit

def allR (p : Nat → Bool) (n : Nat) : Bool := (List.range n).all p
theorem allR_succ (p : Nat → Bool) (k : Nat) : allR p (k+1) = (allR p k && p k) := by simp [allR, List.range_succ]
theorem allR_on {p : Nat → Bool} {k : Nat} (h : allR p k = true) (hp : p k = true) : allR p (k+1) = true := by rw [allR_succ, h, hp]; rfl
theorem allR_stop {p : Nat → Bool} {k n : Nat} (h : k < n) (hp : p k = false) : allR p n = false := by
  cases hc : allR p n with
  | false => rfl
  | true =>
    simp only [allR, List.all_eq_true, List.mem_range] at hc
    rw [hc k h] at hp; cases hp
def okF (fs : List FileR) (i : Nat) : Bool := validNm (fs.getD i default).name && (fidx fs (fs.getD i default).name == (i : Int))
def okL (ls : List LinkR) (i : Nat) : Bool :=
  validNm (ls.getD i default).media && validNm (ls.getD i default).file && (lidx ls (ls.getD i default).media == (i : Int)) &&
  (emp (ls.getD i default).proxy || (validNm (ls.getD i default).proxy && !((ls.getD i default).proxy.toList == (ls.getD i default).media.toList)))
def validSt (fs : List FileR) (ls : List LinkR) : Bool := allR (okF fs) fs.length && allR (okL ls) ls.length && decide (fs.length ≤ 32) && decide (ls.length ≤ 16)
theorem okF_at {fs : List FileR} {k : Nat} (h : k < fs.length) : okF fs k = (validNm fs[k].name && (fidx fs fs[k].name == (k : Int))) := by
  simp [okF, List.getD_eq_getElem?_getD, h]
theorem okL_at {ls : List LinkR} {k : Nat} (h : k < ls.length) : okL ls k = (validNm ls[k].media && validNm ls[k].file && (lidx ls ls[k].media == (k : Int)) &&
  (emp ls[k].proxy || (validNm ls[k].proxy && !(ls[k].proxy.toList == ls[k].media.toList)))) := by
  simp [okL, List.getD_eq_getElem?_getD, h]
def FileR.fits (f : FileR) : Prop := f.name.size ≤ maxLen
def LinkR.fits (l : LinkR) : Prop := l.media.size ≤ maxLen ∧ l.file.size ≤ maxLen ∧ l.proxy.size ≤ maxLen
theorem quiet_same {P : Program} {f : FuncId} {args : Array Value} {w : World} {x : Later w} {v : Value}
    (h : Calls P f args x.w' fun e w' => e = .returned v ∧ x.w' = w') : Calls P f args x.w' fun e w'' => e = .returned v ∧ ∃ y : Later w, w'' = y.w' :=
  h.mono fun _ _ ⟨he, hb⟩ => ⟨he, ⟨x, hb.symm⟩⟩

set_option maxRecDepth 100000 in
set_option maxHeartbeats 4000000 in
theorem valid_ref (A D : Option Addr) (n c m d : Nat) (fs : List FileR) (ls : List LinkR) (w : World) (hn : n = fs.length) (hm : m = ls.length) (hnm : n ≤ maxLen) (hmm : m ≤ maxLen)
   (hF : Sl FileR.cells 3 w A fs) (hL : Sl LinkR.cells 4 w D ls) (hff : ∀ f ∈ fs, f.fits) (hlf : ∀ l ∈ ls, l.fits) (r : Bool) (hr : validSt fs ls = r) :
    Calls Try.prog 14 #[.agg #[.slice A n c, .slice D m d]] w fun e w' => e = .returned (.bool r) ∧ Below w.heap.size w w' := by
  have HN := Lib.hid hn; clear hn
  have HM := Lib.hid hm; clear hm
  have HF := Lib.hid hF; clear hF
  have HL := Lib.hid hL; clear hL
  have HR := Lib.hid hr; clear hr
  have HFF := Lib.hid hff; clear hff
  have HLF := Lib.hid hlf; clear hlf
  unfold maxLen at hnm hmm
  go_enter Try.func14, Try.ntmps14
  go_wp2
  go_loopw [3] (fun i wr => Below (w.heap.size + 1) (w.alloc (.cells #[.slice A n c, .slice D m d] 30)) wr ∧ ∃ k : Nat, k ≤ n ∧ i = .int .i64 k ∧ Hid (allR (okF fs) k = true)) (fun i _ => n - (intOf i).toNat)
  case atStart => exact ⟨Below.refl _ _, 0, Nat.zero_le _, rfl, rfl⟩
  case round =>
    obtain ⟨hbl, k, hk, rfl, HA⟩ := hrel
    have hbw : Below w.heap.size w wr := (later_alloc _ _).trans (hbl.mono (by omega))
    have hc0 := hbl.cell (p := ⟨w.heap.size, 0, none⟩) (by simp)
    have hc1 := hbl.cell (p := ⟨w.heap.size, 1, none⟩) (by simp)
    simp [go_sem] at hc0 hc1
    by_cases hlt : k < n
    · have hlt' : k < fs.length := by rw [← HN.out]; exact hlt
      obtain ⟨b, off, rfl, hc⟩ := (HF.out.later hbw) k fs[k] (by simp [hlt'])
      have h0 := hc 0 _ rfl
      simp only [Nat.add_zero] at h0
      clear hc
      have hfit := HFF.out fs[k] (List.getElem_mem _)
      unfold FileR.fits at hfit
      go_wp2
      have x0 := cell_later' hc0
      have x1 := cell_later' hc1
      have y0 := cell_later' h0
      cases hv : validNm fs[k].name with
      | false =>
        have HV := Lib.hid hv; clear hv
        refine wp_region_later (by kernel_rfl) (by kernel_rfl) ?_
        repeat (go_big_quiet_step ((go_at_call 27; refine quiet_same (validName_ref _ _ hfit false HV.out))))
        refine wpQuiet_nil ?_
        intro w2 hw'
        have hb2 := later_out hw'
        clear hw' x0 x1 y0
        go_wp2
        go_ret
        exact ⟨ret_bool (by rw [← HR.out]; simp [validSt, allR_stop (p := okF fs) hlt' (by rw [okF_at hlt', HV.out]; rfl)]), hbw.trans (hb2.mono hbw.size)⟩
      | true =>
        have HV := Lib.hid hv; clear hv
        refine wp_region_later (by kernel_rfl) (by kernel_rfl) ?_
        repeat (go_big_quiet_step (first
          | (go_at_call 27; refine quiet_same (validName_ref _ _ hfit true HV.out))
          | (go_at_call 28; refine calls_later (file_ref _ _ _ _ fs _ _ HN.out (by unfold maxLen; omega) ((HF.out.later hbw).later (Later.h _))))))
        refine wpQuiet_nil ?_
        intro w2 hw'
        have hb2 := later_out hw'
        clear hw' x0 x1 y0
        cases hq : (fidx fs fs[k].name != (k : Int)) with
        | true =>
          go_wp2
          go_ret
          exact ⟨ret_bool (by rw [← HR.out]; simp [validSt, allR_stop (p := okF fs) hlt' (by rw [okF_at hlt', HV.out]; simpa using hq)]), hbw.trans (hb2.mono hbw.size)⟩
        | false =>
          have HQ := Lib.hid hq
          go_wp2
          go_roundw
          case rel => exact ⟨hbl.trans (hb2.mono (by have := hbl.size; simp at this; omega)), k + 1, by omega, by go_num, allR_on HA.out (by rw [okF_at hlt', HV.out]; simpa using HQ.out)⟩
          case measure => simp [intOf]; omega
    · have hke : k = n := by omega
      subst hke
      have HA1 := Lib.hid (show allR (okF fs) fs.length = true by rw [← HN.out]; exact HA.out)
      clear HA hlt
      obtain ⟨w0, hw0⟩ : ∃ w0, w0 = wr := ⟨_, rfl⟩
      rw [← hw0] at hbl hbw hc0 hc1 ⊢
      clear hw0
      go_wp2
      go_loopw [4] (fun i wr => Below w0.heap.size w0 wr ∧ ∃ q : Nat, q ≤ m ∧ i = .int .i64 q ∧ Hid (allR (okL ls) q = true)) (fun i _ => m - (intOf i).toNat)
      case atStart => exact ⟨Below.refl _ _, 0, Nat.zero_le _, rfl, rfl⟩
      case round =>
        obtain ⟨hb2, q, hq, rfl, HB⟩ := hrel
        have hd0 := (hb2.cell (cell_lt hc0)).trans hc0
        have hd1 := (hb2.cell (cell_lt hc1)).trans hc1
        have hbw2 : Below w.heap.size w wr := hbw.trans (hb2.mono hbw.size)
        by_cases hlt : q < m
        · have hlt' : q < ls.length := by rw [← HM.out]; exact hlt
          obtain ⟨b, off, rfl, hc⟩ := (HL.out.later hbw2) q ls[q] (by simp [hlt'])
          have l0 := hc 0 _ rfl
          have l1 := hc 1 _ rfl
          have l2 := hc 2 _ rfl
          have l3 := hc 3 _ rfl
          have hbb := cell_lt l0
          simp only [Nat.add_zero] at l0 hbb
          clear hc
          obtain ⟨fm, ff, fp⟩ := HLF.out ls[q] (List.getElem_mem _)
          have hszw : w.heap.size < wr.heap.size := cell_lt hd0
          have hal := later_alloc wr (.cells #[.string ls[q].media, .string ls[q].file, .int .u64 ls[q].sum, .string ls[q].proxy] 39)
          have HSL := Lib.hid ((HL.out.later hbw2).later hal)
          have HBW := Lib.hid (hbw2.trans (hal.mono hbw2.size))
          have HB0 := Lib.hid (hb2.trans (hal.mono hb2.size))
          clear hal
          clear hc0 hc1 hbl hbw
          cases hv : validNm ls[q].media with
          | false =>
            have HV := Lib.hid hv; clear hv
            go_wp2_with fail
            refine (validName_ref _ _ fm false HV.out).mono ?_
            rintro e w' ⟨rfl, rfl⟩
            go_wp2
            go_ret
            exact ⟨ret_bool (by rw [← HR.out]; simp [validSt, allR_stop (p := okL ls) hlt' (by rw [okL_at hlt']; simp [HV.out])]), HBW.out⟩
          | true =>
          have HV := Lib.hid hv; clear hv
          cases hf : validNm ls[q].file with
          | false =>
            have HFv := Lib.hid hf; clear hf
            go_wp2_with fail
            refine (validName_ref _ _ fm true HV.out).mono ?_
            rintro e w' ⟨rfl, rfl⟩
            go_wp2_with fail
            refine (validName_ref _ _ ff false HFv.out).mono ?_
            rintro e w' ⟨rfl, rfl⟩
            go_wp2
            go_ret
            exact ⟨ret_bool (by rw [← HR.out]; simp [validSt, allR_stop (p := okL ls) hlt' (by rw [okL_at hlt']; simp [HFv.out])]), HBW.out⟩
          | true =>
          have HFv := Lib.hid hf; clear hf
          go_wp2_with fail
          refine (validName_ref _ _ fm true HV.out).mono ?_
          rintro e w' ⟨rfl, rfl⟩
          go_wp2_with fail
          refine (validName_ref _ _ ff true HFv.out).mono ?_
          rintro e w' ⟨rfl, rfl⟩
          go_wp2_with fail
          refine (link_ref _ _ _ _ ls _ _ HM.out (by unfold maxLen; omega) HSL.out).mono ?_
          rintro e w9 ⟨rfl, hb9⟩
          have hx0 := hb9.cell (p := ⟨wr.heap.size, 0, none⟩) (by simp)
          have hx3 := hb9.cell (p := ⟨wr.heap.size, 3, none⟩) (by simp)
          simp [go_sem] at hx0 hx3
          have HBW9 := Lib.hid (HBW.out.trans (hb9.mono HBW.out.size))
          have HB9 := Lib.hid (HB0.out.trans (hb9.mono HB0.out.size))
          clear hb9
          cases hli : (lidx ls ls[q].media != (q : Int)) with
          | true =>
            have HLi := Lib.hid hli
            go_wp2
            go_ret
            exact ⟨ret_bool (by rw [← HR.out]; simp [validSt, allR_stop (p := okL ls) hlt' (by rw [okL_at hlt']; simp [show (lidx ls ls[q].media == (q : Int)) = false by simpa using HLi.out])]), HBW9.out⟩
          | false =>
          have HLi := Lib.hid (show (lidx ls ls[q].media == (q : Int)) = true by simpa using hli)
          cases hp : emp ls[q].proxy with
          | true =>
            have hp' : ls[q].proxy.toList = [] := by simpa [emp] using hp
            have HPp := Lib.hid hp; clear hp
            go_wp2
            go_roundw
            case rel => exact ⟨HB9.out, q + 1, by omega, by go_num, allR_on HB.out (by rw [okL_at hlt', HV.out, HFv.out, HLi.out, HPp.out]; rfl)⟩
            case measure => simp [intOf]; omega
          | false =>
          have HPp := Lib.hid hp
          have hpn : ¬ ls[q].proxy.toList = [] := by simpa [emp] using hp
          have hpe : ls[q].proxy.toList.isEmpty = false := hp
          clear hp
          cases hpv : validNm ls[q].proxy with
          | false =>
            have HPv := Lib.hid hpv; clear hpv
            go_wp2_with fail
            refine (validName_ref _ _ fp false HPv.out).mono ?_
            rintro e w' ⟨rfl, rfl⟩
            go_wp2
            go_ret
            exact ⟨ret_bool (by rw [← HR.out]; simp [validSt, allR_stop (p := okL ls) hlt' (by rw [okL_at hlt']; simp [HPp.out, HPv.out])]), HBW9.out⟩
          | true =>
          have HPv := Lib.hid hpv; clear hpv
          go_wp2_with fail
          refine (validName_ref _ _ fp true HPv.out).mono ?_
          rintro e w' ⟨rfl, rfl⟩
          clear hpn hpe
          cases heq : (ls[q].proxy.toList == ls[q].media.toList) with
          | true =>
            have HE := Lib.hid heq
            go_wp2
            go_ret
            exact ⟨ret_bool (by rw [← HR.out]; simp [validSt, allR_stop (p := okL ls) hlt' (by rw [okL_at hlt']; simp [HPp.out, HE.out])]), HBW9.out⟩
          | false =>
            have HE := Lib.hid heq
            go_wp2
            go_roundw
            case rel => exact ⟨HB9.out, q + 1, by omega, by go_num, allR_on HB.out (by rw [okL_at hlt', HV.out, HFv.out, HLi.out, HPp.out, HPv.out, HE.out]; rfl)⟩
            case measure => simp [intOf]; omega
        · have hqe : q = m := by omega
          subst hqe
          have HF2 := Lib.hid (show r = (decide (k ≤ 32) && decide (q ≤ 16)) by
            rw [← HR.out, HN.out, HM.out]; simp only [validSt, HA1.out]
            rw [← HM.out, HB.out]; simp)
          go_wp2
          all_goals
            go_ret
            exact ⟨ret_bool (by rw [HF2.out, Bool.eq_iff_iff]; simp; omega), hbw2⟩
end Go.Proofs.Ytnbmiejjkkgckaa
/- Proved here: Contracts of the two functions Valid, for use in the proofs of the given statements; conditions stand in each theorem. -/
namespace Go.Proofs.Ytnbmiejjkkgckaa
open Go.RowKit

theorem idxFrom_take {α : Type} (p : α → Bool) : ∀ (l : List α) (k i : Nat) (h : k < l.length), p l[k] = true → (idxFrom p l i = (i + k : Nat) ↔ (l.take k).any p = false)
  | x :: r, 0, i, h, hp => by
    have : p x = true := hp
    simp [idxFrom, this]
  | x :: r, k + 1, i, h, hp => by
    by_cases hx : p x = true
    · simp [idxFrom, hx]; omega
    · have ih := idxFrom_take p r k (i + 1) (by simpa using h) hp
      have e : i + 1 + k = i + (k + 1) := by omega
      rw [e] at ih
      simp only [idxFrom, hx, List.take_succ_cons, List.any_cons]
      simpa using ih
theorem ba_toList (a b : ByteArray) : (a == b) = (b.toList == a.toList) := by
  rw [Bool.eq_iff_iff, ba_eq]
  constructor
  · rintro rfl; simp
  · intro h; exact (eq_of_toList h).symm
theorem findS_names {α : Type} (f : α → ByteArray) (v : Value) (s : ByteArray) : ∀ (l : List α), findS (l.map fun x => (f x, v)) s = if l.any (fun x => (f x).toList == s.toList) then some v else none
  | [] => rfl
  | x :: r => by
    have ih := findS_names f v s r
    unfold findS at *
    rw [List.map_cons, List.find?_cons]
    cases hx : ((f x).toList == s.toList) with
    | true => rw [ba_toList, hx]; simp [hx]
    | false => rw [ba_toList, hx]; simp only [List.any_cons, hx, Bool.false_or]; exact ih
def setF (fs : List FileR) (k : Nat) : List (ByteArray × Value) := (fs.take k).map fun f => (f.name, .bool true)
def setL (ls : List LinkR) (k : Nat) : List (ByteArray × Value) := (ls.take k).map fun f => (f.media, .bool true)
theorem setF_succ {fs : List FileR} {k : Nat} (h : k < fs.length) : setF fs (k + 1) = setF fs k ++ [(fs[k].name, .bool true)] := by
  unfold setF; rw [List.take_succ_eq_append_getElem h, List.map_append]; rfl
theorem setL_succ {fs : List LinkR} {k : Nat} (h : k < fs.length) : setL fs (k + 1) = setL fs k ++ [(fs[k].media, .bool true)] := by
  unfold setL; rw [List.take_succ_eq_append_getElem h, List.map_append]; rfl
theorem setF_new {fs : List FileR} {k : Nat} (h : k < fs.length) (b : Bool) (hb : (fidx fs fs[k].name != (k : Int)) = b) : findS (setF fs k) fs[k].name = if b then some (.bool true) else none := by
  unfold setF
  rw [findS_names]
  have h1 := idxFrom_take (fun f : FileR => f.name.toList == fs[k].name.toList) fs k 0 h (by simp)
  have h2 : fidx fs fs[k].name = (k : Int) ↔ (fs.take k).any (fun f : FileR => f.name.toList == fs[k].name.toList) = false := by
    rw [← h1]; unfold fidx idx; rw [Nat.zero_add]
  subst hb
  cases hc : (fs.take k).any (fun f : FileR => f.name.toList == fs[k].name.toList) with
  | false => rw [h2.2 hc]; simp
  | true =>
    have : ¬ fidx fs fs[k].name = (k : Int) := fun e => by rw [h2.1 e] at hc; cases hc
    simp [this]
theorem setL_new {fs : List LinkR} {k : Nat} (h : k < fs.length) (b : Bool) (hb : (lidx fs fs[k].media != (k : Int)) = b) : findS (setL fs k) fs[k].media = if b then some (.bool true) else none := by
  unfold setL
  rw [findS_names]
  have h1 := idxFrom_take (fun f : LinkR => f.media.toList == fs[k].media.toList) fs k 0 h (by simp)
  have h2 : lidx fs fs[k].media = (k : Int) ↔ (fs.take k).any (fun f : LinkR => f.media.toList == fs[k].media.toList) = false := by
    rw [← h1]; unfold lidx idx; rw [Nat.zero_add]
  subst hb
  cases hc : (fs.take k).any (fun f : LinkR => f.media.toList == fs[k].media.toList) with
  | false => rw [h2.2 hc]; simp
  | true =>
    have : ¬ lidx fs fs[k].media = (k : Int) := fun e => by rw [h2.1 e] at hc; cases hc
    simp [this]
theorem px_false {s : ByteArray} (h : validPx s = false) : emp s = false ∧ validNm s = false := by
  simp only [validPx, Bool.or_eq_false_iff] at h
  exact h
theorem px_eq {s m : ByteArray} (h : (s.toList == m.toList) = true) (hm : validNm m = true) : emp s = false := by
  have := eq_of_toList h
  subst this
  cases he : emp s with
  | false => rfl
  | true => rw [emp_not s he] at hm; cases hm
theorem zero4 (w : World) : (zeroValue 4).run Try.prog w = .ok (.bool false) w := by kernel_rfl

set_option maxRecDepth 100000 in
set_option maxHeartbeats 4000000 in
theorem valid_prog (A D : Option Addr) (n c m d : Nat) (fs : List FileR) (ls : List LinkR) (w : World) (hn : n = fs.length) (hm : m = ls.length) (hnm : n ≤ maxLen) (hmm : m ≤ maxLen)
   (hF : Sl FileR.cells 3 w A fs) (hL : Sl LinkR.cells 4 w D ls) (hff : ∀ f ∈ fs, f.fits) (hlf : ∀ l ∈ ls, l.fits) (r : Bool) (hr : validSt fs ls = r) :
    Calls Try.prog 13 #[.agg #[.slice A n c, .slice D m d]] w fun e w' => e = .returned (.bool r) ∧ Below w.heap.size w w' := by
  unfold maxLen at hnm hmm
  by_cases h32 : 32 < n
  · have HF := Lib.hid (show false = r by rw [← hr]; simp [validSt]; omega)
    clear hn hm hF hL hff hlf hr
    go_enter Try.func13, Try.ntmps13
    go_wp2
    go_ret
    exact ⟨ret_bool HF.out, later_alloc _ _⟩
  by_cases h16 : 16 < m
  · have HF := Lib.hid (show false = r by rw [← hr]; simp [validSt]; omega)
    clear hn hm hF hL hff hlf hr
    go_enter Try.func13, Try.ntmps13
    go_wp2
    go_ret
    exact ⟨ret_bool HF.out, later_alloc _ _⟩
  have HN := Lib.hid hn; clear hn
  have HM := Lib.hid hm; clear hm
  have HF := Lib.hid hF; clear hF
  have HL := Lib.hid hL; clear hL
  have HR := Lib.hid hr; clear hr
  have HFF := Lib.hid hff; clear hff
  have HLF := Lib.hid hlf; clear hlf
  have hmk := @run_makeMap Try.prog
  go_enter Try.func13, Try.ntmps13
  go_wp2
  go_loopw [23] (fun i wr => Below (w.heap.size + 1) ((w.alloc (.cells #[.slice A n c, .slice D m d] 30)).alloc (.map #[] 0)) wr ∧ ∃ k : Nat, k ≤ n ∧ i = .int .i64 k ∧ Hid (allR (okF fs) k = true) ∧ Hid (MapS wr (w.heap.size + 1) (setF fs k))) (fun i _ => n - (intOf i).toNat)
  case atStart => exact ⟨Below.refl _ _, 0, Nat.zero_le _, rfl, rfl, by have := MapS.new (w.alloc (.cells #[.slice A n c, .slice D m d] 30)); simpa [Hid, setF] using this⟩
  case round =>
    obtain ⟨hbl, k, hk, rfl, HA, HMp⟩ := hrel
    have hbw : Below w.heap.size w wr := ((later_alloc _ _).alloc (by simp) _).trans (hbl.mono (by omega))
    have hc0 := hbl.cell (p := ⟨w.heap.size, 0, none⟩) (by simp)
    have hc1 := hbl.cell (p := ⟨w.heap.size, 1, none⟩) (by simp)
    simp [go_sem] at hc0 hc1
    have hsz := hbl.size
    simp at hsz
    have hml := HMp.out.lt
    by_cases hlt : k < n
    · have hlt' : k < fs.length := by rw [← HN.out]; exact hlt
      obtain ⟨b, off, rfl, hc⟩ := (HF.out.later hbw) k fs[k] (by simp [hlt'])
      have h0 := hc 0 _ rfl
      have h1 := hc 1 _ rfl
      have h2 := hc 2 _ rfl
      have hbb := cell_lt h0
      simp only [Nat.add_zero] at h0 hbb
      clear hc
      have hfit := HFF.out fs[k] (List.getElem_mem _)
      unfold FileR.fits at hfit
      have hal := later_alloc wr (.cells #[.string fs[k].name, .int .u64 fs[k].sum, .bool fs[k].present] 37)
      have HMa := Lib.hid (HMp.out.later hal hml)
      have HBW := Lib.hid (hbw.trans (hal.mono hbw.size))
      have HBL := Lib.hid (hbl.trans (hal.mono (by omega)))
      clear hal hbl hbw
      cases hv : validNm fs[k].name with
      | false =>
        have HV := Lib.hid hv; clear hv
        go_wp2_with fail
        refine (validName_prog _ _ hfit false HV.out).mono ?_
        rintro e w' ⟨rfl, rfl⟩
        go_wp2
        go_ret
        exact ⟨ret_bool (by rw [← HR.out]; simp [validSt, allR_stop (p := okF fs) hlt' (by rw [okF_at hlt', HV.out]; rfl)]), HBW.out⟩
      | true =>
        have HV := Lib.hid hv; clear hv
        cases hq : (fidx fs fs[k].name != (k : Int)) with
        | true =>
          have HQ := Lib.hid hq
          have hlk := run_lookupS (P := Try.prog) (t := 66) (k := 9) (e := 4) Try.underlying66 Try.underlying9 (zero4 _) HMa.out fs[k].name
          rw [setF_new hlt' true hq] at hlk
          simp only [if_true, Option.getD_some] at hlk
          clear hq
          go_wp2_with fail
          refine (validName_prog _ _ hfit true HV.out).mono ?_
          rintro e w' ⟨rfl, rfl⟩
          go_wp2
          go_ret
          exact ⟨ret_bool (by rw [← HR.out]; simp [validSt, allR_stop (p := okF fs) hlt' (by rw [okF_at hlt', HV.out]; simpa using HQ.out)]), HBW.out⟩
        | false =>
          have HQ := Lib.hid hq
          have hfn := setF_new hlt' false hq
          have hlk := run_lookupS (P := Try.prog) (t := 66) (k := 9) (e := 4) Try.underlying66 Try.underlying9 (zero4 _) HMa.out fs[k].name
          rw [hfn] at hlk
          simp only [Bool.false_eq_true, if_false, Option.getD_none] at hlk
          obtain ⟨w5, hup, hM5, hg5⟩ := run_updateS (P := Try.prog) (t := 66) (k := 9) (e := 4) Try.underlying66 Try.underlying9 HMa.out fs[k].name (.bool true) (by simpa using hfn)
          rw [← setF_succ hlt'] at hM5
          have HM5 := Lib.hid hM5
          have HB5 := Lib.hid (HBL.out.grown hg5 (by simp; omega) (by simp))
          clear hq hfn hM5 hg5
          go_wp2_with fail
          refine (validName_prog _ _ hfit true HV.out).mono ?_
          rintro e w' ⟨rfl, rfl⟩
          go_wp2
          go_roundw
          case rel => exact ⟨HB5.out, k + 1, by omega, by go_num, allR_on HA.out (by rw [okF_at hlt', HV.out]; simpa using HQ.out), HM5.out⟩
          case measure => simp [intOf]; omega
    · have hke : k = n := by omega
      subst hke
      have HA1 := Lib.hid (show allR (okF fs) fs.length = true by rw [← HN.out]; exact HA.out)
      clear HA hlt
      obtain ⟨w0, hw0⟩ : ∃ w0, w0 = wr := ⟨_, rfl⟩
      rw [← hw0] at hbl hbw hc0 hc1 hsz ⊢
      clear hw0 HMp hml
      have hlt0 := cell_lt hc0
      go_wp2
      go_loopw [45] (fun i wr => Below w0.heap.size (w0.alloc (.map #[] 0)) wr ∧ ∃ q : Nat, q ≤ m ∧ i = .int .i64 q ∧ Hid (allR (okL ls) q = true) ∧ Hid (MapS wr w0.heap.size (setL ls q))) (fun i _ => m - (intOf i).toNat)
      case atStart => exact ⟨Below.refl _ _, 0, Nat.zero_le _, rfl, rfl, by have := MapS.new w0; simpa [Hid, setL] using this⟩
      case round =>
        obtain ⟨hb2, q, hq, rfl, HB, HMp⟩ := hrel
        have hb2' : Below w0.heap.size w0 wr := (later_alloc _ _).trans hb2
        have hd0 := (hb2'.cell (cell_lt hc0)).trans hc0
        have hd1 := (hb2'.cell (cell_lt hc1)).trans hc1
        have hbw2 : Below w.heap.size w wr := hbw.trans (hb2'.mono hbw.size)
        have hml := HMp.out.lt
        have hszw : w.heap.size < wr.heap.size := cell_lt hd0
        by_cases hlt : q < m
        · have hlt' : q < ls.length := by rw [← HM.out]; exact hlt
          obtain ⟨b, off, rfl, hc⟩ := (HL.out.later hbw2) q ls[q] (by simp [hlt'])
          have l0 := hc 0 _ rfl
          have l1 := hc 1 _ rfl
          have l2 := hc 2 _ rfl
          have l3 := hc 3 _ rfl
          have hbb := cell_lt l0
          simp only [Nat.add_zero] at l0 hbb
          clear hc
          obtain ⟨fm, ff, fp⟩ := HLF.out ls[q] (List.getElem_mem _)
          have hal := later_alloc wr (.cells #[.string ls[q].media, .string ls[q].file, .int .u64 ls[q].sum, .string ls[q].proxy] 39)
          have HMa := Lib.hid (HMp.out.later hal hml)
          have HBW := Lib.hid (hbw2.trans (hal.mono hbw2.size))
          have HBL := Lib.hid (hb2.trans (hal.mono (by omega)))
          clear hal hc0 hc1 hbl hbw hb2 hb2' hbw2
          cases hv : validNm ls[q].media with
          | false =>
            have HV := Lib.hid hv; clear hv
            go_wp2_with fail
            refine (validName_prog _ _ fm false HV.out).mono ?_
            rintro e w' ⟨rfl, rfl⟩
            go_wp2
            go_ret
            exact ⟨ret_bool (by rw [← HR.out]; simp [validSt, allR_stop (p := okL ls) hlt' (by rw [okL_at hlt']; simp [HV.out])]), HBW.out⟩
          | true =>
          have HV := Lib.hid hv; clear hv
          cases hq : (lidx ls ls[q].media != (q : Int)) with
          | true =>
            have HQ := Lib.hid hq
            have hlk := run_lookupS (P := Try.prog) (t := 66) (k := 9) (e := 4) Try.underlying66 Try.underlying9 (zero4 _) HMa.out ls[q].media
            rw [setL_new hlt' true hq] at hlk
            simp only [if_true, Option.getD_some] at hlk
            clear hq
            go_wp2_with fail
            refine (validName_prog _ _ fm true HV.out).mono ?_
            rintro e w' ⟨rfl, rfl⟩
            go_wp2
            go_ret
            exact ⟨ret_bool (by rw [← HR.out]; simp [validSt, allR_stop (p := okL ls) hlt' (by rw [okL_at hlt']; simp [show (lidx ls ls[q].media == (q : Int)) = false by simpa using HQ.out])]), HBW.out⟩
          | false =>
          have HQ := Lib.hid (show (lidx ls ls[q].media == (q : Int)) = true by simpa using hq)
          have hfn := setL_new hlt' false hq
          have hlk := run_lookupS (P := Try.prog) (t := 66) (k := 9) (e := 4) Try.underlying66 Try.underlying9 (zero4 _) HMa.out ls[q].media
          rw [hfn] at hlk
          simp only [Bool.false_eq_true, if_false, Option.getD_none] at hlk
          have HFN := Lib.hid hfn
          clear hq hfn
          cases hf : validNm ls[q].file with
          | false =>
            have HFv := Lib.hid hf; clear hf
            go_wp2_with fail
            refine (validName_prog _ _ fm true HV.out).mono ?_
            rintro e w' ⟨rfl, rfl⟩
            go_wp2_with fail
            refine (validName_prog _ _ ff false HFv.out).mono ?_
            rintro e w' ⟨rfl, rfl⟩
            go_wp2
            go_ret
            exact ⟨ret_bool (by rw [← HR.out]; simp [validSt, allR_stop (p := okL ls) hlt' (by rw [okL_at hlt']; simp [HFv.out])]), HBW.out⟩
          | true =>
          have HFv := Lib.hid hf; clear hf
          cases hp : validPx ls[q].proxy with
          | false =>
            have HPx := Lib.hid hp
            have HPf := Lib.hid (px_false hp); clear hp
            go_wp2_with fail
            refine (validName_prog _ _ fm true HV.out).mono ?_
            rintro e w' ⟨rfl, rfl⟩
            go_wp2_with fail
            refine (validName_prog _ _ ff true HFv.out).mono ?_
            rintro e w' ⟨rfl, rfl⟩
            go_wp2_with fail
            refine (validProxy_prog _ _ fp false HPx.out).mono ?_
            rintro e w' ⟨rfl, rfl⟩
            go_wp2
            go_ret
            exact ⟨ret_bool (by rw [← HR.out]; simp [validSt, allR_stop (p := okL ls) hlt' (by rw [okL_at hlt']; simp [HPf.out.1, HPf.out.2])]), HBW.out⟩
          | true =>
          have HPx := Lib.hid hp
          clear hp
          obtain ⟨w5, hup, hM5, hg5⟩ := run_updateS (P := Try.prog) (t := 66) (k := 9) (e := 4) Try.underlying66 Try.underlying9 HMa.out ls[q].media (.bool true) (by simpa using HFN.out)
          rw [← setL_succ hlt'] at hM5
          have HM5 := Lib.hid hM5
          have HB5 := Lib.hid (HBL.out.grown hg5 (by simp; omega) (by simp))
          clear hM5 hg5
          cases heq : (ls[q].proxy.toList == ls[q].media.toList) with
          | true =>
            have HE := Lib.hid heq
            have HEM := Lib.hid (px_eq heq HV.out)
            go_wp2_with fail
            refine (validName_prog _ _ fm true HV.out).mono ?_
            rintro e w' ⟨rfl, rfl⟩
            go_wp2_with fail
            refine (validName_prog _ _ ff true HFv.out).mono ?_
            rintro e w' ⟨rfl, rfl⟩
            go_wp2_with fail
            refine (validProxy_prog _ _ fp true HPx.out).mono ?_
            rintro e w' ⟨rfl, rfl⟩
            go_wp2
            go_ret
            exact ⟨ret_bool (by rw [← HR.out]; simp [validSt, allR_stop (p := okL ls) hlt' (by rw [okL_at hlt']; simp [HE.out, HEM.out])]), HBW.out⟩
          | false =>
            have HE := Lib.hid heq
            go_wp2_with fail
            refine (validName_prog _ _ fm true HV.out).mono ?_
            rintro e w' ⟨rfl, rfl⟩
            go_wp2_with fail
            refine (validName_prog _ _ ff true HFv.out).mono ?_
            rintro e w' ⟨rfl, rfl⟩
            go_wp2_with fail
            refine (validProxy_prog _ _ fp true HPx.out).mono ?_
            rintro e w' ⟨rfl, rfl⟩
            go_wp2
            go_roundw
            case rel => exact ⟨HB5.out, q + 1, by omega, by go_num, allR_on HB.out (by rw [okL_at hlt', HV.out, HFv.out, HQ.out, HE.out]; simpa [validPx, emp] using HPx.out), HM5.out⟩
            case measure => simp [intOf]; omega
        · have hqe : q = m := by omega
          subst hqe
          have HF2 := Lib.hid (show true = r by
            rw [← HR.out]; simp only [validSt, HA1.out]
            rw [← HM.out, HB.out, ← HN.out]; simp; omega)
          go_wp2
          go_ret
          exact ⟨ret_bool HF2.out, hbw2⟩
end Go.Proofs.Ytnbmiejjkkgckaa
