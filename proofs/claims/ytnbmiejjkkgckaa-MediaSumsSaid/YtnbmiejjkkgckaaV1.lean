/- Proved here: Contracts of the two functions Valid, for use in the proofs of the given statements; conditions stand in each theorem. -/
import Derived.Test.YtnbmiejjkkgckaaM11
import Derived.Test.YtnbmiejjkkgckaaMap
namespace Go.Proofs.Ytnbmiejjkkgckaa
open Go.RowKit

def allR (p : Nat → Bool) (n : Nat) : Bool := (List.range n).all p
theorem allR_succ (p : Nat → Bool) (k : Nat) : allR p (k+1) = (allR p k && p k) := by simp [allR, List.range_succ]
theorem allR_on {p : Nat → Bool} {k : Nat} (h : allR p k = true) (hp : p k = true) : allR p (k+1) = true := by rw [allR_succ, h, hp]; rfl
theorem allR_stop {p : Nat → Bool} {k n : Nat} (h : k < n) (hp : p k = false) : allR p n = false := by
  cases hc : allR p n with
  | false => rfl
  | true =>
    simp only [allR, List.all_eq_true, List.mem_range] at hc
    rw [hc k h] at hp; cases hp
def okF (fs : List FileR) (i : Nat) : Bool := validNm (fs.getD i default).name && (fidx fs (fs.getD i default).name == (i : Int))
def okL (ls : List LinkR) (i : Nat) : Bool :=
  validNm (ls.getD i default).media && validNm (ls.getD i default).file && (lidx ls (ls.getD i default).media == (i : Int)) &&
  (emp (ls.getD i default).proxy || (validNm (ls.getD i default).proxy && !((ls.getD i default).proxy.toList == (ls.getD i default).media.toList)))
def validSt (fs : List FileR) (ls : List LinkR) : Bool := allR (okF fs) fs.length && allR (okL ls) ls.length && decide (fs.length ≤ 32) && decide (ls.length ≤ 16)
theorem okF_at {fs : List FileR} {k : Nat} (h : k < fs.length) : okF fs k = (validNm fs[k].name && (fidx fs fs[k].name == (k : Int))) := by
  simp [okF, List.getD_eq_getElem?_getD, h]
theorem okL_at {ls : List LinkR} {k : Nat} (h : k < ls.length) : okL ls k = (validNm ls[k].media && validNm ls[k].file && (lidx ls ls[k].media == (k : Int)) &&
  (emp ls[k].proxy || (validNm ls[k].proxy && !(ls[k].proxy.toList == ls[k].media.toList)))) := by
  simp [okL, List.getD_eq_getElem?_getD, h]
def FileR.fits (f : FileR) : Prop := f.name.size ≤ maxLen
def LinkR.fits (l : LinkR) : Prop := l.media.size ≤ maxLen ∧ l.file.size ≤ maxLen ∧ l.proxy.size ≤ maxLen
theorem quiet_same {P : Program} {f : FuncId} {args : Array Value} {w : World} {x : Later w} {v : Value}
    (h : Calls P f args x.w' fun e w' => e = .returned v ∧ x.w' = w') : Calls P f args x.w' fun e w'' => e = .returned v ∧ ∃ y : Later w, w'' = y.w' :=
  h.mono fun _ _ ⟨he, hb⟩ => ⟨he, ⟨x, hb.symm⟩⟩

set_option maxRecDepth 100000 in
set_option maxHeartbeats 4000000 in
theorem valid_ref (A D : Option Addr) (n c m d : Nat) (fs : List FileR) (ls : List LinkR) (w : World) (hn : n = fs.length) (hm : m = ls.length) (hnm : n ≤ maxLen) (hmm : m ≤ maxLen)
   (hF : Sl FileR.cells 3 w A fs) (hL : Sl LinkR.cells 4 w D ls) (hff : ∀ f ∈ fs, f.fits) (hlf : ∀ l ∈ ls, l.fits) (r : Bool) (hr : validSt fs ls = r) :
    Calls Try.prog 14 #[.agg #[.slice A n c, .slice D m d]] w fun e w' => e = .returned (.bool r) ∧ Below w.heap.size w w' := by
  have HN := Lib.hid hn; clear hn
  have HM := Lib.hid hm; clear hm
  have HF := Lib.hid hF; clear hF
  have HL := Lib.hid hL; clear hL
  have HR := Lib.hid hr; clear hr
  have HFF := Lib.hid hff; clear hff
  have HLF := Lib.hid hlf; clear hlf
  unfold maxLen at hnm hmm
  go_enter Try.func14, Try.ntmps14
  go_wp2
  go_loopw [3] (fun i wr => Below (w.heap.size + 1) (w.alloc (.cells #[.slice A n c, .slice D m d] 30)) wr ∧ ∃ k : Nat, k ≤ n ∧ i = .int .i64 k ∧ Hid (allR (okF fs) k = true)) (fun i _ => n - (intOf i).toNat)
  case atStart => exact ⟨Below.refl _ _, 0, Nat.zero_le _, rfl, rfl⟩
  case round =>
    obtain ⟨hbl, k, hk, rfl, HA⟩ := hrel
    have hbw : Below w.heap.size w wr := (later_alloc _ _).trans (hbl.mono (by omega))
    have hc0 := hbl.cell (p := ⟨w.heap.size, 0, none⟩) (by simp)
    have hc1 := hbl.cell (p := ⟨w.heap.size, 1, none⟩) (by simp)
    simp [go_sem] at hc0 hc1
    by_cases hlt : k < n
    · have hlt' : k < fs.length := by rw [← HN.out]; exact hlt
      obtain ⟨b, off, rfl, hc⟩ := (HF.out.later hbw) k fs[k] (by simp [hlt'])
      have h0 := hc 0 _ rfl
      simp only [Nat.add_zero] at h0
      clear hc
      have hfit := HFF.out fs[k] (List.getElem_mem _)
      unfold FileR.fits at hfit
      go_wp2
      have x0 := cell_later' hc0
      have x1 := cell_later' hc1
      have y0 := cell_later' h0
      cases hv : validNm fs[k].name with
      | false =>
        have HV := Lib.hid hv; clear hv
        refine wp_region_later (by kernel_rfl) (by kernel_rfl) ?_
        repeat (go_big_quiet_step ((go_at_call 27; refine quiet_same (validName_ref _ _ hfit false HV.out))))
        refine wpQuiet_nil ?_
        intro w2 hw'
        have hb2 := later_out hw'
        clear hw' x0 x1 y0
        go_wp2
        go_ret
        exact ⟨ret_bool (by rw [← HR.out]; simp [validSt, allR_stop (p := okF fs) hlt' (by rw [okF_at hlt', HV.out]; rfl)]), hbw.trans (hb2.mono hbw.size)⟩
      | true =>
        have HV := Lib.hid hv; clear hv
        refine wp_region_later (by kernel_rfl) (by kernel_rfl) ?_
        repeat (go_big_quiet_step (first
          | (go_at_call 27; refine quiet_same (validName_ref _ _ hfit true HV.out))
          | (go_at_call 28; refine calls_later (file_ref _ _ _ _ fs _ _ HN.out (by unfold maxLen; omega) ((HF.out.later hbw).later (Later.h _))))))
        refine wpQuiet_nil ?_
        intro w2 hw'
        have hb2 := later_out hw'
        clear hw' x0 x1 y0
        cases hq : (fidx fs fs[k].name != (k : Int)) with
        | true =>
          go_wp2
          go_ret
          exact ⟨ret_bool (by rw [← HR.out]; simp [validSt, allR_stop (p := okF fs) hlt' (by rw [okF_at hlt', HV.out]; simpa using hq)]), hbw.trans (hb2.mono hbw.size)⟩
        | false =>
          have HQ := Lib.hid hq
          go_wp2
          go_roundw
          case rel => exact ⟨hbl.trans (hb2.mono (by have := hbl.size; simp at this; omega)), k + 1, by omega, by go_num, allR_on HA.out (by rw [okF_at hlt', HV.out]; simpa using HQ.out)⟩
          case measure => simp [intOf]; omega
    · have hke : k = n := by omega
      subst hke
      have HA1 := Lib.hid (show allR (okF fs) fs.length = true by rw [← HN.out]; exact HA.out)
      clear HA hlt
      obtain ⟨w0, hw0⟩ : ∃ w0, w0 = wr := ⟨_, rfl⟩
      rw [← hw0] at hbl hbw hc0 hc1 ⊢
      clear hw0
      go_wp2
      go_loopw [4] (fun i wr => Below w0.heap.size w0 wr ∧ ∃ q : Nat, q ≤ m ∧ i = .int .i64 q ∧ Hid (allR (okL ls) q = true)) (fun i _ => m - (intOf i).toNat)
      case atStart => exact ⟨Below.refl _ _, 0, Nat.zero_le _, rfl, rfl⟩
      case round =>
        obtain ⟨hb2, q, hq, rfl, HB⟩ := hrel
        have hd0 := (hb2.cell (cell_lt hc0)).trans hc0
        have hd1 := (hb2.cell (cell_lt hc1)).trans hc1
        have hbw2 : Below w.heap.size w wr := hbw.trans (hb2.mono hbw.size)
        by_cases hlt : q < m
        · have hlt' : q < ls.length := by rw [← HM.out]; exact hlt
          obtain ⟨b, off, rfl, hc⟩ := (HL.out.later hbw2) q ls[q] (by simp [hlt'])
          have l0 := hc 0 _ rfl
          have l1 := hc 1 _ rfl
          have l2 := hc 2 _ rfl
          have l3 := hc 3 _ rfl
          have hbb := cell_lt l0
          simp only [Nat.add_zero] at l0 hbb
          clear hc
          obtain ⟨fm, ff, fp⟩ := HLF.out ls[q] (List.getElem_mem _)
          have hszw : w.heap.size < wr.heap.size := cell_lt hd0
          have hal := later_alloc wr (.cells #[.string ls[q].media, .string ls[q].file, .int .u64 ls[q].sum, .string ls[q].proxy] 39)
          have HSL := Lib.hid ((HL.out.later hbw2).later hal)
          have HBW := Lib.hid (hbw2.trans (hal.mono hbw2.size))
          have HB0 := Lib.hid (hb2.trans (hal.mono hb2.size))
          clear hal
          clear hc0 hc1 hbl hbw
          cases hv : validNm ls[q].media with
          | false =>
            have HV := Lib.hid hv; clear hv
            go_wp2_with fail
            refine (validName_ref _ _ fm false HV.out).mono ?_
            rintro e w' ⟨rfl, rfl⟩
            go_wp2
            go_ret
            exact ⟨ret_bool (by rw [← HR.out]; simp [validSt, allR_stop (p := okL ls) hlt' (by rw [okL_at hlt']; simp [HV.out])]), HBW.out⟩
          | true =>
          have HV := Lib.hid hv; clear hv
          cases hf : validNm ls[q].file with
          | false =>
            have HFv := Lib.hid hf; clear hf
            go_wp2_with fail
            refine (validName_ref _ _ fm true HV.out).mono ?_
            rintro e w' ⟨rfl, rfl⟩
            go_wp2_with fail
            refine (validName_ref _ _ ff false HFv.out).mono ?_
            rintro e w' ⟨rfl, rfl⟩
            go_wp2
            go_ret
            exact ⟨ret_bool (by rw [← HR.out]; simp [validSt, allR_stop (p := okL ls) hlt' (by rw [okL_at hlt']; simp [HFv.out])]), HBW.out⟩
          | true =>
          have HFv := Lib.hid hf; clear hf
          go_wp2_with fail
          refine (validName_ref _ _ fm true HV.out).mono ?_
          rintro e w' ⟨rfl, rfl⟩
          go_wp2_with fail
          refine (validName_ref _ _ ff true HFv.out).mono ?_
          rintro e w' ⟨rfl, rfl⟩
          go_wp2_with fail
          refine (link_ref _ _ _ _ ls _ _ HM.out (by unfold maxLen; omega) HSL.out).mono ?_
          rintro e w9 ⟨rfl, hb9⟩
          have hx0 := hb9.cell (p := ⟨wr.heap.size, 0, none⟩) (by simp)
          have hx3 := hb9.cell (p := ⟨wr.heap.size, 3, none⟩) (by simp)
          simp [go_sem] at hx0 hx3
          have HBW9 := Lib.hid (HBW.out.trans (hb9.mono HBW.out.size))
          have HB9 := Lib.hid (HB0.out.trans (hb9.mono HB0.out.size))
          clear hb9
          cases hli : (lidx ls ls[q].media != (q : Int)) with
          | true =>
            have HLi := Lib.hid hli
            go_wp2
            go_ret
            exact ⟨ret_bool (by rw [← HR.out]; simp [validSt, allR_stop (p := okL ls) hlt' (by rw [okL_at hlt']; simp [show (lidx ls ls[q].media == (q : Int)) = false by simpa using HLi.out])]), HBW9.out⟩
          | false =>
          have HLi := Lib.hid (show (lidx ls ls[q].media == (q : Int)) = true by simpa using hli)
          cases hp : emp ls[q].proxy with
          | true =>
            have hp' : ls[q].proxy.toList = [] := by simpa [emp] using hp
            have HPp := Lib.hid hp; clear hp
            go_wp2
            go_roundw
            case rel => exact ⟨HB9.out, q + 1, by omega, by go_num, allR_on HB.out (by rw [okL_at hlt', HV.out, HFv.out, HLi.out, HPp.out]; rfl)⟩
            case measure => simp [intOf]; omega
          | false =>
          have HPp := Lib.hid hp
          have hpn : ¬ ls[q].proxy.toList = [] := by simpa [emp] using hp
          have hpe : ls[q].proxy.toList.isEmpty = false := hp
          clear hp
          cases hpv : validNm ls[q].proxy with
          | false =>
            have HPv := Lib.hid hpv; clear hpv
            go_wp2_with fail
            refine (validName_ref _ _ fp false HPv.out).mono ?_
            rintro e w' ⟨rfl, rfl⟩
            go_wp2
            go_ret
            exact ⟨ret_bool (by rw [← HR.out]; simp [validSt, allR_stop (p := okL ls) hlt' (by rw [okL_at hlt']; simp [HPp.out, HPv.out])]), HBW9.out⟩
          | true =>
          have HPv := Lib.hid hpv; clear hpv
          go_wp2_with fail
          refine (validName_ref _ _ fp true HPv.out).mono ?_
          rintro e w' ⟨rfl, rfl⟩
          clear hpn hpe
          cases heq : (ls[q].proxy.toList == ls[q].media.toList) with
          | true =>
            have HE := Lib.hid heq
            go_wp2
            go_ret
            exact ⟨ret_bool (by rw [← HR.out]; simp [validSt, allR_stop (p := okL ls) hlt' (by rw [okL_at hlt']; simp [HPp.out, HE.out])]), HBW9.out⟩
          | false =>
            have HE := Lib.hid heq
            go_wp2
            go_roundw
            case rel => exact ⟨HB9.out, q + 1, by omega, by go_num, allR_on HB.out (by rw [okL_at hlt', HV.out, HFv.out, HLi.out, HPp.out, HPv.out, HE.out]; rfl)⟩
            case measure => simp [intOf]; omega
        · have hqe : q = m := by omega
          subst hqe
          have HF2 := Lib.hid (show r = (decide (k ≤ 32) && decide (q ≤ 16)) by
            rw [← HR.out, HN.out, HM.out]; simp only [validSt, HA1.out]
            rw [← HM.out, HB.out]; simp)
          go_wp2
          all_goals
            go_ret
            exact ⟨ret_bool (by rw [HF2.out, Bool.eq_iff_iff]; simp; omega), hbw2⟩
end Go.Proofs.Ytnbmiejjkkgckaa
