/- Proved here: Contracts of the functions that make tracks from a tape, for use in the proofs of the given statements; conditions stand in each theorem. -/
import Derived.Test.YtkppmlignfhdeaaGreatZQ
import Derived.Test.YtkppmlignfhdeaaGreatZG
import Derived.Test.YtkppmlignfhdeaaGreatZN
set_option linter.unusedSimpArgs false
set_option linter.unusedVariables false
set_option linter.unusedSectionVars false
set_option linter.unusedSimpArgs false
set_option linter.unusedVariables false
set_option linter.unnecessarySimpa false
namespace Go.Proofs.YtkppmlignfhdeaaGreat
open Go.RowKit
set_option maxRecDepth 4000
abbrev StT (L : List Int) (c : Nat) (es : List ClipR) (k : Nat) (σ : St) : St :=
  { fr := (σ.fr.set 9 (.own 1)).set 10 (vint c), h := [(1, RowC es), (0, .box [.t (tints L), vint k])], nx := 2 }
theorem cTrackIO (L : List Int) (k : Nat) (m s most : Int) (hk : k ≤ 100000) (hm : 0 ≤ m ∧ m ≤ 9) (hs : 0 ≤ s ∧ s ≤ 9) (h0 : 0 ≤ most) (h9 : most ≤ 9) : CIO Tryz.prog 57 1 [(0, .box [.t (tints L), vint k])] [.own 0, vint m, vint s, vint most] (.own 1)
    [(1, RowC (trkAt L k m s most).1), (0, .box [.t (tints L), vint ((trkAt L k m s most).2 : Int)])] 2 := by
  refine cio_of Tryz.xen57 Tryz.func57 rfl Tryz.ntmps57 (by rw [Tryz.results57]) (awp_facts fun hf => aw_ok _ ?_)
  have w1 : IntKind.i64.wrap (most + 1) = most + 1 := wrap64 (by omega) (by omega)
  simp only [go_sem, ↓reduceIte, Nat.reduceAdd, Nat.reduceSub, w1]
  refine icall_box (cNext L k (most + 1) (by omega) (by omega) (by omega)) rfl rfl rfl ?_
  have tn := tapeN_lt (L := L) (k := k) (n := most + 1) (by omega)
  obtain ⟨N, hN⟩ : ∃ N : Nat, tapeN L k (most + 1) = N := ⟨(tapeN L k (most + 1)).toNat, by omega⟩
  simp only [go_sem, ↓reduceIte, hN]
  refine awp_loop_f (fun (x : Nat × List ClipR × Nat) σ => StT L x.1 x.2.1 x.2.2 σ) (fun x => x.2.1.length + 2 * x.1 ≤ 18 ∧ x.2.2 + 19 * x.1 ≤ k + 200 ∧ x.2.1 ++ (trkGo L m s x.1 x.2.2).1 = (trkAt L k m s most).1 ∧ (trkGo L m s x.1 x.2.2).2 = (trkAt L k m s most).2) (fun x => x.1) (N, [], k + 1) (weak_of [(1, none), (0, some 0)] ?_) ⟨by simp only [List.length_nil]; omega, by simp only; omega, ?_⟩ ?_
  · simp only [go_sem, Nat.reduceLT, ↓reduceIte, Nat.reduceLeDiff, reduceCtorEq]
    simp
  · simp only [trkAt, hN, Int.toNat_natCast, List.nil_append, and_self]
  · rintro ⟨c, es, q⟩ ⟨hc, hq, he1, he2⟩
    simp only at hc hq he1 he2
    refine aw_ok _ ?_
    simp only [go_sem, ↓reduceIte]
    refine ⟨fun hlt => ?_, fun hge => ?_⟩
    · simp only [decide_eq_true_eq] at hlt
      obtain ⟨c, rfl⟩ : ∃ c', c = c' + 1 := ⟨c - 1, by omega⟩
      simp only [trkGo] at he1 he2
      have hst := trkStep_facts L q m s hm.2 hs.2
      unfold awS
      simp only [go_sem]
      refine icall_box (cClip L q m s (by omega) hm hs) rfl rfl rfl ?_
      have hle := clipAt_le L q m s
      have hsm := clipAt_small L q m s
      generalize hcl : clipAt L q m s = C at *
      obtain ⟨d, kq⟩ := C
      simp only [go_sem, Nat.reducePow, Nat.reduceLT, ↓reduceIte, Nat.reduceAdd, Nat.reduceMul, Nat.reduceLeDiff, Nat.reduceEqDiff, reduceCtorEq]
      have ec : ∀ d : ClipR, [T.lit (.int .i64 d.len), .lit (.int .i64 d.kind), .lit (.int .i64 d.a.kind), .lit (.string d.a.name), .lit (.int .i64 d.a.pos.num), .lit (.int .i64 d.a.pos.den), .lit (.int .i64 d.a.speed.num), .lit (.int .i64 d.a.speed.den), .lit (.bool d.a.smooth),
        .lit (.int .i64 d.b.kind), .lit (.string d.b.name), .lit (.int .i64 d.b.pos.num), .lit (.int .i64 d.b.pos.den), .lit (.int .i64 d.b.speed.num), .lit (.int .i64 d.b.speed.den), .lit (.bool d.b.smooth), .lit (.int .i64 d.off), .lit (.int .i64 d.total), .lit (.int .i64 d.param), .lit (.string d.text), .lit (.int .i64 d.gain), .list 1 (intC 0) (d.chan.map intC)] = ClipR.c d := fun _ => rfl
      have es1 : es.map ClipR.c ++ [ClipR.c d] = (es ++ [d]).map ClipR.c := by simp
      simp only [ec, es1]
      refine ⟨⟨by unfold maxLen; omega, by omega⟩, icall_box (cNext L kq 4 (by omega) (by omega) (by omega)) rfl rfl rfl ?_⟩
      have n4 := tapeN_lt (L := L) (k := kq) (n := 4) (by omega)
      simp only [go_sem, ↓reduceIte, reduceCtorEq]
      have hll : ((es ++ [d]).length : Int) < 64 := by simp only [List.length_append, List.length_cons, List.length_nil]; omega
      have wc : IntKind.i64.wrap (((c + 1 : Nat) : Int) - 1) = (c : Int) := by rw [wrap64 (by omega) (by omega)]; omega
      refine brW (b := tapeN L kq 4 == 0) ?_ ⟨fun hj => ?_, fun hj => ?_⟩
      · rw [decide_eq_true hll, Bool.and_true]
      · unfold awS
        simp only [go_sem, ↓reduceIte, Nat.reduceAdd, Nat.reduceLeDiff, Nat.reduceEqDiff]
        refine icall_box (cNext L (kq + 1) 4 (by omega) (by omega) (by omega)) rfl rfl rfl ?_
        have m4 := tapeN_lt (L := L) (k := kq + 1) (n := 4) (by omega)
        simp only [go_sem, Nat.reduceGT, ↓reduceIte, Nat.reduceAdd, Nat.reduceLeDiff, Nat.reduceEqDiff, reduceCtorEq, wrap64 (x := 1 + tapeN L (kq + 1) 4) (by omega) (by omega)]
        refine ⟨_, fun _ => eqRat d.a.speed one1, _, fun _ => eqSource d.b zSource, fun hb => ?_, fun hb => ?_⟩
        · have hb2 : splitB d = true := hb
          have hs1 : trkStep L q m s = ([d, splitD d (1 + tapeN L (kq + 1) 4)], kq + 2) := by
            unfold trkStep
            rw [hcl]
            simp only
            rw [if_pos (by simpa using hj), if_pos hb2]
          rw [hs1] at he1 he2
          obtain ⟨⟨q1, q2, q3⟩, _, q5, q6⟩ := hsm
          simp only at q1 q2 q3 q5 q6
          have wm : (d.len * d.a.pos.den).natAbs ≤ 900000 := by
            rw [Int.natAbs_mul]
            exact Nat.mul_le_mul (show d.len.natAbs ≤ 9 by omega) q2
          unfold awS
          simp only [go_sem, Nat.reducePow, Nat.reduceLT, ↓reduceIte, Nat.reduceAdd, Nat.reduceMul, Nat.reduceLeDiff, Nat.reduceEqDiff, reduceCtorEq, wrap64 (x := d.len * d.a.pos.den) (by omega) (by omega), wrap64 (x := d.a.pos.num + d.len * d.a.pos.den) (by omega) (by omega)]
          have e2 : ∀ n : Int, [T.lit (.int .i64 n), .lit (.int .i64 d.kind), .lit (.int .i64 d.a.kind), .lit (.string d.a.name), .lit (.int .i64 (d.a.pos.num + d.len * d.a.pos.den)), .lit (.int .i64 d.a.pos.den), .lit (.int .i64 d.a.speed.num), .lit (.int .i64 d.a.speed.den), .lit (.bool d.a.smooth),
            .lit (.int .i64 d.b.kind), .lit (.string d.b.name), .lit (.int .i64 d.b.pos.num), .lit (.int .i64 d.b.pos.den), .lit (.int .i64 d.b.speed.num), .lit (.int .i64 d.b.speed.den), .lit (.bool d.b.smooth), .lit (.int .i64 d.off), .lit (.int .i64 d.total), .lit (.int .i64 d.param), .lit (.string d.text), .lit (.int .i64 d.gain), .list 1 (intC 0) (d.chan.map intC)] = ClipR.c (splitD d n) := fun _ => rfl
          have e3 : ∀ x : ClipR, (es ++ [d]).map ClipR.c ++ [ClipR.c x] = (es ++ [d, x]).map ClipR.c := fun x => by simp
          simp only [e2, e3]
          refine ⟨⟨by simp only [List.length_append, List.length_cons, List.length_nil]; unfold maxLen; omega, by simp only [List.length_append, List.length_cons, List.length_nil]; omega⟩, (c, es ++ [d, splitD d (1 + tapeN L (kq + 1) 4)], kq + 2), weak_of [(1, some 7), (0, some 0)] ?_, ⟨by simp only [List.length_append, List.length_cons, List.length_nil]; omega, by simp only; simp only at hle; omega, by rw [← he1]; simp, he2⟩, by simp only; omega⟩
          simp only [go_sem, Nat.reduceLT, ↓reduceIte, Nat.reduceLeDiff, Nat.reduceEqDiff, reduceCtorEq, wc]
          try simp
        · have hs1 : trkStep L q m s = ([d], kq + 2) := by
            have hb2 : splitB d = false := hb
            unfold trkStep
            rw [hcl]
            simp only
            rw [if_pos (by simpa using hj), hb2]
            rfl
          rw [hs1] at he1 he2
          unfold awS
          simp only [go_sem, ↓reduceIte]
          refine ⟨(c, es ++ [d], kq + 2), weak_of [(1, some 4), (0, some 0)] ?_, ⟨by simp only [List.length_append, List.length_cons, List.length_nil]; omega, by simp only; simp only at hle; omega, by rw [← he1]; simp, he2⟩, by simp only; omega⟩
          simp only [go_sem, Nat.reduceLT, ↓reduceIte, Nat.reduceLeDiff, Nat.reduceEqDiff, reduceCtorEq, wc]
          try simp
      · have hs1 : trkStep L q m s = ([d], kq + 1) := by
          unfold trkStep
          rw [hcl]
          simp only
          rw [if_neg (by simpa using hj)]
        rw [hs1] at he1 he2
        unfold awS
        simp only [go_sem, ↓reduceIte]
        refine ⟨(c, es ++ [d], kq + 1), weak_of [(1, some 4), (0, some 0)] ?_, ⟨by simp only [List.length_append, List.length_cons, List.length_nil]; omega, by simp only; simp only at hle; omega, by rw [← he1]; simp, he2⟩, by simp only; omega⟩
        simp only [go_sem, Nat.reduceLT, ↓reduceIte, Nat.reduceLeDiff, Nat.reduceEqDiff, reduceCtorEq, wc]
        try simp
    · simp only [decide_eq_false_iff_not] at hge
      unfold awS
      simp only [go_sem, ↓reduceIte]
      have : c = 0 := by omega
      subst this
      simp only [trkGo, List.append_nil] at he1 he2
      rw [he1, he2]
      refine weak_self ?_
      simp only [go_sem, Nat.reduceLT, ↓reduceIte, Nat.reduceLeDiff, reduceCtorEq]
      try simp
/-- the track of a tape, as a slice that nobody else has -/
theorem cTrackT (L : List Int) : CIO Tryz.prog 26 0 [] [.t (tints L)] (.own 0) [(0, RowC (trackT L))] 1 := by
  refine cio_of Tryz.xen26 Tryz.func26 rfl Tryz.ntmps26 (by rw [Tryz.results26]) (aw_ok _ ?_)
  simp only [go_sem, Nat.reduceGT, ↓reduceIte, Nat.reduceAdd, Nat.reduceSub, reduceCtorEq]
  refine icall_io (cTrackIO L 0 3 2 9 (by omega) (by omega) (by omega) (by omega) (by omega)) [0] rfl (by omega) (by decide) ?_ rfl rfl rfl rfl ?_
  · simp only [go_sem, Nat.reduceLT, ↓reduceIte]
    rfl
  · simp only [go_sem, Nat.reduceLT, ↓reduceIte, Nat.reduceAdd, Nat.reduceSub, reduceCtorEq, List.getElem?_nil]
    refine weak_of [(0, some 1)] ?_
    simp only [go_sem, Nat.reduceLT, ↓reduceIte, Nat.reduceLeDiff, reduceCtorEq]
    simp
    rfl
theorem cCut (t : List ClipR) : CPure Tryz.prog 25 [.t (tclips t)] (.t (tclips (t.take 80))) := by
  refine cpure_of Tryz.xen25 Tryz.func25 rfl Tryz.ntmps25 (by rw [Tryz.results25]) (aw_ok _ ?_)
  simp only [go_sem, ↓reduceIte, Nat.reduceSub]
  refine ⟨fun h => ?_, fun h => ?_⟩
  · simp only [decide_eq_true_eq] at h
    unfold awS
    simp only [go_sem, ↓reduceIte]
    refine ⟨by omega, ?_⟩
    rw [Int.toNat_zero, List.drop_zero, List.map_take]
    rfl
  · simp only [decide_eq_false_iff_not] at h
    unfold awS
    simp only [go_sem]
    rw [List.take_of_length_le (by omega)]
end Go.Proofs.YtkppmlignfhdeaaGreat
/- Proved here: Contracts of the functions that compare tracks, for use in the proofs of the given statements; conditions stand in each theorem. -/
set_option linter.unusedSimpArgs false
set_option linter.unusedVariables false
set_option linter.unnecessarySimpa false
namespace Go.Proofs.YtkppmlignfhdeaaGreat
open Go.RowKit
set_option maxRecDepth 4000
def eqT : List ClipR → List ClipR → Bool
  | [], [] => true
  | c :: l, d :: m => c.eqb d && eqT l m
  | _, _ => false
theorem eqT_iff : ∀ {a b : List ClipR}, eqT a b = true ↔ a = b
  | [], [] => by simp [eqT]
  | c :: l, [] => by simp [eqT]
  | [], d :: m => by simp [eqT]
  | c :: l, d :: m => by simp only [eqT, Bool.and_eq_true, ClipR.eqb_iff, eqT_iff, List.cons.injEq]
theorem eqT_self (a : List ClipR) : eqT a a = true := eqT_iff.2 rfl
theorem eqT_comm (a b : List ClipR) : eqT a b = eqT b a := by
  rw [Bool.eq_iff_iff, eqT_iff, eqT_iff]
  exact ⟨fun h => h.symm, fun h => h.symm⟩
theorem eqT_ne {a b : List ClipR} (h : a ≠ b) : eqT a b = false := by rw [Bool.eq_false_iff, ne_eq, eqT_iff]; exact h
theorem eqT_len {a b : List ClipR} (h : a.length ≠ b.length) : eqT a b = false := eqT_ne fun e => h (by rw [e])
theorem eqT_hit {a b : List ClipR} {k : Nat} (h2 : (a.getD k default).eqb (b.getD k default) = false) : eqT a b = false := by
  refine eqT_ne ?_
  rintro rfl
  rw [Bool.eq_false_iff, ne_eq, ClipR.eqb_iff] at h2
  exact h2 rfl
theorem eqT_done {a b : List ClipR} (hl : a.length = b.length) (h : ∀ i, i < a.length → (a.getD i default).eqb (b.getD i default) = true) : eqT a b = true := by
  rw [eqT_iff]
  refine List.ext_getElem hl fun i h1 h2 => ?_
  have := ClipR.eqb_iff.1 (h i h1)
  rw [getD_of_lt h1, getD_of_lt h2] at this
  exact this
theorem cREqual (a b : List ClipR) : CPure Tryz.prog 29 [.t (tclips a), .t (tclips b)] (vbool (eqT a b)) := by
  refine cpure_of Tryz.xen29 Tryz.func29 rfl Tryz.ntmps29 (by rw [Tryz.results29]) (awp_facts fun hf => aw_ok _ ?_)
  simp only [go_sem, Nat.reduceAdd, Nat.reduceSub, factsT] at hf
  have hla : a.length ≤ maxLen := by first | exact hf.1 | exact hf.1.1 | exact hf.2.1
  simp only [go_sem, ↓reduceIte, Nat.reduceAdd, Nat.reduceSub]
  refine ⟨fun h => ?_, fun h => ?_⟩
  · simp only [bne_iff_ne, ne_eq] at h
    unfold awS
    simp only [go_sem, ↓reduceIte]
    rw [eqT_len (by omega)]
  · have hl : a.length = b.length := by simp only [bne_eq_false_iff_eq] at h; omega
    unfold awS
    simp only [go_sem, ↓reduceIte]
    refine awp_loop_f (fun (k : Nat) σ => setS 5 (vint k) σ) (fun k => k ≤ a.length ∧ ∀ i, i < k → (a.getD i default).eqb (b.getD i default) = true) (fun k => a.length - k) 0 (weak_self ?_) ⟨Nat.zero_le _, by omega⟩ ?_
    · simp only [go_sem, Nat.reduceLeDiff]
      rfl
    · rintro k ⟨hk, hi⟩
      refine aw_ok _ ?_
      simp only [go_sem, ↓reduceIte]
      refine ⟨fun hlt => ?_, fun hge => ?_⟩
      · simp only [decide_eq_true_eq] at hlt
        unfold awS
        simp only [go_sem]
        refine drawR_of [0, 1, 2, 3, 4, 5, 6, 7, 8, 9] .done rfl (by kernel_rfl) (by kernel_rfl) (by decide) ?_
        simp only [go_sem, ↓reduceIte, Nat.reduceAdd, Nat.reduceLeDiff]
        refine ⟨⟨by omega, by omega⟩, ⟨by omega, by omega⟩, ?_⟩
        refine ⟨_, cSameClip _ _, ?_⟩
        simp only [go_sem]
        refine ⟨fun h2 => ?_, fun h2 => ?_⟩
        · unfold awS
          simp only [go_sem, ↓reduceIte]
          rw [eqT_hit (k := k) (by simpa using h2)]
        · unfold awS
          simp only [go_sem, ↓reduceIte]
          refine ⟨k + 1, weak_self ?_, ⟨by omega, upto hi (by simpa using h2)⟩, by omega⟩
          simp only [go_sem, Nat.reduceLeDiff]
          simp [wrap_of (show k < a.length by omega) hla]
      · simp only [decide_eq_false_iff_not] at hge
        unfold awS
        simp only [go_sem, ↓reduceIte]
        rw [eqT_done hl (fun i h2 => hi i (by omega))]
theorem cEqualFunc (a b : List ClipR) : CPure Tryz.prog 110 [.t (tclips a), .t (tclips b), .clo 111 []] (vbool (eqT a b)) := by
  refine cpure_of Tryz.xen110 Tryz.func110 rfl Tryz.ntmps110 (by rw [Tryz.results110]) (awp_facts fun hf => aw_ok _ ?_)
  simp only [go_sem, Nat.reduceAdd, Nat.reduceSub, factsT] at hf
  have hla : a.length ≤ maxLen := by first | exact hf.1 | exact hf.1.1 | exact hf.2.1
  simp only [go_sem, ↓reduceIte, Nat.reduceAdd, Nat.reduceSub]
  refine ⟨fun h => ?_, fun h => ?_⟩
  · simp only [bne_iff_ne, ne_eq] at h
    unfold awS
    simp only [go_sem, ↓reduceIte]
    rw [eqT_len (by omega)]
  · have hl : a.length = b.length := by simp only [bne_eq_false_iff_eq] at h; omega
    unfold awS
    simp only [go_sem, ↓reduceIte]
    refine awp_loop_f (fun (k : Nat) σ => setS 17 (vint k) σ) (fun k => k ≤ a.length ∧ ∀ i, i < k → (a.getD i default).eqb (b.getD i default) = true) (fun k => a.length - k) 0 (weak_self ?_) ⟨Nat.zero_le _, by omega⟩ ?_
    · simp only [go_sem, Nat.reduceLeDiff]
      rfl
    · rintro k ⟨hk, hi⟩
      refine aw_ok _ ?_
      simp only [go_sem, ↓reduceIte]
      refine ⟨fun hlt => ?_, fun hge => ?_⟩
      · simp only [decide_eq_true_eq] at hlt
        unfold awS
        simp only [go_sem, ↓reduceIte, Nat.reduceAdd, Nat.reduceLeDiff, reduceCtorEq]
        refine ⟨⟨by omega, by omega⟩, ⟨by omega, by omega⟩, ?_⟩
        refine lcall_pure (cPEqual _ _) rfl ?_
        simp only [go_sem]
        refine ⟨fun h2 => ?_, fun h2 => ?_⟩
        · unfold awS
          simp only [go_sem, ↓reduceIte]
          rw [eqT_hit (k := k) (by simpa using h2)]
        · unfold awS
          simp only [go_sem, ↓reduceIte]
          refine ⟨k + 1, weak_self ?_, ⟨by omega, upto hi (by simpa using h2)⟩, by omega⟩
          simp only [go_sem, Nat.reduceLeDiff]
          simp [wrap_of (show k < a.length by omega) hla]
      · simp only [decide_eq_false_iff_not] at hge
        unfold awS
        simp only [go_sem, ↓reduceIte]
        rw [eqT_done hl (fun i h2 => hi i (by omega))]
theorem as_clo (f : FuncId) : ∀ (w : World) (E : Env) v, RdV w E (.t (.lit (.func (.func f) #[] #[]))) v → RdV w E (.clo f []) v := by
  intro w E v h
  obtain ⟨rfl, _⟩ := rdV_lit_inv h
  simp only [RdV]
  exact ⟨#[], rfl, by simp only [RdVs]⟩
theorem cEqualFunc2 (a b : List ClipR) : CPure Tryz.prog 110 [.t (tclips a), .t (tclips b), .t (.lit (.func (.func 111) #[] #[]))] (vbool (eqT a b)) :=
  cpure_as (.cons as_refl (.cons as_refl (.cons (as_clo _) .nil))) (cEqualFunc a b)
def sameT (a b : List ClipR) : Bool := vTrack a && vTrack b && eqT (normT a) (normT b)
theorem sameT_comm (a b : List ClipR) : sameT a b = sameT b a := by
  unfold sameT
  rw [eqT_comm, Bool.and_comm (vTrack a)]
theorem cPSame (a b : List ClipR) (ha : ∀ c ∈ a, c.fit) (hb : ∀ c ∈ b, c.fit) : CPure Tryz.prog 42 [.t (tclips a), .t (tclips b)] (vbool (sameT a b)) := by
  refine cpure_of Tryz.xen42 Tryz.func42 rfl Tryz.ntmps42 (by rw [Tryz.results42]) (aw_ok _ ?_)
  simp only [go_sem, ↓reduceIte, Nat.reduceAdd, Nat.reduceSub]
  refine ⟨_, cPTrack a ha, ?_⟩
  simp only [go_sem, ↓reduceIte]
  refine ⟨_, fun _ => cPTrack b hb, ?_⟩
  simp only [go_sem, ↓reduceIte]
  refine ⟨_, fun _ => cNormal a ha, ?_⟩
  simp only [go_sem, ↓reduceIte]
  refine ⟨_, fun _ => cNormal b hb, ?_⟩
  simp only [go_sem, ↓reduceIte]
  refine ⟨_, fun _ => cEqualFunc2 _ _, ?_⟩
  simp only [go_sem, ↓reduceIte]
  rfl
end Go.Proofs.YtkppmlignfhdeaaGreat
