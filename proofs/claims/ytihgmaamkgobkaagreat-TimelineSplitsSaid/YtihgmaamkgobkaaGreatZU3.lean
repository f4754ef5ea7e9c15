/- Proved here: 'TimelineSplits' returns true, for use in the proofs of the given statements; conditions stand in each theorem. -/
import Derived.Test.YtihgmaamkgobkaaGreatZTZ
import Derived.Test.YtihgmaamkgobkaaGreatZTW
import Derived.Test.YtihgmaamkgobkaaGreatZQ
set_option linter.unusedSimpArgs false
set_option linter.unusedVariables false
set_option linter.unusedSectionVars false
set_option linter.unusedSimpArgs false
set_option linter.unusedVariables false
set_option linter.unnecessarySimpa false
namespace Go.Proofs.YtihgmaamkgobkaaGreat
open Go.RowKit
set_option maxRecDepth 4000
def cutAt (A : List ClipR) (j : Nat) (o : Int) : List ClipR := A.take j ++ { A.getD j default with len := o } :: advR (A.getD j default) o :: A.drop (j + 1)
theorem cutAt_laws {A : List ClipR} (hn : ∀ c ∈ A, Nice c) (hl : A.length ≤ 18) {j : Nat} {o : Int} (j1 : j < A.length) (o1 : 1 ≤ o) (o2 : o < (A.getD j default).len) :
    vTrack (cutAt A j o) = true ∧ (∀ c ∈ cutAt A j o, c.fit) ∧ packT (cutAt A j o) = packT A ∧ sameT A (cutAt A j o) = true := by
  have hv : vTrack A = true := vTrack_nice hn (by omega)
  have hfit : ∀ c ∈ A, c.fit := fun c hc => (hn c hc).fit
  have hA : A = A.take j ++ A.getD j default :: A.drop (j + 1) := by rw [← drop_cons j1, List.take_append_drop]
  have hc := hn _ (mem_getD (d := default) j1)
  have hx : ∀ d ∈ A.take j, Src2 d := fun d hd => src2_of (hn d (List.mem_of_mem_take hd)).ok
  have hx1 : ∀ d ∈ A.take j, Nice d := fun d hd => hn d (List.mem_of_mem_take hd)
  have hx2 : ∀ d ∈ A.drop (j + 1), Nice d := fun d hd => hn d (List.mem_of_mem_drop hd)
  have hlen : (cutAt A j o).length = A.length + 1 := by unfold cutAt; simp; omega
  have htot : totL (cutAt A j o) = totL A := by
    conv => rhs; rw [hA]
    unfold cutAt
    rw [totL_app, totL_app]
    simp only [totL]
    show _ + (o + ((A.getD j default).len - o + _)) = _
    omega
  have h9 := hc.l9
  have va := headR_ok hc.ok o1 (by omega)
  obtain ⟨_, vb⟩ := nice_adv hc (n := o) (by omega) o2
  have fa := fit_len hc.fit (n := o) (by omega) (by omega)
  have fb := advR_fit hc.fit hc.ok (n := o) (by omega) o2
  have hall : ∀ d ∈ cutAt A j o, vClip d = true ∧ d.fit := by
    intro d hd
    unfold cutAt at hd
    rcases List.mem_append.1 hd with hd | hd
    · exact ⟨(hx1 d hd).ok, (hx1 d hd).fit⟩
    · rcases List.mem_cons.1 hd with hd | hd
      · rw [hd]; exact ⟨va, fa⟩
      · rcases List.mem_cons.1 hd with hd | hd
        · rw [hd]; exact ⟨vb, fb⟩
        · exact ⟨(hx2 d hd).ok, (hx2 d hd).fit⟩
  have hvU : vTrack (cutAt A j o) = true := vTrack_mk (by omega) (fun c hc => (hall c hc).1) (by rw [htot]; exact (track_all hv).2.2)
  have hfU : ∀ c ∈ cutAt A j o, c.fit := fun c hc => (hall c hc).2
  have hpk : packT (cutAt A j o) = packT A := by
    rw [packT_pk hvU hfU, packT_pk hv hfit]
    conv => rhs; rw [hA]
    unfold cutAt
    refine pk_split rfl ((contC_iff va vb).2 rfl) ?_ _ _ hx
    show o + ((A.getD j default).len - o) = _
    omega
  refine ⟨hvU, hfU, hpk, ?_⟩
  unfold sameT
  have : normT (cutAt A j o) = normT A := by unfold normT; rw [hpk]
  rw [hv, hvU, this, eqT_self]
  rfl
theorem asCells_refl : ∀ x : List T, asTs x x
  | [] => trivial
  | x :: xs => ⟨.inl rfl, asCells_refl xs⟩
theorem asRows_refl : ∀ xs : List (List T), asRows xs xs
  | [] => trivial
  | x :: xs => ⟨asCells_refl x, asRows_refl xs⟩
theorem as_listd {k : Nat} {d d' : List T} {xs : List (List T)} : ∀ (w : World) (E : Env) v, RdV w E (.t (.list k d xs)) v → RdV w E (.t (.list k d' xs)) v := as_rows (asRows_refl xs)
theorem splits13 (L : List Int) (n : Int) (hn : I64 n) : CPure Tryz.prog 12 [.t (tints L), vint n] (vbool true) := by
  obtain ⟨n1, n2⟩ := hn
  refine cpure_of Tryz.xen12 Tryz.func12 rfl Tryz.ntmps12 (by rw [Tryz.results12]) (aw_ok _ ?_)
  simp only [go_sem, Nat.reduceGT, Nat.reducePow, Nat.reduceLT, ↓reduceIte, Nat.reduceAdd, Nat.reduceMul, Nat.reduceSub, Nat.reduceMod, Nat.reduceLeDiff, Nat.reduceEqDiff, Nat.reduceBEq, reduceCtorEq]
  refine icall_pure (cTrackP L) rfl ?_
  obtain ⟨hnice, hl⟩ := trackT_nice L
  have hv := trackT_ok L
  have fL := trackT_fit L
  generalize trackT L = A at *
  obtain ⟨h64, hval, htot⟩ := track_all hv
  have hlens : ∀ c ∈ A, 1 ≤ c.len ∧ c.len ≤ 2147483647 := fun c hc => vClip_len (hval c hc)
  have h0t := totL_nonneg A fun c hc => (hlens c hc).1
  have hlt : lenT A = totL A := by unfold lenT; rw [if_pos hv]
  have hft : ∀ n, 0 ≤ n → findT A n = findL A 0 n := fun n hn => by unfold findT; rw [if_pos ⟨hv, hn⟩]
  simp only [go_sem, Nat.reduceGT, Nat.reducePow, Nat.reduceLT, ↓reduceIte, Nat.reduceAdd, Nat.reduceMul, Nat.reduceSub, Nat.reduceMod, Nat.reduceLeDiff, Nat.reduceEqDiff, Nat.reduceBEq, reduceCtorEq]
  refine ⟨_, cPLength A fL, ?_⟩
  simp only [go_sem, Nat.reduceGT, Nat.reducePow, Nat.reduceLT, ↓reduceIte, Nat.reduceAdd, Nat.reduceMul, Nat.reduceSub, Nat.reduceMod, Nat.reduceLeDiff, Nat.reduceEqDiff, Nat.reduceBEq, reduceCtorEq, hlt]
  refine brW (b := decide (totL A = 0)) ?_ ⟨fun hz => ?_, fun hz => ?_⟩
  · rw [Bool.eq_iff_iff]; simp only [decide_eq_true_eq, decide_eq_false_iff_not, beq_iff_eq, bne_iff_ne, ne_eq, beq_eq_false_iff_ne, Bool.not_eq_true', Bool.not_eq_true, Bool.not_eq_false', Bool.or_eq_true, Bool.and_eq_true, Bool.or_eq_false_iff, Bool.and_eq_false_iff, Bool.false_eq_true, Bool.not_eq_eq_eq_not, Bool.not_true, Bool.not_false]; omega
  · unfold awS
    simp only [go_sem, Nat.reduceGT, Nat.reducePow, Nat.reduceLT, ↓reduceIte, Nat.reduceAdd, Nat.reduceMul, Nat.reduceSub, Nat.reduceMod, Nat.reduceLeDiff, Nat.reduceEqDiff, Nat.reduceBEq, reduceCtorEq]
    refine ⟨_, cAwake, ?_⟩
    simp only [go_sem, Nat.reduceGT, Nat.reducePow, Nat.reduceLT, ↓reduceIte, Nat.reduceAdd, Nat.reduceMul, Nat.reduceSub, Nat.reduceMod, Nat.reduceLeDiff, Nat.reduceEqDiff, Nat.reduceBEq, reduceCtorEq]
  · simp only [decide_eq_true_eq, decide_eq_false_iff_not, beq_iff_eq, bne_iff_ne, ne_eq, beq_eq_false_iff_ne, Bool.not_eq_true', Bool.not_eq_true, Bool.not_eq_false', Bool.or_eq_true, Bool.and_eq_true, Bool.or_eq_false_iff, Bool.and_eq_false_iff, Bool.false_eq_true, Bool.not_eq_eq_eq_not, Bool.not_true, Bool.not_false] at hz
    unfold awS
    simp only [go_sem, Nat.reduceGT, Nat.reducePow, Nat.reduceLT, ↓reduceIte, Nat.reduceAdd, Nat.reduceMul, Nat.reduceSub, Nat.reduceMod, Nat.reduceLeDiff, Nat.reduceEqDiff, Nat.reduceBEq, reduceCtorEq]
    have r1 := tmod_abs n (n := totL A) (by omega)
    rw [wrap64 (x := n.tmod (totL A) + totL A) (by omega) (by omega)]
    have r2 := Int.tmod_nonneg (b := totL A) (a := n.tmod (totL A) + totL A) (by omega)
    have r3 := Int.tmod_lt_of_pos (n.tmod (totL A) + totL A) (b := totL A) (by omega)
    generalize (n.tmod (totL A) + totL A).tmod (totL A) = k at *
    obtain ⟨j, o, e1, j1, o1, o2⟩ := findL_range A 0 k hlens r2 r3
    simp only [Nat.zero_add] at e1
    refine ⟨by omega, by omega, _, cPFind A k ⟨by omega, by omega⟩ fL, ?_⟩
    rw [hft _ r2, e1]
    simp only [go_sem, Nat.reduceGT, Nat.reducePow, Nat.reduceLT, ↓reduceIte, Nat.reduceAdd, Nat.reduceMul, Nat.reduceSub, Nat.reduceMod, Nat.reduceLeDiff, Nat.reduceEqDiff, Nat.reduceBEq, reduceCtorEq, Bool.not_true]
    refine brW (b := decide (o = 0)) ?_ ⟨fun hz2 => ?_, fun hz2 => ?_⟩
    · rw [Bool.eq_iff_iff]
      simp
    · unfold awS
      simp only [go_sem, Nat.reduceGT, Nat.reducePow, Nat.reduceLT, ↓reduceIte, Nat.reduceAdd, Nat.reduceMul, Nat.reduceSub, Nat.reduceMod, Nat.reduceLeDiff, Nat.reduceEqDiff, Nat.reduceBEq, reduceCtorEq]
      refine ⟨_, cAwake, ?_⟩
      simp only [go_sem, Nat.reduceGT, Nat.reducePow, Nat.reduceLT, ↓reduceIte, Nat.reduceAdd, Nat.reduceMul, Nat.reduceSub, Nat.reduceMod, Nat.reduceLeDiff, Nat.reduceEqDiff, Nat.reduceBEq, reduceCtorEq]
    · simp only [decide_eq_true_eq, decide_eq_false_iff_not, beq_iff_eq, bne_iff_ne, ne_eq, beq_eq_false_iff_ne, Bool.not_eq_true', Bool.not_eq_true, Bool.not_eq_false', Bool.or_eq_true, Bool.and_eq_true, Bool.or_eq_false_iff, Bool.and_eq_false_iff, Bool.false_eq_true, Bool.not_eq_eq_eq_not, Bool.not_true, Bool.not_false] at hz2
      have hm := mem_getD (l := A) (d := default) j1
      have hc := hnice _ hm
      have fc := fL _ hm
      unfold awS
      simp only [go_sem, Nat.reduceGT, Nat.reducePow, Nat.reduceLT, ↓reduceIte, Nat.reduceAdd, Nat.reduceMul, Nat.reduceSub, Nat.reduceMod, Nat.reduceLeDiff, Nat.reduceEqDiff, Nat.reduceBEq, reduceCtorEq]
      have hlen := hlens _ hm
      have k4 := cHead (A.getD j default) o fc ⟨by omega, by omega⟩
      have k5 := cAdvance (A.getD j default) o fc ⟨by omega, by omega⟩
      obtain ⟨a1, a2⟩ := nice_adv hc (n := o) (by omega) o2
      have hd := headC_ok hc.ok (n := o) (by omega) (by omega)
      rw [hd] at k4
      rw [a1] at k5
      refine ⟨⟨by omega, by omega⟩, _, k4, ?_⟩
      simp only [go_sem, Nat.reduceGT, Nat.reducePow, Nat.reduceLT, ↓reduceIte, Nat.reduceAdd, Nat.reduceMul, Nat.reduceSub, Nat.reduceMod, Nat.reduceLeDiff, Nat.reduceEqDiff, Nat.reduceBEq, reduceCtorEq]
      refine ⟨⟨by omega, by omega⟩, _, k5, ?_⟩
      simp only [go_sem, Nat.reduceGT, Nat.reducePow, Nat.reduceLT, ↓reduceIte, Nat.reduceAdd, Nat.reduceMul, Nat.reduceSub, Nat.reduceMod, Nat.reduceLeDiff, Nat.reduceEqDiff, Nat.reduceBEq, reduceCtorEq]
      refine draw_after [15] (drawC_of 15 .done rfl (by kernel_rfl) (by kernel_rfl) (by decide) ?_)
      simp only [go_sem, Nat.reduceGT, Nat.reducePow, Nat.reduceLT, ↓reduceIte, Nat.reduceAdd, Nat.reduceMul, Nat.reduceSub, Nat.reduceMod, Nat.reduceLeDiff, Nat.reduceEqDiff, Nat.reduceBEq, reduceCtorEq]
      have e0 : ∀ (n : Int) (d : ClipR), [T.lit (.int .i64 n), .lit (.int .i64 d.kind), .lit (.int .i64 d.a.kind), .lit (.string d.a.name), .lit (.int .i64 d.a.pos.num), .lit (.int .i64 d.a.pos.den), .lit (.int .i64 d.a.speed.num), .lit (.int .i64 d.a.speed.den), .lit (.bool d.a.smooth),
        .lit (.int .i64 d.b.kind), .lit (.string d.b.name), .lit (.int .i64 d.b.pos.num), .lit (.int .i64 d.b.pos.den), .lit (.int .i64 d.b.speed.num), .lit (.int .i64 d.b.speed.den), .lit (.bool d.b.smooth), .lit (.int .i64 d.off), .lit (.int .i64 d.total), .lit (.int .i64 d.param), .lit (.string d.text), .lit (.int .i64 d.gain), .list 1 (intC 0) (d.chan.map intC)] = ClipR.c { d with len := n } := fun _ _ => rfl
      have e2 : List.drop (Int.toNat 0) (List.take j (List.map ClipR.c A)) = (A.take j).map ClipR.c := by rw [List.map_take]; rfl
      have e3 : List.drop (IntKind.i64.wrap ((j : Int) + 1)).toNat (List.take A.length (List.map ClipR.c A)) = (A.drop (j + 1)).map ClipR.c := by
        rw [wrap64 (by omega) (by omega), show ((j : Int) + 1).toNat = j + 1 by omega, List.map_drop, List.take_of_length_le (by simp)]
      have e4 : (A.take j).map ClipR.c ++ [ClipR.c { A.getD j default with len := o }, ClipR.c { advR (A.getD j default) o with len := (advR (A.getD j default) o).len }] ++ (A.drop (j + 1)).map ClipR.c = (cutAt A j o).map ClipR.c := by unfold cutAt; simp
      obtain ⟨u1, u2, u3, u4⟩ := cutAt_laws hnice hl j1 (show 1 ≤ o by omega) o2
      simp only [e0, e2, e3]
      simp only [e4]
      refine ⟨⟨by omega, by omega, by omega⟩, ⟨by simp; unfold maxLen; omega, by simp; omega⟩, ⟨by simp; unfold maxLen; omega, by simp; omega⟩, ⟨by rw [wrap64 (by omega) (by omega)]; omega, by rw [wrap64 (by omega) (by omega)]; omega, by omega⟩, ⟨by simp; unfold maxLen; omega, by simp; omega⟩, by kernel_rfl, ?_⟩
      refine ⟨_, cpure_as (.cons as_refl (.cons as_listd .nil)) (cPSame A _ fL u2), ?_⟩
      simp only [go_sem, Nat.reduceGT, Nat.reducePow, Nat.reduceLT, ↓reduceIte, Nat.reduceAdd, Nat.reduceMul, Nat.reduceSub, Nat.reduceMod, Nat.reduceLeDiff, Nat.reduceEqDiff, Nat.reduceBEq, reduceCtorEq, u4]
      refine ⟨_, cPack A fL, ?_⟩
      simp only [go_sem, Nat.reduceGT, Nat.reducePow, Nat.reduceLT, ↓reduceIte, Nat.reduceAdd, Nat.reduceMul, Nat.reduceSub, Nat.reduceMod, Nat.reduceLeDiff, Nat.reduceEqDiff, Nat.reduceBEq, reduceCtorEq]
      refine ⟨_, cpure_as (.cons as_listd .nil) (cPack _ u2), ?_⟩
      rw [u3]
      simp only [go_sem, Nat.reduceGT, Nat.reducePow, Nat.reduceLT, ↓reduceIte, Nat.reduceAdd, Nat.reduceMul, Nat.reduceSub, Nat.reduceMod, Nat.reduceLeDiff, Nat.reduceEqDiff, Nat.reduceBEq, reduceCtorEq]
      refine ⟨_, cREqual _ _, ?_⟩
      simp only [go_sem, Nat.reduceGT, Nat.reducePow, Nat.reduceLT, ↓reduceIte, Nat.reduceAdd, Nat.reduceMul, Nat.reduceSub, Nat.reduceMod, Nat.reduceLeDiff, Nat.reduceEqDiff, Nat.reduceBEq, reduceCtorEq, eqT_self]
      refine ⟨_, cAwake, ?_⟩
      simp only [go_sem, Nat.reduceGT, Nat.reducePow, Nat.reduceLT, ↓reduceIte, Nat.reduceAdd, Nat.reduceMul, Nat.reduceSub, Nat.reduceMod, Nat.reduceLeDiff, Nat.reduceEqDiff, Nat.reduceBEq, reduceCtorEq]
end Go.Proofs.YtihgmaamkgobkaaGreat
