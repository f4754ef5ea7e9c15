/- Proved here: 'DenoteInserts' returns true, for use in the proofs of the given statements; conditions stand in each theorem. -/
import Derived.Test.YtinobebofhbnnaaGreatWD
import Derived.Test.YtinobebofhbnnaaGreatZG
import Derived.Test.YtinobebofhbnnaaGreatZR
set_option linter.unusedSimpArgs false
set_option linter.unusedVariables false
set_option linter.unusedSectionVars false
set_option linter.unnecessarySimpa false
namespace Go.Proofs.YtinobebofhbnnaaGreat
open Go.RowKit
set_option maxRecDepth 4000
theorem u8_tmod (x:Int) (k:Int) (hx : 0≤x∧x≤255) (hk : 1≤k) (hk2:k≤255) : 0≤x.tmod k∧x.tmod k<k∧IntKind.u8.wrap (x.tmod k)=x.tmod k:=by
 have h1:=Int.tmod_nonneg k hx.1
 have h2:=Int.tmod_lt_of_pos x (b:=k) (by omega)
 refine ⟨h1,h2,?_⟩
 have e1:(2:Int) ^ IntKind.u8.bits=256:=by decide
 unfold IntKind.wrap
 simp only [IntKind.signed,e1,Bool.false_and]
 simp
 omega
set_option maxHeartbeats 8000000 in
theorem inserts57 (L : List Int) (x y : Int) (hx : 0 ≤ x ∧ x ≤ 255) (hy : 0 ≤ y ∧ y ≤ 255) : CPure Tryz.prog 10 [.t (tints L), .t (.lit (.int .u8 x)), .t (.lit (.int .u8 y))] (vbool true) := by
  obtain ⟨x0, x1, wx⟩ := u8_tmod x 30 hx (by omega) (by omega)
  obtain ⟨y0, y1, wy⟩ := u8_tmod y 20 hy (by omega) (by omega)
  obtain ⟨n, hn⟩ : ∃ n : Nat, x.tmod 30 = n := ⟨(x.tmod 30).toNat, by omega⟩
  obtain ⟨m, hm⟩ : ∃ m : Nat, y.tmod 20 + 1 = m := ⟨(y.tmod 20 + 1).toNat, by omega⟩
  have hm' : y.tmod 20 = m - 1 := by omega
  have w0 : IntKind.i64.wrap (n : Int) = n := wrap64 (by omega) (by omega)
  have w1 : IntKind.i64.wrap ((m : Int) - 1) = m - 1 := wrap64 (by omega) (by omega)
  have w2 : IntKind.i64.wrap ((m : Int) - 1 + 1) = m := by rw [wrap64 (by omega) (by omega)]; omega
  rw [hn] at wx
  rw [hm'] at wy
  have ht := madeT_trk L
  have hcu := madeT_cut L
  obtain ⟨hl, hfl⟩ := madeT_len L
  have htf : ∀ c ∈ madeT L, c.fit := fun c hc => (ht.cl c hc).1
  have hnt := madeT_norm L
  have cLt := cPLength (madeT L) htf
  have eL : lenT (madeT L) = totL (madeT L) := by unfold lenT; rw [if_pos ht.ok]
  have hM := cMade L
  have htt := hcu.tot
  have hC := newC_ok L
  have hAt := madeAt_le L
  have hKn := newK_le L
  have cT := cTrackIO L (madeAt L) 3 2 2 (by omega) (by omega) (by omega) (by omega) (by omega)
  have cC := cClip L (newK L) 3 2 (by omega) (by omega) (by omega)
  have eC : (trkAt L (madeAt L) 3 2 2).1.map ClipR.c ++ [ClipR.c (clipAt L (newK L) 3 2).1] = (newC L).map ClipR.c := by unfold newC; rw [List.map_append]; rfl
  have eCl : (trkAt L (madeAt L) 3 2 2).1.length + 1 = (newC L).length := by unfold newC; simp
  have eK : (trkAt L (madeAt L) 3 2 2).2 = newK L := rfl
  rw [eK] at cT
  generalize (trkAt L (madeAt L) 3 2 2).1 = A0 at *
  generalize (clipAt L (newK L) 3 2) = q0 at *
  generalize newC L = C at *
  generalize fr (madeT L) = F at *
  generalize madeT L = t at *
  obtain ⟨l, hle⟩ : ∃ l : Nat, l = F.length := ⟨_, rfl⟩
  have en : totL t = l := by omega
  rw [eL, en] at cLt
  have cLC := cPLength C hC.fit
  have eLC : lenT C = totL C := by unfold lenT; rw [if_pos hC.ok]
  obtain ⟨k, hk⟩ : ∃ k : Nat, k = (fr C).length := ⟨_, rfl⟩
  have hkt : totL C = k := by have := hC.fl; omega
  rw [eLC, hkt] at cLC
  obtain ⟨kt1, kt2⟩ := hC.tot
  obtain ⟨M, hMe⟩ : ∃ M : Nat, M = l + n + m + 2 := ⟨_, rfl⟩
  have hl5 := hC.l5
  have e1 := edOk hcu ht hl (by omega) hC.gd (by omega) (by omega) (a := n) (r := n) (by omega) (by omega) (by omega) (by omega)
  have e2 := edOk hcu ht hl (by omega) (C := []) (fun c hc => (by cases hc)) (by simp) (by simp [fr]) (a := n) (r := n + m) (by omega) (by omega) (by omega) (by omega)
  obtain ⟨t1, f1⟩ := exch_film hcu ht hl (by omega) hC.gd (by omega) (by omega) (a := n) (r := n) (M := M) (by omega) (by omega) (by omega) (by omega) (by omega)
  obtain ⟨t2, f2⟩ := exch_film hcu ht hl (by omega) (C := []) (fun c hc => (by cases hc)) (by simp) (by simp [fr]) (a := n) (r := n + m) (M := M) (by omega) (by omega) (by omega) (by omega) (by omega)
  have a1 := cApply1 ht.ok htf hnt hcu (by omega) (by omega) n (by omega) (by omega) C (trk_mk (by omega) (track_all hC.ok).2.1 (track_all hC.ok).2.2) hC.ok hC.fit hC.l0 (by omega) (by rw [Int.add_zero]; exact e1.trk) (by rw [Int.add_zero]; exact e1.fit) (by rw [Int.add_zero]; exact e1.l64)
  rw [Int.add_zero] at a1
  have a2 := cApply2 ht.ok htf hnt hcu (by omega) (by omega) n (by omega) (by omega) m (by omega) (by omega) e2.trk e2.fit e2.l64
  have hFE : trkL (madeP L) [t] M = frsL (madeP L) F M := by
    rw [← hcu.fr]
    exact trkL_fr (m := 1000) (by omega) (fun c hc => ⟨hcu.gd c hc, by have := len_le_tot (fun c hc => (vClip_len (hcu.gd c hc).ok).1) c hc; omega⟩) M
  have hCE : trkL (madeP L) [C] k = (fr C).map (frE (madeP L)) := by
    rw [trkL_fr (m := 600) (by omega) (fun c hc => ⟨(hC.gd c hc).1, by have := len_le_tot (fun c hc => (vClip_len (hC.gd c hc).1.ok).1) c hc; omega⟩), hk]
    exact frsL_own _ _
  have mem1 : ∀ {a : List ClipR}, TrkP (madeP L) a → ∀ x ∈ [a], TrkP (madeP L) x := fun ha x hx => by
    simp only [List.mem_cons, List.not_mem_nil, or_false] at hx
    subst hx
    exact ha
  have ff1 : (fr C).length = k := hk.symm
  rw [ff1, ← hCE, ← hFE] at f1
  rw [← hFE] at f2
  have z : (fr ([] : List ClipR)).length = 0 := rfl
  have z2 : (fr ([] : List ClipR)).map (frE (madeP L)) = [] := rfl
  rw [z, z2, List.append_nil] at f2
  obtain ⟨N1, hN1⟩ : ∃ N1 : Nat, N1 = n + k + (M - n) := ⟨_, rfl⟩
  obtain ⟨N2, hN2⟩ : ∃ N2 : Nat, N2 = n + 0 + (M - (n + m)) := ⟨_, rfl⟩
  rw [← hN1] at f1
  rw [← hN2] at f2
  have fT := cFilmT L (ts := [t]) (by simp) (mem1 ht) M (by omega)
  have fC := cFilmT L (ts := [C]) (by simp) (mem1 hC.trk) k (by omega)
  have fU := cFilmT L (ts := [nrmE (exchL t n C n)]) (by simp) (mem1 t1) N1 (by omega)
  have fV := cFilmT L (ts := [nrmE (exchL t n [] (n + m))]) (by simp) (mem1 t2) N2 (by omega)
  rw [f1] at fU
  have ca : ((n + m : Nat) : Int) = (n : Int) + m := by omega
  rw [ca] at f2
  rw [f2] at fV
  have lT := trkL_len (madeP L) [t] M
  have lC := trkL_len (madeP L) [C] k
  generalize trkL (madeP L) [t] M = Q at *
  generalize trkL (madeP L) [C] k = R at *
  have wT := cWithT L [t] (raw := .list 1 [.lit (.slice none 0 0)] [[tclips t]]) (imp_list (by exact ⟨⟨imp_refl, trivial⟩, trivial⟩))
  have wC := cWithT L [C] (raw := .list 1 [.lit (.slice none 0 0)] [[tclips C]]) (imp_list (by exact ⟨⟨imp_refl, trivial⟩, trivial⟩))
  have wU := cWithT L [nrmE (exchL t n C n)] (raw := .list 1 [.lit (.slice none 0 0)] [[tclips (nrmE (exchL t n C n))]]) (imp_list (by exact ⟨⟨imp_refl, trivial⟩, trivial⟩))
  have wV := cWithT L [nrmE (exchL t n [] (n + m))] (raw := .list 1 [.lit (.slice none 0 0)] [[tclips (nrmE (exchL t n [] (n + m)))]]) (imp_list (by exact ⟨⟨imp_refl, trivial⟩, trivial⟩))
  generalize nrmE (exchL t n C n) = U at *
  generalize nrmE (exchL t n [] (n + m)) = W at *
  have cA1 := cAllSelf (Q.take n ++ R ++ Q.drop n) (by simp only [List.length_append, List.length_take, List.length_drop]; omega)
  have cA2 := cAllSelf (Q.take n ++ Q.drop (n + m)) (by simp only [List.length_append, List.length_take, List.length_drop]; omega)
  have v1 : IntKind.i64.wrap ((l : Int) + n) = l + n := wrap64 (by omega) (by omega)
  have v2 : IntKind.i64.wrap ((l : Int) + n + m) = l + n + m := wrap64 (by omega) (by omega)
  have v3 : IntKind.i64.wrap ((l : Int) + n + m + 2) = M := by rw [wrap64 (by omega) (by omega)]; omega
  have v4 : IntKind.i64.wrap ((n : Int) + m) = n + m := wrap64 (by omega) (by omega)
  refine cpure_of Tryz.xen10 Tryz.func10 rfl Tryz.ntmps10 (by rw [Tryz.results10]) (aw_ok _ ?_)
  simp only [go_sem, simprocAttr, decide_true, decide_false]
  refine icall_io hM [] rfl (by omega) (by decide) ?_ rfl rfl rfl rfl ?_
  · simp only [go_sem, simprocAttr, decide_true, decide_false]
  simp only [go_sem, simprocAttr, decide_true, decide_false, List.getElem?_nil]
  refine icall_io cT [0] rfl (by omega) (by decide) ?_ rfl rfl rfl rfl ?_
  · simp only [go_sem, simprocAttr, decide_true, decide_false] <;> rfl
  simp only [go_sem, simprocAttr, decide_true, decide_false, List.getElem?_nil]
  obtain ⟨c0, kq⟩ := q0
  refine icall_box cC rfl rfl rfl ?_
  simp only [go_sem, simprocAttr, decide_true, decide_false]
  have ec : ∀ d : ClipR, [T.lit (.int .i64 d.len), .lit (.int .i64 d.kind), .lit (.int .i64 d.a.kind), .lit (.string d.a.name), .lit (.int .i64 d.a.pos.num), .lit (.int .i64 d.a.pos.den), .lit (.int .i64 d.a.speed.num), .lit (.int .i64 d.a.speed.den), .lit (.bool d.a.smooth),
        .lit (.int .i64 d.b.kind), .lit (.string d.b.name), .lit (.int .i64 d.b.pos.num), .lit (.int .i64 d.b.pos.den), .lit (.int .i64 d.b.speed.num), .lit (.int .i64 d.b.speed.den), .lit (.bool d.b.smooth), .lit (.int .i64 d.off), .lit (.int .i64 d.total), .lit (.int .i64 d.param), .lit (.string d.text), .lit (.int .i64 d.gain), .list 1 (intC 0) (d.chan.map intC)] = ClipR.c d := fun _ => rfl
  simp only [ec, eC, eCl]
  refine ⟨⟨by unfold maxLen; omega, by omega⟩, _, cLt, ?_⟩
  simp only [go_sem, simprocAttr, decide_true, decide_false, wx, hn, w0]
  refine lcall_give ?_
  simp only [go_sem, simprocAttr, decide_true, decide_false]
  refine ⟨_, a1, ?_⟩
  simp only [go_sem, simprocAttr, decide_true, decide_false, hm', wy, w1, w2]
  refine ⟨_, a2, ?_⟩
  simp only [go_sem, simprocAttr, decide_true, decide_false]
  refine lcall_give ?_
  simp only [go_sem, simprocAttr, decide_true, decide_false]
  refine ⟨_, wT, ?_⟩
  simp only [go_sem, simprocAttr, decide_true, decide_false, v1, v2, v3]
  refine ⟨_, fT, ?_⟩
  simp only [go_sem, simprocAttr, decide_true, decide_false]
  refine lcall_give ?_
  simp only [go_sem, simprocAttr, decide_true, decide_false]
  refine ⟨_, cLC, ?_⟩
  simp only [go_sem, simprocAttr, decide_true, decide_false, v1, v2, v3, lT]
  refine awp_give [4] ?_
  simp only [go_sem, simprocAttr, decide_true, decide_false]
  refine drawQ_of [7] [15] 17 .done rfl (by kernel_rfl) (by kernel_rfl) (by decide) ?_
  simp only [go_sem, simprocAttr, decide_true, decide_false, lT]
  refine ⟨⟨by omega, by omega⟩, ⟨by simp only [List.length_take, List.length_map]; unfold maxLen; omega, by simp only [List.length_take, List.length_map]; omega⟩, _, wC, ?_⟩
  simp only [go_sem, simprocAttr, decide_true, decide_false]
  refine ⟨_, fC, ?_⟩
  simp only [go_sem, simprocAttr, decide_true, decide_false, lT, lC]
  have em1 : List.take n (Q.map ExprR.c) ++ R.map ExprR.c ++ List.drop n (List.take M (Q.map ExprR.c)) = (Q.take n ++ R ++ Q.drop n).map ExprR.c := by
    rw [List.take_of_length_le (i := M) (l := Q.map ExprR.c) (by rw [List.length_map]; omega)]
    simp only [List.map_append, List.map_take, List.map_drop]
  have em2 : List.take n (Q.map ExprR.c) ++ List.drop (n + m) (List.take M (Q.map ExprR.c)) = (Q.take n ++ Q.drop (n + m)).map ExprR.c := by
    rw [List.take_of_length_le (i := M) (l := Q.map ExprR.c) (by rw [List.length_map]; omega)]
    simp only [List.map_append, List.map_take, List.map_drop]
  have ln1 : (Q.take n ++ R ++ Q.drop n).length = N1 := by simp only [List.length_append, List.length_take, List.length_drop]; omega
  have ln2 : (Q.take n ++ Q.drop (n + m)).length = N2 := by simp only [List.length_append, List.length_take, List.length_drop]; omega
  refine ⟨⟨by simp only [List.length_take, List.length_map]; unfold maxLen; omega, by simp only [List.length_take, List.length_map]; omega⟩, ⟨by omega, by omega, by omega⟩, ⟨by simp only [List.length_append, List.length_take, List.length_drop, List.length_map]; unfold maxLen; omega, by simp only [List.length_append, List.length_take, List.length_drop, List.length_map]; omega⟩, by kernel_rfl, ?_⟩
  rw [em1]
  generalize Q.take n ++ R ++ Q.drop n = Y1 at *
  refine lcall_give ?_
  simp only [go_sem, simprocAttr, decide_true, decide_false]
  refine ⟨_, wU, ?_⟩
  simp only [go_sem, simprocAttr, decide_true, decide_false, ln1]
  refine ⟨_, fU, ?_⟩
  simp only [go_sem, simprocAttr, decide_true, decide_false]
  refine ⟨_, cA1, ?_⟩
  simp only [go_sem, simprocAttr, decide_true, decide_false]
  refine drawQ_of [] [10] 12 .done rfl (by kernel_rfl) (by kernel_rfl) (by decide) ?_
  have tn : ((n : Int) + m).toNat = n + m := by omega
  simp only [go_sem, simprocAttr, decide_true, decide_false, lT, v4, tn]
  refine ⟨⟨by omega, by omega⟩, ⟨by simp only [List.length_take, List.length_map]; unfold maxLen; omega, by simp only [List.length_take, List.length_map]; omega⟩, ⟨by omega, by omega, by omega⟩, ⟨by simp only [List.length_take, List.length_drop, List.length_map]; unfold maxLen; omega, by simp only [List.length_take, List.length_drop, List.length_map]; omega⟩, by kernel_rfl, ?_⟩
  rw [em2]
  generalize Q.take n ++ Q.drop (n + m) = Y2 at *
  refine lcall_give ?_
  simp only [go_sem, simprocAttr, decide_true, decide_false]
  refine ⟨_, wV, ?_⟩
  simp only [go_sem, simprocAttr, decide_true, decide_false, ln2]
  refine ⟨_, fV, ?_⟩
  simp only [go_sem, simprocAttr, decide_true, decide_false]
  refine ⟨_, cA2, ?_⟩
  simp only [go_sem, simprocAttr, decide_true, decide_false]
  refine ⟨_, cAwake25, ?_⟩
  simp only [go_sem, simprocAttr, decide_true, decide_false]
end Go.Proofs.YtinobebofhbnnaaGreat
