/- Proved here: 'DenoteLifts' returns true, for use in the proofs of the given statements; conditions stand in each theorem. -/
import Derived.Test.YtinobebofhbnnaaGreatZED7
import Derived.Test.YtinobebofhbnnaaGreatZED8
set_option linter.unusedSimpArgs false
set_option linter.unusedVariables false
set_option linter.unusedSectionVars false
set_option linter.unnecessarySimpa false
namespace Go.Proofs.YtinobebofhbnnaaGreat
open Go.RowKit
set_option maxRecDepth 4000
def darkR (l:List (List T)) (n i:Nat):List (List T):=l.take n++List.replicate i zE++l.drop (n+i)
theorem darkR_zero (l:List (List T)) (n:Nat):darkR l n 0=l:=by
 unfold darkR
 simp
theorem darkR_len (l:List (List T)) {n i:Nat} (h:n+i≤l.length):(darkR l n i).length=l.length:=by
 unfold darkR
 simp only [List.length_append,List.length_take,List.length_replicate,List.length_drop]
 omega
theorem darkR_put (l:List (List T)) {n i:Nat} (h:n+i<l.length):(darkR l n i).set (n+i) zE=darkR l n (i+1):=by
 unfold darkR
 have hl:(l.take n++List.replicate i zE).length=n+i:=by rw [List.length_append,List.length_take,List.length_replicate];omega
 rw [List.set_append_right _ _ (by omega),hl,Nat.sub_self,List.drop_eq_getElem_cons h,List.set_cons_zero,List.replicate_succ',List.append_assoc,List.append_assoc,List.append_assoc]
 rfl
theorem darkR_nth (d:List T) (l:List (List T)) {n i:Nat} (h:n+i<l.length):nth d (darkR l n i) (n+i)=l.getD (n+i) []:=by
 unfold nth darkR
 have hl:(l.take n++List.replicate i zE).length=n+i:=by rw [List.length_append,List.length_take,List.length_replicate];omega
 rw [List.getElem?_append_right (by omega),hl,Nat.sub_self,List.getElem?_drop,Nat.add_zero,List.getD_eq_getElem?_getD,List.getElem?_eq_getElem h]
 rfl
theorem imp_replicate:∀ (m:Nat),ImpR (List.replicate m zE) ((List.replicate m zeroE).map ExprR.c)
 | 0=>trivial
 | m+1=>by
  rw [List.replicate_succ,List.replicate_succ,List.map_cons]
  exact ⟨⟨imp_refl,imp_refl,imp_refl,imp_refl,imp_refl,imp_refl,imp_refl,imp_nil,trivial⟩,imp_replicate m⟩
theorem impR_reflX:∀ (l:List (List T)),ImpR l l
 | []=>trivial
 | x::l=>⟨impL_refl x,impR_reflX l⟩
theorem impR_appX:∀ {a b c d:List (List T)},ImpR a b→ImpR c d→ImpR (a++c) (b++d)
 | [],[],_,_,_,h=>h
 | [],_::_,_,_,h,_=>h.elim
 | _::_,[],_,_,h,_=>h.elim
 | _::_,_::_,_,_,h,h2=>⟨h.1,impR_appX h.2 h2⟩
theorem dark_imp (Q:List ExprR) (n m:Nat):ImpR (darkR (Q.map ExprR.c) n m) ((Q.take n++List.replicate m zeroE++Q.drop (n+m)).map ExprR.c):=by
 unfold darkR
 rw [List.map_append,List.map_append,List.map_take,List.map_drop]
 exact impR_appX (impR_appX (impR_reflX _) (imp_replicate m)) (impR_reflX _)
set_option maxHeartbeats 8000000 in
theorem lifts58 (L : List Int) (x y : Int) (hx : 0 ≤ x ∧ x ≤ 255) (hy : 0 ≤ y ∧ y ≤ 255) : CPure Tryz.prog 11 [.t (tints L), .t (.lit (.int .u8 x)), .t (.lit (.int .u8 y))] (vbool true) := by
  obtain ⟨x0, x1, wx⟩ := u8_tmod x 30 hx (by omega) (by omega)
  obtain ⟨y0, y1, wy⟩ := u8_tmod y 20 hy (by omega) (by omega)
  obtain ⟨n, hn⟩ : ∃ n : Nat, x.tmod 30 = n := ⟨(x.tmod 30).toNat, by omega⟩
  obtain ⟨m, hm⟩ : ∃ m : Nat, y.tmod 20 + 1 = m := ⟨(y.tmod 20 + 1).toNat, by omega⟩
  have hm' : y.tmod 20 = m - 1 := by omega
  have w0 : IntKind.i64.wrap (n : Int) = n := wrap64 (by omega) (by omega)
  have w1 : IntKind.i64.wrap ((m : Int) - 1) = m - 1 := wrap64 (by omega) (by omega)
  have w2 : IntKind.i64.wrap ((m : Int) - 1 + 1) = m := by rw [wrap64 (by omega) (by omega)]; omega
  rw [hn] at wx
  rw [hm'] at wy
  have ht := madeT_trk L
  have hcu := madeT_cut L
  obtain ⟨hl, hfl⟩ := madeT_len L
  have htf : ∀ c ∈ madeT L, c.fit := fun c hc => (ht.cl c hc).1
  have hnt := madeT_norm L
  have cLt := cPLength (madeT L) htf
  have eL : lenT (madeT L) = totL (madeT L) := by unfold lenT; rw [if_pos ht.ok]
  have hM := cMade L
  have htt := hcu.tot
  have hC := newC_ok L
  have hAt := madeAt_le L
  have hKn := newK_le L
  have cT := cTrackIO L (madeAt L) 3 2 2 (by omega) (by omega) (by omega) (by omega) (by omega)
  have cC := cClip L (newK L) 3 2 (by omega) (by omega) (by omega)
  have eC : (trkAt L (madeAt L) 3 2 2).1.map ClipR.c ++ [ClipR.c (clipAt L (newK L) 3 2).1] = (newC L).map ClipR.c := by unfold newC; rw [List.map_append]; rfl
  have eCl : (trkAt L (madeAt L) 3 2 2).1.length + 1 = (newC L).length := by unfold newC; simp
  have eK : (trkAt L (madeAt L) 3 2 2).2 = newK L := rfl
  rw [eK] at cT
  generalize (trkAt L (madeAt L) 3 2 2).1 = A0 at *
  generalize (clipAt L (newK L) 3 2) = q0 at *
  generalize newC L = C at *
  generalize fr (madeT L) = F at *
  generalize madeT L = t at *
  obtain ⟨l, hle⟩ : ∃ l : Nat, l = F.length := ⟨_, rfl⟩
  have en : totL t = l := by omega
  rw [eL, en] at cLt
  have cLC := cPLength C hC.fit
  have eLC : lenT C = totL C := by unfold lenT; rw [if_pos hC.ok]
  obtain ⟨k, hk⟩ : ∃ k : Nat, k = (fr C).length := ⟨_, rfl⟩
  have hkt : totL C = k := by have := hC.fl; omega
  rw [eLC, hkt] at cLC
  obtain ⟨kt1, kt2⟩ := hC.tot
  obtain ⟨M, hMe⟩ : ∃ M : Nat, M = l + n + m + k + 2 := ⟨_, rfl⟩
  have hl5 := hC.l5
  obtain ⟨g1, g2, g3⟩ := gap_new (madeP L) (n := m) (by omega) (by omega)
  have g3' : (fr (gapL m)).length = m := by rw [g3]; omega
  have e1 := edOk hcu ht hl (by omega) hC.gd (by omega) (by omega) (a := n) (r := n + k) (by omega) (by omega) (by omega) (by omega)
  have e2 := edOk hcu ht hl (by omega) g1 (by omega) (by omega) (a := n) (r := n + m) (by omega) (by omega) (by omega) (by omega)
  obtain ⟨t1, f1⟩ := exch_film hcu ht hl (by omega) hC.gd (by omega) (by omega) (a := n) (r := n + k) (M := M) (by omega) (by omega) (by omega) (by omega) (by omega)
  obtain ⟨t2, f2⟩ := exch_film hcu ht hl (by omega) g1 (by omega) (by omega) (a := n) (r := n + m) (M := M) (by omega) (by omega) (by omega) (by omega) (by omega)
  have a1 := cApply3 ht.ok htf hnt hcu (by omega) (by omega) n (by omega) (by omega) C (trk_mk (by omega) (track_all hC.ok).2.1 (track_all hC.ok).2.2) hC.ok hC.fit hC.l0 (by omega) (by rw [hkt]; exact e1.trk) (by rw [hkt]; exact e1.fit) (by rw [hkt]; exact e1.l64)
  rw [hkt] at a1
  have a2 := cApply4 ht.ok htf hnt hcu (by omega) (by omega) n (by omega) (by omega) m (by omega) (by omega) e2.trk e2.fit e2.l64
  have hFE : trkL (madeP L) [t] M = frsL (madeP L) F M := by
    rw [← hcu.fr]
    exact trkL_fr (m := 1000) (by omega) (fun c hc => ⟨hcu.gd c hc, by have := len_le_tot (fun c hc => (vClip_len (hcu.gd c hc).ok).1) c hc; omega⟩) M
  have hCE : trkL (madeP L) [C] k = (fr C).map (frE (madeP L)) := by
    rw [trkL_fr (m := 600) (by omega) (fun c hc => ⟨(hC.gd c hc).1, by have := len_le_tot (fun c hc => (vClip_len (hC.gd c hc).1.ok).1) c hc; omega⟩), hk]
    exact frsL_own _ _
  have mem1 : ∀ {a : List ClipR}, TrkP (madeP L) a → ∀ x ∈ [a], TrkP (madeP L) x := fun ha x hx => by
    simp only [List.mem_cons, List.not_mem_nil, or_false] at hx
    subst hx
    exact ha
  have ff1 : (fr C).length = k := hk.symm
  rw [ff1, ← hCE, ← hFE] at f1
  have hgm : (fr (gapL m)).map (frE (madeP L)) = List.replicate m zeroE := by
    rw [fr_gapL, List.map_replicate, frE_gap, Int.toNat_natCast]
  rw [g3', hgm, ← hFE] at f2
  have hN1 : n + k + (M - (n + k)) = M := by omega
  have hN2 : n + m + (M - (n + m)) = M := by omega
  rw [hN1] at f1
  rw [hN2] at f2
  have fT := cFilmIO L (ts := [t]) (by simp) (mem1 ht) M (by omega) (by omega)
  have fC := cFilmT L (ts := [C]) (by simp) (mem1 hC.trk) k (by omega)
  have ck : ((n + k : Nat) : Int) = (n : Int) + k := by omega
  have cm : ((n + m : Nat) : Int) = (n : Int) + m := by omega
  rw [ck] at t1 f1
  rw [cm] at t2 f2
  have fU := cFilmT L (ts := [nrmE (exchL t n C (n + k))]) (by simp) (mem1 t1) M (by omega)
  have fV := cFilmT L (ts := [nrmE (exchL t n (gapL m) (n + m))]) (by simp) (mem1 t2) M (by omega)
  rw [f1] at fU
  rw [f2] at fV
  have lT := trkL_len (madeP L) [t] M
  have lC := trkL_len (madeP L) [C] k
  generalize trkL (madeP L) [t] M = Q at *
  generalize trkL (madeP L) [C] k = R at *
  have wT := cWithT L [t] (raw := .list 1 [.lit (.slice none 0 0)] [[tclips t]]) (imp_list (by exact ⟨⟨imp_refl, trivial⟩, trivial⟩))
  have wC := cWithT L [C] (raw := .list 1 [.lit (.slice none 0 0)] [[tclips C]]) (imp_list (by exact ⟨⟨imp_refl, trivial⟩, trivial⟩))
  have wU := cWithT L [nrmE (exchL t n C (n + k))] (raw := .list 1 [.lit (.slice none 0 0)] [[tclips (nrmE (exchL t n C (n + k)))]]) (imp_list (by exact ⟨⟨imp_refl, trivial⟩, trivial⟩))
  have wV := cWithT L [nrmE (exchL t n (gapL m) (n + m))] (raw := .list 1 [.lit (.slice none 0 0)] [[tclips (nrmE (exchL t n (gapL m) (n + m)))]]) (imp_list (by exact ⟨⟨imp_refl, trivial⟩, trivial⟩))
  generalize nrmE (exchL t n C (n + k)) = U at *
  generalize nrmE (exchL t n (gapL m) (n + m)) = W at *
  have cA1 := cAllSelf (Q.take n ++ R ++ Q.drop (n + k)) (by simp only [List.length_append, List.length_take, List.length_drop]; omega)
  have cA2 := cAllSelf (Q.take n ++ List.replicate m zeroE ++ Q.drop (n + m)) (by simp only [List.length_append, List.length_take, List.length_drop, List.length_replicate]; omega)
  have v1 : IntKind.i64.wrap ((l : Int) + n) = l + n := wrap64 (by omega) (by omega)
  have v2 : IntKind.i64.wrap ((l : Int) + n + m) = l + n + m := wrap64 (by omega) (by omega)
  have v3 : IntKind.i64.wrap ((l : Int) + n + m + k) = l + n + m + k := wrap64 (by omega) (by omega)
  have v4 : IntKind.i64.wrap ((l : Int) + n + m + k + 2) = M := by rw [wrap64 (by omega) (by omega)]; omega
  refine cpure_of Tryz.xen11 Tryz.func11 rfl Tryz.ntmps11 (by rw [Tryz.results11]) ?_
  refine awp_seq (aw_ok _ ?_)
  simp only [go_sem, simprocAttr, decide_true, decide_false]
  refine awp_seq (aw_ok _ ?_)
  simp only [go_sem, simprocAttr, decide_true, decide_false]
  refine icall_io hM [] rfl (by omega) (by decide) ?_ rfl rfl rfl rfl ?_
  · simp only [go_sem, simprocAttr, decide_true, decide_false]
  simp only [go_sem, simprocAttr, decide_true, decide_false, List.getElem?_nil]
  refine awp_seq (aw_ok _ ?_)
  simp only [go_sem, simprocAttr, decide_true, decide_false]
  refine icall_io cT [0] rfl (by omega) (by decide) ?_ rfl rfl rfl rfl ?_
  · simp only [go_sem, simprocAttr, decide_true, decide_false] <;> rfl
  simp only [go_sem, simprocAttr, decide_true, decide_false, List.getElem?_nil]
  obtain ⟨c0, kq⟩ := q0
  refine icall_box cC rfl rfl rfl ?_
  simp only [go_sem, simprocAttr, decide_true, decide_false]
  have ec : ∀ d : ClipR, [T.lit (.int .i64 d.len), .lit (.int .i64 d.kind), .lit (.int .i64 d.a.kind), .lit (.string d.a.name), .lit (.int .i64 d.a.pos.num), .lit (.int .i64 d.a.pos.den), .lit (.int .i64 d.a.speed.num), .lit (.int .i64 d.a.speed.den), .lit (.bool d.a.smooth),
        .lit (.int .i64 d.b.kind), .lit (.string d.b.name), .lit (.int .i64 d.b.pos.num), .lit (.int .i64 d.b.pos.den), .lit (.int .i64 d.b.speed.num), .lit (.int .i64 d.b.speed.den), .lit (.bool d.b.smooth), .lit (.int .i64 d.off), .lit (.int .i64 d.total), .lit (.int .i64 d.param), .lit (.string d.text), .lit (.int .i64 d.gain), .list 1 (intC 0) (d.chan.map intC)] = ClipR.c d := fun _ => rfl
  simp only [ec, eC, eCl]
  refine ⟨⟨by unfold maxLen; omega, by omega⟩, ?_⟩
  refine awp_seq (aw_ok _ ?_)
  simp only [go_sem, simprocAttr, decide_true, decide_false, wx, hn, w0, hm', wy, w1, w2]
  refine lcall_give ?_
  simp only [go_sem, simprocAttr, decide_true, decide_false]
  refine ⟨_, cLC, ?_⟩
  simp only [go_sem, simprocAttr, decide_true, decide_false]
  refine awp_seq (aw_ok _ ?_)
  simp only [go_sem, simprocAttr, decide_true, decide_false]
  refine lcall_give ?_
  simp only [go_sem, simprocAttr, decide_true, decide_false]
  refine ⟨_, a1, ?_⟩
  simp only [go_sem, simprocAttr, decide_true, decide_false]
  refine awp_seq (aw_ok _ ?_)
  simp only [go_sem, simprocAttr, decide_true, decide_false]
  refine ⟨_, a2, ?_⟩
  simp only [go_sem, simprocAttr, decide_true, decide_false]
  refine awp_seq (aw_ok _ ?_)
  simp only [go_sem, simprocAttr, decide_true, decide_false]
  refine awp_seq (aw_ok _ ?_)
  simp only [go_sem, simprocAttr, decide_true, decide_false]
  refine ⟨_, cLt, ?_⟩
  simp only [go_sem, simprocAttr, decide_true, decide_false, v1, v2, v3, v4]
  refine awp_seq (awp_region_part 5 ?_)
  simp only [go_sem, simprocAttr, decide_true, decide_false, List.take_succ_cons, List.take_zero, List.drop_succ_cons, List.drop_zero, List.take, List.drop]
  refine lcall_give ?_
  simp only [go_sem, simprocAttr, decide_true, decide_false]
  refine ⟨_, wT, ?_⟩
  refine semS_io rfl rfl ?_
  simp only [go_sem, simprocAttr, decide_true, decide_false]
  refine icall_io fT [] rfl (by omega) (by decide) ?_ rfl rfl rfl rfl ?_
  · simp only [go_sem, simprocAttr, decide_true, decide_false]
  simp only [go_sem, simprocAttr, decide_true, decide_false, List.getElem?_nil]
  refine semS_steps ?_
  simp only [go_sem, simprocAttr, decide_true, decide_false]
  refine awp_seq (aw_ok _ ?_)
  simp only [go_sem, simprocAttr, decide_true, decide_false, lT]
  refine awp_seq (aw_ok _ ?_)
  simp only [go_sem, simprocAttr, decide_true, decide_false, lT]
  refine ⟨⟨by unfold maxLen; omega, by omega⟩, ?_⟩
  refine awp_seq ?_
  refine awp_give [4] ?_
  simp only [go_sem, simprocAttr, decide_true, decide_false]
  refine drawO_of [5] [] 9 rfl (by kernel_rfl) (by kernel_rfl) (by decide) ?_
  simp only [go_sem, simprocAttr, decide_true, decide_false, lT]
  refine ⟨⟨by omega, by omega, by omega⟩, _, wC, ?_⟩
  simp only [go_sem, simprocAttr, decide_true, decide_false]
  refine ⟨_, fC, ?_⟩
  simp only [go_sem, simprocAttr, decide_true, decide_false, lT, lC]
  have ew : List.take n (tRows (Q.map ExprR.c)) ++ tRows (R.map ExprR.c) ++ List.drop (n + k) (tRows (Q.map ExprR.c)) = tRows ((Q.take n ++ R ++ Q.drop (n + k)).map ExprR.c) := by
    simp only [tRows, List.map_append, List.map_take, List.map_drop]
  rw [ew]
  refine ⟨by kernel_rfl, by omega, by omega, ?_⟩
  refine awp_seq (aw_ok _ ?_)
  simp only [go_sem, simprocAttr, decide_true, decide_false]
  have lQ : (Q.map ExprR.c).length = M := by rw [List.length_map, lT]
  refine awp_loop_f (fun (i : Nat) σ => setB 10 (.row 105 8 [T.lit (.int .i64 0), .lit (.string ⟨#[]⟩), .lit (.int .i64 0), .lit (.int .i64 0), .lit (.int .i64 0), .lit (.int .i64 0), .lit (.string ⟨#[]⟩), .lit (.slice none 0 0)] (tRows (darkR (Q.map ExprR.c) n i))) (setS 23 (vint i) (deadS [91, 92, 93, 94, 95, 96, 97, 98, 99, 100, 101, 102, 103, 104, 105, 106, 107, 108, 109, 110, 111] (cleanS σ)))) (fun i => i ≤ m) (fun i => m - i) 0 (weak_self ?_) (by omega) ?_
  · simp only [go_sem, simprocAttr, decide_true, decide_false, darkR_zero]
    simp
  · intro i hi
    have hdl := darkR_len (Q.map ExprR.c) (n := n) (i := i) (by omega)
    have wi : IntKind.i64.wrap ((n : Int) + i) = n + i := wrap64 (by omega) (by omega)
    have wj : IntKind.i64.wrap ((i : Int) + 1) = ((i + 1 : Nat) : Int) := by rw [wrap64 (by omega) (by omega)]; omega
    have tn : ((n : Int) + i).toNat = n + i := by omega
    refine aw_ok _ ?_
    simp only [go_sem, simprocAttr, decide_true, decide_false]
    refine ⟨fun hlt => ?_, fun hge => ?_⟩
    · simp only [bxx] at hlt
      obtain ⟨e0, he0⟩ : ∃ e0, e0 = Q.getD (n + i) default := ⟨_, rfl⟩
      have hn8 : ∀ d, nth d (darkR (Q.map ExprR.c) n i) (n + i) = ExprR.c e0 := fun d => by
        rw [darkR_nth d _ (by omega), List.getD_eq_getElem?_getD, List.getElem?_map, he0, List.getD_eq_getElem?_getD, List.getElem?_eq_getElem (show n + i < Q.length by omega)]
        rfl
      obtain ⟨op0, media0, frame0, num0, den0, param0, text0, args0⟩ := e0
      simp only [ExprR.c, cs_eq] at hn8
      have hst := darkR_put (Q.map ExprR.c) (n := n) (i := i) (by omega)
      unfold awS
      simp only [go_sem, simprocAttr, decide_true, decide_false, wi, tn, hdl, lQ, hn8]
      refine ⟨⟨by omega, by omega⟩, by omega, i + 1, weak_self ?_, by omega, by omega⟩
      simp only [go_sem, simprocAttr, decide_true, decide_false, wj, hn8]
      have hst2 : (darkR (Q.map ExprR.c) n i).set (n + i) [T.lit (.int .i64 0), .lit (.string ⟨#[]⟩), .lit (.int .i64 0), .lit (.int .i64 0), .lit (.int .i64 0), .lit (.int .i64 0), .lit (.string ⟨#[]⟩), .lit (.slice none 0 0)] = darkR (Q.map ExprR.c) n (i + 1) := hst
      rw [hst2]
      simp
    · simp only [bxx] at hge
      have : i = m := by omega
      subst this
      unfold awS
      simp only [go_sem, simprocAttr, decide_true, decide_false]
      refine awp_seq (awp_region_part 9 ?_)
      simp only [go_sem, simprocAttr, decide_true, decide_false, List.take_succ_cons, List.take_zero, List.drop_succ_cons, List.drop_zero, List.take, List.drop]
      refine lcall_give ?_
      simp only [go_sem, simprocAttr, decide_true, decide_false]
      refine ⟨_, wU, ?_⟩
      simp only [go_sem, simprocAttr, decide_true, decide_false]
      refine ⟨_, fU, ?_⟩
      simp only [go_sem, simprocAttr, decide_true, decide_false]
      refine lcall_lend ?_
      simp only [go_sem, simprocAttr, decide_true, decide_false]
      refine ⟨_, cA1, ?_⟩
      simp only [go_sem, simprocAttr, decide_true, decide_false]
      refine semS_true rfl (by simp only [go_sem, simprocAttr, decide_true, decide_false]) ?_
      try simp only [go_sem, simprocAttr, decide_true, decide_false]
      refine semS_true rfl (by simp only [go_sem, simprocAttr, decide_true, decide_false]) ?_
      try simp only [go_sem, simprocAttr, decide_true, decide_false]
      refine semS_true rfl (by simp only [go_sem, simprocAttr, decide_true, decide_false]) ?_
      try simp only [go_sem, simprocAttr, decide_true, decide_false]
      refine semS_true rfl (by simp only [go_sem, simprocAttr, decide_true, decide_false]) ?_
      try simp only [go_sem, simprocAttr, decide_true, decide_false]
      refine lcall_give ?_
      try simp only [go_sem, simprocAttr, decide_true, decide_false]
      refine ⟨_, wV, ?_⟩
      try simp only [go_sem, simprocAttr, decide_true, decide_false]
      refine semS_true rfl (by simp only [go_sem, simprocAttr, decide_true, decide_false]) ?_
      try simp only [go_sem, simprocAttr, decide_true, decide_false]
      refine semS_true rfl (by simp only [go_sem, simprocAttr, decide_true, decide_false]) ?_
      try simp only [go_sem, simprocAttr, decide_true, decide_false]
      refine ⟨_, fV, ?_⟩
      try simp only [go_sem, simprocAttr, decide_true, decide_false]
      refine semS_true rfl (by simp only [go_sem, simprocAttr, decide_true, decide_false]) ?_
      try simp only [go_sem, simprocAttr, decide_true, decide_false]
      refine semS_true rfl (by simp only [go_sem, simprocAttr, decide_true, decide_false]) ?_
      try simp only [go_sem, simprocAttr, decide_true, decide_false]
      refine lcall_lend ?_
      try simp only [go_sem, simprocAttr, decide_true, decide_false]
      refine ⟨_, cpure_as (.cons as_refl (.cons (as_imp (imp_list (dark_imp Q n _))) .nil)) cA2, ?_⟩
      try simp only [go_sem, simprocAttr, decide_true, decide_false]
      refine semS_steps ?_
      simp only [go_sem, simprocAttr, decide_true, decide_false]
      refine ⟨_, cAwake25, ?_⟩
      simp only [go_sem, simprocAttr, decide_true, decide_false]
      refine aw_ok _ ?_
      simp only [go_sem, simprocAttr, decide_true, decide_false]
end Go.Proofs.YtinobebofhbnnaaGreat
