/- Proved here: What the statement about rates computes, for use in the proofs of the given statements; conditions stand in each theorem. -/
import Derived.Test.YtjmoncjecpckhaaGreatVN
set_option linter.unusedSimpArgs false
set_option linter.unusedVariables false
set_option linter.unusedSectionVars false
set_option linter.unnecessarySimpa false
namespace Go.Proofs.YtjmoncjecpckhaaGreat
open Go.RowKit
set_option maxRecDepth 4000
theorem as_projM (b a:RatR) (c:ClipR) {d1 d2:List T}:∀ (w:World) (E:Env) v,RdV w E (.agg [.t (.list 141 (Tryz.z60.map T.lit) (rawMv b a)), .t (.list 9 zSeqT [rawQ1 a (.list 1 d1 [[.list 22 d2 [ClipR.c c]]])])]) v→RdV w E (vproj (prjG b a a 1 [[c]])) v :=
 as_impAgg (by exact ⟨as_imp (imp_list ⟨iL_app2 _ imp_nil,iL_app2 _ imp_nil,trivial⟩),as_imp (imp_list (by exact ⟨⟨imp_refl,imp_refl,imp_refl,imp_refl,imp_refl,imp_nil,imp_list (by exact ⟨⟨imp_list (impR_refl _),trivial⟩,trivial⟩),imp_nil,imp_refl,trivial⟩,trivial⟩)),trivial⟩)
theorem rates_snd {b a:RatR} (hb:RateP b) (ha:RateP a) {A:List AudioR} {p q u v:List Int} (h:TwoA A p q u v) (hl:p.length=9000) (k:Nat) (hk:k<8000):sndV (prjE b a A) [[cutC nmA ⟨0,1⟩ (ratioR b a) 60 4096 0]] a (k:Int) 40 0=(p.drop k).take 40:=by
 have hr:=ha.s
 have hp2:=ratio_p hb ha
 refine snd_part (by omega) fun i hi=>?_
 obtain ⟨o0,o1⟩:=own30 (r:=a) (s:=(k:Int)+i) (n:=60) (b:=8100) hr.d hr.n hr.m30 (by omega) (by omega) (by decide)
 have hp:((prjE b a A).chs nmA)[0]? = some p:=by rw [(two_a h).2];rfl
 have hbn:=hb.s.n
 have hbd:=hb.s.d
 have hn0:=hr.n
 have hd0:=hr.d
 have hz:(prjE b a A).rate nmA≠0:=by
  rw [rate_a,toQ_div (rateS_v hb.s).2.1]
  have h1:(0:Rat)<((b.num:Int):Rat):=ratpos hbn
  have h2:(0:Rat)<((b.den:Int):Rat):=ratpos hbd
  intro e
  have:(b.num:Rat)=((b.num:Rat) / (b.den:Rat))*(b.den:Rat):=by grind
  rw [e] at this
  grind
 have:=snd_ratio (E:=prjE b a A) (nm:=nmA) (r:=a) (c:=0) hp2.vc hp h.ip (by omega) (by omega) hz (by rw [rate_a];exact hp2.eq) o0 o1
 rw [show ((0:Nat):Int)=0 from rfl] at this
 exact this
theorem rate_cells (a b:RatR):tCells (List.take 4 (List.map V.t (nth (Tryz.z60.map T.lit) (rawMv a a) 0)) ++ [V.t (ti b.num),V.t (ti b.den)]++List.drop 6 (List.map V.t (nth (Tryz.z60.map T.lit) (rawMv a a) 0)))=some (mHead (prjM nmA b) ++ [.lit (.slice none 0 0)]):=by
 rfl
set_option maxHeartbeats 4000000 in
theorem rates4 (L:List Int) (f w:Int) (hf : 0≤f∧f≤65535) (hw:I64 w):CPure Tryz.prog 4 [.t (tints L), .t (.lit (.int .u16 f)),vint w] (vbool true):=by
 have hS:=cSounds L 9000 (by decide)
 have hA:=sounds_two L 9000 (by decide)
 have k0:=tmod_abs f (n:=8000) (by decide)
 have k1:=Int.tmod_nonneg 8000 hf.1
 obtain ⟨k,hk⟩:=nat_of k1
 have w1:=tmod_abs w (n:=5) (by decide)
 have v1:=tmod_abs (w.tdiv 5) (n:=5) (by decide)
 have i0:=Int.tmod_nonneg 5 (show 0≤w.tmod 5+5 by omega)
 have i1:=Int.tmod_lt_of_pos (w.tmod 5+5) (show (0:Int)<5 by decide)
 have j0:=Int.tmod_nonneg 5 (show 0≤(w.tdiv 5).tmod 5+5 by omega)
 have j1:=Int.tmod_lt_of_pos ((w.tdiv 5).tmod 5+5) (show (0:Int)<5 by decide)
 have wi:=wrap64 (x:=w.tmod 5+5) (by omega) (by omega)
 have wj:=wrap64 (x:=(w.tdiv 5).tmod 5+5) (by omega) (by omega)
 have wq:IntKind.i64.wrap (w.tdiv 5)=w.tdiv 5:=by
  have:(w.tdiv 5).natAbs=w.natAbs / 5:=Int.natAbs_tdiv w 5
  have h1:=hw.1
  have h2:=hw.2
  exact wrap64 (by omega) (by omega)
 obtain ⟨i,hi⟩:∃ i,i=(w.tmod 5+5).tmod 5:=⟨_,rfl⟩
 obtain ⟨j,hj⟩:∃ j,j=((w.tdiv 5).tmod 5+5).tmod 5:=⟨_,rfl⟩
 rw [← hi] at i0 i1
 rw [← hj] at j0 j1
 obtain ⟨a,ha,na⟩:=rates_at i i0 i1 [ti 0,ti 0]
 obtain ⟨b,hb,nb⟩:=rates_at j j0 j1 [ti 0,ti 0]
 have hp2:=ratio_p hb ha
 have va:=rateS_v ha.s
 have vb:=rateS_v hb.s
 have cR:=cRatio (b:=b) (a:=a) ⟨hb.s.n,vb.2.2.1⟩ ⟨hb.s.d,vb.2.2.2⟩ ⟨ha.s.n,va.2.2.1⟩ ⟨ha.s.d,va.2.2.2⟩
 rw [hp2.ok] at cR
 have s1:=cSnd1 (ra:=b) (rb:=a) (r:=a) (ts:=[[cutC nmA ⟨0,1⟩ (ratioR b a) 60 4096 0]]) (from0:=(k:Int)) (n:=40) hb.s ha.s ha.s (by simp) (fun t ht=>by
  simp only [List.mem_cons,List.not_mem_nil,or_false] at ht
  subst ht
  exact cutC_trk (.inl rfl) hp2.vc (cutC_fit fr01 hp2.fit (by decide) (by decide) (by decide))) (two_aud hA) (by decide) (by omega) (by omega) (fun t ht c hc _=>by
  simp only [List.mem_cons,List.not_mem_nil,or_false] at ht
  subst ht
  simp only [List.mem_cons,List.not_mem_nil,or_false] at hc
  subst hc
  exact cutT_a hA hb.s (by decide) (by decide) vr01 hp2.vr (qb01 _ _ (by decide)) hp2.qb)
 have hl:=sndL_len (sndP L 0) 9000
 rw [rates_snd hb ha hA hl k (by omega)] at s1
 obtain ⟨sp,hsp⟩:∃ sp,sp=ratioR b a:=⟨_,rfl⟩
 rw [← hsp] at cR s1
 refine cpure_of Tryz.xen4 Tryz.func4 rfl Tryz.ntmps4 (by rw [Tryz.results4]) ?_
 refine awp_seq (aw_ok _ ?_)
 simp only [go_sem,simprocAttr,decide_true,decide_false]
 refine awp_seq (aw_ok _ ?_)
 simp only [go_sem,simprocAttr,decide_true,decide_false]
 refine ⟨_,cWhole 25,?_⟩
 simp only [go_sem,simprocAttr,decide_true,decide_false]
 refine ⟨_,cWhole 24,?_⟩
 simp only [go_sem,simprocAttr,decide_true,decide_false]
 refine ⟨_,cWhole 30,?_⟩
 simp only [go_sem,simprocAttr,decide_true,decide_false]
 refine awp_seq (aw_ok _ ?_)
 simp only [go_sem,simprocAttr,decide_true,decide_false]
 refine drawC_of 19 .done rfl (by kernel_rfl) (by kernel_rfl) (by decide) ?_
 simp only [go_sem,simprocAttr,decide_true,decide_false,wq,wi,wj, ← hi, ← hj,na,nb]
 refine ⟨⟨by omega,by omega⟩,by omega,⟨by omega,by omega⟩,by omega,by kernel_rfl,?_⟩
 refine awp_seq (aw_ok _ ?_)
 simp only [go_sem,simprocAttr,decide_true,decide_false]
 refine ⟨_,cR,?_⟩
 simp only [go_sem,simprocAttr,decide_true,decide_false]
 refine awp_seq (aw_ok _ ?_)
 simp only [go_sem,simprocAttr,decide_true,decide_false]
 refine awp_seq (aw_ok _ ?_)
 simp only [go_sem,simprocAttr,decide_true,decide_false]
 refine ⟨_,hS,?_⟩
 simp only [go_sem,simprocAttr,decide_true,decide_false]
 refine awp_seq (aw_ok _ ?_)
 simp only [go_sem,simprocAttr,decide_true,decide_false]
 refine drawF_of [4,5] [6] 9 .done rfl (by kernel_rfl) (by kernel_rfl) (by decide) ?_
 simp only [go_sem,simprocAttr,decide_true,decide_false]
 refine ⟨_,cWhole 0,?_⟩
 simp only [go_sem,simprocAttr,decide_true,decide_false]
 refine ⟨_,cCut27 ⟨0,1⟩ sp 60,?_⟩
 simp only [go_sem,simprocAttr,decide_true,decide_false]
 refine fcall (cProjM a _) rfl ?_
 simp only [go_sem,simprocAttr,decide_true,decide_false]
 refine ⟨by kernel_rfl,?_⟩
 refine awp_seq (aw_ok _ ?_)
 simp only [go_sem,simprocAttr,decide_true,decide_false,rate_cells a b]
 refine awp_seq (aw_ok _ ?_)
 simp only [go_sem,simprocAttr,decide_true,decide_false,hk,wrapN (n:=k) (by omega)]
 refine awp_seq (aw_ok _ ?_)
 simp only [go_sem,simprocAttr,decide_true,decide_false]
 refine lcall_give ?_
 simp only [go_sem,simprocAttr,decide_true,decide_false]
 refine ⟨_,cpure_as (.cons (as_projM b a (cutC nmA ⟨0,1⟩ sp 60 4096 0)) (.cons as_refl (.cons as_refl (.cons as_refl (.cons as_refl .nil))))) s1,?_⟩
 simp only [go_sem,simprocAttr,decide_true,decide_false]
 obtain ⟨P,hP⟩:∃ P,P=sndL (sndP L 0) 9000:=⟨_,rfl⟩
 have hPl:P.length=9000:=by rw [hP,sndL_len]
 have hn0:∀ d,nth d ((soundsA L 9000).map AudioR.c) 0 = [tstr nmA, .list 1 [.lit (.slice none 0 0)] [[.list 1 (c16 0) (P.map c16)],[t16 (sndL (sndQ L 0) 9000)]]]:=fun d=>by rw [hP];rfl
 have hl2:(soundsA L 9000).length=2:=rfl
 have hSm:=cSame27 [(P.drop k).take 40] (by simp) (fun x hx=>by
  simp only [List.mem_cons,List.not_mem_nil,or_false] at hx
  rw [hx,List.length_take]
  omega)
 rw [← hP]
 refine awp_seq (awp_region_part 14 ?_)
 simp only [go_sem,simprocAttr,decide_true,decide_false,List.take_succ_cons,List.take_zero,List.drop_succ_cons,List.drop_zero,List.take,List.drop,tchs,hl2,hn0,nth_zero2,hPl,wrap64 (x:=(k:Int)+40) (by omega) (by omega)]
 refine ⟨⟨by omega,by omega,by omega⟩,?_⟩
 refine semS_true rfl (by simp only [go_sem,simprocAttr,decide_true,decide_false]) ?_
 try simp only [go_sem,simprocAttr,decide_true,decide_false]
 refine semS_true rfl (by simp only [go_sem,simprocAttr,decide_true,decide_false]) ?_
 try simp only [go_sem,simprocAttr,decide_true,decide_false]
 refine lcall_lend ?_
 simp only [go_sem,simprocAttr,decide_true,decide_false]
 have e40:(k:Int)+40=(k:Int)+((40:Nat):Int):=rfl
 rw [e40,part_eq]
 refine ⟨_,hSm,rfl,?_⟩
 try simp only [go_sem,simprocAttr,decide_true,decide_false]
 refine semS_steps ?_
 simp only [go_sem,simprocAttr,decide_true,decide_false]
 refine ⟨_,cAwake27,?_⟩
 simp only [go_sem,simprocAttr,decide_true,decide_false]
 refine aw_ok _ ?_
 simp only [go_sem,simprocAttr,decide_true,decide_false]
end Go.Proofs.YtjmoncjecpckhaaGreat
