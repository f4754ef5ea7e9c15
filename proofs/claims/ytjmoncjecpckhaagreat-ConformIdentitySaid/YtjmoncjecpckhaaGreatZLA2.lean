/- Proved here: What the statement about a cut at the sequence's rate computes, for use in the proofs of the given statements; conditions stand in each theorem. -/
import Derived.Test.YtjmoncjecpckhaaGreatVJ
set_option linter.unusedSimpArgs false
set_option linter.unusedVariables false
set_option linter.unusedSectionVars false
set_option linter.unnecessarySimpa false
namespace Go.Proofs.YtjmoncjecpckhaaGreat
open Go.RowKit
set_option maxRecDepth 4000
theorem ident_snd {r:RatR} (hr:RateS r) {A:List AudioR} {p q u v:List Int} (h:TwoA A p q u v) (hl:p.length=9000) (k n:Nat) (hk:k<8000) (hn:n≤100):sndV (prjE r r A) [[cutC nmA ⟨0,1⟩ ⟨1,1⟩ 40 4096 0]] r (k:Int) n 0=(p.drop k).take n:=by
 refine snd_part (by omega) fun i hi=>?_
 have hv:vClip (cutC nmA ⟨0,1⟩ ⟨1,1⟩ 40 4096 0)=true:=by kernel_rfl
 obtain ⟨o0,o1⟩:=own30 (r:=r) (s:=(k:Int)+i) (n:=40) (b:=8100) hr.d hr.n hr.m30 (by omega) (by omega) (by decide)
 have e1:(prjE r r A).rate nmA=(r.num:Rat) / r.den:=by rw [rate_a,toQ_div (rateS_v hr).2.1]
 have hp:((prjE r r A).chs nmA)[0]? = some p:=by rw [(two_a h).2];rfl
 have hn0:=hr.n
 have hd0:=hr.d
 rw [smp_one,frm_single hv (by decide:(1:Int)≠0) 0 o0 o1]
 have:=cut_own (E:=prjE r r A) (nm:=nmA) (r:=r) (by omega) (by omega) e1 (c:=0) hp 40 ((k:Int)+i)
 rw [show ((0:Nat):Int)=0 from rfl] at this
 rw [this]
 exact clamp_id (pcmAt_i16 h.ip _)
set_option maxHeartbeats 4000000 in
theorem identity3 (L:List Int) (f n w:Int) (hf : 0≤f∧f≤65535) (hn : 0≤n∧n≤255) (hw:I64 w):CPure Tryz.prog 3 [.t (tints L), .t (.lit (.int .u16 f)), .t (.lit (.int .u8 n)),vint w] (vbool true):=by
 obtain ⟨r,hr,hsel,e0,e3⟩:=rate4 w [ti 0,ti 0]
 have w1:=tmod_abs w (n:=4) (by decide)
 have hS:=cSounds L 9000 (by decide)
 refine cpure_of Tryz.xen3 Tryz.func3 rfl Tryz.ntmps3 (by rw [Tryz.results3]) ?_
 refine awp_seq (aw_ok _ ?_)
 simp only [go_sem,simprocAttr,decide_true,decide_false]
 refine awp_seq (aw_ok _ ?_)
 simp only [go_sem,simprocAttr,decide_true,decide_false]
 refine ⟨_,cWhole 25,?_⟩
 simp only [go_sem,simprocAttr,decide_true,decide_false]
 refine ⟨_,cWhole 24,?_⟩
 simp only [go_sem,simprocAttr,decide_true,decide_false,wrap64 (x:=w.tmod 4+4) (by omega) (by omega),hsel]
 refine ⟨⟨e0,e3⟩,by omega,?_⟩
 refine awp_seq (aw_ok _ ?_)
 simp only [go_sem,simprocAttr,decide_true,decide_false]
 refine ⟨_,hS,?_⟩
 simp only [go_sem,simprocAttr,decide_true,decide_false]
 have k0:=tmod_abs f (n:=8000) (by decide)
 have k1:=Int.tmod_nonneg 8000 hf.1
 have m0:=tmod_abs n (n:=100) (by decide)
 have m1:=Int.tmod_nonneg 100 hn.1
 obtain ⟨k,hk⟩:=nat_of k1
 obtain ⟨m,hm⟩:=nat_of m1
 refine awp_seq (aw_ok _ ?_)
 simp only [go_sem,simprocAttr,decide_true,decide_false,hk,hm,wrapN (n:=k) (by omega),wrapN (n:=m) (by omega)]
 have hA:=sounds_two L 9000 (by decide)
 have hv:vClip (cutC nmA ⟨0,1⟩ ⟨1,1⟩ 40 4096 0)=true:=by kernel_rfl
 have hSC:=cSC hr hA hv (cutC_fit fr01 fr11 (by decide) (by decide) (by decide)) (by decide) (by decide) vr01 vr11 (qb01 _ _ (by decide)) (qb11 _ _ (by decide) (by decide)) (k:Int) m (by omega) (by omega) (by omega)
 rw [ident_snd hr hA (sndL_len _ _) k m (by omega) (by omega)] at hSC
 refine awp_seq (aw_ok _ ?_)
 simp only [go_sem,simprocAttr,decide_true,decide_false]
 refine drawP_of [4,5] 16 .done rfl (by kernel_rfl) (by kernel_rfl) (by decide) ?_
 simp only [go_sem,simprocAttr,decide_true,decide_false]
 refine ⟨_,cWhole 0,?_⟩
 simp only [go_sem,simprocAttr,decide_true,decide_false]
 refine ⟨_,cWhole 1,?_⟩
 simp only [go_sem,simprocAttr,decide_true,decide_false]
 refine ⟨_,cCut27 ⟨0,1⟩ ⟨1,1⟩ 40,?_⟩
 simp only [go_sem,simprocAttr,decide_true,decide_false]
 refine ⟨_,cProj1 r (cutC nmA ⟨0,1⟩ ⟨1,1⟩ 40 4096 0),?_⟩
 simp only [go_sem,simprocAttr,decide_true,decide_false]
 refine ⟨_,hSC,?_⟩
 simp only [go_sem,simprocAttr,decide_true,decide_false]
 refine ⟨by kernel_rfl,?_⟩
 obtain ⟨P,hP⟩:∃ P,P=sndL (sndP L 0) 9000:=⟨_,rfl⟩
 have hPl:P.length=9000:=by rw [hP,sndL_len]
 have hn0:∀ d,nth d ((soundsA L 9000).map AudioR.c) 0 = [tstr nmA, .list 1 [.lit (.slice none 0 0)] [[.list 1 (c16 0) (P.map c16)],[t16 (sndL (sndQ L 0) 9000)]]]:=fun d=>by rw [hP];rfl
 have hl2:(soundsA L 9000).length=2:=rfl
 have hSm:=cSame27 [(P.drop k).take m] (by simp) (fun x hx=>by
  simp only [List.mem_cons,List.not_mem_nil,or_false] at hx
  rw [hx,List.length_take]
  omega)
 rw [← hP]
 refine awp_seq (awp_region_part 20 ?_)
 simp only [go_sem,simprocAttr,decide_true,decide_false,List.take_succ_cons,List.take_zero,List.drop_succ_cons,List.drop_zero,List.take,List.drop,tchs,hl2,hn0,nth_zero2,hPl,wrap64 (x:=(k:Int)+m) (by omega) (by omega)]
 refine ⟨⟨by omega,by omega,by omega⟩,?_⟩
 refine semS_true rfl (by simp only [go_sem,simprocAttr,decide_true,decide_false]) ?_
 try simp only [go_sem,simprocAttr,decide_true,decide_false]
 refine semS_true rfl (by simp only [go_sem,simprocAttr,decide_true,decide_false]) ?_
 try simp only [go_sem,simprocAttr,decide_true,decide_false]
 refine lcall_lend ?_
 simp only [go_sem,simprocAttr,decide_true,decide_false]
 rw [part_eq]
 refine ⟨_,hSm,rfl,?_⟩
 try simp only [go_sem,simprocAttr,decide_true,decide_false]
 refine semS_steps ?_
 simp only [go_sem,simprocAttr,decide_true,decide_false]
 refine ⟨_,cAwake27,?_⟩
 simp only [go_sem,simprocAttr,decide_true,decide_false]
 refine aw_ok _ ?_
 simp only [go_sem,simprocAttr,decide_true,decide_false]
end Go.Proofs.YtjmoncjecpckhaaGreat
