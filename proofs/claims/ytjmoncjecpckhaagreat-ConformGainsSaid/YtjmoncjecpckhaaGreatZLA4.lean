/- Proved here: What the statement about gains computes, for use in the proofs of the given statements; conditions stand in each theorem. -/
import Derived.Test.YtjmoncjecpckhaaGreatVJ
set_option linter.unusedSimpArgs false
set_option linter.unusedVariables false
set_option linter.unusedSectionVars false
set_option linter.unnecessarySimpa false
namespace Go.Proofs.YtjmoncjecpckhaaGreat
open Go.RowKit
set_option maxRecDepth 4000
theorem gain_snd {A:List AudioR} {p q u v:List Int} (h:TwoA A p q u v) (g:Int) (hg : 0≤g∧g≤65535) (k i:Nat) (hk:k<9000) (hi:i<20):∃ z:Int,(-32768≤z∧z≤32767)∧(sndV (prjE ⟨25,1⟩ ⟨25,1⟩ A) [[cutC nmA ⟨0,1⟩ ⟨2,3⟩ 9 4096 0]] ⟨25,1⟩ (k:Int) 20 0).getD i 0=z∧(sndV (prjE ⟨25,1⟩ ⟨25,1⟩ A) [[cutC nmA ⟨0,1⟩ ⟨2,3⟩ 9 g 0]] ⟨25,1⟩ (k:Int) 20 0).getD i 0=max (-32768) (min 32767 ((z*g+2048) / 4096)):=by
 have hv1:vClip (cutC nmA ⟨0,1⟩ ⟨2,3⟩ 9 4096 0)=true:=by kernel_rfl
 have hv2:=cutC_v (gain:=g) hv1 ⟨hg.1,by omega⟩
 have hp:((prjE ⟨25,1⟩ ⟨25,1⟩ A).chs nmA)[0]? = some p:=by rw [(two_a h).2];rfl
 obtain ⟨o0,o1⟩:=own25 (s:=(k:Int)+i) (b:=9) (by omega) (by omega)
 have h1:=snd_cut (c:=0) hv1 hp h.ip o0 o1
 have h2:=snd_gain (c:=0) hv2 hp o0 o1
 rw [show ((0:Nat):Int)=0 from rfl] at h1 h2
 refine ⟨lerpV p ((toQ ⟨0,1⟩+timeQ ⟨25,1⟩ ((k:Int)+i)*toQ ⟨2,3⟩)*(48000 / (prjE ⟨25,1⟩ ⟨25,1⟩ A).rate nmA)),lerp_i16 h.ip _,?_,?_⟩
 ·unfold sndV
  rw [sndL_at _ hi]
  exact h1
 ·unfold sndV
  rw [sndL_at _ hi]
  exact h2
set_option maxHeartbeats 4000000 in
theorem gains7 (L:List Int) (f g:Int) (hf : 0≤f∧f≤65535) (hg : 0≤g∧g≤65535):CPure Tryz.prog 7 [.t (tints L), .t (.lit (.int .u16 f)), .t (.lit (.int .u16 g))] (vbool true):=by
 have hS:=cSounds L 6000 (by decide)
 have hA:=sounds_two L 6000 (by decide)
 have k0:=tmod_abs f (n:=9000) (by decide)
 have k1:=Int.tmod_nonneg 9000 hf.1
 obtain ⟨k,hk⟩:=nat_of k1
 have v23:vRat ⟨2,3⟩=true:=by kernel_rfl
 have hv1:vClip (cutC nmA ⟨0,1⟩ ⟨2,3⟩ 9 4096 0)=true:=by kernel_rfl
 have s1:=cSC rateS25 hA (at0:=⟨0,1⟩) (sp:=⟨2,3⟩) (len:=9) (gain:=4096) hv1 (cutC_fit fr01 (frI 2 3 (by decide) (by decide)) (by decide) (by decide) (by decide)) (by decide) (by decide) vr01 v23 (qb01 _ _ (by decide)) (qbF (d:=3) _ _ v23 (by decide) (by decide)) (k:Int) 20 (by decide) (by omega) (by omega)
 have s2:=cSC rateS25 hA (at0:=⟨0,1⟩) (sp:=⟨2,3⟩) (len:=9) (gain:=g) (cutC_v hv1 ⟨by omega,by omega⟩) (cutC_fit fr01 (frI 2 3 (by decide) (by decide)) (by decide) (by omega) (by decide)) (by decide) (by omega) vr01 v23 (qb01 _ _ (by decide)) (qbF (d:=3) _ _ v23 (by decide) (by decide)) (k:Int) 20 (by decide) (by omega) (by omega)
 have hb:=fun i hi=>gain_snd hA g hg k i (by omega) hi
 have l1:=sndV_len (prjE ⟨25,1⟩ ⟨25,1⟩ (soundsA L 6000)) [[cutC nmA ⟨0,1⟩ ⟨2,3⟩ 9 4096 0]] ⟨25,1⟩ (k:Int) 20 0
 have l2:=sndV_len (prjE ⟨25,1⟩ ⟨25,1⟩ (soundsA L 6000)) [[cutC nmA ⟨0,1⟩ ⟨2,3⟩ 9 g 0]] ⟨25,1⟩ (k:Int) 20 0
 generalize sndV (prjE ⟨25,1⟩ ⟨25,1⟩ (soundsA L 6000)) [[cutC nmA ⟨0,1⟩ ⟨2,3⟩ 9 4096 0]] ⟨25,1⟩ (k:Int) 20 0=U at s1 hb l1
 generalize sndV (prjE ⟨25,1⟩ ⟨25,1⟩ (soundsA L 6000)) [[cutC nmA ⟨0,1⟩ ⟨2,3⟩ 9 g 0]] ⟨25,1⟩ (k:Int) 20 0=W at s2 hb l2
 refine cpure_of Tryz.xen7 Tryz.func7 rfl Tryz.ntmps7 (by rw [Tryz.results7]) ?_
 refine awp_seq (aw_ok _ ?_)
 simp only [go_sem,simprocAttr,decide_true,decide_false]
 refine awp_seq (aw_ok _ ?_)
 simp only [go_sem,simprocAttr,decide_true,decide_false]
 refine ⟨_,hS,?_⟩
 simp only [go_sem,simprocAttr,decide_true,decide_false]
 refine awp_seq (aw_ok _ ?_)
 simp only [go_sem,simprocAttr,decide_true,decide_false]
 refine ⟨_,cWhole 0,?_⟩
 simp only [go_sem,simprocAttr,decide_true,decide_false]
 refine ⟨_,cCut27 ⟨0,1⟩ ⟨2,3⟩ 9,?_⟩
 simp only [go_sem,simprocAttr,decide_true,decide_false]
 refine awp_seq (aw_ok _ ?_)
 simp only [go_sem,simprocAttr,decide_true,decide_false]
 refine awp_seq (aw_ok _ ?_)
 simp only [go_sem,simprocAttr,decide_true,decide_false,wrap64 (x:=g) (by omega) (by omega)]
 refine awp_seq (aw_ok _ ?_)
 simp only [go_sem,simprocAttr,decide_true,decide_false,hk,wrapN (n:=k) (by omega)]
 refine awp_seq (aw_ok _ ?_)
 simp only [go_sem,simprocAttr,decide_true,decide_false]
 refine drawP_of [2,3] 13 .done rfl (by kernel_rfl) (by kernel_rfl) (by decide) ?_
 simp only [go_sem,simprocAttr,decide_true,decide_false]
 refine ⟨_,cWhole 25,?_⟩
 simp only [go_sem,simprocAttr,decide_true,decide_false]
 refine ⟨_,cProj1 ⟨25,1⟩ (cutC nmA ⟨0,1⟩ ⟨2,3⟩ 9 4096 0),?_⟩
 simp only [go_sem,simprocAttr,decide_true,decide_false]
 refine ⟨_,s1,?_⟩
 simp only [go_sem,simprocAttr,decide_true,decide_false]
 refine ⟨by kernel_rfl,?_⟩
 refine awp_seq (aw_ok _ ?_)
 simp only [go_sem,simprocAttr,decide_true,decide_false]
 refine drawP_of [2,3] 13 .done rfl (by kernel_rfl) (by kernel_rfl) (by decide) ?_
 simp only [go_sem,simprocAttr,decide_true,decide_false]
 refine ⟨_,cWhole 25,?_⟩
 simp only [go_sem,simprocAttr,decide_true,decide_false]
 refine ⟨_,cProj1 ⟨25,1⟩ (cutC nmA ⟨0,1⟩ ⟨2,3⟩ 9 g 0),?_⟩
 simp only [go_sem,simprocAttr,decide_true,decide_false]
 refine ⟨_,s2,?_⟩
 simp only [go_sem,simprocAttr,decide_true,decide_false]
 refine ⟨by kernel_rfl,?_⟩
 refine aw_ok _ ?_
 simp only [go_sem,simprocAttr,decide_true,decide_false,tchs,t16,l1,l2,nth_one]
 refine awp_loop_f (fun (i:Nat) σ => setS 86 (vint i) (deadS [15,16,17,87,88,89,90,91,92,93,94,95,96,97,98,99,100,101,102,103,104,105,106,107,108,109,110,111,112,113] (cleanS σ))) (fun i=>i≤20) (fun i=>20 - i) 0 (weak_self ?_) (Nat.zero_le _) ?_
 ·simp only [go_sem,simprocAttr]<;>simp
 ·intro i hi
  refine aw_ok _ ?_
  simp only [go_sem,simprocAttr]
  refine ⟨fun hlt=>?_,fun hge=>?_⟩
  ·simp only [bxx] at hlt
   have hil:i<20:=by omega
   have hwi:IntKind.i64.wrap ((i:Int)+1)=((i+1:Nat):Int):=by rw [wrap1 (by omega)];omega
   obtain ⟨z,hz,b1,b2⟩:=hb i hil
   have nU:∀ d,nth d (U.map c16) i=c16 z:=fun d=>by rw [c16_nth (by omega),b1]
   have nW:∀ d,nth d (W.map c16) i=c16 (max (-32768) (min 32767 ((z*g+2048) / 4096))):=fun d=>by rw [c16_nth (by omega),b2]
   have hm:=mul_abs2 (i:=z) (t:=g) (M:=32768) (N:=65535) (by omega) (by omega)
   unfold awS
   simp only [go_sem,simprocAttr,decide_true,decide_false,nth_one,l1,l2,nU,nW,pow12,pow12',wrap64 (x:=z) (by omega) (by omega),wrap64 (x:=g) (by omega) (by omega),wrap64 (x:=z*g) (by omega) (by omega),wrap64 (x:=z*g+2048) (by omega) (by omega),wrap64 (x:=max (-32768) (min 32767 ((z*g+2048) / 4096))) (by omega) (by omega)]
   refine ⟨⟨by omega,by omega⟩,⟨by omega,by omega⟩,i+1,weak_self ?_,by omega,by omega⟩
   simp only [go_sem,simprocAttr,decide_true,decide_false,hwi]
   try simp
  ·simp only [bxx] at hge
   unfold awS
   simp only [go_sem,simprocAttr,decide_true,decide_false]
   refine ⟨_,cAwake27,?_⟩
   simp only [go_sem,simprocAttr,decide_true,decide_false]
end Go.Proofs.YtjmoncjecpckhaaGreat
