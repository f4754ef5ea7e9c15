/- Proved here: What the statement about speed -1 and speed 0 computes, for use in the proofs of the given statements; conditions stand in each theorem. -/
import Derived.Test.YtjmoncjecpckhaaGreatVJ
set_option linter.unusedSimpArgs false
set_option linter.unusedVariables false
set_option linter.unusedSectionVars false
set_option linter.unnecessarySimpa false
namespace Go.Proofs.YtjmoncjecpckhaaGreat
open Go.RowKit
set_option maxRecDepth 4000
theorem back_snd {A:List AudioR} {p q u v:List Int} (h:TwoA A p q u v) (k i:Nat) (hk:k<7000) (hi:i<20):(sndV (prjE ⟨25,1⟩ ⟨25,1⟩ A) [[cutC nmA ⟨4,1⟩ ⟨-1,1⟩ 9 4096 0]] ⟨25,1⟩ (k:Int) 20 0).getD i 0=pcmAt p (7680 - k - i)∧(sndV (prjE ⟨25,1⟩ ⟨25,1⟩ A) [[cutC nmA ⟨2,1⟩ ⟨0,1⟩ 9 4096 0]] ⟨25,1⟩ (k:Int) 20 0).getD i 0=pcmAt p 3840:=by
 have hv1:vClip (cutC nmA ⟨4,1⟩ ⟨-1,1⟩ 9 4096 0)=true:=by kernel_rfl
 have hv2:vClip (cutC nmA ⟨2,1⟩ ⟨0,1⟩ 9 4096 0)=true:=by kernel_rfl
 have hp:((prjE ⟨25,1⟩ ⟨25,1⟩ A).chs nmA)[0]? = some p:=by rw [(two_a h).2];rfl
 obtain ⟨o0,o1⟩:=own25 (s:=(k:Int)+i) (b:=9) (by omega) (by omega)
 have h1:=snd_back (c:=0) hv1 hp h.ip (rat25 A) o0 o1
 have h2:=snd_held (c:=0) hv2 hp h.ip (rat25 A) o0 o1
 rw [show ((0:Nat):Int)=0 from rfl] at h1 h2
 unfold sndV
 rw [sndL_at _ hi,sndL_at _ hi,h1,h2]
 exact ⟨by congr 1;omega,rfl⟩
set_option maxHeartbeats 4000000 in
theorem backward9 (L:List Int) (f:Int) (hf : 0≤f∧f≤65535):CPure Tryz.prog 9 [.t (tints L), .t (.lit (.int .u16 f))] (vbool true):=by
 have hS:=cSounds L 9000 (by decide)
 have hA:=sounds_two L 9000 (by decide)
 have k0:=tmod_abs f (n:=7000) (by decide)
 have k1:=Int.tmod_nonneg 7000 hf.1
 obtain ⟨k,hk⟩:=nat_of k1
 have vm1:vRat ⟨-1,1⟩=true:=by kernel_rfl
 have v4:vRat ⟨4,1⟩=true:=by kernel_rfl
 have v2:vRat ⟨2,1⟩=true:=by kernel_rfl
 have s1:=cSC rateS25 hA (at0:=⟨4,1⟩) (sp:=⟨-1,1⟩) (len:=9) (gain:=4096) (by kernel_rfl) (cutC_fit (frI 4 1 (by decide) (by decide)) (frI (-1) 1 (by decide) (by decide)) (by decide) (by decide) (by decide)) (by decide) (by decide) v4 vm1 (qbI 4 _ _ (by decide) (by decide)) (qbI (-1) _ _ (by decide) (by decide)) (k:Int) 20 (by decide) (by omega) (by omega)
 have s2:=cSC rateS25 hA (at0:=⟨2,1⟩) (sp:=⟨0,1⟩) (len:=9) (gain:=4096) (by kernel_rfl) (cutC_fit (frI 2 1 (by decide) (by decide)) fr01 (by decide) (by decide) (by decide)) (by decide) (by decide) v2 vr01 (qbI 2 _ _ (by decide) (by decide)) (qb01 _ _ (by decide)) (k:Int) 20 (by decide) (by omega) (by omega)
 obtain ⟨P,hP⟩:∃ P,P=sndL (sndP L 0) 9000:=⟨_,rfl⟩
 have hPl:P.length=9000:=by rw [hP,sndL_len]
 have hb:=fun i hi=>back_snd hA k i (by omega) hi
 have l1:=sndV_len (prjE ⟨25,1⟩ ⟨25,1⟩ (soundsA L 9000)) [[cutC nmA ⟨4,1⟩ ⟨-1,1⟩ 9 4096 0]] ⟨25,1⟩ (k:Int) 20 0
 have l2:=sndV_len (prjE ⟨25,1⟩ ⟨25,1⟩ (soundsA L 9000)) [[cutC nmA ⟨2,1⟩ ⟨0,1⟩ 9 4096 0]] ⟨25,1⟩ (k:Int) 20 0
 rw [← hP] at hb
 generalize sndV (prjE ⟨25,1⟩ ⟨25,1⟩ (soundsA L 9000)) [[cutC nmA ⟨4,1⟩ ⟨-1,1⟩ 9 4096 0]] ⟨25,1⟩ (k:Int) 20 0=U at s1 hb l1
 generalize sndV (prjE ⟨25,1⟩ ⟨25,1⟩ (soundsA L 9000)) [[cutC nmA ⟨2,1⟩ ⟨0,1⟩ 9 4096 0]] ⟨25,1⟩ (k:Int) 20 0=W at s2 hb l2
 have hn0:∀ d,nth d ((soundsA L 9000).map AudioR.c) 0 = [tstr nmA, .list 1 [.lit (.slice none 0 0)] [[.list 1 (c16 0) (P.map c16)],[t16 (sndL (sndQ L 0) 9000)]]]:=fun d=>by rw [hP];rfl
 have hl2:(soundsA L 9000).length=2:=rfl
 refine cpure_of Tryz.xen9 Tryz.func9 rfl Tryz.ntmps9 (by rw [Tryz.results9]) ?_
 refine awp_seq (aw_ok _ ?_)
 simp only [go_sem,simprocAttr,decide_true,decide_false]
 refine awp_seq (aw_ok _ ?_)
 simp only [go_sem,simprocAttr,decide_true,decide_false]
 refine ⟨_,hS,?_⟩
 simp only [go_sem,simprocAttr,decide_true,decide_false]
 refine awp_seq (aw_ok _ ?_)
 simp only [go_sem,simprocAttr,decide_true,decide_false,hk,wrapN (n:=k) (by omega)]
 refine awp_seq (aw_ok _ ?_)
 simp only [go_sem,simprocAttr,decide_true,decide_false]
 refine ⟨_,cWhole 25,?_⟩
 simp only [go_sem,simprocAttr,decide_true,decide_false]
 refine ⟨_,cWhole 4,?_⟩
 simp only [go_sem,simprocAttr,decide_true,decide_false]
 refine ⟨_,cWhole (-1),?_⟩
 simp only [go_sem,simprocAttr,decide_true,decide_false]
 refine ⟨_,cCut27 ⟨4,1⟩ ⟨-1,1⟩ 9,?_⟩
 simp only [go_sem,simprocAttr,decide_true,decide_false]
 refine lcall_give ?_
 simp only [go_sem,simprocAttr,decide_true,decide_false]
 refine ⟨_,cProj1 ⟨25,1⟩ (cutC nmA ⟨4,1⟩ ⟨-1,1⟩ 9 4096 0),?_⟩
 simp only [go_sem,simprocAttr,decide_true,decide_false]
 refine ⟨_,s1,?_⟩
 simp only [go_sem,simprocAttr,decide_true,decide_false]
 refine awp_seq (aw_ok _ ?_)
 simp only [go_sem,simprocAttr,decide_true,decide_false]
 refine ⟨_,cWhole 25,?_⟩
 simp only [go_sem,simprocAttr,decide_true,decide_false]
 refine ⟨_,cWhole 2,?_⟩
 simp only [go_sem,simprocAttr,decide_true,decide_false]
 refine ⟨_,cWhole (0),?_⟩
 simp only [go_sem,simprocAttr,decide_true,decide_false]
 refine ⟨_,cCut27 ⟨2,1⟩ ⟨0,1⟩ 9,?_⟩
 simp only [go_sem,simprocAttr,decide_true,decide_false]
 refine lcall_give ?_
 simp only [go_sem,simprocAttr,decide_true,decide_false]
 refine ⟨_,cProj1 ⟨25,1⟩ (cutC nmA ⟨2,1⟩ ⟨0,1⟩ 9 4096 0),?_⟩
 simp only [go_sem,simprocAttr,decide_true,decide_false]
 refine ⟨_,s2,?_⟩
 simp only [go_sem,simprocAttr,decide_true,decide_false]
 refine aw_ok _ ?_
 simp only [go_sem,simprocAttr,decide_true,decide_false,tchs,t16,l1,l2,nth_one]
 refine awp_loop_f (fun (i:Nat) σ => setS 77 (vint i) (deadS [11,78,79,80,81,82,83,84,85,86,87,88,89,90,91,92,93,94,95,96,97,98,99,100,101,102,103,104,105,106,107,108,109,110,111,112,113,114,115,116] (cleanS σ))) (fun i=>i≤20) (fun i=>20 - i) 0 (weak_self ?_) (Nat.zero_le _) ?_
 ·simp only [go_sem,simprocAttr]<;>simp
 ·intro i hi
  refine aw_ok _ ?_
  simp only [go_sem,simprocAttr]
  refine ⟨fun hlt=>?_,fun hge=>?_⟩
  ·simp only [bxx] at hlt
   have hil:i<20:=by omega
   have hwi:IntKind.i64.wrap ((i:Int)+1)=((i+1:Nat):Int):=by rw [wrap1 (by omega)];omega
   obtain ⟨b1,b2⟩:=hb i hil
   have nU:∀ d,nth d (U.map c16) i=c16 (pcmAt P (7680 - k - i)):=fun d=>by rw [c16_nth (by omega),b1]
   have nW:∀ d,nth d (W.map c16) i=c16 (pcmAt P 3840):=fun d=>by rw [c16_nth (by omega),b2]
   have nP:=fun d=>nth_pcm (p:=P) (j:=7680 - (k:Int) - i) (by omega) (by omega) d
   have nQ:=fun d=>nth_pcm (p:=P) (j:=3840) (by decide) (by omega) d
   rw [show (3840:Int).toNat=3840 from rfl] at nQ
   unfold awS
   simp only [go_sem,simprocAttr,decide_true,decide_false]
   refine drawR_of [0,1,2,3,4,5,6,7,8,9,10,11,12,13,14,15,16,17,18,19,20,21,22,23,24,25,26,27,28,29,30,31,32,33,34,35] .done rfl (by kernel_rfl) (by kernel_rfl) (by decide) ?_
   simp only [go_sem,simprocAttr,decide_true,decide_false,nth_one,nth_zero2,hn0,hl2,hPl,l1,l2,nU,nW,nP,nQ,wrap64 (x:=7680 - (k:Int)) (by omega) (by omega),wrap64 (x:=7680 - (k:Int) - i) (by omega) (by omega)]
   refine ⟨⟨by omega,by omega⟩,⟨by omega,by omega⟩,⟨by omega,by omega⟩,i+1,weak_self ?_,by omega,by omega⟩
   simp only [go_sem,simprocAttr,decide_true,decide_false,hwi]
   try simp
  ·simp only [bxx] at hge
   unfold awS
   simp only [go_sem,simprocAttr,decide_true,decide_false]
   refine ⟨_,cAwake27,?_⟩
   simp only [go_sem,simprocAttr,decide_true,decide_false]
end Go.Proofs.YtjmoncjecpckhaaGreat
