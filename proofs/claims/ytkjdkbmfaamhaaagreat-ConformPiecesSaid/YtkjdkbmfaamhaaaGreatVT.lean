/- Proved here: The contract of Sound for a sequence of two channels, for use in the proofs of the given statements; conditions stand in each theorem. -/
import Derived.Test.YtkjdkbmfaamhaaaGreatVG
set_option linter.unusedSimpArgs false
set_option linter.unusedVariables false
set_option linter.unusedSectionVars false
set_option linter.unnecessarySimpa false
namespace Go.Proofs.YtkjdkbmfaamhaaaGreat
open Go.RowKit
set_option maxRecDepth 4000
theorem set_own2a (i:Nat):(tRows [[T.lit (.slice none 0 0)],[T.lit (.slice none 0 0)]]).set 0 (V.own i::List.drop 1 (List.map V.t (nth [T.lit (.slice none 0 0)] [[T.lit (.slice none 0 0)],[T.lit (.slice none 0 0)]] 0))) = [[V.own i],[V.t (T.lit (.slice none 0 0))]]:=rfl
theorem set_own2b (i j:Nat):setRow [[V.own i],[V.t (T.lit (.slice none 0 0))]] 1 (V.own j::List.drop 1 (nthV [T.lit (.slice none 0 0)] [[V.own i],[V.t (T.lit (.slice none 0 0))]] 1)) = [[V.own i],[V.own j]]:=rfl
theorem cSound2 {md:List MediumR} {q:SequenceR} {A:List AudioR} {E:SndE} {from0:Int} {n:Nat} (h:SoundOk md q A E 2 from0 n) :
  CPure Tryz.prog 10 [vproj ⟨md,[q]⟩,vstr q.name,vint from0,vint n, .t (taudios A)] (.tup [.t (tchs [sndL (fun i=>outV E 2 q.sound q.rate (from0+i) 0) n,sndL (fun i=>outV E 2 q.sound q.rate (from0+i) 1) n]),vint 0]):=by
 have cv:=cValid ⟨md,[q]⟩ h.fit
 rw [h.val] at cv
 have cm:=cNewMixer md q h.hm A h.ha h.hn h.h8 h.ht
 have cp:=cProper A (by have:=h.ha;omega) h.hp
 obtain ⟨hu,hv,hn2,hd2⟩:=rateS_v h.hr
 have hd:=h.hr.d
 have ca:=cAudible q.rate h.hr.fit ⟨by omega,by omega⟩
 rw [h.hr.aud] at ca
 have n1:=h.n1
 have f0:=h.f0
 have f1:=h.f1
 have nb:∀ s, -68719476736≤s∧s≤68719476736→numberedS s=true:=fun s hs=>by
  unfold numberedS
  rw [decide_eq_true (by omega),decide_eq_true (by omega)]
  rfl
 have c1:=cNumbered from0
 rw [nb _ ⟨by omega,by omega⟩] at c1
 have c2:=cNumbered (from0+n)
 rw [nb _ ⟨by omega,by omega⟩] at c2
 have hch:=h.hch
 have d0:decide ((n:Int)<0)=false:=decide_eq_false (by omega)
 have d1:decide ((n:Int) > 1048576)=false:=decide_eq_false (by omega)
 refine cpure_of Tryz.xen10 Tryz.func10 rfl Tryz.ntmps10 (by rw [Tryz.results10]) (aw_ok _ ?_)
 simp only [go_sem,simprocAttr,decide_true,decide_false]
 refine ⟨_,cv,?_⟩
 simp only [go_sem,simprocAttr,decide_true,decide_false]
 refine icall_io cm [] rfl (by omega) (by decide) ?_ rfl rfl rfl rfl ?_
 ·simp only [go_sem,simprocAttr,decide_true,decide_false]
 simp only [go_sem,simprocAttr,decide_true,decide_false,hch,List.getElem?_nil,d0,(ren_tEs _ _).1]
 refine ⟨_,cp,?_⟩
 simp only [go_sem,simprocAttr,decide_true,decide_false,d1,d0]
 refine ⟨_,c1,?_⟩
 simp only [go_sem,simprocAttr,decide_true,decide_false,wrap64 (x:=from0+n) (by omega) (by omega)]
 refine ⟨_,c2,?_⟩
 simp only [go_sem,simprocAttr,decide_true,decide_false]
 refine ⟨_,ca,?_⟩
 simp only [go_sem,simprocAttr,decide_true,decide_false]
 refine ⟨by decide,?_⟩
 have ww1:IntKind.i64.wrap 1=1:=by decide
 have w01:IntKind.i64.wrap (0+1)=1:=by decide
 have ww2:IntKind.i64.wrap 2=2:=by decide
 have w11:IntKind.i64.wrap (1+1)=2:=by decide
 refine awp_loopL ?_
 refine awpL_step (aw_ok _ ?_)
 simp only [go_sem,simprocAttr,decide_true,decide_false,ww1,w01,ww2,w11]
 refine ⟨⟨by omega,by unfold maxLen;omega,by omega⟩,?_⟩
 refine awpL_step (aw_ok _ ?_)
 simp only [go_sem,simprocAttr,decide_true,decide_false,ww1,w01,ww2,w11,set_own2a]
 refine ⟨⟨by omega,by unfold maxLen;omega,by omega⟩,?_⟩
 refine awpL_step (aw_ok _ ?_)
 simp only [go_sem,simprocAttr,decide_true,decide_false,ww1,w01,ww2,w11,set_own2a,set_own2b]
 have hrg:∀ i:Nat, -32768≤(fun i:Nat=>outV E 2 q.sound q.rate (from0+i) 0) i∧(fun i:Nat=>outV E 2 q.sound q.rate (from0+i) 0) i≤32767:=fun i=>out_range _ _ _ _ _ _
 have hrh:∀ i:Nat, -32768≤(fun i:Nat=>outV E 2 q.sound q.rate (from0+i) 1) i∧(fun i:Nat=>outV E 2 q.sound q.rate (from0+i) 1) i≤32767:=fun i=>out_range _ _ _ _ _ _
 obtain ⟨f,hf⟩:∃ f:Nat→Int,f=fun i:Nat=>outV E 2 q.sound q.rate (from0+i) 0:=⟨_,rfl⟩
 obtain ⟨g,hg⟩:∃ g:Nat→Int,g=fun i:Nat=>outV E 2 q.sound q.rate (from0+i) 1:=⟨_,rfl⟩
 rw [← hf] at hrg ⊢
 rw [← hg] at hrh ⊢
 refine awp_loop_f (fun (i:Nat) σ => setB 11 (.row 76 1 (c16 0) (tRows ((fillP f n i).map c16))) (setB 12 (.row 76 1 (c16 0) (tRows ((fillP g n i).map c16))) (setS 85 (vint i) (deadS [18,19,20,86,87,88,89,90,91,92,93,94,95,96,97,98,99,100,101,102,103,104,105,106,107,108,109,110] (cleanS σ))))) (fun i=>i≤n) (fun i=>n - i) 0 (weak_self ?_) (Nat.zero_le _) ?_
 ·simp only [go_sem,simprocAttr]
  refine ⟨by simp,(fillP_zero g n).symm,by simp,(fillP_zero f n).symm,?_⟩
  simp
 ·intro i hi
  refine aw_ok _ ?_
  simp only [go_sem,simprocAttr]
  refine ⟨fun hlt=>?_,fun hge=>?_⟩
  ·simp only [bxx] at hlt
   have hil:i<n:=by omega
   have hwi:IntKind.i64.wrap ((i:Int)+1)=((i+1:Nat):Int):=by rw [wrap1 (by omega)];omega
   have hcmp:=cCompute h.hr (s:=from0+i) ⟨by omega,by omega⟩ (h.hc i hil)
   have hfi:outV E 2 q.sound q.rate (from0+(i:Int)) 0=f i:=by rw [hf]
   have hgi:outV E 2 q.sound q.rate (from0+(i:Int)) 1=g i:=by rw [hg]
   rw [hfi,hgi] at hcmp
   unfold awS
   simp only [go_sem,simprocAttr,decide_true,decide_false,wrap64 (x:=from0+(i:Int)) (by omega) (by omega)]
   refine lcall_lend ?_
   simp only [go_sem,simprocAttr,decide_true,decide_false]
   refine ⟨_,hcmp,rfl,?_⟩
   simp only [go_sem,simprocAttr,decide_true,decide_false]
   refine awp_loopL ?_
   refine awpL_step (aw_ok _ ?_)
   simp only [go_sem,simprocAttr,decide_true,decide_false,ww1,w01,ww2,w11]
   refine drawC_of 11 .done rfl (by kernel_rfl) (by kernel_rfl) (by decide) ?_
   simp only [go_sem,simprocAttr,decide_true,decide_false,nthV_0,ww1,w01,wrap16 (hrg i).1 (hrg i).2]
   refine ⟨⟨by omega,by rw [fillP_len];omega⟩,by rw [fillP_len];omega,by kernel_rfl,?_⟩
   refine awpL_step (aw_ok _ ?_)
   simp only [go_sem,simprocAttr,decide_true,decide_false,ww1,w01,ww2,w11,tRows_set1]
   refine drawC_of 11 .done rfl (by kernel_rfl) (by kernel_rfl) (by decide) ?_
   simp only [go_sem,simprocAttr,decide_true,decide_false,nthV_1,ww1,w01,wrap16 (hrh i).1 (hrh i).2]
   refine ⟨⟨by omega,by rw [fillP_len];omega⟩,by rw [fillP_len];omega,by kernel_rfl,?_⟩
   refine awpL_step (aw_ok _ ?_)
   simp only [go_sem,simprocAttr,decide_true,decide_false,ww1,w01,ww2,w11,tRows_set1]
   refine ⟨i+1,weak_self ?_,by omega,by omega⟩
   simp only [go_sem,simprocAttr,decide_true,decide_false,hwi]
   refine ⟨by simp,fillP_set g hil,by simp,fillP_set f hil,?_⟩
   simp
  ·simp only [bxx] at hge
   have:n=i:=by omega
   subst this
   unfold awS
   simp only [go_sem,simprocAttr,decide_true,decide_false]
   refine ⟨nopSound,?_⟩
   rw [fillP_full,fillP_full]
   rfl
open Go.RowKit
set_option maxRecDepth 4000
theorem cSound0 {md:List MediumR} {q:SequenceR} {A:List AudioR} {E:SndE} {from0:Int} {n:Nat} (h:SoundOk md q A E 0 from0 n) :
  CPure Tryz.prog 10 [vproj ⟨md,[q]⟩,vstr q.name,vint from0,vint n, .t (taudios A)] (.tup [.t (tchs []),vint 0]):=by
 have cv:=cValid ⟨md,[q]⟩ h.fit
 rw [h.val] at cv
 have cm:=cNewMixer md q h.hm A h.ha h.hn h.h8 h.ht
 have cp:=cProper A (by have:=h.ha;omega) h.hp
 obtain ⟨hu,hv,hn2,hd2⟩:=rateS_v h.hr
 have hd:=h.hr.d
 have ca:=cAudible q.rate h.hr.fit ⟨by omega,by omega⟩
 rw [h.hr.aud] at ca
 have n1:=h.n1
 have f0:=h.f0
 have f1:=h.f1
 have nb:∀ s, -68719476736≤s∧s≤68719476736→numberedS s=true:=fun s hs=>by
  unfold numberedS
  rw [decide_eq_true (by omega),decide_eq_true (by omega)]
  rfl
 have c1:=cNumbered from0
 rw [nb _ ⟨by omega,by omega⟩] at c1
 have c2:=cNumbered (from0+n)
 rw [nb _ ⟨by omega,by omega⟩] at c2
 have hch:=h.hch
 have d0:decide ((n:Int)<0)=false:=decide_eq_false (by omega)
 have d1:decide ((n:Int) > 1048576)=false:=decide_eq_false (by omega)
 refine cpure_of Tryz.xen10 Tryz.func10 rfl Tryz.ntmps10 (by rw [Tryz.results10]) (aw_ok _ ?_)
 simp only [go_sem,simprocAttr,decide_true,decide_false]
 refine ⟨_,cv,?_⟩
 simp only [go_sem,simprocAttr,decide_true,decide_false]
 refine icall_io cm [] rfl (by omega) (by decide) ?_ rfl rfl rfl rfl ?_
 ·simp only [go_sem,simprocAttr,decide_true,decide_false]
 simp only [go_sem,simprocAttr,decide_true,decide_false,hch,List.getElem?_nil,d0,(ren_tEs _ _).1]
 refine ⟨_,cp,?_⟩
 simp only [go_sem,simprocAttr,decide_true,decide_false,d1,d0]
 refine ⟨_,c1,?_⟩
 simp only [go_sem,simprocAttr,decide_true,decide_false,wrap64 (x:=from0+n) (by omega) (by omega)]
 refine ⟨_,c2,?_⟩
 simp only [go_sem,simprocAttr,decide_true,decide_false]
 refine ⟨_,ca,?_⟩
 simp only [go_sem,simprocAttr,decide_true,decide_false]
 refine ⟨by decide,?_⟩
 have ww1:IntKind.i64.wrap 1=1:=by decide
 have ww2:IntKind.i64.wrap 2=2:=by decide
 have ww3:IntKind.i64.wrap 3=3:=by decide
 have ww4:IntKind.i64.wrap 4=4:=by decide
 have w0:IntKind.i64.wrap (0+1)=1:=by decide
 have w1:IntKind.i64.wrap (1+1)=2:=by decide
 have w2:IntKind.i64.wrap (2+1)=3:=by decide
 have w3:IntKind.i64.wrap (3+1)=4:=by decide
 refine awp_loopL ?_
 refine awpL_step (aw_ok _ ?_)
 simp only [go_sem,simprocAttr,decide_true,decide_false,ww1,ww2,ww3,ww4,w0,w1,w2,w3]
 refine awp_loop_f (fun (i:Nat) σ => setS 85 (vint i) (deadS [18,19,20,86,87,88,89,90,91,92,93,94,95,96,97,98,99,100,101,102,103,104,105,106,107,108,109,110] (cleanS σ))) (fun i=>i≤n) (fun i=>n - i) 0 (weak_self ?_) (Nat.zero_le _) ?_
 ·simp only [go_sem,simprocAttr]
  simp
 ·intro i hi
  refine aw_ok _ ?_
  simp only [go_sem,simprocAttr]
  refine ⟨fun hlt=>?_,fun hge=>?_⟩
  ·simp only [bxx] at hlt
   have hil:i<n:=by omega
   have hwi:IntKind.i64.wrap ((i:Int)+1)=((i+1:Nat):Int):=by rw [wrap1 (by omega)];omega
   have hcmp:=cCompute h.hr (s:=from0+i) ⟨by omega,by omega⟩ (h.hc i hil)
   unfold awS
   simp only [go_sem,simprocAttr,decide_true,decide_false,wrap64 (x:=from0+(i:Int)) (by omega) (by omega)]
   refine lcall_lend ?_
   simp only [go_sem,simprocAttr,decide_true,decide_false]
   refine ⟨_,hcmp,rfl,?_⟩
   simp only [go_sem,simprocAttr,decide_true,decide_false]
   refine awp_loopL ?_
   refine awpL_step (aw_ok _ ?_)
   simp only [go_sem,simprocAttr,decide_true,decide_false,ww1,ww2,ww3,ww4,w0,w1,w2,w3,tRows_set1]
   refine ⟨i+1,weak_self ?_,by omega,by omega⟩
   simp only [go_sem,simprocAttr,decide_true,decide_false,hwi]
   simp
  ·simp only [bxx] at hge
   have:n=i:=by omega
   subst this
   unfold awS
   simp only [go_sem,simprocAttr,decide_true,decide_false]
   refine ⟨nopSound,?_⟩
   try rfl
end Go.Proofs.YtkjdkbmfaamhaaaGreat
