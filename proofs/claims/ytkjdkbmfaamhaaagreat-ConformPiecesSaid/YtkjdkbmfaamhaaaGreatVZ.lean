/- Proved here: The contract of the mixer's making for two sequences, for use in the proofs of the given statements; conditions stand in each theorem. -/
import Derived.Test.YtkjdkbmfaamhaaaGreatVF
import Derived.Test.YtkjdkbmfaamhaaaGreatVG
set_option linter.unusedSimpArgs false
set_option linter.unusedVariables false
set_option linter.unusedSectionVars false
set_option linter.unnecessarySimpa false
namespace Go.Proofs.YtkjdkbmfaamhaaaGreat
open Go.RowKit
set_option maxRecDepth 4000
set_option maxHeartbeats 4000000 in
theorem cNewMixer2 (md:List MediumR) (q r:SequenceR) (hqr:q.name≠r.name) (hm:md.length≤16) (A:List AudioR) (ha:A.length≤100) (hn:(A.map AudioR.name).Nodup) (h8:q.sound.length≤8) (ht:∀ t∈q.sound,vTrack t=true) (r8:r.sound.length≤8) (rt:∀ t∈r.sound,vTrack t=true) :
  CIO Tryz.prog 21 0 [] [vproj ⟨md,[q,r]⟩, .t (taudios A)] (.own 6) [(9, .map []),(8, .row 124 3 zTrk (tRows (r.sound.map trkC))),(7, .box [vint r.rate.num,vint r.rate.den,vint r.channels, .own 8, .own 9]),(6, .box [.own 0, .own 1, .own 2]),(5, .map []),(4, .row 124 3 zTrk (tRows (q.sound.map trkC))),(3, .box [vint q.rate.num,vint q.rate.den,vint q.channels, .own 4, .own 5]),(2, .map [(.string q.name, .own 3),(.string r.name, .own 7)]),(1, .map (tEs (auM A))),(0, .map (tEs (rtM md)))] 10:=by
 have ww1':IntKind.i64.wrap 1=1:=by decide
 have ww1:IntKind.i64.wrap (0+1)=1:=by decide
 have ww2:IntKind.i64.wrap (1+1)=2:=by decide
 have ww3:IntKind.i64.wrap 2=2:=by decide
 have hqd:decide (r.name=q.name)=false:=decide_eq_false fun e=>hqr e.symm
 refine cio_of Tryz.xen21 Tryz.func21 rfl Tryz.ntmps21 (by rw [Tryz.results21]) (aw_ok _ ?_)
 simp only [go_sem,simprocAttr]
 refine awp_loop_f (fun (k:Nat) σ => setB 1 (.map (tEs (rtM (md.take k)))) (setS 25 (vint k) (deadS [7,26,27,28,29,30,31,32,33,34,35,36,37,38] (cleanS σ)))) (fun k=>k≤md.length) (fun k=>md.length - k) 0 (weak_self ?_) (Nat.zero_le _) ?_
 ·simp only [go_sem,simprocAttr]<;>simp [rtM,mapOf,tEs]
 ·intro k hk
  refine aw_ok _ ?_
  simp only [go_sem,simprocAttr]
  refine ⟨fun hlt=>?_,fun hge=>?_⟩
  ·simp only [bxx] at hlt
   have hkl:k<md.length:=by omega
   have hwk:IntKind.i64.wrap ((k:Int)+1)=((k+1:Nat):Int):=by rw [wrap1 (by omega)];omega
   unfold awS
   simp only [go_sem,simprocAttr]
   refine ⟨⟨by omega,by omega⟩,?_⟩
   refine drawR_of [0,1,2,3,4,5,6,7,8] (.step 9 .done) rfl (by kernel_rfl) (by kernel_rfl) (by decide) ?_
   simp only [go_sem,simprocAttr]
   refine ⟨k+1,weak_self ?_,by omega,by omega⟩
   simp only [go_sem,simprocAttr,hwk]
   refine ⟨by simp,by simp,by simp,by simp,?_,by simp⟩
   unfold rtM
   rw [mapOf_take _ _ hkl]
   exact put_rt _ _ _
  ·simp only [bxx] at hge
   unfold awS
   simp only [go_sem,simprocAttr]
   rw [List.take_of_length_le (show md.length≤k by omega)]
   refine awp_loop_f (fun (j:Nat) σ => setB 2 (.map (tEs (auM (A.take j)))) (setS 41 (vint j) (deadS [9,10,11,42,43,44,45,46,47,48,49,50,51,52,53,54,55,56,57,58,59,60,61,62,63,64] (cleanS σ)))) (fun j=>j≤A.length) (fun j=>A.length - j) 0 (weak_self ?_) (Nat.zero_le _) ?_
   ·simp only [go_sem,simprocAttr]<;>simp [auM,mapOf,tEs]
   ·intro j hj
    refine aw_ok _ ?_
    simp only [go_sem,simprocAttr]
    refine ⟨fun hlt2=>?_,fun hge2=>?_⟩
    ·simp only [bxx] at hlt2
     have hjl:j<A.length:=by omega
     have hwj:IntKind.i64.wrap ((j:Int)+1)=((j+1:Nat):Int):=by rw [wrap1 (by omega)];omega
     have hnew:=au_new hn hjl
     unfold awS
     simp only [go_sem,simprocAttr,aud_nth hjl]
     refine ⟨⟨by omega,by omega⟩,?_⟩
     refine drawC_of 13 .done rfl (by kernel_rfl) (by kernel_rfl) (by decide) ?_
     simp only [go_sem,simprocAttr,hnew]
     refine ⟨by kernel_rfl,?_⟩
     refine drawR_of [0,1,2,3,4,5,6] (.step 7 .done) rfl (by kernel_rfl) (by kernel_rfl) (by decide) ?_
     simp only [go_sem,simprocAttr]
     refine ⟨j+1,weak_self ?_,by omega,by omega⟩
     simp only [go_sem,simprocAttr,hwj]
     refine ⟨by simp,by simp,by simp,?_,by simp,by simp⟩
     unfold auM
     rw [mapOf_take _ _ hjl]
     exact put_au _ _ _
    ·simp only [bxx] at hge2
     unfold awS
     simp only [go_sem,simprocAttr]
     rw [List.take_of_length_le (show A.length≤j by omega)]
     refine awp_loopL ?_
     refine awpL_step (aw_ok _ ?_)
     simp only [go_sem,simprocAttr,decide_true,decide_false,nth_zero2]
     refine awp_loop_f (fun (i:Nat) σ => { fr:=(deadS [16,83,84,85,86,87,88,89,90,91,92,93,94,95,96,97] (setS 82 (vint i) σ)).fr,h:=[(8, .row 124 3 zTrk (tRows ((q.sound.take i).map trkC))),(7, .box [vint q.rate.num,vint q.rate.den,vint q.channels, .own 8, .own 6]),(6, .map []),(5, .box ((SequenceR.c q).map V.t)),(4, .box [.own 1, .own 2, .own 3]),(3, .map []),(2, .map (tEs (auM A))),(1, .map (tEs (rtM md))),(0, .box [.t (tmedia md), .t (tseqs [q,r])])],nx:=9 })
      (fun i=>i≤q.sound.length) (fun i=>q.sound.length - i) 0 (weak_of [(8,none),(7,some 7),(6,some 6),(5,some 5),(4,some 4),(3,some 3),(2,some 2),(1,some 1),(0,some 0)] ?_) (Nat.zero_le _) ?_
     ·simp only [go_sem,simprocAttr]<;>simp
     ·intro i hi
      refine aw_ok _ ?_
      simp only [go_sem,simprocAttr]
      refine ⟨fun hlt3=>?_,fun hge3=>?_⟩
      ·simp only [bxx] at hlt3
       have hil:i<q.sound.length:=by omega
       have hwi:IntKind.i64.wrap ((i:Int)+1)=((i+1:Nat):Int):=by rw [wrap1 (by omega)];omega
       have hnt:=cNewTrack _ (ht _ (mem_getD (d:=[]) hil))
       unfold awS
       simp only [go_sem,simprocAttr]
       refine ⟨⟨by omega,by omega⟩,?_⟩
       refine drawC_of 12 .done rfl (by kernel_rfl) (by kernel_rfl) (by decide) ?_
       simp only [go_sem,simprocAttr]
       refine ⟨_,hnt,?_⟩
       have hlen:(q.sound.take i).length=i:=by rw [List.length_take];omega
       simp only [go_sem,simprocAttr]
       refine ⟨⟨by unfold maxLen;omega,by omega⟩,by kernel_rfl,i+1,weak_of [(8,some 17),(7,some 7),(6,some 6),(5,some 5),(4,some 4),(3,some 3),(2,some 2),(1,some 1),(0,some 0)] ?_,by omega,by omega⟩
       simp only [go_sem,simprocAttr,hwi]
       refine ⟨by simp,?_,by simp⟩
       rw [List.take_add_one,List.getElem?_eq_getElem hil,List.map_append,List.getD_eq_getElem?_getD,List.getElem?_eq_getElem hil]
       rfl
      ·simp only [bxx] at hge3
       unfold awS
       simp only [go_sem,simprocAttr]
       rw [List.take_of_length_le (show q.sound.length≤i by omega)]
       refine drawR_of [0,1,2,3,4,5,6] (.step 7 .done) rfl (by kernel_rfl) (by kernel_rfl) (by decide) ?_
       simp only [go_sem,simprocAttr,decide_true,decide_false,ww1,ww1']
       refine awpL_step (aw_ok _ ?_)
       simp only [go_sem,simprocAttr,decide_true,decide_false,ww1,ww1',nth_one2]
       refine awp_loop_f (fun (i:Nat) σ => { fr:=(deadS [16,70,71,72,73,74,75,76,77,78,79,83,84,85,86,87,88,89,90,91,92,93,94,95,96,97,98,99,100,101,102,103,104,105] (setS 82 (vint i) σ)).fr,h:=[(12, .row 124 3 zTrk (tRows ((r.sound.take i).map trkC))),(11, .box [vint r.rate.num,vint r.rate.den,vint r.channels, .own 12, .own 10]),(10, .map []),(9, .box ((SequenceR.c r).map V.t)),(8, .row 124 3 zTrk (tRows (q.sound.map trkC))),(7, .box [vint q.rate.num,vint q.rate.den,vint q.channels, .own 8, .own 6]),(6, .map []),(4, .box [.own 1, .own 2, .own 3]),(3, .map [(.string q.name, .own 7)]),(2, .map (tEs (auM A))),(1, .map (tEs (rtM md))),(0, .box [.t (tmedia md), .t (tseqs [q,r])])],nx:=13 })
        (fun i=>i≤r.sound.length) (fun i=>r.sound.length - i) 0 (weak_of [(12,none),(11,some 11),(10,some 10),(9,some 9),(8,some 8),(7,some 7),(6,some 6),(4,some 4),(3,some 3),(2,some 2),(1,some 1),(0,some 0)] ?_) (Nat.zero_le _) ?_
       ·simp only [go_sem,simprocAttr]
        simp
       ·intro i2 hi2
        refine aw_ok _ ?_
        simp only [go_sem,simprocAttr]
        refine ⟨fun hlt4=>?_,fun hge4=>?_⟩
        ·simp only [bxx] at hlt4
         have hil:i2<r.sound.length:=by omega
         have hwi:IntKind.i64.wrap ((i2:Int)+1)=((i2+1:Nat):Int):=by rw [wrap1 (by omega)];omega
         have hnt:=cNewTrack _ (rt _ (mem_getD (d:=[]) hil))
         unfold awS
         simp only [go_sem,simprocAttr]
         refine ⟨⟨by omega,by omega⟩,?_⟩
         refine drawC_of 12 .done rfl (by kernel_rfl) (by kernel_rfl) (by decide) ?_
         simp only [go_sem,simprocAttr]
         refine ⟨_,hnt,?_⟩
         have hlen:(r.sound.take i2).length=i2:=by rw [List.length_take];omega
         simp only [go_sem,simprocAttr]
         refine ⟨⟨by unfold maxLen;omega,by omega⟩,by kernel_rfl,i2+1,weak_of [(12,some 21),(11,some 11),(10,some 10),(9,some 9),(8,some 8),(7,some 7),(6,some 6),(4,some 4),(3,some 3),(2,some 2),(1,some 1),(0,some 0)] ?_,by omega,by omega⟩
         simp only [go_sem,simprocAttr,hwi]
         refine ⟨by simp,?_,by simp⟩
         rw [List.take_add_one,List.getElem?_eq_getElem hil,List.map_append,List.getD_eq_getElem?_getD,List.getElem?_eq_getElem hil]
         rfl
        ·simp only [bxx] at hge4
         unfold awS
         simp only [go_sem,simprocAttr]
         rw [List.take_of_length_le (show r.sound.length≤i2 by omega)]
         refine drawR_of [0,1,2,3,4,5,6] (.step 7 .done) rfl (by kernel_rfl) (by kernel_rfl) (by decide) ?_
         simp only [go_sem,simprocAttr,decide_true,decide_false,ww1,ww1',ww2,ww3,hqd]
         refine awpL_step (aw_ok _ ?_)
         simp only [go_sem,simprocAttr,decide_true,decide_false,ww1,ww1',ww2,ww3,hqd]
         refine weak_of [(9,some 10),(8,some 12),(7,some 11),(6,some 4),(5,some 6),(4,some 8),(3,some 7),(2,some 3),(1,some 2),(0,some 1)] ?_
         simp only [go_sem,simprocAttr]
         trace_state
         simp
open Go.RowKit
set_option maxRecDepth 4000
def sqM2 (a b:ByteArray):MapT:=[(.string a,false,[.opq]),(.string b,false,[.opq])]
structure SoundOk2 (md:List MediumR) (q r:SequenceR) (A:List AudioR) (E:SndE) (m:Nat) (from0:Int) (n:Nat):Prop where
 fit:(⟨md,[q,r]⟩:ProjR).fit
 val:validP ⟨md,[q,r]⟩=0
 hm:md.length≤16
 h8:q.sound.length≤8
 ht:∀ t∈q.sound,vTrack t=true
 ne:q.name≠r.name
 r8:r.sound.length≤8
 rt:∀ t∈r.sound,vTrack t=true
 ha:A.length≤100
 hn:(A.map AudioR.name).Nodup
 hp:∀ a∈A,a.chs.length≤4 ∧ ∀ p∈a.chs,p.length=(a.chs.getD 0 []).length∧p.length≤1048576
 hch:q.channels=m
 hr:RateS q.rate
 n1:n≤1000
 f0 : -68719476736≤from0
 f1:from0+n≤68719476736
 hc:∀ i:Nat,i<n→CmpOk (rtM md) (auM A) (sqM2 q.name r.name) E m q.sound q.rate (from0+i)
theorem cSoundS {md:List MediumR} {q r:SequenceR} {A:List AudioR} {E:SndE} {from0:Int} {n:Nat} (h:SoundOk2 md q r A E 1 from0 n) :
  CPure Tryz.prog 10 [vproj ⟨md,[q,r]⟩,vstr q.name,vint from0,vint n, .t (taudios A)] (.tup [.t (tchs [sndL (fun i=>outV E 1 q.sound q.rate (from0+i) 0) n]),vint 0]):=by
 have cv:=cValid ⟨md,[q,r]⟩ h.fit
 rw [h.val] at cv
 have cm:=cNewMixer2 md q r h.ne h.hm A h.ha h.hn h.h8 h.ht h.r8 h.rt
 have cp:=cProper A (by have:=h.ha;omega) h.hp
 obtain ⟨hu,hv,hn2,hd2⟩:=rateS_v h.hr
 have hd:=h.hr.d
 have ca:=cAudible q.rate h.hr.fit ⟨by omega,by omega⟩
 rw [h.hr.aud] at ca
 have n1:=h.n1
 have f0:=h.f0
 have f1:=h.f1
 have nb:∀ s, -68719476736≤s∧s≤68719476736→numberedS s=true:=fun s hs=>by
  unfold numberedS
  rw [decide_eq_true (by omega),decide_eq_true (by omega)]
  rfl
 have c1:=cNumbered from0
 rw [nb _ ⟨by omega,by omega⟩] at c1
 have c2:=cNumbered (from0+n)
 rw [nb _ ⟨by omega,by omega⟩] at c2
 have hch:=h.hch
 have d0:decide ((n:Int)<0)=false:=decide_eq_false (by omega)
 have d1:decide ((n:Int) > 1048576)=false:=decide_eq_false (by omega)
 refine cpure_of Tryz.xen10 Tryz.func10 rfl Tryz.ntmps10 (by rw [Tryz.results10]) (aw_ok _ ?_)
 simp only [go_sem,simprocAttr,decide_true,decide_false]
 refine ⟨_,cv,?_⟩
 simp only [go_sem,simprocAttr,decide_true,decide_false]
 refine icall_io cm [] rfl (by omega) (by decide) ?_ rfl rfl rfl rfl ?_
 ·simp only [go_sem,simprocAttr,decide_true,decide_false]
 simp only [go_sem,simprocAttr,decide_true,decide_false,hch,List.getElem?_nil,d0,(ren_tEs _ _).1]
 refine ⟨_,cp,?_⟩
 simp only [go_sem,simprocAttr,decide_true,decide_false,d1,d0]
 refine ⟨_,c1,?_⟩
 simp only [go_sem,simprocAttr,decide_true,decide_false,wrap64 (x:=from0+n) (by omega) (by omega)]
 refine ⟨_,c2,?_⟩
 simp only [go_sem,simprocAttr,decide_true,decide_false]
 refine ⟨_,ca,?_⟩
 simp only [go_sem,simprocAttr,decide_true,decide_false]
 refine ⟨by decide,?_⟩
 have ww1:IntKind.i64.wrap 1=1:=by decide
 have w01:IntKind.i64.wrap (0+1)=1:=by decide
 refine awp_loopL ?_
 refine awpL_step (aw_ok _ ?_)
 simp only [go_sem,simprocAttr,decide_true,decide_false,ww1,w01]
 refine ⟨⟨by omega,by unfold maxLen;omega,by omega⟩,?_⟩
 refine awpL_step (aw_ok _ ?_)
 simp only [go_sem,simprocAttr,decide_true,decide_false,ww1,w01,set_own1]
 have hrg:∀ i:Nat, -32768≤(fun i:Nat=>outV E 1 q.sound q.rate (from0+i) 0) i∧(fun i:Nat=>outV E 1 q.sound q.rate (from0+i) 0) i≤32767:=fun i=>out_range _ _ _ _ _ _
 obtain ⟨f,hf⟩:∃ f:Nat→Int,f=fun i:Nat=>outV E 1 q.sound q.rate (from0+i) 0:=⟨_,rfl⟩
 rw [← hf] at hrg ⊢
 refine awp_loop_f (fun (i:Nat) σ => setB 14 (.row 76 1 (c16 0) (tRows ((fillP f n i).map c16))) (setS 85 (vint i) (deadS [18,19,20,86,87,88,89,90,91,92,93,94,95,96,97,98,99,100,101,102,103,104,105,106,107,108,109,110] (cleanS σ)))) (fun i=>i≤n) (fun i=>n - i) 0 (weak_self ?_) (Nat.zero_le _) ?_
 ·simp only [go_sem,simprocAttr]
  refine ⟨by simp,(fillP_zero f n).symm,?_⟩
  simp
 ·intro i hi
  refine aw_ok _ ?_
  simp only [go_sem,simprocAttr]
  refine ⟨fun hlt=>?_,fun hge=>?_⟩
  ·simp only [bxx] at hlt
   have hil:i<n:=by omega
   have hwi:IntKind.i64.wrap ((i:Int)+1)=((i+1:Nat):Int):=by rw [wrap1 (by omega)];omega
   have hcmp:=cCompute h.hr (s:=from0+i) ⟨by omega,by omega⟩ (h.hc i hil)
   have hfi:outV E 1 q.sound q.rate (from0+(i:Int)) 0=f i:=by rw [hf]
   rw [hfi] at hcmp
   unfold awS
   simp only [go_sem,simprocAttr,decide_true,decide_false,wrap64 (x:=from0+(i:Int)) (by omega) (by omega)]
   refine lcall_lend ?_
   simp only [go_sem,simprocAttr,decide_true,decide_false]
   refine ⟨_,hcmp,rfl,?_⟩
   simp only [go_sem,simprocAttr,decide_true,decide_false]
   refine awp_loopL ?_
   refine awpL_step (aw_ok _ ?_)
   simp only [go_sem,simprocAttr,decide_true,decide_false,ww1,w01]
   refine drawC_of 11 .done rfl (by kernel_rfl) (by kernel_rfl) (by decide) ?_
   simp only [go_sem,simprocAttr,decide_true,decide_false,nthV_0,ww1,w01,wrap16 (hrg i).1 (hrg i).2]
   refine ⟨⟨by omega,by rw [fillP_len];omega⟩,by rw [fillP_len];omega,by kernel_rfl,?_⟩
   refine awpL_step (aw_ok _ ?_)
   simp only [go_sem,simprocAttr,decide_true,decide_false,ww1,w01,tRows_set1]
   refine ⟨i+1,weak_self ?_,by omega,by omega⟩
   simp only [go_sem,simprocAttr,decide_true,decide_false,hwi]
   refine ⟨by simp,fillP_set f hil,?_⟩
   simp
  ·simp only [bxx] at hge
   have:n=i:=by omega
   subst this
   unfold awS
   simp only [go_sem,simprocAttr,decide_true,decide_false]
   refine ⟨nopSound,?_⟩
   rw [fillP_full]
   rfl
end Go.Proofs.YtkjdkbmfaamhaaaGreat
