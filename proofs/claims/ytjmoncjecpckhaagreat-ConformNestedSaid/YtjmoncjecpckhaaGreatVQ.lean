/- Proved here: The contract of adding a nested clip's sound, for use in the proofs of the given statements; conditions stand in each theorem. -/
import Derived.Test.YtjmoncjecpckhaaGreatVP
import Derived.Test.YtjmoncjecpckhaaGreatVE
import Derived.Test.YtjmoncjecpckhaaGreatVO
import Derived.Test.YtjmoncjecpckhaaGreatVJ
import Derived.Test.YtjmoncjecpckhaaGreatVM
set_option linter.unusedSimpArgs false
set_option linter.unusedVariables false
set_option linter.unusedSectionVars false
set_option linter.unnecessarySimpa false
namespace Go.Proofs.YtjmoncjecpckhaaGreat
open Go.RowKit
set_option maxRecDepth 4000
theorem cAddN {md:List MediumR} {A:List AudioR} {q r:SequenceR} {es es':MapT} (c:ClipR) (hk:c.kind=1) (x0:Int) (hc:c.chan = [x0]) (k:Rat) (n a0 a1 a2 a3:Int) (hn:n≤4) (hs:CIO Tryz.prog 97 10 (nesH md A q r es) [.own 6,vsource c.a,vrat (ofQ k)] (vtone n a0 a1 a2 a3) (nesH md A q r es') 10) (hz:∀ x, -65536≤tchan n a0 a1 a2 a3 x∧tchan n a0 a1 a2 a3 x≤65536) (hg : 0≤c.gain∧c.gain≤65536) (s0 s1 s2 s3:Int) (h0:Sm s0) (h1:Sm s1) (h2:Sm s2) (h3:Sm s3) :
  CIO Tryz.prog 62 11 ((10,sumB s0 s1 s2 s3)::nesH md A q r es) [.own 6, .own 10,vclip c,vrat (ofQ k)] (.tup []) ((10,sumB (s0+gainV (tchan n a0 a1 a2 a3 x0) c.gain) (s1) (s2) (s3))::nesH md A q r es') 11:=by
 unfold Sm at h0 h1 h2 h3
 have hk2:(c.kind==2)=false:=by rw [hk];rfl
 have cc0:=cChannel n a0 a1 a2 a3 x0 hn
 have hz0:=hz x0
 generalize tchan n a0 a1 a2 a3 x0=z0 at cc0 hz0 ⊢
 obtain ⟨b0,d0,e0,f0⟩:=gain_bound hz0 hg
 have u0:=wrap64 (x:=z0*c.gain) (by omega) (by omega)
 have v0:=wrap64 (x:=z0*c.gain+2048) (by omega) (by omega)
 have y0:IntKind.i64.wrap (s0+(z0*c.gain+2048) / 4096)=s0+gainV z0 c.gain:=by unfold gainV at e0 f0 ⊢; exact wrap64 (by omega) (by omega)
 have ww1:IntKind.i64.wrap 1=1:=by decide
 have ww2:IntKind.i64.wrap 2=2:=by decide
 have ww3:IntKind.i64.wrap 3=3:=by decide
 have ww4:IntKind.i64.wrap 4=4:=by decide
 have q12:∀ x:Int,IntKind.i64.wrap ((x:Int) / 4096)=x / 4096∨True:=fun _ => .inr trivial
 refine cio_of Tryz.xen62 Tryz.func62 rfl Tryz.ntmps62 (by rw [Tryz.results62]) (aw_ok _ ?_)
 simp only [go_sem,simprocAttr,decide_true,decide_false,hk2,hc]
 refine lcall_io (by kernel_rfl) ?_
 refine icall_io hs [0,1,2,3,4,5,6,7,8,9] rfl (by omega) (by decide) ?_ rfl rfl rfl rfl ?_
 ·simp only [go_sem,simprocAttr,decide_true,decide_false,(ren_tEs _ _).1]
  simp [ment_tEs]
 simp only [go_sem,simprocAttr,decide_true,decide_false,hk2,hc,List.getElem?_nil,(ren_tEs _ _).1]
 refine awp_loopL ?_
 refine awpL_step (aw_ok _ ?_)
 simp only [go_sem,simprocAttr,decide_true,decide_false,nth_one,nth_zero2,nth_one2,nth_two2,nth_three2,ww1,ww2,ww3,ww4,hk2,pow12,pow12',hc]
 refine ⟨_,cc0,?_⟩
 simp only [go_sem,simprocAttr,decide_true,decide_false,nth_one,nth_zero2,nth_one2,nth_two2,nth_three2,ww1,ww2,ww3,ww4,hk2,pow12,pow12',hc]
 refine drawC_of 15 .done rfl (by kernel_rfl) (by kernel_rfl) (by decide) ?_
 simp only [go_sem,simprocAttr,decide_true,decide_false,nth_one,nth_zero2,nth_one2,nth_two2,nth_three2,ww1,ww2,ww3,ww4,hk2,pow12,pow12',hc,u0,v0,y0]
 refine ⟨by kernel_rfl,?_⟩
 refine awpL_step (aw_ok _ ?_)
 simp only [go_sem,simprocAttr,decide_true,decide_false,nth_one,nth_zero2,nth_one2,nth_two2,nth_three2,ww1,ww2,ww3,ww4,hk2,pow12,pow12',hc]
 refine weak_self ?_
 simp only [go_sem,simprocAttr,decide_true,decide_false,hc]
 simp
open Go.RowKit
set_option maxRecDepth 4000
set_option maxHeartbeats 4000000 in
theorem cComputeN {md:List MediumR} {A:List AudioR} {q r:SequenceR} {es es':MapT} {x:ClipR} {s:Int} {z:Int} (hr:RateS r.rate) (hs : -68719476736≤s∧s≤68719476736) (hrs:r.sound = [[x]]) (hv:vClip x=true) (hl:x.len≤64) (hk0:x.kind≠0) (h0 : 0≤ownF r.rate s) (h1:ownF r.rate s<x.len) (hz : -1048577≤z∧z≤1048577)
  (ha:CIO Tryz.prog 62 11 ((10,sumB 0 0 0 0)::nesH md A q r es) [.own 6, .own 10,vclip x,vrat (ofQ (timeQ r.rate s))] (.tup []) ((10,sumB z 0 0 0)::nesH md A q r es') 11) :
  CIO Tryz.prog 33 10 (nesH md A q r es) [.own 6, .own 7,vint s] (.agg [vint (max (-32768) (min 32767 z)),vint 0,vint 0,vint 0]) (nesH md A q r es') 10:=by
 obtain ⟨hu,hvr,hn2,hd2⟩:=rateS_v hr
 have hn:=hr.n
 have hd:=hr.d
 have c1:=cOwner s r.rate hr.fit hu ⟨by omega,by omega⟩
 obtain ⟨dn,hdn⟩:=nat_of (n:=48000*r.rate.den) (by omega)
 have hsr:(s*r.rate.num).natAbs≤68719476736*1048576:=by rw [Int.natAbs_mul];exact Nat.mul_le_mul (by omega) (by omega)
 have c2:=cOfZ (s*r.rate.num) dn (by omega) (by omega) (by omega)
 have e2:(((s*r.rate.num:Int)):Rat) / ((dn:Int):Rat)=timeQ r.rate s:=by
  rw [← hdn,Rat.intCast_mul,Rat.intCast_mul]
  rfl
 rw [e2, ← hdn] at c2
 obtain ⟨te,tq⟩:=time_qb hr s
 refine cio_of Tryz.xen33 Tryz.func33 rfl Tryz.ntmps33 (by rw [Tryz.results33]) (aw_ok _ ?_)
 simp only [go_sem,simprocAttr,decide_true,decide_false]
 refine ⟨_,c1,?_⟩
 simp only [go_sem,simprocAttr,decide_true,decide_false]
 refine ⟨_,cMustI _,?_⟩
 simp only [go_sem,simprocAttr,decide_true,decide_false]
 refine drawC_of 19 .done rfl (by kernel_rfl) (by kernel_rfl) (by decide) ?_
 simp only [go_sem,simprocAttr,decide_true,decide_false,wrap64 (x:=s*r.rate.num) (by omega) (by omega),wrap64 (x:=48000*r.rate.den) (by omega) (by omega)]
 refine ⟨_,c2,?_⟩
 simp only [go_sem,simprocAttr,decide_true,decide_false]
 refine ⟨_,cMustR _,?_⟩
 simp only [go_sem,simprocAttr,decide_true,decide_false]
 refine ⟨by kernel_rfl,?_⟩
 simp only [go_sem,simprocAttr,decide_true,decide_false,hrs]
 have hp1:∀ c ∈ [x],1≤c.len:=fun c hc=>by
  simp only [List.mem_cons,List.not_mem_nil,or_false] at hc
  subst hc
  exact (vClip_len hv).1
 have hat:=cAtIn [x] (ownF r.rate s) (by simp) hp1 (by simp only [totL];omega) (i:=0) (by simp) (by simp only [List.take_zero,totL];exact h0) (by simp only [List.take_zero,totL,List.getD_cons_zero];omega) h0
 rw [List.getD_cons_zero,if_neg hk0] at hat
 have t0:totL (List.take 0 [x])=0:=rfl
 rw [t0] at hat
 have cs:=cSubQ (qb_mono tq (show s.natAbs*8≤549755813888 by omega) (Nat.le_refl _)) (qb_mono (qb_int 0) (show (0:Int).natAbs≤137438953472 by decide) (Nat.le_refl 1)) (by decide) (by decide) (by decide) (by decide) (by decide) (by decide) (by decide)
 rw [ofQ_int] at cs
 have ez:timeQ r.rate s - ((0:Int):Rat)=timeQ r.rate s:=by
  rw [Rat.intCast_zero]
  grind
 rw [ez] at cs
 have ww1:IntKind.i64.wrap 1=1:=by decide
 have ww2:IntKind.i64.wrap 2=2:=by decide
 have ww3:IntKind.i64.wrap 3=3:=by decide
 have ww4:IntKind.i64.wrap 4=4:=by decide
 have w01:IntKind.i64.wrap (0+1)=1:=by decide
 have w11:IntKind.i64.wrap (1+1)=2:=by decide
 have w21:IntKind.i64.wrap (2+1)=3:=by decide
 have w31:IntKind.i64.wrap (3+1)=4:=by decide
 refine awp_loopL ?_
 refine awpL_step (aw_ok _ ?_)
 have hnt:∀ d,nth d (r.sound.map trkC) 0=trkC [x]:=fun d=>by rw [hrs];rfl
 have hrl:r.sound.length=1:=by rw [hrs];rfl
 simp only [go_sem,simprocAttr,decide_true,decide_false,hnt,hrl,trkC]
 refine ⟨_,hat,?_⟩
 simp only [go_sem,simprocAttr,decide_true,decide_false]
 refine ⟨_,cs,?_⟩
 simp only [go_sem,simprocAttr,decide_true,decide_false]
 refine ⟨_,cMustR _,?_⟩
 simp only [go_sem,simprocAttr,decide_true,decide_false]
 refine icall_io ha [0,1,2,3,4,5,6,7,8,9,30] rfl (by omega) (by decide) ?_ rfl rfl rfl rfl ?_
 ·simp only [go_sem,simprocAttr,decide_true,decide_false,(ren_tEs _ _).1]
  simp [ment_tEs]
 simp only [go_sem,simprocAttr,decide_true,decide_false,List.getElem?_nil,(ren_tEs _ _).1,ww1,w01]
 refine awpL_step (aw_ok _ ?_)
 simp only [go_sem,simprocAttr,decide_true,decide_false,hrl,ww1,w01]
 refine awp_loopL ?_
 refine awpL_step (aw_ok _ ?_)
 simp only [go_sem,simprocAttr,decide_true,decide_false,ww1,ww2,ww3,ww4,w01,w11,w21,w31]
 refine awpL_step (aw_ok _ ?_)
 simp only [go_sem,simprocAttr,decide_true,decide_false,ww1,ww2,ww3,ww4,w01,w11,w21,w31]
 refine awpL_step (aw_ok _ ?_)
 simp only [go_sem,simprocAttr,decide_true,decide_false,ww1,ww2,ww3,ww4,w01,w11,w21,w31]
 refine awpL_step (aw_ok _ ?_)
 simp only [go_sem,simprocAttr,decide_true,decide_false,ww1,ww2,ww3,ww4,w01,w11,w21,w31]
 refine awpL_step (aw_ok _ ?_)
 simp only [go_sem,simprocAttr,decide_true,decide_false,ww1,ww2,ww3,ww4,w01,w11,w21,w31]
 refine weak_self ?_
 simp only [go_sem,simprocAttr,decide_true,decide_false]
 simp
 rfl
open Go.RowKit
set_option maxRecDepth 4000
theorem cSoundT {md:List MediumR} {q r:SequenceR} {A:List AudioR} {E:SndE} {from0:Int} {n:Nat} (h:SoundOk2 md q r A E 1 from0 n) (hrr:RateS r.rate) (hrc:r.channels=1) (v:Int→List T) (f:Nat→Int) (hrg:∀ i, -32768≤f i∧f i≤32767)
  (hcomp:∀ (i:Nat) (L:List Int),i<n→L.length≤2*i → ∃ L',L'.length≤2*(i+1)∧CIO Tryz.prog 33 10 (nesH md A q r (kept v L)) [.own 6, .own 7,vint (from0+i)] (.agg [vint (f i),vint 0,vint 0,vint 0]) (nesH md A q r (kept v L')) 10) :
  CPure Tryz.prog 17 [vproj ⟨md,[q,r]⟩,vstr r.name,vint from0,vint n, .t (taudios A)] (.tup [.t (tchs [sndL f n]),vint 0]):=by
 have cv:=cValid ⟨md,[q,r]⟩ h.fit
 rw [h.val] at cv
 have cm:=cNewMixer2 md q r h.ne h.hm A h.ha h.hn h.h8 h.ht h.r8 h.rt
 have cp:=cProper A (by have:=h.ha;omega) h.hp
 obtain ⟨hu,hv,hn2,hd2⟩:=rateS_v hrr
 have hd:=hrr.d
 have hnn:=hrr.n
 have hqd:decide (r.name=q.name)=false:=decide_eq_false fun e=>h.ne e.symm
 have ca:=cAudible r.rate hrr.fit ⟨by omega,by omega⟩
 rw [hrr.aud] at ca
 have n1:=h.n1
 have f0:=h.f0
 have f1:=h.f1
 have nb:∀ s, -68719476736≤s∧s≤68719476736→numberedS s=true:=fun s hs=>by
  unfold numberedS
  rw [decide_eq_true (by omega),decide_eq_true (by omega)]
  rfl
 have c1:=cNumbered from0
 rw [nb _ ⟨by omega,by omega⟩] at c1
 have c2:=cNumbered (from0+n)
 rw [nb _ ⟨by omega,by omega⟩] at c2
 have hch:=hrc
 have d0:decide ((n:Int)<0)=false:=decide_eq_false (by omega)
 have d1:decide ((n:Int) > 1048576)=false:=decide_eq_false (by omega)
 refine cpure_of Tryz.xen17 Tryz.func17 rfl Tryz.ntmps17 (by rw [Tryz.results17]) (aw_ok _ ?_)
 simp only [go_sem,simprocAttr,decide_true,decide_false]
 refine ⟨_,cv,?_⟩
 simp only [go_sem,simprocAttr,decide_true,decide_false]
 refine icall_io cm [] rfl (by omega) (by decide) ?_ rfl rfl rfl rfl ?_
 ·simp only [go_sem,simprocAttr,decide_true,decide_false]
 simp only [go_sem,simprocAttr,decide_true,decide_false,hch,List.getElem?_nil,d0,(ren_tEs _ _).1,hqd]
 refine ⟨_,cp,?_⟩
 simp only [go_sem,simprocAttr,decide_true,decide_false,d1,d0]
 refine ⟨_,c1,?_⟩
 simp only [go_sem,simprocAttr,decide_true,decide_false,wrap64 (x:=from0+n) (by omega) (by omega)]
 refine ⟨_,c2,?_⟩
 simp only [go_sem,simprocAttr,decide_true,decide_false]
 refine ⟨_,ca,?_⟩
 simp only [go_sem,simprocAttr,decide_true,decide_false]
 refine ⟨by decide,?_⟩
 have ww1:IntKind.i64.wrap 1=1:=by decide
 have w01:IntKind.i64.wrap (0+1)=1:=by decide
 refine awp_loopL ?_
 refine awpL_step (aw_ok _ ?_)
 simp only [go_sem,simprocAttr,decide_true,decide_false,ww1,w01]
 refine ⟨⟨by omega,by unfold maxLen;omega,by omega⟩,?_⟩
 refine awpL_step (aw_ok _ ?_)
 simp only [go_sem,simprocAttr,decide_true,decide_false,ww1,w01,set_own1]
 refine awp_loop_f (fun (p:Nat×List Int) σ => setB 8 (.map (tEs (kept v p.2))) (setB 14 (.row 64 1 (c16 0) (tRows ((fillP f n p.1).map c16))) (setS 85 (vint p.1) (deadS [18,19,20,86,87,88,89,90,91,92,93,94,95,96,97,98,99,100,101,102,103,104,105,106,107,108,109,110] (cleanS σ))))) (fun p=>p.1≤n∧p.2.length≤2*p.1) (fun p=>n - p.1) (0,[]) (weak_self ?_) ⟨Nat.zero_le _,by simp⟩ ?_
 ·simp only [go_sem,simprocAttr]
  refine ⟨by simp,(fillP_zero f n).symm,?_⟩
  simp
  rfl
 ·rintro ⟨i,L⟩ ⟨hi,hL⟩
  simp only at hi hL
  refine aw_ok _ ?_
  simp only [go_sem,simprocAttr]
  refine ⟨fun hlt=>?_,fun hge=>?_⟩
  ·simp only [bxx] at hlt
   have hil:i<n:=by omega
   have hwi:IntKind.i64.wrap ((i:Int)+1)=((i+1:Nat):Int):=by rw [wrap1 (by omega)];omega
   obtain ⟨L',hL',hcmp⟩:=hcomp i L hil hL
   unfold awS
   simp only [go_sem,simprocAttr,decide_true,decide_false,wrap64 (x:=from0+(i:Int)) (by omega) (by omega)]
   refine lcall_io (by kernel_rfl) ?_
   refine icall_io hcmp [3,4,5,6,7,8,9,10,11,12] rfl (by omega) (by decide) ?_ rfl rfl rfl rfl ?_
   ·simp only [go_sem,simprocAttr,decide_true,decide_false,(ren_tEs _ _).1]
    simp [ment_tEs,hrc]
   simp only [go_sem,simprocAttr,decide_true,decide_false,List.getElem?_nil,(ren_tEs _ _).1]
   refine awp_loopL ?_
   refine awpL_step (aw_ok _ ?_)
   simp only [go_sem,simprocAttr,decide_true,decide_false,ww1,w01]
   refine drawC_of 11 .done rfl (by kernel_rfl) (by kernel_rfl) (by decide) ?_
   simp only [go_sem,simprocAttr,decide_true,decide_false,nthV_0,ww1,w01,wrap16 (hrg i).1 (hrg i).2]
   refine ⟨⟨by omega,by rw [fillP_len];omega⟩,by rw [fillP_len];omega,by kernel_rfl,?_⟩
   refine awpL_step (aw_ok _ ?_)
   simp only [go_sem,simprocAttr,decide_true,decide_false,ww1,w01,tRows_set1]
   refine ⟨(i+1,L'),weak_self ?_,⟨by omega,hL'⟩,by show n - (i+1)<n - i;omega⟩
   simp only [go_sem,simprocAttr,decide_true,decide_false,hwi,hrc]
   refine ⟨by simp,fillP_set f hil,?_⟩
   simp
  ·simp only [bxx] at hge
   have:n=i:=by omega
   subst this
   unfold awS
   simp only [go_sem,simprocAttr,decide_true,decide_false]
   refine ⟨nopSound,?_⟩
   rw [fillP_full]
   rfl
open Go.RowKit
set_option maxRecDepth 4000
def nmT:ByteArray:=⟨#[116]⟩
abbrev nesS:List ClipR:=[cutC nmA ⟨0,1⟩ ⟨1,2⟩ 3 4096 0,gapC 1,cutC nmA ⟨1,1⟩ ⟨1,1⟩ 2 4096 0]
abbrev nesQ:SequenceR:=prjQ ⟨25,1⟩ (1:Nat) [nesS]
def nesC (a:Int):ClipR:=⟨9,1,⟨2,nmS,⟨a,1⟩,⟨1,1⟩,false⟩,zSource,0,0,0,⟨#[]⟩,4096,[0]⟩
abbrev nesR (a:Int):SequenceR:=⟨nmT,⟨25,1⟩,16,16,[],[[nesC a]],[],1⟩
abbrev nesP (a:Int):ProjR:=⟨[prjM nmA ⟨25,1⟩,prjM nmB ⟨25,1⟩],[nesQ,nesR a]⟩
theorem nes_val:(([0,1,2,3]:List Int).all fun a=>decide (validP (nesP a)=0)&&vTrack nesS&&vTrack [nesC a]&&vClip (nesC a))=true:=by kernel_rfl
theorem four {a:Int} (h : 0≤a∧a<4):a∈([0,1,2,3]:List Int):=by
 simp only [List.mem_cons,List.not_mem_nil,or_false]
 omega
theorem nes_fit {a:Int} (h : 0≤a∧a<4):(nesP a).fit:=by
 have i0:I64 0:=⟨by decide,by decide⟩
 have i1:I64 1:=⟨by decide,by decide⟩
 have i2:I64 2:=⟨by decide,by decide⟩
 have i24:I64 16777216:=⟨by decide,by decide⟩
 have i16:I64 16:=⟨by decide,by decide⟩
 have fr:(⟨25,1⟩:RatR).fit:=⟨⟨by decide,by decide⟩,i1⟩
 have r0:(⟨0,0⟩:RatR).fit:=⟨i0,i0⟩
 have r1:(⟨1,1⟩:RatR).fit:=⟨i1,i1⟩
 have r01:(⟨0,1⟩:RatR).fit:=⟨i0,i1⟩
 have r12:(⟨1,2⟩:RatR).fit:=⟨i1,i2⟩
 have ra:(⟨a,1⟩:RatR).fit:=⟨i64s (show -1000000≤a∧a≤1000000 by omega),i1⟩
 have z:∀ n:Int, -1000000≤n∧n≤1000000→I64 n:=fun n hn=>i64s hn
 refine ⟨fun y hy=>?_,fun y hy=>?_⟩
 ·simp only [List.mem_cons,List.not_mem_nil,or_false] at hy
  rcases hy with rfl | rfl
  ·exact ⟨⟨i0,i0,fr,i0,i0⟩,i24,i2,i24,fun c hc=>by cases hc⟩
  ·exact ⟨⟨i0,i0,fr,i0,i0⟩,i24,i2,i24,fun c hc=>by cases hc⟩
 ·simp only [List.mem_cons,List.not_mem_nil,or_false] at hy
  rcases hy with rfl | rfl
  ·refine ⟨fr,i16,i16,fun t ht=>(by cases ht),fun t htm c hc=>?_,fun c hc=>(by cases hc),i1⟩
   simp only [prjQ,List.mem_cons,List.not_mem_nil,or_false] at htm
   subst htm
   simp only [List.mem_cons,List.not_mem_nil,or_false] at hc
   rcases hc with rfl | rfl | rfl
   ·exact ⟨z 3 (by decide),i1,⟨i1,r01,r12⟩,⟨i0,r0,r0⟩,i0,i0,i0,z 4096 (by decide)⟩
   ·exact ⟨i1,i0,⟨i0,r0,r0⟩,⟨i0,r0,r0⟩,i0,i0,i0,i0⟩
   ·exact ⟨i2,i1,⟨i1,r1,r1⟩,⟨i0,r0,r0⟩,i0,i0,i0,z 4096 (by decide)⟩
  ·refine ⟨fr,i16,i16,fun t ht=>(by cases ht),fun t htm c hc=>?_,fun c hc=>(by cases hc),i1⟩
   simp only [List.mem_cons,List.not_mem_nil,or_false] at htm
   subst htm
   simp only [List.mem_cons,List.not_mem_nil,or_false] at hc
   subst hc
   exact ⟨z 9 (by decide),i1,⟨i2,ra,r1⟩,⟨i0,r0,r0⟩,i0,i0,i0,z 4096 (by decide)⟩
theorem qb12:QB (toQ ⟨1,2⟩) 4096 2048:=⟨of_decide_eq_true (by kernel_rfl),of_decide_eq_true (by kernel_rfl)⟩
theorem vr12:vRat ⟨1,2⟩=true:=by kernel_rfl
theorem nes_cmp {A:List AudioR} {p q u v:List Int} (h:TwoA A p q u v) (j:Int):CmpOk (rtM [prjM nmA ⟨25,1⟩,prjM nmB ⟨25,1⟩]) (auM A) (sqM2 nmS nmT) (prjE ⟨25,1⟩ ⟨25,1⟩ A) 1 [nesS] ⟨25,1⟩ j:=by
 have hv:=List.all_eq_true.1 nes_val 0 (by simp)
 simp only [Bool.and_eq_true] at hv
 refine cmpOk_of rateS25 (by simp) (fun t ht=>?_) (fun t ht x hx hk=>?_) j
 ·simp only [List.mem_cons,List.not_mem_nil,or_false] at ht
  subst ht
  exact hv.1.1.2
 ·simp only [List.mem_cons,List.not_mem_nil,or_false] at ht
  subst ht
  simp only [List.mem_cons,List.not_mem_nil,or_false] at hx
  rcases hx with rfl | rfl | rfl
  ·exact cutT_a h rateS25 (by decide) (by decide) (by kernel_rfl) vr12 ⟨of_decide_eq_true (by kernel_rfl),of_decide_eq_true (by kernel_rfl)⟩ qb12
  ·exact absurd rfl hk
  ·exact cutT_a h rateS25 (by decide) (by decide) vr11 vr11 ⟨of_decide_eq_true (by kernel_rfl),of_decide_eq_true (by kernel_rfl)⟩ ⟨of_decide_eq_true (by kernel_rfl),of_decide_eq_true (by kernel_rfl)⟩
theorem nes_ok {A:List AudioR} {p q u v:List Int} (h:TwoA A p q u v) {a:Int} (ha : 0≤a∧a<4) {from0:Int} {n:Nat} (n1:n≤1000) (f0 : 0≤from0) (f1:from0≤1000000):SoundOk2 [prjM nmA ⟨25,1⟩,prjM nmB ⟨25,1⟩] nesQ (nesR a) A (prjE ⟨25,1⟩ ⟨25,1⟩ A) 1 from0 n:=by
 have hv:=List.all_eq_true.1 nes_val a (four ha)
 simp only [Bool.and_eq_true] at hv
 have hA:=two_aud h
 exact ⟨nes_fit ha,of_decide_eq_true hv.1.1.1,by simp,by simp [prjQ],fun t ht=>(by
  simp only [prjQ,List.mem_cons,List.not_mem_nil,or_false] at ht
  subst ht
  exact hv.1.1.2),(by show nmS≠nmT;decide),by simp,fun t ht=>(by
  simp only [List.mem_cons,List.not_mem_nil,or_false] at ht
  subst ht
  exact hv.1.2),hA.ha,hA.hn,hA.hp,rfl,rateS25,n1,by omega,by omega,fun i _=>nes_cmp h _⟩
open Go.RowKit
set_option maxRecDepth 4000
theorem tchan_one (a b c d:Int):tchan 1 a b c d 0=a:=rfl
theorem tchan_oneB {a b c d:Int} (ha : -65536≤a∧a≤65536) (x:Int) : -65536≤tchan 1 a b c d x∧tchan 1 a b c d x≤65536:=by
 unfold tchan
 split
 ·decide
 ·rename_i h
  have:x=0:=by omega
  subst this
  exact ha
theorem nes_y (a s:Int):posQ (nesC a).a (timeQ ⟨25,1⟩ s)*(48000 / toQ ⟨25,1⟩)=((s+1920*a:Int):Rat):=by
 have e25:toQ ⟨25,1⟩=25:=by rw [toQ_int];rfl
 have e:posQ (nesC a).a (timeQ ⟨25,1⟩ s)=(a:Rat)+timeQ ⟨25,1⟩ s*1:=by
  show toQ ⟨a,1⟩+timeQ ⟨25,1⟩ s*toQ ⟨1,1⟩=_
  rw [toQ_int,toQ_int]
  rfl
 have e2:((s+1920*a:Int):Rat)=(s:Rat)+1920*(a:Rat):=by simp
 rw [e,e25,e2]
 unfold timeQ
 have:((25:Int):Rat)=25:=rfl
 have:((1:Int):Rat)=1:=rfl
 grind
theorem qb_at {a:Int} (h : 0≤a∧a<4):QB (toQ ⟨a,1⟩) 256 256:=by
 rw [toQ_int]
 exact qb_mono (qb_int a) (by omega) (by decide)
theorem nes_comp {A:List AudioR} {p q u v:List Int} (h:TwoA A p q u v) {a:Int} (ha : 0≤a∧a<4) {s:Int} (s0 : 0≤s) (s1:s<17000) (L:List Int) (hL:L.length<30000) :
  CIO Tryz.prog 33 10 (nesH [prjM nmA ⟨25,1⟩,prjM nmB ⟨25,1⟩] A nesQ (nesR a) (kept (valsV (prjE ⟨25,1⟩ ⟨25,1⟩ A) 1 [nesS] ⟨25,1⟩) L)) [.own 6, .own 7,vint s] (.agg [vint (outV (prjE ⟨25,1⟩ ⟨25,1⟩ A) 1 [nesS] ⟨25,1⟩ (s+1920*a) 0),vint 0,vint 0,vint 0]) (nesH [prjM nmA ⟨25,1⟩,prjM nmB ⟨25,1⟩] A nesQ (nesR a) (kept (valsV (prjE ⟨25,1⟩ ⟨25,1⟩ A) 1 [nesS] ⟨25,1⟩) (addJ (addJ L (s+1920*a)) (s+1920*a+1)))) 10:=by
 have hv:=List.all_eq_true.1 nes_val a (four ha)
 simp only [Bool.and_eq_true] at hv
 obtain ⟨te,tq⟩:=time_qb rateS25 s
 have vra:vRat ⟨a,1⟩=true:=by
  have:=List.all_eq_true.1 (show (([0,1,2,3]:List Int).all fun a=>vRat ⟨a,1⟩)=true by kernel_rfl) a (four ha)
  exact this
 have hs:=cSourceN (md:=[prjM nmA ⟨25,1⟩,prjM nmB ⟨25,1⟩]) (A:=A) (q:=nesQ) (r:=nesR a) (E:=prjE ⟨25,1⟩ ⟨25,1⟩ A) (m:=1) (L:=L) (s:=(nesC a).a) (k:=timeQ ⟨25,1⟩ s) (Y:=s+1920*a) ⟨rfl,rfl,rateS25,qb_mono tq (by omega) (by decide),vra,vr11,qb_at ha,qb11 _ _ (by decide) (by decide),nes_y a s,by omega⟩ rfl (fun j=>nes_cmp h j) hL
 have ob:=fun c=>out_range (prjE ⟨25,1⟩ ⟨25,1⟩ A) 1 nesQ.sound nesQ.rate (s+1920*a) c
 have hadd:=cAddN (nesC a) rfl 0 rfl (timeQ ⟨25,1⟩ s) (1:Nat) _ _ _ _ (by decide) hs (tchan_oneB (by have:=ob 0;exact ⟨by omega,by omega⟩)) (show (0:Int)≤4096∧(4096:Int)≤65536 by decide) 0 0 0 0 ⟨by decide,by decide⟩ ⟨by decide,by decide⟩ ⟨by decide,by decide⟩ ⟨by decide,by decide⟩
 have eg:(nesC a).gain=4096:=rfl
 rw [show (((1:Nat):Int))=1 from rfl,tchan_one,eg,gain_unit,Int.zero_add] at hadd
 obtain ⟨o0,o1⟩:=own25 (s:=s) (b:=9) s0 (by omega)
 have hc:=cComputeN (r:=nesR a) rateS25 ⟨by omega,by omega⟩ rfl hv.2 (show (9:Int)≤64 by decide) (show (1:Int)≠0 by decide) o0 (show _<(9:Int) from o1) (by have:=ob 0;omega) hadd
 have em:max (-32768) (min 32767 (outV (prjE ⟨25,1⟩ ⟨25,1⟩ A) 1 nesQ.sound nesQ.rate (s+1920*a) 0))=outV (prjE ⟨25,1⟩ ⟨25,1⟩ A) 1 nesQ.sound nesQ.rate (s+1920*a) 0:=by
  have:=ob 0
  omega
 rw [em] at hc
 exact hc
open Go.RowKit
set_option maxRecDepth 4000
abbrev rawC (n k g:Int) (t:T):List T:=[ti n,ti k,ti 0,tstr ⟨#[]⟩,ti 0,ti 0,ti 0,ti 0,tbl false,ti 0,tstr ⟨#[]⟩,ti 0,ti 0,ti 0,ti 0,tbl false,ti 0,ti 0,ti 0,tstr ⟨#[]⟩,ti g,t]
theorem nes_s {A:List AudioR} {p q u v:List Int} (h:TwoA A p q u v) {a:Int} (ha : 0≤a∧a<4) {k:Int} (k0 : 0≤k) (k1:k<12000) :
  ∃ U:List Int,U.length=20∧CPure Tryz.prog 17 [vproj (nesP a),vstr nmS,vint (k+1920*a),vint (20:Nat), .t (taudios A)] (.tup [.t (tchs [U]),vint 0])∧CPure Tryz.prog 17 [vproj (nesP a),vstr nmT,vint k,vint (20:Nat), .t (taudios A)] (.tup [.t (tchs [U]),vint 0]):=by
 have c1:=cSoundS (nes_ok h ha (from0:=k+1920*a) (n:=20) (by decide) (by omega) (by omega))
 refine ⟨_,sndL_len _ _,c1,?_⟩
 have c2:=cSoundT (nes_ok h ha (from0:=k) (n:=20) (by decide) (by omega) (by omega)) rateS25 rfl (valsV (prjE ⟨25,1⟩ ⟨25,1⟩ A) 1 [nesS] ⟨25,1⟩) (fun i=>outV (prjE ⟨25,1⟩ ⟨25,1⟩ A) 1 nesQ.sound nesQ.rate (k+1920*a+i) 0) (fun i=>out_range _ _ _ _ _ _) (fun i L hi hL=>?_)
 ·exact c2
 ·have:=nes_comp h ha (s:=k+i) (by omega) (by omega) L (by omega)
  have e:k+(i:Int)+1920*a=k+1920*a+i:=by omega
  rw [e] at this
  have l1:=addJ_len L (k+1920*a+i)
  have l2:=addJ_len (addJ L (k+1920*a+i)) (k+1920*a+i+1)
  exact ⟨_,by omega,this⟩
theorem nes_imp:ImpR [ClipR.c (cutC nmA ⟨0,1⟩ ⟨1,2⟩ 3 4096 0),rawC 1 0 0 (.lit (.slice none 0 0)),ClipR.c (cutC nmA ⟨1,1⟩ ⟨1,1⟩ 2 4096 0)] (nesS.map ClipR.c):=by
 have hr:=fun x:List T=>impR_refl [x]
 exact ⟨(hr _).1,⟨imp_refl,imp_refl,imp_refl,imp_refl,imp_refl,imp_refl,imp_refl,imp_refl,imp_refl,imp_refl,imp_refl,imp_refl,imp_refl,imp_refl,imp_refl,imp_refl,imp_refl,imp_refl,imp_refl,imp_refl,imp_refl,imp_nil,trivial⟩,impR_refl _⟩
theorem as_nes (a:Int) {d1 d2 d3 d4:List T}:∀ (w:World) (E:Env) v,RdV w E (.agg [.t (rawMs ⟨25,1⟩), .t (.list 9 zSeqT [[tstr nmS,ti 25,ti 1,ti 16,ti 16, .lit (.slice none 0 0), .list 1 d1 [[.list 22 d2 [ClipR.c (cutC nmA ⟨0,1⟩ ⟨1,2⟩ 3 4096 0),rawC 1 0 0 (.lit (.slice none 0 0)),ClipR.c (cutC nmA ⟨1,1⟩ ⟨1,1⟩ 2 4096 0)]]], .lit (.slice none 0 0),ti 1],[tstr nmT,ti 25,ti 1,ti 16,ti 16, .lit (.slice none 0 0), .list 1 d3 [[.list 22 d4 [ClipR.c (nesC a)]]], .lit (.slice none 0 0),ti 1]])]) v→RdV w E (vproj (nesP a)) v :=
 as_impAgg (by exact ⟨as_imp (imp_list ⟨iL_app2 _ imp_nil,iL_app2 _ imp_nil,trivial⟩),as_imp (imp_list (by exact ⟨⟨imp_refl,imp_refl,imp_refl,imp_refl,imp_refl,imp_nil,imp_list (by exact ⟨⟨imp_list nes_imp,trivial⟩,trivial⟩),imp_nil,imp_refl,trivial⟩,⟨imp_refl,imp_refl,imp_refl,imp_refl,imp_refl,imp_nil,imp_list (by exact ⟨⟨imp_list (impR_refl _),trivial⟩,trivial⟩),imp_nil,imp_refl,trivial⟩,trivial⟩)),trivial⟩)
set_option maxHeartbeats 4000000 in
theorem nested11 (L:List Int) (f c:Int) (hf : 0≤f∧f≤65535) (hc : 0≤c∧c≤255):CPure Tryz.prog 11 [.t (tints L), .t (.lit (.int .u16 f)), .t (.lit (.int .u8 c))] (vbool true):=by
 have hS:=cSounds L 6000 (by decide)
 have hA:=sounds_two L 6000 (by decide)
 have k0:=tmod_abs f (n:=12000) (by decide)
 have k1:=Int.tmod_nonneg 12000 hf.1
 have a0:=tmod_abs c (n:=4) (by decide)
 have a1:=Int.tmod_nonneg 4 hc.1
 obtain ⟨k,hk⟩:∃ k,k=f.tmod 12000:=⟨_,rfl⟩
 obtain ⟨a,ha⟩:∃ a,a=c.tmod 4:=⟨_,rfl⟩
 rw [← hk] at k0 k1
 rw [← ha] at a0 a1
 obtain ⟨U,lU,s1,s2⟩:=nes_s hA (a:=a) ⟨a1,a0.2⟩ (k:=k) k1 k0.2
 have wa:=wrap64 (x:=a) (by omega) (by omega)
 have wk:=wrap64 (x:=k) (by omega) (by omega)
 have hSm:=cSame27 [U] (by simp) (fun x hx=>by
  simp only [List.mem_cons,List.not_mem_nil,or_false] at hx
  rw [hx,lU]
  decide)
 refine cpure_of Tryz.xen11 Tryz.func11 rfl Tryz.ntmps11 (by rw [Tryz.results11]) ?_
 refine awp_seq (aw_ok _ ?_)
 simp only [go_sem,simprocAttr,decide_true,decide_false]
 refine awp_seq (aw_ok _ ?_)
 simp only [go_sem,simprocAttr,decide_true,decide_false]
 refine ⟨_,hS,?_⟩
 simp only [go_sem,simprocAttr,decide_true,decide_false]
 refine awp_seq (aw_ok _ ?_)
 simp only [go_sem,simprocAttr,decide_true,decide_false]
 refine ⟨_,cWhole 25,?_⟩
 simp only [go_sem,simprocAttr,decide_true,decide_false]
 refine ⟨_,cWhole 0,?_⟩
 simp only [go_sem,simprocAttr,decide_true,decide_false]
 refine ⟨_,cCut27 ⟨0,1⟩ ⟨1,2⟩ 3,?_⟩
 simp only [go_sem,simprocAttr,decide_true,decide_false]
 refine ⟨_,cWhole 1,?_⟩
 simp only [go_sem,simprocAttr,decide_true,decide_false]
 refine ⟨_,cWhole 1,?_⟩
 simp only [go_sem,simprocAttr,decide_true,decide_false]
 refine ⟨_,cCut27 ⟨1,1⟩ ⟨1,1⟩ 2,?_⟩
 simp only [go_sem,simprocAttr,decide_true,decide_false]
 refine lcall_io (by kernel_rfl) ?_
 refine icall_io (cProjS ⟨25,1⟩ (rawC 0 0 0 (.lit (.slice none 0 0))) [ClipR.c (cutC nmA ⟨0,1⟩ ⟨1,2⟩ 3 4096 0),rawC 1 0 0 (.lit (.slice none 0 0)),ClipR.c (cutC nmA ⟨1,1⟩ ⟨1,1⟩ 2 4096 0)]) [1,0] rfl (by omega) (by decide) ?_ rfl rfl rfl rfl ?_
 ·simp only [go_sem,simprocAttr,decide_true,decide_false]
  rfl
 simp only [go_sem,simprocAttr,decide_true,decide_false,List.getElem?_nil]
 refine awp_seq (aw_ok _ ?_)
 simp only [go_sem,simprocAttr,decide_true,decide_false, ← ha,wa]
 refine ⟨_,cWhole a,?_⟩
 simp only [go_sem,simprocAttr,decide_true,decide_false]
 refine ⟨_,cWhole 1,?_⟩
 simp only [go_sem,simprocAttr,decide_true,decide_false]
 refine ⟨_,cCut27 ⟨a,1⟩ ⟨1,1⟩ 9,?_⟩
 simp only [go_sem,simprocAttr,decide_true,decide_false]
 refine awp_seq (aw_ok _ ?_)
 simp only [go_sem,simprocAttr,decide_true,decide_false]
 refine awp_seq (aw_ok _ ?_)
 simp only [go_sem,simprocAttr,decide_true,decide_false]
 refine drawC_of 11 .done rfl (by kernel_rfl) (by kernel_rfl) (by decide) ?_
 simp only [go_sem,simprocAttr,decide_true,decide_false]
 refine ⟨_,cWhole 25,?_⟩
 simp only [go_sem,simprocAttr,decide_true,decide_false]
 refine ⟨by unfold maxLen;omega,by kernel_rfl,?_⟩
 refine awp_seq (aw_ok _ ?_)
 simp only [go_sem,simprocAttr,decide_true,decide_false, ← hk,wk]
 refine awp_seq (aw_ok _ ?_)
 simp only [go_sem,simprocAttr,decide_true,decide_false, ← ha,wa,wrap64 (x:=1920*a) (by omega) (by omega),wrap64 (x:=k+1920*a) (by omega) (by omega)]
 refine lcall_give ?_
 simp only [go_sem,simprocAttr,decide_true,decide_false]
 refine ⟨_,cpure_as (.cons (as_nes a) (.cons as_refl (.cons as_refl (.cons as_refl (.cons as_refl .nil))))) s1,?_⟩
 simp only [go_sem,simprocAttr,decide_true,decide_false]
 refine awp_seq (aw_ok _ ?_)
 simp only [go_sem,simprocAttr,decide_true,decide_false]
 refine lcall_give ?_
 simp only [go_sem,simprocAttr,decide_true,decide_false]
 refine ⟨_,cpure_as (.cons (as_nes a) (.cons as_refl (.cons as_refl (.cons as_refl (.cons as_refl .nil))))) s2,?_⟩
 simp only [go_sem,simprocAttr,decide_true,decide_false]
 refine aw_ok _ ?_
 simp only [go_sem,simprocAttr,decide_true,decide_false]
 refine ⟨_,hSm,?_⟩
 simp only [go_sem,simprocAttr,decide_true,decide_false]
 refine ⟨_,cAwake27,?_⟩
 simp only [go_sem,simprocAttr,decide_true,decide_false]
end Go.Proofs.YtjmoncjecpckhaaGreat
