/- Proved here: The sounds that the statements make of a tape, for use in the proofs of the given statements; conditions stand in each theorem. -/
import Derived.Test.YtkjdkbmfaamhaaaGreatVE
import Derived.Test.YtkjdkbmfaamhaaaGreatZO
import Derived.Test.YtkjdkbmfaamhaaaGreatVF
import Derived.Test.YtkjdkbmfaamhaaaGreatZU
set_option linter.unusedSimpArgs false
set_option linter.unusedVariables false
set_option linter.unusedSectionVars false
set_option linter.unnecessarySimpa false
namespace Go.Proofs.YtkjdkbmfaamhaaaGreat
open Go.RowKit
set_option maxRecDepth 4000
def fillP (f:Nat→Int) (n i:Nat):List Int:=(List.range n).map fun j=>if j<i then f j else 0
theorem fillP_len (f:Nat→Int) (n i:Nat):(fillP f n i).length=n:=by unfold fillP;simp
theorem fillP_zero (f:Nat→Int) (n:Nat):(fillP f n 0).map c16=List.replicate n (c16 0):=by
 unfold fillP
 rw [List.map_map]
 refine List.ext_getElem (by simp) fun i h1 h2=>?_
 simp
theorem fillP_set (f:Nat→Int) {n i:Nat} (h:i<n):((fillP f n i).map c16).set i (c16 (f i))=(fillP f n (i+1)).map c16:=by
 unfold fillP
 refine List.ext_getElem (by simp) fun j h1 h2=>?_
 rw [List.getElem_set]
 by_cases hj:i=j
 ·subst hj
  simp
 ·rw [if_neg hj]
  simp only [List.getElem_map,List.getElem_range]
  congr 1
  by_cases h3:j<i
  ·rw [if_pos h3,if_pos (by omega)]
  ·rw [if_neg h3,if_neg (by omega)]
theorem fillP_full (f:Nat→Int) (n:Nat):fillP f n n=(List.range n).map f:=by
 unfold fillP
 refine List.map_congr_left fun j hj=>?_
 rw [if_pos (List.mem_range.1 hj)]
def sndP (L:List Int) (k:Nat) (i:Nat):Int:=(tapeN L k 9000+i*(1+tapeN L (k+1) 700)).tmod 20000
def sndQ (L:List Int) (k:Nat) (i:Nat):Int:=(-(tapeN L k 9000*3+((i*i:Nat):Int).tmod 977*(1+tapeN L (k+1) 700))).tmod 20000
def sndL (f:Nat→Int) (n:Nat):List Int:=(List.range n).map f
theorem wrap16 {x:Int} (h1 : -32768≤x) (h2:x≤32767):IntKind.i16.wrap x=x:=by
 have e1:(2:Int) ^ IntKind.i16.bits=65536:=by decide
 have e2:(2:Int) ^ (IntKind.i16.bits - 1)=32768:=by decide
 unfold IntKind.wrap
 simp only [IntKind.signed,if_true,e1,e2,Bool.true_and,decide_eq_true_eq]
 split<;>omega
theorem mul_abs2 {i t:Int} {M N:Nat} (hi:i.natAbs≤M) (ht:t.natAbs≤N):(i*t).natAbs≤M*N:=by
 rw [Int.natAbs_mul]
 exact Nat.mul_le_mul hi ht
theorem sndP_val (L:List Int) (k k1:Nat) (hk:k1=k+1) (i:Nat) (hi:i<10000) : [T.lit (.int .i16 (IntKind.i16.wrap ((IntKind.i64.wrap (tapeN L k 9000+IntKind.i64.wrap ((i:Int)*(1+tapeN L k1 700)))).tmod 20000)))]=c16 (sndP L k i):=by
 subst hk
 have p0:=tapeN_lt (L:=L) (k:=k) (n:=9000) (by omega)
 have q0:=tapeN_lt (L:=L) (k:=k+1) (n:=700) (by omega)
 have hb:=mul_abs2 (i:=i) (t:=1+tapeN L (k+1) 700) (M:=10000) (N:=700) (by omega) (by omega)
 have hm:=tmod_abs (tapeN L k 9000+(i:Int)*(1+tapeN L (k+1) 700)) (n:=20000) (by decide)
 rw [wrap64 (x:=(i:Int)*(1+tapeN L (k+1) 700)) (by omega) (by omega),wrap64 (x:=tapeN L k 9000+(i:Int)*(1+tapeN L (k+1) 700)) (by omega) (by omega),wrap16 (by omega) (by omega)]
 rfl
theorem sndQ_val (L:List Int) (k k1:Nat) (hk:k1=k+1) (i:Nat) (hi:i<10000) : [T.lit (.int .i16 (IntKind.i16.wrap ((IntKind.i64.wrap (0 - IntKind.i64.wrap (IntKind.i64.wrap (tapeN L k 9000*3)+IntKind.i64.wrap ((IntKind.i64.wrap ((i:Int)*(i:Int))).tmod 977*(1+tapeN L k1 700))))).tmod 20000)))]=c16 (sndQ L k i):=by
 subst hk
 have p0:=tapeN_lt (L:=L) (k:=k) (n:=9000) (by omega)
 have q0:=tapeN_lt (L:=L) (k:=k+1) (n:=700) (by omega)
 have hb:=mul_abs2 (i:=i) (t:=i) (M:=10000) (N:=10000) (by omega) (by omega)
 have h9:=tmod_abs ((i:Int)*(i:Int)) (n:=977) (by decide)
 have hc:=mul_abs2 (i:=((i:Int)*(i:Int)).tmod 977) (t:=1+tapeN L (k+1) 700) (M:=977) (N:=700) (by omega) (by omega)
 have hm:=tmod_abs (-(tapeN L k 9000*3+((i:Int)*(i:Int)).tmod 977*(1+tapeN L (k+1) 700))) (n:=20000) (by decide)
 rw [wrap64 (x:=(i:Int)*(i:Int)) (by omega) (by omega),wrap64 (x:=((i:Int)*(i:Int)).tmod 977*(1+tapeN L (k+1) 700)) (by omega) (by omega),wrap64 (x:=tapeN L k 9000*3) (by omega) (by omega),
  wrap64 (x:=tapeN L k 9000*3+((i:Int)*(i:Int)).tmod 977*(1+tapeN L (k+1) 700)) (by omega) (by omega),Int.zero_sub,wrap64 (x := -(tapeN L k 9000*3+((i:Int)*(i:Int)).tmod 977*(1+tapeN L (k+1) 700))) (by omega) (by omega),wrap16 (by omega) (by omega)]
 rfl
def soundsA (L:List Int) (n:Nat):List AudioR:=[⟨⟨#[97]⟩,[sndL (sndP L 0) n,sndL (sndQ L 0) n]⟩,⟨⟨#[98]⟩,[sndL (sndP L 2) n,sndL (sndQ L 2) n]⟩]
open Go.RowKit
set_option maxRecDepth 4000
def sqM (n:ByteArray):MapT:=[(.string n,false,[.opq])]
structure SoundOk (md:List MediumR) (q:SequenceR) (A:List AudioR) (E:SndE) (m:Nat) (from0:Int) (n:Nat):Prop where
 fit:(⟨md,[q]⟩:ProjR).fit
 val:validP ⟨md,[q]⟩=0
 hm:md.length≤16
 h8:q.sound.length≤8
 ht:∀ t∈q.sound,vTrack t=true
 ha:A.length≤100
 hn:(A.map AudioR.name).Nodup
 hp:∀ a∈A,a.chs.length≤4 ∧ ∀ p∈a.chs,p.length=(a.chs.getD 0 []).length∧p.length≤1048576
 hch:q.channels=m
 hr:RateS q.rate
 n1:n≤1000
 f0 : -68719476736≤from0
 f1:from0+n≤68719476736
 hc:∀ i:Nat,i<n→CmpOk (rtM md) (auM A) (sqM q.name) E m q.sound q.rate (from0+i)
theorem set_own1 (i:Nat):(tRows [[T.lit (.slice none 0 0)]]).set 0 (V.own i::List.drop 1 (List.map V.t (nth [T.lit (.slice none 0 0)] [[T.lit (.slice none 0 0)]] 0))) = [[V.own i]]:=rfl
theorem tRows_set1 (xs:List (List T)) (n:Nat) (t:T):(tRows xs).set n [V.t t]=tRows (xs.set n [t]):=by
 unfold tRows
 rw [List.map_set]
 rfl
theorem nthV_0 (d:List T) (x:List V) (l:List (List V)):nthV d (x::l) 0=x:=rfl
theorem nthV_1 (d:List T) (x y:List V) (l:List (List V)):nthV d (x::y::l) 1=y:=rfl
theorem out_range (E:SndE) (m:Nat) (ts:List (List ClipR)) (r:RatR) (s:Int) (i:Nat) : -32768≤outV E m ts r s i∧outV E m ts r s i≤32767:=by
 unfold outV smpV clampV
 split<;>omega
theorem cSound1 {md:List MediumR} {q:SequenceR} {A:List AudioR} {E:SndE} {from0:Int} {n:Nat} (h:SoundOk md q A E 1 from0 n) :
  CPure Tryz.prog 10 [vproj ⟨md,[q]⟩,vstr q.name,vint from0,vint n, .t (taudios A)] (.tup [.t (tchs [sndL (fun i=>outV E 1 q.sound q.rate (from0+i) 0) n]),vint 0]):=by
 have cv:=cValid ⟨md,[q]⟩ h.fit
 rw [h.val] at cv
 have cm:=cNewMixer md q h.hm A h.ha h.hn h.h8 h.ht
 have cp:=cProper A (by have:=h.ha;omega) h.hp
 obtain ⟨hu,hv,hn2,hd2⟩:=rateS_v h.hr
 have hd:=h.hr.d
 have ca:=cAudible q.rate h.hr.fit ⟨by omega,by omega⟩
 rw [h.hr.aud] at ca
 have n1:=h.n1
 have f0:=h.f0
 have f1:=h.f1
 have nb:∀ s, -68719476736≤s∧s≤68719476736→numberedS s=true:=fun s hs=>by
  unfold numberedS
  rw [decide_eq_true (by omega),decide_eq_true (by omega)]
  rfl
 have c1:=cNumbered from0
 rw [nb _ ⟨by omega,by omega⟩] at c1
 have c2:=cNumbered (from0+n)
 rw [nb _ ⟨by omega,by omega⟩] at c2
 have hch:=h.hch
 have d0:decide ((n:Int)<0)=false:=decide_eq_false (by omega)
 have d1:decide ((n:Int) > 1048576)=false:=decide_eq_false (by omega)
 refine cpure_of Tryz.xen10 Tryz.func10 rfl Tryz.ntmps10 (by rw [Tryz.results10]) (aw_ok _ ?_)
 simp only [go_sem,simprocAttr,decide_true,decide_false]
 refine ⟨_,cv,?_⟩
 simp only [go_sem,simprocAttr,decide_true,decide_false]
 refine icall_io cm [] rfl (by omega) (by decide) ?_ rfl rfl rfl rfl ?_
 ·simp only [go_sem,simprocAttr,decide_true,decide_false]
 simp only [go_sem,simprocAttr,decide_true,decide_false,hch,List.getElem?_nil,d0,(ren_tEs _ _).1]
 refine ⟨_,cp,?_⟩
 simp only [go_sem,simprocAttr,decide_true,decide_false,d1,d0]
 refine ⟨_,c1,?_⟩
 simp only [go_sem,simprocAttr,decide_true,decide_false,wrap64 (x:=from0+n) (by omega) (by omega)]
 refine ⟨_,c2,?_⟩
 simp only [go_sem,simprocAttr,decide_true,decide_false]
 refine ⟨_,ca,?_⟩
 simp only [go_sem,simprocAttr,decide_true,decide_false]
 refine ⟨by decide,?_⟩
 have ww1:IntKind.i64.wrap 1=1:=by decide
 have w01:IntKind.i64.wrap (0+1)=1:=by decide
 refine awp_loopL ?_
 refine awpL_step (aw_ok _ ?_)
 simp only [go_sem,simprocAttr,decide_true,decide_false,ww1,w01]
 refine ⟨⟨by omega,by unfold maxLen;omega,by omega⟩,?_⟩
 refine awpL_step (aw_ok _ ?_)
 simp only [go_sem,simprocAttr,decide_true,decide_false,ww1,w01,set_own1]
 have hrg:∀ i:Nat, -32768≤(fun i:Nat=>outV E 1 q.sound q.rate (from0+i) 0) i∧(fun i:Nat=>outV E 1 q.sound q.rate (from0+i) 0) i≤32767:=fun i=>out_range _ _ _ _ _ _
 obtain ⟨f,hf⟩:∃ f:Nat→Int,f=fun i:Nat=>outV E 1 q.sound q.rate (from0+i) 0:=⟨_,rfl⟩
 rw [← hf] at hrg ⊢
 refine awp_loop_f (fun (i:Nat) σ => setB 11 (.row 76 1 (c16 0) (tRows ((fillP f n i).map c16))) (setS 85 (vint i) (deadS [18,19,20,86,87,88,89,90,91,92,93,94,95,96,97,98,99,100,101,102,103,104,105,106,107,108,109,110] (cleanS σ)))) (fun i=>i≤n) (fun i=>n - i) 0 (weak_self ?_) (Nat.zero_le _) ?_
 ·simp only [go_sem,simprocAttr]
  refine ⟨by simp,(fillP_zero f n).symm,?_⟩
  simp
 ·intro i hi
  refine aw_ok _ ?_
  simp only [go_sem,simprocAttr]
  refine ⟨fun hlt=>?_,fun hge=>?_⟩
  ·simp only [bxx] at hlt
   have hil:i<n:=by omega
   have hwi:IntKind.i64.wrap ((i:Int)+1)=((i+1:Nat):Int):=by rw [wrap1 (by omega)];omega
   have hcmp:=cCompute h.hr (s:=from0+i) ⟨by omega,by omega⟩ (h.hc i hil)
   have hfi:outV E 1 q.sound q.rate (from0+(i:Int)) 0=f i:=by rw [hf]
   rw [hfi] at hcmp
   unfold awS
   simp only [go_sem,simprocAttr,decide_true,decide_false,wrap64 (x:=from0+(i:Int)) (by omega) (by omega)]
   refine lcall_lend ?_
   simp only [go_sem,simprocAttr,decide_true,decide_false]
   refine ⟨_,hcmp,rfl,?_⟩
   simp only [go_sem,simprocAttr,decide_true,decide_false]
   refine awp_loopL ?_
   refine awpL_step (aw_ok _ ?_)
   simp only [go_sem,simprocAttr,decide_true,decide_false,ww1,w01]
   refine drawC_of 11 .done rfl (by kernel_rfl) (by kernel_rfl) (by decide) ?_
   simp only [go_sem,simprocAttr,decide_true,decide_false,nthV_0,ww1,w01,wrap16 (hrg i).1 (hrg i).2]
   refine ⟨⟨by omega,by rw [fillP_len];omega⟩,by rw [fillP_len];omega,by kernel_rfl,?_⟩
   refine awpL_step (aw_ok _ ?_)
   simp only [go_sem,simprocAttr,decide_true,decide_false,ww1,w01,tRows_set1]
   refine ⟨i+1,weak_self ?_,by omega,by omega⟩
   simp only [go_sem,simprocAttr,decide_true,decide_false,hwi]
   refine ⟨by simp,fillP_set f hil,?_⟩
   simp
  ·simp only [bxx] at hge
   have:n=i:=by omega
   subst this
   unfold awS
   simp only [go_sem,simprocAttr,decide_true,decide_false]
   refine ⟨nopSound,?_⟩
   rw [fillP_full]
   rfl
end Go.Proofs.YtkjdkbmfaamhaaaGreat
