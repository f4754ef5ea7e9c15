/- Proved here: The contract of a nested sequence's kept sample, for use in the proofs of the given statements; conditions stand in each theorem. -/
import Derived.Test.YtjmoncjecpckhaaGreatVO
import Derived.Test.YtjmoncjecpckhaaGreatVD
set_option linter.unusedSimpArgs false
set_option linter.unusedVariables false
set_option linter.unusedSectionVars false
set_option linter.unnecessarySimpa false
namespace Go.Proofs.YtjmoncjecpckhaaGreat
open Go.RowKit
set_option maxRecDepth 4000
abbrev vsqE (r:RatR) (m:Nat) (ts:List (List ClipR)) (K:MapT):V := .elem 5 [ti r.num,ti r.den,ti m, .list 3 zTrk (ts.map trkC), .map K] [[ti r.num,ti r.den,ti m, .list 3 zTrk (ts.map trkC), .map K]] 0 0
set_option maxHeartbeats 4000000 in
theorem cComputeE {R A Q K:MapT} {E:SndE} {m:Nat} {ts:List (List ClipR)} {r:RatR} {s:Int} (hr:RateS r) (hs : -68719476736≤s∧s≤68719476736) (h:CmpOk R A Q E m ts r s) :
  CPure Tryz.prog 33 [vmix R A Q,vsqE r m ts K,vint s] (.agg [vint (outV E m ts r s 0),vint (outV E m ts r s 1),vint (outV E m ts r s 2),vint (outV E m ts r s 3)]):=by
 obtain ⟨hu,hv,hn2,hd2⟩:=rateS_v hr
 have hn:=hr.n
 have hd:=hr.d
 have l8:=h.len
 have c1:=cOwner s r hr.fit hu ⟨by omega,by omega⟩
 obtain ⟨dn,hdn⟩:=nat_of (n:=48000*r.den) (by omega)
 have hsr:(s*r.num).natAbs≤68719476736*1048576:=by rw [Int.natAbs_mul];exact Nat.mul_le_mul (by omega) (by omega)
 have c2:=cOfZ (s*r.num) dn (by omega) (by omega) (by omega)
 have e2:(((s*r.num:Int)):Rat) / ((dn:Int):Rat)=timeQ r s:=by
  rw [← hdn,Rat.intCast_mul,Rat.intCast_mul]
  rfl
 rw [e2, ← hdn] at c2
 obtain ⟨te,tq⟩:=time_qb hr s
 refine cpure_of Tryz.xen33 Tryz.func33 rfl Tryz.ntmps33 (by rw [Tryz.results33]) (aw_ok _ ?_)
 simp only [go_sem,simprocAttr,nth_one]
 refine ⟨_,c1,?_⟩
 simp only [go_sem,simprocAttr,nth_one]
 refine ⟨_,cMustI _,?_⟩
 simp only [go_sem,simprocAttr,nth_one]
 refine drawC_of 19 .done rfl (by kernel_rfl) (by kernel_rfl) (by decide) ?_
 simp only [go_sem,simprocAttr,nth_one,wrap64 (x:=s*r.num) (by omega) (by omega),wrap64 (x:=48000*r.den) (by omega) (by omega)]
 refine ⟨_,c2,?_⟩
 simp only [go_sem,simprocAttr]
 refine ⟨_,cMustR _,?_⟩
 simp only [go_sem,simprocAttr]
 refine ⟨by kernel_rfl,?_⟩
 simp only [go_sem,simprocAttr,nth_one]
 refine awp_loop_f (fun (k:Nat) σ => setB 20 (sumB (parS E m (ts.take k) r s 0) (parS E m (ts.take k) r s 1) (parS E m (ts.take k) r s 2) (parS E m (ts.take k) r s 3)) (setS 48 (vint k) (deadS [11,12,13,14,15,49,50,51,52,53,54,55,56,57,58,59,60,61,62,63,64,65,66,67,68,69,70,71,72] (cleanS σ)))) (fun k=>k≤ts.length) (fun k=>ts.length - k) 0 (weak_self ?_) (Nat.zero_le _) ?_
 ·simp only [go_sem,simprocAttr]<;>simp [parS]
 ·intro k hk
  refine aw_ok _ ?_
  simp only [go_sem,simprocAttr]
  refine ⟨fun hlt=>?_,fun hge=>?_⟩
  ·simp only [bxx] at hlt
   have hkl:k<ts.length:=by omega
   have hwk:IntKind.i64.wrap ((k:Int)+1)=((k+1:Nat):Int):=by rw [wrap1 (by omega)];omega
   have hmem:=mem_getD (d:=[]) hkl
   have htk:=fun c=>par_take E m r s c hkl
   have hps:=fun c=>par_sm h c k (by omega)
   have hfc:=frm_case h hmem
   obtain ⟨h64,hvc,hsum⟩:=track_all (h.trk _ hmem)
   have hp1:∀ c∈ts.getD k [],1≤c.len:=fun c hc=>(vClip_len (hvc c hc)).1
   obtain ⟨t,ht⟩:∃ t,t=ts.getD k []:=⟨_,rfl⟩
   have htn:=trk_nth hkl
   rw [← ht] at hmem htk hfc h64 hvc hsum hp1
   simp only [← ht] at htn
   unfold awS
   simp only [go_sem,simprocAttr,htn,trkC]
   rcases hfc with ⟨hout,hz⟩ | ⟨i,x,hi,hx,n0,a,b,hk0,ha,hz⟩
   ·have hat:CPure Tryz.prog 60 [vtrk t,vint (ownF r s)] noClip:=by
     rcases hout with h1 | ⟨h0,i,x,hi,a,b,hk0⟩
     ·exact cAtOut t _ h1
     ·have hil:i<t.length:=by
       rcases Nat.lt_or_ge i t.length with h2 | h2
       ·exact h2
       ·rw [List.getElem?_eq_none h2] at hi
        cases hi
      have hx:t.getD i default=x:=by rw [List.getD_eq_getElem?_getD,hi];rfl
      have h2:=cAtIn t (ownF r s) h64 hp1 hsum hil a (by rw [hx];exact b) h0
      rw [hx,if_pos hk0] at h2
      exact h2
    refine ⟨⟨by omega,by omega⟩,_,hat,?_⟩
    simp only [go_sem,simprocAttr]
    refine ⟨⟨rfl,rfl,by decide⟩,k+1,weak_self ?_,by omega,by omega⟩
    simp only [go_sem,simprocAttr,hwk,htk,hz,Int.add_zero]
    simp
   ·have hat:=cAtIn t (ownF r s) h64 hp1 hsum hi a (by rw [hx];exact b) n0
    rw [hx,if_neg hk0] at hat
    have tb:=totL_bound (t.take i) fun c hc=>vClip_len (hvc c (List.mem_of_mem_take hc))
    have tm:=totL_mono hp1 i 0 (by omega) (by omega)
    have t0:totL (t.take 0)=0:=rfl
    have lt64:(t.take i).length≤64:=by rw [List.length_take];omega
    have cs:=cSubQ (qb_mono tq (show s.natAbs*8≤549755813888 by omega) (Nat.le_refl _)) (qb_mono (qb_int (totL (t.take i))) (show (totL (t.take i)).natAbs≤137438953472 by omega) (Nat.le_refl 1)) (by decide) (by decide) (by decide) (by decide) (by decide) (by decide) (by decide)
    rw [ofQ_int] at cs
    refine ⟨⟨by omega,by omega⟩,_,hat,?_⟩
    simp only [go_sem,simprocAttr]
    refine ⟨_,cs,?_⟩
    simp only [go_sem,simprocAttr]
    refine ⟨_,cMustR _,?_⟩
    simp only [go_sem,simprocAttr]
    have hsm:∀ c,Sm (parS E m (ts.take k) r s c):=fun c=>by
     have:=hps c
     unfold Sm
     omega
    refine icall_io (ha.2 _ _ _ _ (hsm 0) (hsm 1) (hsm 2) (hsm 3)) [20] rfl (by omega) (by decide) ?_ rfl rfl rfl rfl ?_
    ·simp only [go_sem,simprocAttr]
    simp only [go_sem,simprocAttr]
    refine ⟨k+1,weak_self ?_,by omega,by omega⟩
    simp only [go_sem,simprocAttr,hwk,htk,hz]
    simp
  ·simp only [bxx] at hge
   have ww1:IntKind.i64.wrap 1=1:=by decide
   have ww2:IntKind.i64.wrap 2=2:=by decide
   have ww3:IntKind.i64.wrap 3=3:=by decide
   have ww4:IntKind.i64.wrap 4=4:=by decide
   have w01:IntKind.i64.wrap (0+1)=1:=by decide
   have w11:IntKind.i64.wrap (1+1)=2:=by decide
   have w21:IntKind.i64.wrap (2+1)=3:=by decide
   have w31:IntKind.i64.wrap (3+1)=4:=by decide
   unfold awS
   simp only [go_sem,simprocAttr,decide_true,decide_false]
   rw [List.take_of_length_le (show ts.length≤k by omega)]
   refine awp_loopL ?_
   refine awpL_step (aw_ok _ ?_)
   simp only [go_sem,simprocAttr,decide_true,decide_false,ww1,ww2,ww3,ww4,w01,w11,w21,w31]
   refine awpL_step (aw_ok _ ?_)
   simp only [go_sem,simprocAttr,decide_true,decide_false,ww1,ww2,ww3,ww4,w01,w11,w21,w31]
   refine awpL_step (aw_ok _ ?_)
   simp only [go_sem,simprocAttr,decide_true,decide_false,ww1,ww2,ww3,ww4,w01,w11,w21,w31]
   refine awpL_step (aw_ok _ ?_)
   simp only [go_sem,simprocAttr,decide_true,decide_false,ww1,ww2,ww3,ww4,w01,w11,w21,w31]
   refine awpL_step (aw_ok _ ?_)
   simp only [go_sem,simprocAttr,decide_true,decide_false,ww1,ww2,ww3,ww4,w01,w11,w21,w31]
   simp only [out_par]
abbrev nesH (md:List MediumR) (A:List AudioR) (q r:SequenceR) (es:MapT):Heap:=[(9, .map []),(8, .row 135 3 zTrk (tRows (r.sound.map trkC))),(7, .box [vint r.rate.num,vint r.rate.den,vint r.channels, .own 8, .own 9]),(6, .box [.own 0, .own 1, .own 2]),(5, .map (tEs es)),(4, .row 135 3 zTrk (tRows (q.sound.map trkC))),(3, .box [vint q.rate.num,vint q.rate.den,vint q.channels, .own 4, .own 5]),(2, .map [(.string q.name, .own 3),(.string r.name, .own 7)]),(1, .map (tEs (auM A))),(0, .map (tEs (rtM md)))]
def valsV (E:SndE) (m:Nat) (ts:List (List ClipR)) (r:RatR) (j:Int):List T:=[ti (outV E m ts r j 0),ti (outV E m ts r j 1),ti (outV E m ts r j 2),ti (outV E m ts r j 3)]
theorem put_vals (E:SndE) (m:Nat) (ts:List (List ClipR)) (r:RatR) (j:Int) (es:MapT):putE (.int .i64 j) (.agg [vint (outV E m ts r j 0),vint (outV E m ts r j 1),vint (outV E m ts r j 2),vint (outV E m ts r j 3)]) (tEs es)=tEs (putT (.int .i64 j) (true,valsV E m ts r j) es):=putE_tEs (.int .i64 j) (true,valsV E m ts r j) es
theorem cSampleU {md:List MediumR} {A:List AudioR} {q r:SequenceR} {E:SndE} {m:Nat} {es:MapT} {j:Int} (hq:q.channels=m) (hr:RateS q.rate) (hj : -68719476736≤j∧j≤68719476736) (hc:CmpOk (rtM md) (auM A) (sqM2 q.name r.name) E m q.sound q.rate j) (hl:es.length<32768) (hn:lookT (.int .i64 j) es=none) (hk:kindsT (.int .i64) es=true) (hlend:∀ (h:Heap) (n:Nat),lendE (lendC h n) (tEs es)=some es) :
  CIO Tryz.prog 132 10 (nesH md A q r es) [.own 6, .own 3,vint j] (.agg [vint (outV E m q.sound q.rate j 0),vint (outV E m q.sound q.rate j 1),vint (outV E m q.sound q.rate j 2),vint (outV E m q.sound q.rate j 3)]) (nesH md A q r (putT (.int .i64 j) (true,valsV E m q.sound q.rate j) es)) 10:=by
 refine cio_of Tryz.xen132 Tryz.func132 rfl Tryz.ntmps132 (by rw [Tryz.results132]) (aw_ok _ ?_)
 simp only [go_sem,simprocAttr,decide_true,decide_false,hn]
 refine ⟨hk,?_⟩
 refine lcall_lend ?_
 simp only [go_sem,simprocAttr,decide_true,decide_false,hq,hlend,lend_rt,lend_au]
 refine ⟨_,cComputeE hr hj hc,rfl,?_⟩
 have dl:decide ((es.length:Int) ≥ 32768)=false:=decide_eq_false (by omega)
 simp only [go_sem,simprocAttr,decide_true,decide_false,dl,reduceCtorEq]
 refine ⟨fun h=>h.elim,aw_ok _ ?_⟩
 simp only [go_sem,simprocAttr,decide_true,decide_false]
 refine drawR_of [0,1,2,3,4,5] (.step 6 .done) rfl (by kernel_rfl) (by kernel_rfl) (by decide) ?_
 simp only [go_sem,simprocAttr,decide_true,decide_false]
 refine ⟨hk,?_⟩
 rw [put_vals]
 refine weak_self ?_
 simp only [go_sem,simprocAttr,decide_true,decide_false]
 trace_state
 simp
theorem cSampleK {md:List MediumR} {A:List AudioR} {q r:SequenceR} {es:MapT} {j a b c d:Int} (hn:lookT (.int .i64 j) es=some (.agg [vint a,vint b,vint c,vint d])) (hk:kindsT (.int .i64) es=true) :
  CIO Tryz.prog 132 10 (nesH md A q r es) [.own 6, .own 3,vint j] (.agg [vint a,vint b,vint c,vint d]) (nesH md A q r es) 10:=by
 refine cio_of Tryz.xen132 Tryz.func132 rfl Tryz.ntmps132 (by rw [Tryz.results132]) (aw_ok _ ?_)
 simp only [go_sem,simprocAttr,decide_true,decide_false,hn]
 refine ⟨hk,?_⟩
 refine weak_self ?_
 simp only [go_sem,simprocAttr,decide_true,decide_false]
 simp
open Go.RowKit
set_option maxRecDepth 4000
def kept (v:Int→List T) (L:List Int):MapT:=L.map fun j=>(.int .i64 j,true,v j)
def addJ (L:List Int) (j:Int):List Int:=if j∈L then L else L ++ [j]
theorem kept_len (v:Int→List T) (L:List Int):(kept v L).length=L.length:=by unfold kept;rw [List.length_map]
theorem addJ_len (L:List Int) (j:Int):(addJ L j).length≤L.length+1:=by
 unfold addJ
 split
 ·omega
 ·rw [List.length_append];simp
theorem look_kept (v:Int→List T) (j:Int):∀ L:List Int,lookT (.int .i64 j) (kept v L)=if j∈L then some (mkV (true,v j)) else none
 | []=>rfl
 | i::L=>by
  have ih:=look_kept v j L
  unfold kept at ih ⊢
  simp only [List.map_cons,lookT,keyB,ih,decide_eq_true_eq,List.mem_cons]
  by_cases e:j=i
  ·subst e
   simp
  ·rw [if_neg e]
   by_cases h:j∈L
   ·rw [if_pos h,if_pos (.inr h)]
   ·rw [if_neg h,if_neg (fun h2=>h2.elim e h)]
theorem put_kept (v:Int→List T) (j:Int):∀ L:List Int,j ∉ L→putT (.int .i64 j) (true,v j) (kept v L)=kept v (L ++ [j])
 | [],_=>rfl
 | i::L,h=>by
  have ih:=put_kept v j L (fun h2=>h (List.mem_cons_of_mem _ h2))
  have hne : ¬ j=i:=fun e=>h (e ▸ List.mem_cons_self)
  unfold kept at ih ⊢
  simp only [List.map_cons,putT,keyB,decide_eq_true_eq,if_neg hne,ih,List.cons_append]
theorem kinds_kept (v:Int→List T):∀ L:List Int,kindsT (.int .i64) (kept v L)=true
 | []=>rfl
 | i::L=>by
  have ih:=kinds_kept v L
  unfold kept at ih ⊢
  simp only [List.map_cons,kindsT,kindB,ih,decide_true,Bool.and_self]
theorem lend_kept (v:Int→List T) (L:List Int) (h:Heap) (n:Nat):lendE (lendC h n) (tEs (kept v L))=some (kept v L):=by
 refine lendE_t _ (lendC_t h n) _ ?_
 unfold entsOk kept
 rw [List.all_map]
 exact List.all_eq_true.2 fun x _=>rfl
theorem cSampleN {md:List MediumR} {A:List AudioR} {q r:SequenceR} {E:SndE} {m:Nat} {L:List Int} {j:Int} (hq:q.channels=m) (hr:RateS q.rate) (hj : -68719476736≤j∧j≤68719476736) (hc:CmpOk (rtM md) (auM A) (sqM2 q.name r.name) E m q.sound q.rate j) (hl:L.length<32768) :
  CIO Tryz.prog 132 10 (nesH md A q r (kept (valsV E m q.sound q.rate) L)) [.own 6, .own 3,vint j] (.agg [vint (outV E m q.sound q.rate j 0),vint (outV E m q.sound q.rate j 1),vint (outV E m q.sound q.rate j 2),vint (outV E m q.sound q.rate j 3)]) (nesH md A q r (kept (valsV E m q.sound q.rate) (addJ L j))) 10:=by
 have hk:=look_kept (valsV E m q.sound q.rate) j L
 unfold addJ
 by_cases h:j∈L
 ·rw [if_pos h] at hk ⊢
  exact cSampleK hk (kinds_kept _ _)
 ·rw [if_neg h] at hk ⊢
  rw [← put_kept _ _ _ h]
  exact cSampleU hq hr hj hc (by rw [kept_len];exact hl) hk (kinds_kept _ _) (lend_kept _ _)
theorem nes_same (md:List MediumR) (A:List AudioR) (q r:SequenceR) (es es':MapT):sameBut 5 (nesH md A q r es) (nesH md A q r es') 10:=fun j hj hne=>by
 have:j=0∨j=1∨j=2∨j=3∨j=4∨j=6∨j=7∨j=8∨j=9:=by omega
 rcases this with rfl | rfl | rfl | rfl | rfl | rfl | rfl | rfl | rfl<;>rfl
theorem ment_tEs (es:List Ent):mentE (tEs es) = []:=(ren_tEs id es).2
theorem cNumN {md:List MediumR} {A:List AudioR} {q r:SequenceR} {E:SndE} {m:Nat} {L:List Int} {j:Int} {s:SourceR} (hk:s.kind=2) (hsn:s.name=q.name) (hq:q.channels=m) (hr:RateS q.rate) (hj : -68719476736≤j∧j≤68719476736) (hc:CmpOk (rtM md) (auM A) (sqM2 q.name r.name) E m q.sound q.rate j) (hl:L.length<32768) :
  CIO Tryz.prog 123 10 (nesH md A q r (kept (valsV E m q.sound q.rate) L)) [.own 6,vsource s,vint j] (vtone m (outV E m q.sound q.rate j 0) (outV E m q.sound q.rate j 1) (outV E m q.sound q.rate j 2) (outV E m q.sound q.rate j 3)) (nesH md A q r (kept (valsV E m q.sound q.rate) (addJ L j))) 10:=by
 have hk2:(s.kind==2)=true:=by rw [hk];rfl
 refine cio_of Tryz.xen123 Tryz.func123 rfl Tryz.ntmps123 (by rw [Tryz.results123]) (aw_ok _ ?_)
 simp only [go_sem,simprocAttr,decide_true,decide_false,hk2]
 refine drawC_of 8 .done rfl (by kernel_rfl) (by kernel_rfl) (by decide) ?_
 simp only [go_sem,simprocAttr,decide_true,decide_false,hsn]
 refine ⟨by kernel_rfl,?_⟩
 refine aw_ok _ ?_
 simp only [go_sem,simprocAttr,decide_true,decide_false]
 refine drawU_of [] [] [7] 10 .done rfl (by kernel_rfl) (by kernel_rfl) (by decide) ?_
 simp only [go_sem,simprocAttr,decide_true,decide_false]
 refine fupd (cSampleN hq hr hj hc hl) [0,1,2,3,4,5,6,7,8,9] 5 rfl (by decide) rfl rfl rfl (by decide) (nes_same md A q r _ _) rfl ?_ ?_
 ·simp only [go_sem,simprocAttr,decide_true,decide_false,(ren_tEs _ _).1]
  simp [ment_tEs]
 simp only [go_sem,simprocAttr,decide_true,decide_false,List.getElem?_nil,(ren_tEs _ _).1]
 refine ⟨by kernel_rfl,?_⟩
 refine weak_self ?_
 simp only [go_sem,simprocAttr,decide_true,decide_false,hq]
 simp
open Go.RowKit
set_option maxRecDepth 4000
theorem cRateN {md:List MediumR} {A:List AudioR} {q r:SequenceR} {es:MapT} {s:SourceR} (hk:s.kind=2) (hsn:s.name=q.name) :
  CIO Tryz.prog 120 10 (nesH md A q r es) [.own 6,vsource s] (vrat q.rate) (nesH md A q r es) 10:=by
 have hk1:(s.kind==1)=false:=by rw [hk];rfl
 refine cio_of Tryz.xen120 Tryz.func120 rfl Tryz.ntmps120 (by rw [Tryz.results120]) (aw_ok _ ?_)
 simp only [go_sem,simprocAttr,decide_true,decide_false,hk1]
 refine drawC_of 11 .done rfl (by kernel_rfl) (by kernel_rfl) (by decide) ?_
 simp only [go_sem,simprocAttr,decide_true,decide_false,hsn]
 refine ⟨by kernel_rfl,?_⟩
 refine weak_self ?_
 simp only [go_sem,simprocAttr,decide_true,decide_false]
 simp
open Go.RowKit
set_option maxRecDepth 4000
theorem cBetN {md:List MediumR} {A:List AudioR} {q r:SequenceR} {es:MapT} (d n a b c e n2 a2 b2 c2 e2:Int) :
  CIO Tryz.prog 122 10 (nesH md A q r es) [.own 6,vtone n a b c e,vtone n2 a2 b2 c2 e2,vint 0,vint d] (vtone n a b c e) (nesH md A q r es) 10:=by
 refine cio_of Tryz.xen122 Tryz.func122 rfl Tryz.ntmps122 (by rw [Tryz.results122]) (aw_ok _ ?_)
 simp only [go_sem,simprocAttr,decide_true,decide_false]
 refine weak_self ?_
 simp only [go_sem,simprocAttr,decide_true,decide_false]
 simp
structure SrcN (q:SequenceR) (s:SourceR) (k:Rat) (Y:Int):Prop where
 kind:s.kind=2
 name:s.name=q.name
 rate:RateS q.rate
 kb:QB k 134217728 16384
 vp:vRat s.pos=true
 vs:vRat s.speed=true
 pb:QB (toQ s.pos) 256 256
 sb:QB (toQ s.speed) 4096 2048
 y:posQ s k*(48000 / toQ q.rate)=(Y:Rat)
 yb : -1000000≤Y∧Y≤1000000
set_option maxHeartbeats 4000000 in
theorem cSourceN {md:List MediumR} {A:List AudioR} {q r:SequenceR} {E:SndE} {m:Nat} {L:List Int} {s:SourceR} {k:Rat} {Y:Int} (h:SrcN q s k Y) (hq:q.channels=m) (hc:∀ j,CmpOk (rtM md) (auM A) (sqM2 q.name r.name) E m q.sound q.rate j) (hl:L.length<30000) :
  CIO Tryz.prog 97 10 (nesH md A q r (kept (valsV E m q.sound q.rate) L)) [.own 6,vsource s,vrat (ofQ k)] (vtone m (outV E m q.sound q.rate Y 0) (outV E m q.sound q.rate Y 1) (outV E m q.sound q.rate Y 2) (outV E m q.sound q.rate Y 3)) (nesH md A q r (kept (valsV E m q.sound q.rate) (addJ (addJ L Y) (Y+1)))) 10:=by
 obtain ⟨hu,hv,hn2,hd2⟩:=rateS_v h.rate
 have hn:=h.rate.n
 have hd:=h.rate.d
 have yb:=h.yb
 have hl2:=addJ_len L Y
 have m1:=qb_mul h.kb h.sb
 have m2:=qb_add h.pb m1
 have w1:QB (k*toQ s.speed) 549755813888 33554432:=qb_mono m1 (by decide) (by decide)
 have w2:QB (posQ s k) 149533581377536 8589934592:=qb_mono m2 (by decide) (by decide)
 have c1:=cMulQ h.kb h.sb (by decide) (by decide) (by decide) (by decide) (by decide) (by decide)
 rw [ofQ_toQ h.vs] at c1
 have c2:=cAddQ h.pb w1 (by decide) (by decide) (by decide) (by decide) (by decide) (by decide) (by decide)
 rw [ofQ_toQ h.vp] at c2
 have e2:toQ s.pos+k*toQ s.speed=posQ s k:=rfl
 rw [e2] at c2
 obtain ⟨dn,hdn⟩:=nat_of (n:=q.rate.num) (by omega)
 have c3:=cOfZ (48000*q.rate.den) dn (by omega) (by omega) (by omega)
 have e3:(((48000*q.rate.den:Int)):Rat) / ((dn:Int):Rat)=48000 / toQ q.rate:=by
  rw [toQ_div hv, ← hdn,Rat.intCast_mul]
  have h1:=rat_ne (show q.rate.num≠0 by omega)
  have h2:=rat_ne (show q.rate.den≠0 by omega)
  have h3:((48000:Int):Rat)=48000:=rfl
  grind
 rw [e3, ← hdn] at c3
 have c4:=cMulQ w2 h.rate.b1 (by decide) (by decide) (by decide) (by decide) (by decide) (by decide)
 rw [h.y] at c4
 obtain ⟨fy,vy⟩:=qb_fit (qb_int Y) (by omega) (by decide)
 have c5:=cFloor (ofQ (Y:Rat)) fy vy
 rw [toQ_ofQ,Rat.floor_intCast] at c5
 have ca:=cAudible q.rate h.rate.fit ⟨by omega,by omega⟩
 rw [h.rate.aud] at ca
 have hk0:(s.kind==0)=false:=by rw [h.kind];rfl
 have j2:decide (Y < -1099511627776)=false:=decide_eq_false (by omega)
 have j3:decide (Y ≥ 1099511627776)=false:=decide_eq_false (by omega)
 have oi:ofQ (Y:Rat)=⟨Y,1⟩:=ofQ_int Y
 unfold vqe at c4
 rw [oi] at c4 c5
 refine cio_of Tryz.xen97 Tryz.func97 rfl Tryz.ntmps97 (by rw [Tryz.results97]) (aw_ok _ ?_)
 simp only [go_sem,simprocAttr,decide_true,decide_false,hk0]
 refine lcall_io (by kernel_rfl) ?_
 refine icall_io (cRateN (md:=md) (A:=A) (r:=r) (es:=kept (valsV E m q.sound q.rate) L) h.kind h.name) [0,1,2,3,4,5,6,7,8,9] rfl (by omega) (by decide) ?_ rfl rfl rfl rfl ?_
 ·simp only [go_sem,simprocAttr,decide_true,decide_false,(ren_tEs _ _).1]
  simp [ment_tEs]
 simp only [go_sem,simprocAttr,decide_true,decide_false,List.getElem?_nil,(ren_tEs _ _).1]
 refine ⟨_,ca,?_⟩
 simp only [go_sem,simprocAttr,decide_true,decide_false]
 refine drawC_of 15 .done rfl (by kernel_rfl) (by kernel_rfl) (by decide) ?_
 simp only [go_sem,simprocAttr,decide_true,decide_false]
 refine ⟨_,c1,?_⟩
 simp only [go_sem,simprocAttr,decide_true,decide_false]
 refine ⟨_,cMustR _,?_⟩
 simp only [go_sem,simprocAttr,decide_true,decide_false]
 refine ⟨_,c2,?_⟩
 simp only [go_sem,simprocAttr,decide_true,decide_false]
 refine ⟨_,cMustR _,?_⟩
 simp only [go_sem,simprocAttr,decide_true,decide_false]
 refine ⟨by kernel_rfl,?_⟩
 simp only [go_sem,simprocAttr,decide_true,decide_false,wrap64 (x:=48000*q.rate.den) (by omega) (by omega)]
 refine ⟨_,c3,?_⟩
 simp only [go_sem,simprocAttr,decide_true,decide_false]
 refine ⟨_,cMustR _,?_⟩
 simp only [go_sem,simprocAttr,decide_true,decide_false]
 refine ⟨_,c4,?_⟩
 simp only [go_sem,simprocAttr,decide_true,decide_false]
 refine ⟨_,cMustR ⟨Y,1⟩,?_⟩
 simp only [go_sem,simprocAttr,decide_true,decide_false]
 refine ⟨_,c5,?_⟩
 simp only [go_sem,simprocAttr,decide_true,decide_false,j2,j3]
 refine drawU_of [] [] [4,9,19] 21 .done rfl (by kernel_rfl) (by kernel_rfl) (by decide) ?_
 simp only [go_sem,simprocAttr,decide_true,decide_false]
 refine fupd (cNumN (md:=md) (A:=A) (r:=r) (L:=L) (j:=Y) h.kind h.name hq h.rate ⟨by omega,by omega⟩ (hc Y) (by omega)) [0,1,2,3,4,5,6,7,8,9] 5 rfl (by decide) rfl rfl rfl (by decide) (nes_same md A q r _ _) rfl ?_ ?_
 ·simp only [go_sem,simprocAttr,decide_true,decide_false,(ren_tEs _ _).1]
  simp [ment_tEs]
 simp only [go_sem,simprocAttr,decide_true,decide_false,List.getElem?_nil,(ren_tEs _ _).1,wrap64 (x:=Y+1) (by omega) (by omega)]
 refine fupd (cNumN (md:=md) (A:=A) (r:=r) (L:=addJ L Y) (j:=Y+1) h.kind h.name hq h.rate ⟨by omega,by omega⟩ (hc (Y+1)) (by omega)) [0,1,2,3,4,5,6,7,8,9] 5 rfl (by decide) rfl rfl rfl (by decide) (nes_same md A q r _ _) rfl ?_ ?_
 ·simp only [go_sem,simprocAttr,decide_true,decide_false,(ren_tEs _ _).1]
  simp [ment_tEs]
 simp only [go_sem,simprocAttr,decide_true,decide_false,List.getElem?_nil,(ren_tEs _ _).1,Int.mul_one,Int.sub_self,wrap64 (x:=Y) (by omega) (by omega)]
 refine fupd (cBetN (md:=md) (A:=A) (q:=q) (r:=r) (es:=kept (valsV E m q.sound q.rate) (addJ (addJ L Y) (Y+1))) 1 m (outV E m q.sound q.rate Y 0) (outV E m q.sound q.rate Y 1) (outV E m q.sound q.rate Y 2) (outV E m q.sound q.rate Y 3) m (outV E m q.sound q.rate (Y+1) 0) (outV E m q.sound q.rate (Y+1) 1) (outV E m q.sound q.rate (Y+1) 2) (outV E m q.sound q.rate (Y+1) 3)) [0,1,2,3,4,5,6,7,8,9] 5 rfl (by decide) rfl rfl rfl (by decide) (nes_same md A q r _ _) rfl ?_ ?_
 ·simp only [go_sem,simprocAttr,decide_true,decide_false,(ren_tEs _ _).1]
  simp [ment_tEs]
 simp only [go_sem,simprocAttr,decide_true,decide_false,List.getElem?_nil,(ren_tEs _ _).1]
 trace_state
 refine ⟨by kernel_rfl,?_⟩
 refine weak_self ?_
 simp only [go_sem,simprocAttr,decide_true,decide_false]
 simp
end Go.Proofs.YtjmoncjecpckhaaGreat
