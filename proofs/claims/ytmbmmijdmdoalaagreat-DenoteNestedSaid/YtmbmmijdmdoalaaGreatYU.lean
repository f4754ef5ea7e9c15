/- Proved here: What the statement about nested sequences computes, for use in the proofs of the given statements; conditions stand in each theorem. -/
import Derived.Test.YtmbmmijdmdoalaaGreatYT
import Derived.Test.YtmbmmijdmdoalaaGreatYM
import Derived.Test.YtmbmmijdmdoalaaGreatYP
import Derived.Test.YtmbmmijdmdoalaaGreatYB
set_option linter.unusedSimpArgs false
set_option linter.unusedVariables false
set_option linter.unusedSectionVars false
set_option linter.unnecessarySimpa false
namespace Go.Proofs.YtmbmmijdmdoalaaGreat
open Go.RowKit
set_option maxRecDepth 4000
def nesC (at0 sp:Int):ClipR:=⟨12,1,⟨2,⟨#[116]⟩,⟨at0,1⟩,⟨sp,1⟩,false⟩,zSource,0,0,0,⟨#[]⟩,0,[]⟩
def nesP (L:List Int) (at0 sp:Int):ProjR:=addP (addP (madeP L) (tSeq ⟨#[116]⟩ [madeT L])) (tSeq ⟨#[117]⟩ [[nesC at0 sp]])
theorem nesS_ok {at0 sp:Int} (h0 : -128≤at0∧at0≤127) (hs:sp=1∨sp = -1):vSource (nesC at0 sp).a=true∧vClip (nesC at0 sp)=true:=by
 have n1:vName ⟨#[116]⟩=true:=t_name
 have r1:vRat ⟨at0,1⟩=true:=by
  have hg:Nat.gcd at0.natAbs (1:Int).natAbs=1:=Nat.gcd_one_right _
  unfold vRat
  simp only
  rw [decide_eq_true hg,decide_eq_true (show -9223372036854775808<at0 by omega)]
  rfl
 have r2:vRat ⟨sp,1⟩=true:=by rcases hs with rfl | rfl<;>exact of_decide_eq_true (by kernel_rfl)
 have w1:vWith ⟨at0,1⟩ 1099511627776=true:=decide_eq_true (show ((at0.natAbs:Nat):Int)≤1099511627776*1 by omega)
 have w2:vWith ⟨sp,1⟩ 1024=true:=decide_eq_true (show ((sp.natAbs:Nat):Int)≤1024*1 by omega)
 have hl:lcmS (nesC at0 sp).a≤65536:=by
  have:lcmS (nesC at0 sp).a=1:=Nat.lcm_self 1
  omega
 have hv:vSource (nesC at0 sp).a=true:=by
  unfold vSource
  rw [decide_eq_true hl]
  simp only [nesC,r1,r2,w1,w2,n1]
  simp
 refine ⟨hv,?_⟩
 unfold vClip baseOk kindOk
 rw [hv]
 simp [nesC,zS_ok,zS_isZ,noShare,emp,vChans]
theorem nes_fit {at0 sp:Int} (h0 : -128≤at0∧at0≤127) (hs:sp=1∨sp = -1):(nesC at0 sp).fit:=by
 have j1:I64 1:=⟨by decide,by decide⟩
 have j2:I64 2:=⟨by decide,by decide⟩
 have j12:I64 12:=⟨by decide,by decide⟩
 exact ⟨j12,j1,⟨j2,⟨⟨by show _≤at0;omega,by show at0≤_;omega⟩,j1⟩,⟨⟨by show _≤sp;omega,by show sp≤_;omega⟩,j1⟩⟩,zfit,i0,i0,i0,i0⟩
theorem nes_in1 (L:List Int):SeqIn (madeP L) ⟨#[116]⟩ [madeT L]:=t_in (by simp) fun t ht=>by
 simp only [List.mem_cons,List.not_mem_nil,or_false] at ht
 subst ht
 exact madeT_trk L
theorem nameB_u:nameB ⟨#[115]⟩ 0≠⟨#[117]⟩∧nameB ⟨#[115]⟩ 1≠⟨#[117]⟩∧(⟨#[116]⟩:ByteArray)≠⟨#[117]⟩:=by
 have e:∀ i:Int,(i=0∨i=1)→(nameB ⟨#[115]⟩ i).toList≠(⟨#[117]⟩:ByteArray).toList:=by
  rintro i (rfl | rfl)<;>exact of_decide_eq_true (by kernel_rfl)
 exact ⟨fun h=>e 0 (.inl rfl) (congrArg ByteArray.toList h),fun h=>e 1 (.inr rfl) (congrArg ByteArray.toList h),by decide⟩
theorem nes_in2 (L:List Int) {at0 sp:Int} (h0 : -128≤at0∧at0≤127) (hs:sp=1∨sp = -1):SeqIn (addP (madeP L) (tSeq ⟨#[116]⟩ [madeT L])) ⟨#[117]⟩ [[nesC at0 sp]]:=by
 obtain ⟨a1,a2⟩:=nesS_ok h0 hs
 refine ⟨by kernel_rfl,fun q hq=>?_,by simp,fun t ht=>?_⟩
 ·unfold addP at hq
  rcases List.mem_append.1 hq with hq | hq
  ·exact made_fresh L nameB_u.1 nameB_u.2.1 q hq
  ·simp only [List.mem_cons,List.not_mem_nil,or_false] at hq
   subst hq
   exact nameB_u.2.2
 ·simp only [List.mem_cons,List.not_mem_nil,or_false] at ht
  subst ht
  refine ⟨?_,fun c hc=>?_⟩
  ·unfold vTrack
   rw [decide_eq_true (show [nesC at0 sp].length≤64 by simp),decide_eq_true (show totL [nesC at0 sp]≤2147483647 by simp only [totL,nesC];omega)]
   simp [a2]
  ·simp only [List.mem_cons,List.not_mem_nil,or_false] at hc
   subst hc
   refine ⟨nes_fit h0 hs,rfl,⟨fun h=>absurd h (by decide : ¬ (2:Int)=1),fun _=>⟨2,by simp [addP,madeP],rfl⟩⟩,⟨fun h=>absurd h (by decide : ¬ (0:Int)=1),fun h=>absurd h (by decide : ¬ (0:Int)=2)⟩⟩
theorem nes_lay (L:List Int) {at0 sp:Int} (h0 : -128≤at0∧at0≤127) (hs:sp=1∨sp = -1):Layered (nesP L at0 sp):=lay_add (lay_add (made_lay L) (nes_in1 L) (by simp [madeP])) (nes_in2 L h0 hs) (by simp [addP,madeP])
theorem nesP_fit (L:List Int) {at0 sp:Int} (h0 : -128≤at0∧at0≤127) (hs:sp=1∨sp = -1):(nesP L at0 sp).fit:=fit_add (fit_add (made_fit L) (nes_in1 L)) (nes_in2 L h0 hs)
theorem nes_frame (L:List Int) {at0 sp:Int} (h0 : -128≤at0∧at0≤127) (hs:sp=1∨sp = -1) {k:Int} (k0 : 0≤k) (k1:k<12) :
  ∃ e,frameR (nesP L at0 sp) ⟨#[117]⟩ k=(e,0)∧frameR (nesP L at0 sp) ⟨#[116]⟩ (at0+sp*k)=(e,0):=by
 have hlay:=nes_lay L h0 hs
 have hv:=layered_valid hlay
 have hok:=filmOk_of (nesP_fit L h0 hs) hv
 have hsu:seqOf (nesP L at0 sp).seqs ⟨#[117]⟩=some (tSeq ⟨#[117]⟩ [[nesC at0 sp]]):=by
  unfold nesP
  generalize addP (madeP L) (tSeq ⟨#[116]⟩ [madeT L])=p
  unfold addP
  simp only
  rw [seqOf_add]
  exact if_pos rfl
 have hst:(seqOf (nesP L at0 sp).seqs ⟨#[116]⟩).isSome=true:=by
  unfold nesP
  unfold addP
  simp only
  rw [seqOf_add,if_neg (show ¬ (⟨#[116]⟩:ByteArray)=(tSeq ⟨#[117]⟩ [[nesC at0 sp]]).name from nameB_u.2.2),seqOf_add]
  rw [if_pos (show (⟨#[116]⟩:ByteArray)=(tSeq ⟨#[116]⟩ [madeT L]).name from rfl)]
  rfl
 have hnm:((nesP L at0 sp).seqs.getD 2 default).name=⟨#[116]⟩:=rfl
 have hdeep : ¬ Wk (nesP L at0 sp) 4 ⟨#[116]⟩:=fun hw=>by
  have:=layered_walk hlay 4 2 (by simp [nesP,addP,madeP]) (by rw [hnm];exact hw)
  omega
 refine ⟨filmE redX (nesP L at0 sp) 5 ⟨#[116]⟩ (at0+sp*k),?_,?_⟩
 ·unfold frameR
  rw [hv,hsu]
  show (filmE redX (nesP L at0 sp) 5 ⟨#[117]⟩ k,(0:Int))=_
  congr 1
  have ev:vidsOf (nesP L at0 sp) ⟨#[117]⟩ = [[nesC at0 sp]]:=by unfold vidsOf;rw [hsu];rfl
  have et:topT k [[nesC at0 sp]]=some (nesC at0 sp,k):=by
   have ef:findL [nesC at0 sp] 0 k=(0,k,true):=by rw [findL_cons,if_pos (show k<(nesC at0 sp).len from k1)];rfl
   unfold topT hitT
   rw [ef]
   simp [k0,nesC]
  rw [← film_deep hok 4 ⟨#[116]⟩ (at0+sp*k) hdeep]
  conv=>lhs;unfold filmE
  rw [ev]
  show showE redX _ (topT k [[nesC at0 sp]])=_
  rw [et]
  show clipE redX _ (nesC at0 sp) k=_
  unfold clipE
  rw [if_pos (show (nesC at0 sp).kind=1 from rfl)]
  unfold picE
  rw [if_neg (show ¬ (nesC at0 sp).a.kind=0 from (by decide : ¬ (2:Int)=0)),if_neg (show ¬ ((nesC at0 sp).a.smooth=true∧_) from fun h=>absurd h.1 (by decide : ¬ false=true))]
  have hb:baseS (nesC at0 sp).a=1:=Nat.lcm_self 1
  have hp:posS (nesC at0 sp).a k=at0+sp*k:=by
   unfold posS atS stepS
   rw [hb]
   unfold denP denS nesC
   simp [Int.mul_comm]
  rw [hp,hb]
  unfold leafE
  rw [if_pos (show (nesC at0 sp).a.kind=2 from rfl)]
  show filmE redX (nesP L at0 sp) 4 ⟨#[116]⟩ ((at0+sp*k) / 1)=_
  rw [Int.ediv_one]
 ·unfold frameR
  rw [hv]
  cases e:seqOf (nesP L at0 sp).seqs ⟨#[116]⟩ with
  | none=>rw [e] at hst;cases hst
  | some s=>rfl
open Go.RowKit
set_option maxRecDepth 4000
abbrev zC22:List T:=[ti 0,ti 0,ti 0,tstr ⟨#[]⟩,ti 0,ti 0,ti 0,ti 0,tbl false,ti 0,tstr ⟨#[]⟩,ti 0,ti 0,ti 0,ti 0,tbl false,ti 0,ti 0,ti 0,tstr ⟨#[]⟩,ti 0, .lit (.slice none 0 0)]
def rawNes (L:List Int) (a sp:Int):T := .list 9 zSqT ((madeP L).seqs.map SequenceR.c ++ [rawT ⟨#[116]⟩ [madeT L]] ++ [[tstr ⟨#[117]⟩,ti 25,ti 1,ti 16,ti 16, .list 1 [.lit (.slice none 0 0)] [[.list 22 zC22 [[ti 12,ti 1,ti 2,tstr ⟨#[116]⟩,ti a,ti 1,ti sp,ti 1,tbl false,ti 0,tstr ⟨#[]⟩,ti 0,ti 0,ti 0,ti 0,tbl false,ti 0,ti 0,ti 0,tstr ⟨#[]⟩,ti 0, .lit (.slice none 0 0)]]]], .lit (.slice none 0 0), .lit (.slice none 0 0),ti 0]])
theorem iR_append {a b:List T}:∀ {x y:List (List T)},ImpR x y→ImpL a b→ImpR (x ++ [a]) (y ++ [b])
 | [],[],_,h=>⟨h,trivial⟩
 | _::_,_::_,h1,h=>⟨h1.1,iR_append h1.2 h⟩
 | [],_::_,h1,_=>h1.elim
 | _::_,[],h1,_=>h1.elim
theorem rawNes_imp (L:List Int) (a sp:Int):Imp (rawNes L a sp) (tseqs (nesP L a sp).seqs):=by
 have e:(nesP L a sp).seqs.map SequenceR.c=(madeP L).seqs.map SequenceR.c ++ [SequenceR.c (tSeq ⟨#[116]⟩ [madeT L])] ++ [SequenceR.c (tSeq ⟨#[117]⟩ [[nesC a sp]])]:=by
  unfold nesP addP
  rw [List.map_append,List.map_append]
  rfl
 unfold rawNes tseqs
 rw [e]
 refine imp_list (iR_append (iR_app (by exact ⟨imp_refl,imp_refl,imp_refl,imp_refl,imp_refl,imp_refl,imp_nil,imp_nil,imp_refl,trivial⟩) _) (by exact ⟨imp_refl,imp_refl,imp_refl,imp_refl,imp_refl,imp_list (by exact ⟨⟨imp_list (by exact ⟨⟨imp_refl,imp_refl,imp_refl,imp_refl,imp_refl,imp_refl,imp_refl,imp_refl,imp_refl,imp_refl,imp_refl,imp_refl,imp_refl,imp_refl,imp_refl,imp_refl,imp_refl,imp_refl,imp_refl,imp_refl,imp_refl,imp_nil,trivial⟩,trivial⟩),trivial⟩,trivial⟩),imp_nil,imp_nil,imp_refl,trivial⟩))
set_option maxHeartbeats 4000000 in
theorem nested52 (L:List Int) (a:Int) (back:Bool) (ha : -128≤a∧a≤127):CPure Tryz.prog 10 [.t (tints L), .t (.lit (.int .i8 a)),vbool back] (vbool true):=by
 have wa:IntKind.i64.wrap a=a:=wrap64 (by omega) (by omega)
 obtain ⟨sp,hsp⟩:∃ sp:Int,sp=if back=true then -1 else 1:=⟨_,rfl⟩
 have hs:sp=1∨sp = -1:=by rw [hsp];cases back<;>simp
 have hF:=fun (k:Int) (h0 : 0≤k) (h1:k<12)=>nes_frame L ha hs h0 h1
 have hfit:=nesP_fit L ha hs
 have hC:∀ (nm:ByteArray) (n:Int),I64 n→CPure Tryz.prog 36 [.agg [.t (tmedia (madeP L).media), .t (rawNes L a sp)],vstr nm,vint n] (.tup [vexpr (frameR (nesP L a sp) nm n).1,vint (frameR (nesP L a sp) nm n).2]):=fun nm n hn =>
  cpure_as (.cons (as_impAgg (by exact ⟨as_refl,as_imp (rawNes_imp L a sp),trivial⟩)) (.cons as_refl (.cons as_refl .nil))) (cDFrame (nesP L a sp) hfit nm n hn)
 obtain ⟨RN,hRN⟩:∃ RN:T,RN=rawNes L a sp:=⟨_,rfl⟩
 rw [← hRN] at hC
 have hU:∀ k:Int,0≤k→k<12→IntKind.i64.wrap (sp*k)=sp*k∧IntKind.i64.wrap (a+sp*k)=a+sp*k∧I64 (a+sp*k):=fun k h0 h1=>by
  rcases hs with rfl | rfl
  ·exact ⟨wrap64 (by omega) (by omega),wrap64 (by omega) (by omega),by unfold I64;omega⟩
  ·exact ⟨wrap64 (by omega) (by omega),wrap64 (by omega) (by omega),by unfold I64;omega⟩
 refine cpure_of Tryz.xen10 Tryz.func10 rfl Tryz.ntmps10 (by rw [Tryz.results10]) (aw_ok _ ?_)
 simp only [go_sem,simprocAttr,decide_true,decide_false]
 refine icall_io (cMade L) [] rfl (by omega) (by decide) ?_ rfl rfl rfl rfl ?_
 ·simp only [go_sem,simprocAttr,decide_true,decide_false]
 simp only [go_sem,simprocAttr,decide_true,decide_false,List.getElem?_nil]
 refine lcall_gi Tryz.xen35 ?_
 simp only [go_sem,simprocAttr,decide_true,decide_false]
 refine icall_io (cio_args (.cons as_refl (.cons (as_imp (imp_list (by exact ⟨⟨imp_refl,trivial⟩,trivial⟩))) .nil)) (cWithIO (madeP L) [madeT L] (by simp [madeP]))) [] rfl (by omega) (by decide) ?_ rfl rfl rfl rfl ?_
 ·simp only [go_sem,simprocAttr,decide_true,decide_false]
 simp only [go_sem,simprocAttr,decide_true,decide_false,List.getElem?_nil]
 have hlen:(List.map SequenceR.c (madeP L).seqs ++ [rawT ⟨#[116]⟩ [madeT L]]).length=3:=by simp [madeP]
 refine ⟨fun hb=>?_,fun hb=>?_⟩<;>subst hb<;>simp only [if_true,if_false,Bool.false_eq_true] at hsp<;>subst hsp
 all_goals
  unfold awS
  simp only [go_sem,simprocAttr,decide_true,decide_false,wa,hlen]
  refine ⟨by decide,?_⟩
  refine awp_loop_f (fun (k:Nat) σ => { fr:=(setS 12 (vint k) (deadS [8,9,11,13,14,15,16,17,18,19,20,21,22,23,24,25,26,27,28,29,30,31,32,33,34,35,36,37,38,39,40,41,42,43,44,45,46,47,48,49,50,51,52,53,54,55,56,57,58,59,60,61,62,63,64,65,66,67,68,69,70,71,72,73,74,75,76,77] σ)).fr,h:=[(1, .box [.t (tmedia (madeP L).media), .t RN])],nx:=2 }) (fun k=>k≤12) (fun k=>12 - k) 0 (weak_of [(1,some 1)] ?_) (by omega) ?_
  ·simp only [go_sem,simprocAttr,decide_true,decide_false]
   rw [hRN]
   refine ⟨by simp,?_,by simp,by simp,by simp⟩
   unfold rawNes
   congr 2
  ·intro k hk
   refine aw_ok _ ?_
   simp only [go_sem,simprocAttr,decide_true,decide_false]
   refine ⟨fun hlt=>?_,fun hge=>?_⟩
   ·simp only [bxx] at hlt
    obtain ⟨e,e1,e2⟩:=hF k (by omega) (by omega)
    obtain ⟨u1,u2,u3⟩:=hU k (by omega) (by omega)
    have c1:=hC ⟨#[117]⟩ k ⟨by omega,by omega⟩
    have c2:=hC ⟨#[116]⟩ _ u3
    rw [e1] at c1
    rw [e2] at c2
    have c3:=cSameE e e
    rw [eqE_iff.2 rfl] at c3
    obtain ⟨op,media,frame,num,den,param,text,args⟩:=e
    have hwk:IntKind.i64.wrap ((k:Int)+1)=((k+1:Nat):Int):=by rw [wrap1 (by omega)];omega
    unfold awS
    simp only [go_sem,simprocAttr,decide_true,decide_false]
    refine ⟨_,c1,?_⟩
    simp only [go_sem,simprocAttr,decide_true,decide_false,wa,u1,u2]
    refine ⟨_,c2,?_⟩
    simp only [go_sem,simprocAttr,decide_true,decide_false]
    refine ⟨_,c3,?_⟩
    simp only [go_sem,simprocAttr,decide_true,decide_false]
    refine ⟨k+1,weak_of [(1,some 1)] ?_,by omega,by omega⟩
    simp only [go_sem,simprocAttr,decide_true,decide_false,hwk]
    simp
   ·simp only [bxx] at hge
    unfold awS
    simp only [go_sem,simprocAttr,decide_true,decide_false]
    refine ⟨_,cAwake25,?_⟩
    simp only [go_sem,simprocAttr,decide_true,decide_false]
end Go.Proofs.YtmbmmijdmdoalaaGreat
