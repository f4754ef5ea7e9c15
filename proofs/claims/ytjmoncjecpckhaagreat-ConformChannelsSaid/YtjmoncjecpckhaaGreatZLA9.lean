/- Proved here: What the statement about channels computes, for use in the proofs of the given statements; conditions stand in each theorem. -/
import Derived.Test.YtjmoncjecpckhaaGreatVK
set_option linter.unusedSimpArgs false
set_option linter.unusedVariables false
set_option linter.unusedSectionVars false
set_option linter.unnecessarySimpa false
namespace Go.Proofs.YtjmoncjecpckhaaGreat
open Go.RowKit
set_option maxRecDepth 4000
theorem as_projQ (r:RatR) (c:ClipR) {d1 d2:List T}:∀ (w:World) (E:Env) v,RdV w E (.agg [.t (rawMs r), .t (.list 9 zSeqT [[tstr nmS,ti r.num,ti r.den,ti 16,ti 16, .lit (.slice none 0 0), .list 1 d1 [[.list 22 d2 [ClipR.c c]]], .lit (.slice none 0 0),ti 2]])]) v→RdV w E (vproj (prjG r r r 2 [[c]])) v :=
 as_impAgg (by exact ⟨as_imp (imp_list ⟨iL_app2 _ imp_nil,iL_app2 _ imp_nil,trivial⟩),as_imp (imp_list (by exact ⟨⟨imp_refl,imp_refl,imp_refl,imp_refl,imp_refl,imp_nil,imp_list (by exact ⟨⟨imp_list (impR_refl _),trivial⟩,trivial⟩),imp_nil,imp_refl,trivial⟩,trivial⟩)),trivial⟩)
theorem cutL_fit {nm:ByteArray} {at0 sp:RatR} {len gain x y:Int} (ha:at0.fit) (hs:sp.fit) (hl : -1000000≤len∧len≤1000000) (hg : -1000000≤gain∧gain≤1000000):(cutL nm at0 sp len gain [x,y]).fit:=by
 have i0:I64 0:=⟨by decide,by decide⟩
 have r0:(⟨0,0⟩:RatR).fit:=⟨i0,i0⟩
 have i1:I64 1:=⟨by decide,by decide⟩
 exact ⟨i64s hl,i1,⟨i1,ha,hs⟩,⟨i0,r0,r0⟩,i0,i0,i0,i64s hg⟩
theorem want_len (z:Int) {p q:List Int} {k:Nat} (hp:p.length=6000) (hq:q.length=6000) (hk:k<5000):(wantL z p q k 20).length=20:=by
 unfold wantL
 split
 ·rw [List.length_take,List.length_drop];omega
 ·split
  ·rw [List.length_take,List.length_drop];omega
  ·rw [List.length_replicate]
set_option maxHeartbeats 4000000 in
theorem chan8 (L:List Int) (f a b:Int) (hf : 0≤f∧f≤65535) (ha : 0≤a∧a≤255) (hb : 0≤b∧b≤255):CPure Tryz.prog 8 [.t (tints L), .t (.lit (.int .u16 f)), .t (.lit (.int .u8 a)), .t (.lit (.int .u8 b))] (vbool true):=by
 have hS:=cSounds L 6000 (by decide)
 have hA:=sounds_two L 6000 (by decide)
 have k0:=tmod_abs f (n:=5000) (by decide)
 have k1:=Int.tmod_nonneg 5000 hf.1
 obtain ⟨k,hk⟩:=nat_of k1
 have a0:=tmod_abs a (n:=5) (by decide)
 have a1:=Int.tmod_nonneg 5 ha.1
 have b0:=tmod_abs b (n:=5) (by decide)
 have b1:=Int.tmod_nonneg 5 hb.1
 have wa:=wrap64 (x:=a.tmod 5) (by omega) (by omega)
 have wb:=wrap64 (x:=b.tmod 5) (by omega) (by omega)
 have wa2:=wrap64 (x:=a.tmod 5 - 1) (by omega) (by omega)
 have wb2:=wrap64 (x:=b.tmod 5 - 1) (by omega) (by omega)
 obtain ⟨x,hx⟩:∃ x,x=a.tmod 5 - 1:=⟨_,rfl⟩
 obtain ⟨y,hy⟩:∃ y,y=b.tmod 5 - 1:=⟨_,rfl⟩
 rw [← hx] at wa2
 rw [← hy] at wb2
 have hxb : -1≤x∧x≤3:=by omega
 have hyb : -1≤y∧y≤3:=by omega
 have hl:=sndL_len (sndP L 0) 6000
 have hql:=sndL_len (sndQ L 0) 6000
 have s1:=cSnd2 (ra:=⟨25,1⟩) (rb:=⟨25,1⟩) (r:=⟨25,1⟩) (ts:=[[cutL nmA ⟨0,1⟩ ⟨1,1⟩ 3 4096 [x,y]]]) (from0:=(k:Int)) (n:=20) rateS25 rateS25 rateS25 (by simp) (fun t ht=>by
  simp only [List.mem_cons,List.not_mem_nil,or_false] at ht
  subst ht
  exact cutL_trk (.inl rfl) (cutL_v hxb hyb) (cutL_fit fr01 fr11 (by decide) (by decide))) (two_aud hA) (by decide) (by omega) (by omega) (fun t ht c hc _=>by
  simp only [List.mem_cons,List.not_mem_nil,or_false] at ht
  subst ht
  simp only [List.mem_cons,List.not_mem_nil,or_false] at hc
  subst hc
  exact clipT_cut2 rfl rfl (show (3:Int)≤63 by decide) (srcF_a hA rateS25 rfl rfl vr01 vr11 (qb01 _ _ (by decide)) (qb11 _ _ (by decide) (by decide))) ((two_a hA).2 _ _) (rate_a _ _ _) (show (0:Int)≤4096∧(4096:Int)≤65536 by decide))
 rw [chan_snd hA hl hxb hyb k (by omega) 0 x rfl hxb,chan_snd hA hl hxb hyb k (by omega) 1 y rfl hyb] at s1
 obtain ⟨p,hp⟩:∃ p,p=sndL (sndP L 0) 6000:=⟨_,rfl⟩
 obtain ⟨q,hq⟩:∃ q,q=sndL (sndQ L 0) 6000:=⟨_,rfl⟩
 have hn0:∀ d,nth d ((soundsA L 6000).map AudioR.c) 0 = [tstr nmA, .list 1 [.lit (.slice none 0 0)] [[t16 p],[t16 q]]]:=fun d=>by rw [hp,hq];rfl
 have hl2:(soundsA L 6000).length=2:=rfl
 rw [← hp] at hl s1
 rw [← hq] at hql s1
 refine cpure_of Tryz.xen8 Tryz.func8 rfl Tryz.ntmps8 (by rw [Tryz.results8]) ?_
 refine awp_seq (aw_ok _ ?_)
 simp only [go_sem,simprocAttr,decide_true,decide_false]
 refine awp_seq (aw_ok _ ?_)
 simp only [go_sem,simprocAttr,decide_true,decide_false]
 refine ⟨_,hS,?_⟩
 simp only [go_sem,simprocAttr,decide_true,decide_false]
 refine awp_seq (aw_ok _ ?_)
 simp only [go_sem,simprocAttr,decide_true,decide_false]
 refine ⟨_,cWhole 0,?_⟩
 simp only [go_sem,simprocAttr,decide_true,decide_false]
 refine ⟨_,cWhole 1,?_⟩
 simp only [go_sem,simprocAttr,decide_true,decide_false]
 refine ⟨_,cCut27 ⟨0,1⟩ ⟨1,1⟩ 3,?_⟩
 simp only [go_sem,simprocAttr,decide_true,decide_false]
 refine awp_seq (aw_ok _ ?_)
 simp only [go_sem,simprocAttr,decide_true,decide_false,wa,wb, ← hx, ← hy,wa2,wb2]
 refine awp_give [1] ?_
 simp only [go_sem,simprocAttr,decide_true,decide_false]
 refine awp_seq (aw_ok _ ?_)
 simp only [go_sem,simprocAttr,decide_true,decide_false]
 refine drawF_of [2,3] [4] 7 .done rfl (by kernel_rfl) (by kernel_rfl) (by decide) ?_
 simp only [go_sem,simprocAttr,decide_true,decide_false]
 refine ⟨_,cWhole 25,?_⟩
 simp only [go_sem,simprocAttr,decide_true,decide_false]
 refine fcall (cProjQ ⟨25,1⟩ _) rfl ?_
 simp only [go_sem,simprocAttr,decide_true,decide_false]
 refine ⟨by kernel_rfl,?_⟩
 refine awp_seq (aw_ok _ ?_)
 simp only [go_sem,simprocAttr,decide_true,decide_false,setRow,nth_zero2,nthV_0,tRows,List.map_cons,List.map_nil,List.set_cons_zero,List.set_cons_succ,List.length_cons,List.length_nil,List.take_succ_cons,List.take_zero,List.drop_succ_cons,List.drop_zero,List.cons_append,List.nil_append]
 refine awp_seq (aw_ok _ ?_)
 simp only [go_sem,simprocAttr,decide_true,decide_false,hk,wrapN (n:=k) (by omega)]
 refine awp_seq (aw_ok _ ?_)
 simp only [go_sem,simprocAttr,decide_true,decide_false]
 refine lcall_give ?_
 simp only [go_sem,simprocAttr,decide_true,decide_false]
 refine ⟨_,cpure_as (.cons (as_projQ ⟨25,1⟩ (cutL nmA ⟨0,1⟩ ⟨1,1⟩ 3 4096 [x,y])) (.cons as_refl (.cons as_refl (.cons as_refl (.cons as_refl .nil))))) s1,?_⟩
 simp only [go_sem,simprocAttr,decide_true,decide_false]
 have lx:=want_len x hl hql (k:=k) (by omega)
 have ly:=want_len y hl hql (k:=k) (by omega)
 refine awp_seq (aw_ok _ ?_)
 simp only [go_sem,simprocAttr,decide_true,decide_false,tchs,t16,lx,ly,nth_one,nth_zero2,nth_one2]
 refine awp_seq (aw_ok _ ?_)
 simp only [go_sem,simprocAttr,decide_true,decide_false]
 refine awp_loop_f (fun (i:Nat) σ => setS 15 (vint i) (deadS [16,72,73,74,75,76,77,78,79,80,81,82,83,84,85,86,87,88,89,90,91,92,93,94,95,96,97,98,99,100,101,102,103,104,105,106,107,108,109,110,111,112,113,114] (cleanS σ))) (fun i=>i≤2) (fun i=>2 - i) 0 (weak_self ?_) (Nat.zero_le _) ?_
 ·simp only [go_sem,simprocAttr]<;>simp
 ·intro i hi
  refine aw_ok _ ?_
  simp only [go_sem,simprocAttr]
  refine ⟨fun hlt=>?_,fun hge=>?_⟩
  ·simp only [bxx] at hlt
   have hil:i<2:=by omega
   have hwi:IntKind.i64.wrap ((i:Int)+1)=((i+1:Nat):Int):=by rw [wrap1 (by omega)];omega
   obtain ⟨z,hzb,hzn,hzw,hzl⟩:∃ z:Int,(-1≤z∧z≤3) ∧ [x,y].getD i 0=z∧(∀ d,nth d [[T.list 1 (c16 0) ((wantL x p q k 20).map c16)],[T.list 1 (c16 0) ((wantL y p q k 20).map c16)]] i = [T.list 1 (c16 0) ((wantL z p q k 20).map c16)])∧(wantL z p q k 20).length=20:=by
    have:i=0∨i=1:=by omega
    rcases this with rfl | rfl
    ·exact ⟨x,hxb,rfl,fun _=>rfl,lx⟩
    ·exact ⟨y,hyb,rfl,fun _=>rfl,ly⟩
   have hSm:=cSame27 [wantL z p q k 20] (by simp) (fun x hx=>by
    simp only [List.mem_cons,List.not_mem_nil,or_false] at hx
    rw [hx,hzl]
    decide)
   unfold awS
   simp only [go_sem,Nat.reduceGT,Nat.reducePow,Nat.reduceLT,↓reduceIte,Nat.reduceAdd,Nat.reduceMul,Nat.reduceSub,Nat.reduceMod,Nat.reduceLeDiff,Nat.reduceEqDiff,Nat.reduceBEq,reduceCtorEq]
   obtain ⟨R,hR⟩:∃ R,R=List.replicate (Int.toNat 20) [T.lit (.int .i16 0)]:=⟨_,rfl⟩
   rw [← hR,hzn]
   refine ⟨⟨by decide,by decide,by decide⟩,⟨by omega,by omega⟩,fun _=>⟨by omega,by omega⟩,fun hc=>?_,fun hc=>?_⟩
   ·have hz:z=0∨z=1:=by
     simp at hc
     omega
    unfold awS
    simp only [go_sem,simprocAttr,decide_true,decide_false]
    rcases hz with rfl | rfl
    ·refine drawC_of 16 .done rfl (by kernel_rfl) (by kernel_rfl) (by decide) ?_
     simp only [go_sem,simprocAttr,decide_true,decide_false,hzn,hn0,hl2,nth_zero2,nth_one2,tchs,t16,hl,hql,wrap64 (x:=(k:Int)+20) (by omega) (by omega)]
     refine ⟨⟨by omega,by omega⟩,⟨by omega,by omega,by omega⟩,by kernel_rfl,?_⟩
     simp only [go_sem,simprocAttr,decide_true,decide_false,hzw]
     refine ⟨⟨by omega,by omega⟩,?_⟩
     have e20:(k:Int)+20=(k:Int)+((20:Nat):Int):=rfl
     rw [e20,part_eq]
     refine lcall_lend ?_
     simp only [go_sem,simprocAttr,decide_true,decide_false]
     refine ⟨_,hSm,rfl,?_⟩
     simp only [go_sem,simprocAttr,decide_true,decide_false]
     refine ⟨i+1,weak_self ?_,by omega,by omega⟩
     simp only [go_sem,simprocAttr,decide_true,decide_false,hwi]
     try simp
    ·refine drawC_of 16 .done rfl (by kernel_rfl) (by kernel_rfl) (by decide) ?_
     simp only [go_sem,simprocAttr,decide_true,decide_false,hzn,hn0,hl2,nth_zero2,nth_one2,tchs,t16,hl,hql,wrap64 (x:=(k:Int)+20) (by omega) (by omega)]
     refine ⟨⟨by omega,by omega⟩,⟨by omega,by omega,by omega⟩,by kernel_rfl,?_⟩
     simp only [go_sem,simprocAttr,decide_true,decide_false,hzw]
     refine ⟨⟨by omega,by omega⟩,?_⟩
     have e20:(k:Int)+20=(k:Int)+((20:Nat):Int):=rfl
     rw [e20,part_eq]
     refine lcall_lend ?_
     simp only [go_sem,simprocAttr,decide_true,decide_false]
     refine ⟨_,hSm,rfl,?_⟩
     simp only [go_sem,simprocAttr,decide_true,decide_false]
     refine ⟨i+1,weak_self ?_,by omega,by omega⟩
     simp only [go_sem,simprocAttr,decide_true,decide_false,hwi]
     try simp
   ·have hz:wantL z p q k 20=List.replicate 20 0:=by
     unfold wantL
     rw [if_neg (by rintro rfl;exact absurd hc (by decide)),if_neg (by rintro rfl;exact absurd hc (by decide))]
    have hRw:R=(wantL z p q k 20).map c16:=by rw [hz,hR];rfl
    rw [hRw]
    unfold thenQ
    unfold awS
    simp only [go_sem,simprocAttr,decide_true,decide_false,hzw]
    refine ⟨⟨by omega,by omega⟩,?_⟩
    refine lcall_lend ?_
    simp only [go_sem,simprocAttr,decide_true,decide_false]
    refine ⟨_,hSm,rfl,?_⟩
    simp only [go_sem,simprocAttr,decide_true,decide_false]
    refine ⟨i+1,weak_self ?_,by omega,by omega⟩
    simp only [go_sem,simprocAttr,decide_true,decide_false,hwi]
    try simp
  ·simp only [bxx] at hge
   unfold awS
   simp only [go_sem,simprocAttr,decide_true,decide_false]
   refine aw_ok _ ?_
   simp only [go_sem,simprocAttr,decide_true,decide_false]
   refine ⟨_,cAwake27,?_⟩
   simp only [go_sem,simprocAttr,decide_true,decide_false]
end Go.Proofs.YtjmoncjecpckhaaGreat
