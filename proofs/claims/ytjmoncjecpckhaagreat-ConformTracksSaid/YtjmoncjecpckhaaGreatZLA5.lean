/- Proved here: What the statement about two tracks computes, for use in the proofs of the given statements; conditions stand in each theorem. -/
import Derived.Test.YtjmoncjecpckhaaGreatVJ
set_option linter.unusedSimpArgs false
set_option linter.unusedVariables false
set_option linter.unusedSectionVars false
set_option linter.unnecessarySimpa false
namespace Go.Proofs.YtjmoncjecpckhaaGreat
open Go.RowKit
set_option maxRecDepth 4000
theorem wrap32 {x:Int} (h1 : -2147483648≤x) (h2:x≤2147483647):IntKind.i32.wrap x=x:=by
 have e1:(2:Int) ^ IntKind.i32.bits=4294967296:=by decide
 have e2:(2:Int) ^ (IntKind.i32.bits - 1)=2147483648:=by decide
 unfold IntKind.wrap
 simp only [IntKind.signed,if_true,e1,e2,Bool.true_and,decide_eq_true_eq]
 split<;>omega
def tT:List ClipR:=[cutC nmA ⟨0,1⟩ ⟨3,2⟩ 9 4096 0]
def tU:List ClipR:=[gapC 1,cutC nmB ⟨1,1⟩ ⟨1,2⟩ 9 7000 1]
theorem gap_fit:(gapC 1).fit:=by
 have i0:I64 0:=⟨by decide,by decide⟩
 have i1:I64 1:=⟨by decide,by decide⟩
 have r0:(⟨0,0⟩:RatR).fit:=⟨i0,i0⟩
 exact ⟨i1,i0,⟨i0,r0,r0⟩,⟨i0,r0,r0⟩,i0,i0,i0,i0⟩
theorem trkT:TrkQ 1 tT:=cutC_trk (.inl rfl) (by kernel_rfl) (cutC_fit fr01 (frI 3 2 (by decide) (by decide)) (by decide) (by decide) (by decide))
theorem trkU:TrkQ 1 tU:=by
 refine ⟨by kernel_rfl,fun c hc=>?_⟩
 unfold tU at hc
 simp only [List.mem_cons,List.not_mem_nil,or_false] at hc
 rcases hc with rfl | rfl
 ·refine ⟨gap_fit,rfl,fun x hx=>?_⟩
  rcases hx with rfl | rfl
  ·exact ⟨(by decide:(0:Int)≠2),fun h=>absurd h (by decide : ¬ (0:Int)=1)⟩
  ·exact ⟨(by decide:(0:Int)≠2),fun h=>absurd h (by decide : ¬ (0:Int)=1)⟩
 ·refine ⟨cutC_fit fr11 (frI 1 2 (by decide) (by decide)) (by decide) (by decide) (by decide),rfl,fun x hx=>?_⟩
  rcases hx with rfl | rfl
  ·exact ⟨(by decide:(1:Int)≠2),fun _ => .inr rfl⟩
  ·exact ⟨(by decide:(0:Int)≠2),fun h=>absurd h (by decide : ¬ (0:Int)=1)⟩
theorem vr32:vRat ⟨3,2⟩=true:=by kernel_rfl
theorem vr12:vRat ⟨1,2⟩=true:=by kernel_rfl
theorem clT {A:List AudioR} {p q u v:List Int} (h:TwoA A p q u v) {Q:MapT}:∀ x∈tT,x.kind≠0→ClipT (prjR ⟨25,1⟩ ⟨25,1⟩) (auM A) Q (prjE ⟨25,1⟩ ⟨25,1⟩ A) 1 x:=fun x hx _=>by
 unfold tT at hx
 simp only [List.mem_cons,List.not_mem_nil,or_false] at hx
 subst hx
 exact cutT_a h rateS25 (by decide) (by decide) vr01 vr32 (qb01 _ _ (by decide)) (qbF (d:=2) _ _ vr32 (by decide) (by decide))
theorem clU {A:List AudioR} {p q u v:List Int} (h:TwoA A p q u v) {Q:MapT}:∀ x∈tU,x.kind≠0→ClipT (prjR ⟨25,1⟩ ⟨25,1⟩) (auM A) Q (prjE ⟨25,1⟩ ⟨25,1⟩ A) 1 x:=fun x hx hk=>by
 unfold tU at hx
 simp only [List.mem_cons,List.not_mem_nil,or_false] at hx
 rcases hx with rfl | rfl
 ·exact absurd rfl hk
 ·exact cutT_b h rateS25 (by decide) (by decide) vr11 vr12 (qb11 _ _ (by decide) (by decide)) (qbF (d:=2) _ _ vr12 (by decide) (by decide))
theorem sndTU {A:List AudioR} {p q u v:List Int} (h:TwoA A p q u v) (ts:List (List ClipR)) (hts:∀ t∈ts,t=tT∨t=tU) (h8:ts.length≤8) (k:Nat) (hk:k≤1000000):CPure Tryz.prog 17 [vproj (prjG ⟨25,1⟩ ⟨25,1⟩ ⟨25,1⟩ 1 ts),vstr nmS,vint (k:Int),vint (20:Nat), .t (taudios A)] (.tup [.t (tchs [sndV (prjE ⟨25,1⟩ ⟨25,1⟩ A) ts ⟨25,1⟩ (k:Int) 20 0]),vint 0]):=by
 refine cSnd1 rateS25 rateS25 rateS25 h8 (fun t ht=>?_) (two_aud h) (by decide) (by omega) (by omega) (fun t ht x hx hk=>?_)
 ·rcases hts t ht with rfl | rfl
  ·exact trkT
  ·exact trkU
 ·rcases hts t ht with rfl | rfl
  ·exact clT h x hx hk
  ·exact clU h x hx hk
theorem two_sum (E:SndE) (r:RatR) (k:Int) (i:Nat) (hi:i<20):∃ a b c:Int,(-32768≤a∧a≤32767)∧(-32768≤b∧b≤32767)∧(-32768≤c∧c≤32767)∧(sndV E [tT] r k 20 0).getD i 0=a∧(sndV E [tU] r k 20 0).getD i 0=b∧(sndV E [tT,tU] r k 20 0).getD i 0=c∧(-32768<a→a<32767 → -32768<b→b<32767→c=max (-32768) (min 32767 (a+b))):=by
 unfold sndV
 rw [sndL_at _ hi,sndL_at _ hi,sndL_at _ hi]
 refine ⟨_,_,_,?_,?_,?_,rfl,rfl,rfl,?_⟩
 ·unfold smpV clampV;omega
 ·unfold smpV clampV;omega
 ·unfold smpV clampV;omega
 ·rw [smp_one,smp_one,smp_two]
  unfold clampV
  omega
theorem two_same (E:SndE) (r:RatR) (k:Int):sndV E [tU,tT] r k 20 0=sndV E [tT,tU] r k 20 0:=by
 unfold sndV
 congr 1
 funext i
 exact smp_swap E tU tT r _ 0
abbrev gapZ:List T:=[ti 1,ti 0,ti 0,tstr ⟨#[]⟩,ti 0,ti 0,ti 0,ti 0,tbl false,ti 0,tstr ⟨#[]⟩,ti 0,ti 0,ti 0,ti 0,tbl false,ti 0,ti 0,ti 0,tstr ⟨#[]⟩,ti 0, .lit (.slice none 0 0)]
theorem gap_imp (c:ClipR):ImpR [gapZ,ClipR.c c] ([gapC 1,c].map ClipR.c):=by
 exact ⟨⟨imp_refl,imp_refl,imp_refl,imp_refl,imp_refl,imp_refl,imp_refl,imp_refl,imp_refl,imp_refl,imp_refl,imp_refl,imp_refl,imp_refl,imp_refl,imp_refl,imp_refl,imp_refl,imp_refl,imp_refl,imp_refl,imp_nil,trivial⟩,impR_refl _⟩
abbrev cU:ClipR:=cutC nmB ⟨1,1⟩ ⟨1,2⟩ 9 7000 1
abbrev cT:ClipR:=cutC nmA ⟨0,1⟩ ⟨3,2⟩ 9 4096 0
theorem pU {d1 d2:List T}:CPure Tryz.prog 18 [vrat ⟨25,1⟩, .t (.list 1 d1 [[.list 22 d2 [gapZ,ClipR.c cU]]])] (vproj (prjG ⟨25,1⟩ ⟨25,1⟩ ⟨25,1⟩ 1 [tU])) :=
 cpure_as (.cons as_refl (.cons (as_imp (imp_list (by exact ⟨⟨imp_list (gap_imp _),trivial⟩,trivial⟩))) .nil)) (cProject27 ⟨25,1⟩ [tU])
theorem pTU {d1 d2 d3:List T}:CPure Tryz.prog 18 [vrat ⟨25,1⟩, .t (.list 1 d1 [[.list 22 d3 [ClipR.c cT]],[.list 22 d2 [gapZ,ClipR.c cU]]])] (vproj (prjG ⟨25,1⟩ ⟨25,1⟩ ⟨25,1⟩ 1 [tT,tU])) :=
 cpure_as (.cons as_refl (.cons (as_imp (imp_list (by exact ⟨⟨imp_list (impR_refl _),trivial⟩,⟨imp_list (gap_imp _),trivial⟩,trivial⟩))) .nil)) (cProject27 ⟨25,1⟩ [tT,tU])
theorem pUT {d1 d2 d3:List T}:CPure Tryz.prog 18 [vrat ⟨25,1⟩, .t (.list 1 d1 [[.list 22 d2 [gapZ,ClipR.c cU]],[.list 22 d3 [ClipR.c cT]]])] (vproj (prjG ⟨25,1⟩ ⟨25,1⟩ ⟨25,1⟩ 1 [tU,tT])) :=
 cpure_as (.cons as_refl (.cons (as_imp (imp_list (by exact ⟨⟨imp_list (gap_imp _),trivial⟩,⟨imp_list (impR_refl _),trivial⟩,trivial⟩))) .nil)) (cProject27 ⟨25,1⟩ [tU,tT])
set_option maxHeartbeats 4000000 in
theorem tracks6 (L:List Int) (f:Int) (hf : 0≤f∧f≤65535):CPure Tryz.prog 6 [.t (tints L), .t (.lit (.int .u16 f))] (vbool true):=by
 have hS:=cSounds L 6000 (by decide)
 have hA:=sounds_two L 6000 (by decide)
 have k0:=tmod_abs f (n:=12000) (by decide)
 have k1:=Int.tmod_nonneg 12000 hf.1
 obtain ⟨k,hk⟩:=nat_of k1
 have s1:=sndTU hA [tT] (by simp) (by simp) k (by omega)
 have s2:=sndTU hA [tU] (by simp) (by simp) k (by omega)
 have s3:=sndTU hA [tT,tU] (by simp) (by simp) k (by omega)
 have s4:=sndTU hA [tU,tT] (by simp) (by simp) k (by omega)
 rw [two_same] at s4
 have hb:=fun i hi=>two_sum (prjE ⟨25,1⟩ ⟨25,1⟩ (soundsA L 6000)) ⟨25,1⟩ (k:Int) i hi
 have l1:=sndV_len (prjE ⟨25,1⟩ ⟨25,1⟩ (soundsA L 6000)) [tT] ⟨25,1⟩ (k:Int) 20 0
 have l2:=sndV_len (prjE ⟨25,1⟩ ⟨25,1⟩ (soundsA L 6000)) [tU] ⟨25,1⟩ (k:Int) 20 0
 have l3:=sndV_len (prjE ⟨25,1⟩ ⟨25,1⟩ (soundsA L 6000)) [tT,tU] ⟨25,1⟩ (k:Int) 20 0
 generalize sndV (prjE ⟨25,1⟩ ⟨25,1⟩ (soundsA L 6000)) [tT] ⟨25,1⟩ (k:Int) 20 0=U at s1 hb l1
 generalize sndV (prjE ⟨25,1⟩ ⟨25,1⟩ (soundsA L 6000)) [tU] ⟨25,1⟩ (k:Int) 20 0=W at s2 hb l2
 generalize sndV (prjE ⟨25,1⟩ ⟨25,1⟩ (soundsA L 6000)) [tT,tU] ⟨25,1⟩ (k:Int) 20 0=X at s3 s4 hb l3
 refine cpure_of Tryz.xen6 Tryz.func6 rfl Tryz.ntmps6 (by rw [Tryz.results6]) ?_
 refine awp_seq (aw_ok _ ?_)
 simp only [go_sem,simprocAttr,decide_true,decide_false]
 refine awp_seq (aw_ok _ ?_)
 simp only [go_sem,simprocAttr,decide_true,decide_false]
 refine ⟨_,hS,?_⟩
 simp only [go_sem,simprocAttr,decide_true,decide_false]
 refine awp_seq (aw_ok _ ?_)
 simp only [go_sem,simprocAttr,decide_true,decide_false]
 refine ⟨_,cWhole 0,?_⟩
 simp only [go_sem,simprocAttr,decide_true,decide_false]
 refine ⟨_,cCut27 ⟨0,1⟩ ⟨3,2⟩ 9,?_⟩
 simp only [go_sem,simprocAttr,decide_true,decide_false]
 refine awp_seq (aw_ok _ ?_)
 simp only [go_sem,simprocAttr,decide_true,decide_false]
 refine ⟨_,cWhole 1,?_⟩
 simp only [go_sem,simprocAttr,decide_true,decide_false]
 refine ⟨_,cCut27 ⟨1,1⟩ ⟨1,2⟩ 9,?_⟩
 simp only [go_sem,simprocAttr,decide_true,decide_false]
 refine awp_seq (aw_ok _ ?_)
 simp only [go_sem,simprocAttr,decide_true,decide_false,setRow,nth_one2,nthV_1,tRows,List.map_cons,List.map_nil,List.set_cons_zero,List.set_cons_succ,List.length_cons,List.length_nil,List.take_succ_cons,List.take_zero,List.drop_succ_cons,List.drop_zero,List.cons_append,List.nil_append]
 refine awp_seq (aw_ok _ ?_)
 simp only [go_sem,simprocAttr,decide_true,decide_false,setRow,nth_one2,nthV_1,tRows,List.map_cons,List.map_nil,List.set_cons_zero,List.set_cons_succ,List.length_cons,List.length_nil,List.take_succ_cons,List.take_zero,List.drop_succ_cons,List.drop_zero,List.cons_append,List.nil_append]
 refine awp_seq (aw_ok _ ?_)
 simp only [go_sem,simprocAttr,decide_true,decide_false,hk,wrapN (n:=k) (by omega)]
 refine awp_seq (aw_ok _ ?_)
 simp only [go_sem,simprocAttr,decide_true,decide_false]
 refine ⟨_,cWhole 25,?_⟩
 simp only [go_sem,simprocAttr,decide_true,decide_false]
 refine lcall_give ?_
 simp only [go_sem,simprocAttr,decide_true,decide_false]
 refine ⟨_,cProj1 ⟨25,1⟩ (cutC nmA ⟨0,1⟩ ⟨3,2⟩ 9 4096 0),?_⟩
 simp only [go_sem,simprocAttr,decide_true,decide_false]
 refine ⟨_,s1,?_⟩
 simp only [go_sem,simprocAttr,decide_true,decide_false]
 refine awp_seq (aw_ok _ ?_)
 simp only [go_sem,simprocAttr,decide_true,decide_false]
 refine ⟨_,cWhole 25,?_⟩
 simp only [go_sem,simprocAttr,decide_true,decide_false]
 refine lcall_give ?_
 simp only [go_sem,simprocAttr,decide_true,decide_false]
 refine ⟨_,pU,?_⟩
 simp only [go_sem,simprocAttr,decide_true,decide_false]
 refine ⟨_,s2,?_⟩
 simp only [go_sem,simprocAttr,decide_true,decide_false]
 refine awp_seq (aw_ok _ ?_)
 simp only [go_sem,simprocAttr,decide_true,decide_false]
 refine ⟨_,cWhole 25,?_⟩
 simp only [go_sem,simprocAttr,decide_true,decide_false]
 refine lcall_give ?_
 simp only [go_sem,simprocAttr,decide_true,decide_false]
 refine ⟨_,pTU,?_⟩
 simp only [go_sem,simprocAttr,decide_true,decide_false]
 refine ⟨_,s3,?_⟩
 simp only [go_sem,simprocAttr,decide_true,decide_false]
 refine awp_seq (aw_ok _ ?_)
 simp only [go_sem,simprocAttr,decide_true,decide_false]
 refine ⟨_,cWhole 25,?_⟩
 simp only [go_sem,simprocAttr,decide_true,decide_false]
 refine lcall_give ?_
 simp only [go_sem,simprocAttr,decide_true,decide_false]
 refine ⟨_,pUT,?_⟩
 simp only [go_sem,simprocAttr,decide_true,decide_false]
 refine ⟨_,s4,?_⟩
 simp only [go_sem,simprocAttr,decide_true,decide_false]
 refine aw_ok _ ?_
 simp only [go_sem,simprocAttr,decide_true,decide_false,tchs,t16,l1,l2,l3,nth_one]
 have hSm:=cSame27 [X] (by simp) (fun x hx=>by
  simp only [List.mem_cons,List.not_mem_nil,or_false] at hx
  rw [hx,l3]
  decide)
 refine awp_loop_f (fun (i:Nat) σ => setS 140 (vint i) (deadS [17,18,141,142,143,144,145,146,147,148,149,150,151,152,153,154,155,156,157,158,159,160,161,162,163,164,165,166,167,168,169,170,171,172,173,174,175,176,177,178,179,180,181,182,183,184,185,186,187,188,189,190,191,192,193,194,195,196,197,198,199,200,201,202,203,204,205,206,207,208,209,210,211] (cleanS σ))) (fun i=>i≤20) (fun i=>20 - i) 0 (weak_self ?_) (Nat.zero_le _) ?_
 ·simp only [go_sem,simprocAttr]<;>simp
 ·intro i hi
  refine aw_ok _ ?_
  simp only [go_sem,simprocAttr]
  refine ⟨fun hlt=>?_,fun hge=>?_⟩
  ·simp only [bxx] at hlt
   have hil:i<20:=by omega
   have hwi:IntKind.i64.wrap ((i:Int)+1)=((i+1:Nat):Int):=by rw [wrap1 (by omega)];omega
   obtain ⟨a,b,c,ra,rb,rc,b1,b2,b3,hsum⟩:=hb i hil
   have nU:∀ d,nth d (U.map c16) i=c16 a:=fun d=>by rw [c16_nth (by omega),b1]
   have nW:∀ d,nth d (W.map c16) i=c16 b:=fun d=>by rw [c16_nth (by omega),b2]
   have nX:∀ d,nth d (X.map c16) i=c16 c:=fun d=>by rw [c16_nth (by omega),b3]
   unfold awS
   simp only [go_sem,simprocAttr,decide_true,decide_false]
   refine drawC_of 16 .done rfl (by kernel_rfl) (by kernel_rfl) (by decide) ?_
   simp only [go_sem,simprocAttr,decide_true,decide_false,nth_one,l1,l2,l3,nU,nW,nX,wrap32 (x:=a) (by omega) (by omega),wrap32 (x:=b) (by omega) (by omega),wrap32 (x:=c) (by omega) (by omega),wrap32 (x:=a+b) (by omega) (by omega)]
   refine ⟨⟨by omega,by omega⟩,⟨by omega,by omega⟩,by kernel_rfl,⟨by omega,by omega⟩,fun _=>⟨by omega,by omega⟩,fun _=>⟨by omega,by omega⟩,fun _=>⟨by omega,by omega⟩,fun _=>⟨by omega,by omega⟩,fun h=>?_,fun h=>?_⟩
   ·exfalso
    simp only [bxx] at h
    have:=hsum (by omega) (by omega) (by omega) (by omega)
    omega
   ·unfold awS
    simp only [go_sem,simprocAttr,decide_true,decide_false]
    refine ⟨i+1,weak_self ?_,by omega,by omega⟩
    simp only [go_sem,simprocAttr,decide_true,decide_false,hwi]
    try simp
  ·simp only [bxx] at hge
   unfold awS
   simp only [go_sem,simprocAttr,decide_true,decide_false]
   refine ⟨_,hSm,?_⟩
   simp only [go_sem,simprocAttr,decide_true,decide_false]
   refine ⟨_,cAwake27,?_⟩
   simp only [go_sem,simprocAttr,decide_true,decide_false]
end Go.Proofs.YtjmoncjecpckhaaGreat
