/- Proved here: What the statement about the sync of sound and picture computes, for use in the proofs of the given statements; conditions stand in each theorem. -/
import Derived.Test.YtjmoncjecpckhaaGreatVJ
set_option linter.unusedSimpArgs false
set_option linter.unusedVariables false
set_option linter.unusedSectionVars false
set_option linter.unnecessarySimpa false
namespace Go.Proofs.YtjmoncjecpckhaaGreat
open Go.RowKit
set_option maxRecDepth 4000
theorem rate4b (w:Int) (d:List T):∃ r:RatR,RateS r∧23*r.den≤r.num∧nth d [[ti 25,ti 1],[ti 24,ti 1],[ti 30000,ti 1001],[ti 24000,ti 1001]] ((w.tmod 4+4).tmod 4).toNat = [ti r.num,ti r.den]∧0≤(w.tmod 4+4).tmod 4∧(w.tmod 4+4).tmod 4<4:=by
 have h1:=tmod_abs w (n:=4) (by decide)
 have h2:=Int.tmod_nonneg 4 (show 0≤w.tmod 4+4 by omega)
 have h3:=Int.tmod_lt_of_pos (w.tmod 4+4) (show (0:Int)<4 by decide)
 obtain ⟨e,he⟩:∃ e,e=(w.tmod 4+4).tmod 4:=⟨_,rfl⟩
 rw [← he] at h2 h3 ⊢
 have:e=0∨e=1∨e=2∨e=3:=by omega
 rcases this with rfl | rfl | rfl | rfl
 ·exact ⟨⟨25,1⟩,rateS25,by decide,rfl,by decide,by decide⟩
 ·exact ⟨⟨24,1⟩,rateS24,by decide,rfl,by decide,by decide⟩
 ·exact ⟨⟨30000,1001⟩,rateS2997,by decide,rfl,by decide,by decide⟩
 ·exact ⟨⟨24000,1001⟩,rateS2398,by decide,rfl,by decide,by decide⟩
theorem mask24 (g:Int) : 0≤bits .and .i32 g 16777215∧bits .and .i32 g 16777215≤16777215:=by
 have hb:(BitVec.ofInt 32 (16777215:Int)).toNat=16777215:=by decide
 have hx:((BitVec.ofInt 32 g) &&& (BitVec.ofInt 32 (16777215:Int))).toNat≤16777215:=by
  rw [BitVec.toNat_and,hb]
  exact Nat.and_le_right
 have e:bits .and .i32 g 16777215=IntKind.i32.wrap ((BitVec.ofInt 32 g &&& BitVec.ofInt 32 (16777215:Int)).toNat:Int):=rfl
 have e1:(2:Int) ^ IntKind.i32.bits=4294967296:=by decide
 have e2:(2:Int) ^ (IntKind.i32.bits - 1)=2147483648:=by decide
 rw [e]
 generalize ((BitVec.ofInt 32 g &&& BitVec.ofInt 32 (16777215:Int)).toNat)=n at hx ⊢
 unfold IntKind.wrap
 simp only [IntKind.signed,if_true,e1,e2,Bool.true_and,decide_eq_true_eq]
 split<;>omega
def rampF (j:Nat):Int:=16*(j:Int) - 16384
theorem ramp_full:fillP rampF 2100 2100=rampL 2100:=fillP_full rampF 2100
def audR:List AudioR:=[⟨nmA,[rampL 2100]⟩]
theorem ramp_len:(rampL 2100).length=2100:=by unfold rampL;rw [List.length_map,List.length_range]
theorem audR_one:OneA audR (rampL 2100):=⟨rfl,ramp_i16 (by decide),by rw [ramp_len];decide⟩
abbrev gapZn (n:Int):List T:=[ti n,ti 0,ti 0,tstr ⟨#[]⟩,ti 0,ti 0,ti 0,ti 0,tbl false,ti 0,tstr ⟨#[]⟩,ti 0,ti 0,ti 0,ti 0,tbl false,ti 0,ti 0,ti 0,tstr ⟨#[]⟩,ti 0, .lit (.slice none 0 0)]
theorem gapn_imp (n:Int) (c:ClipR):ImpR [gapZn n,ClipR.c c] ([gapC n,c].map ClipR.c):=by
 exact ⟨⟨imp_refl,imp_refl,imp_refl,imp_refl,imp_refl,imp_refl,imp_refl,imp_refl,imp_refl,imp_refl,imp_refl,imp_refl,imp_refl,imp_refl,imp_refl,imp_refl,imp_refl,imp_refl,imp_refl,imp_refl,imp_refl,imp_nil,trivial⟩,impR_refl _⟩
theorem pGap (r:RatR) (n:Int) (c:ClipR) {d1 d2:List T}:CPure Tryz.prog 18 [vrat r, .t (.list 1 d1 [[.list 22 d2 [gapZn n,ClipR.c c]]])] (vproj (prjG r r r 1 [[gapC n,c]])) :=
 cpure_as (.cons as_refl (.cons (as_imp (imp_list (by exact ⟨⟨imp_list (gapn_imp n c),trivial⟩,trivial⟩))) .nil)) (cProject27 r [[gapC n,c]])
abbrev c1:ClipR:=cutC nmA ⟨1,1⟩ ⟨1,1⟩ 1 4096 0
theorem c1_v:vClip c1=true:=by kernel_rfl
theorem gap_v {n:Int} (h : 1≤n∧n≤16777216):vClip (gapC n)=true:=by
 have h1:vClip (gapC 1)=true:=by kernel_rfl
 have ek:kindOk (gapC n)=kindOk (gapC 1):=rfl
 unfold vClip baseOk at h1 ⊢
 simp only [Bool.and_eq_true,decide_eq_true_eq] at h1 ⊢
 obtain ⟨⟨⟨⟨⟨⟨⟨_,_⟩,h3⟩,h4⟩,h5⟩,h6⟩,h7⟩,h8⟩:=h1
 exact ⟨⟨⟨⟨⟨⟨⟨h.1,show n≤2147483647 by omega⟩,h3⟩,h4⟩,h5⟩,h6⟩,h7⟩,by rw [ek];exact h8⟩
theorem trkG {n:Int} (h : 1≤n∧n≤16777216):TrkQ 1 [gapC n,c1]:=by
 have i0:I64 0:=⟨by decide,by decide⟩
 have r0:(⟨0,0⟩:RatR).fit:=⟨i0,i0⟩
 refine ⟨?_,fun c hc=>?_⟩
 ·unfold vTrack
  have ht:totL [gapC n,c1]=n+1:=by
   show n+(1+0)=n+1
   omega
  rw [ht,decide_eq_true (show [gapC n,c1].length≤64 by simp),decide_eq_true (show n+1≤2147483647 by omega)]
  simp [gap_v h,c1_v]
 ·simp only [List.mem_cons,List.not_mem_nil,or_false] at hc
  rcases hc with rfl | rfl
  ·refine ⟨⟨⟨show (-9223372036854775808:Int)≤n by omega,show n≤9223372036854775807 by omega⟩,i0,⟨i0,r0,r0⟩,⟨i0,r0,r0⟩,i0,i0,i0,i0⟩,rfl,fun x hx=>?_⟩
   rcases hx with rfl | rfl
   ·exact ⟨(by decide:(0:Int)≠2),fun h=>absurd h (by decide : ¬ (0:Int)=1)⟩
   ·exact ⟨(by decide:(0:Int)≠2),fun h=>absurd h (by decide : ¬ (0:Int)=1)⟩
  ·refine ⟨cutC_fit fr11 fr11 (by decide) (by decide) (by decide),rfl,fun x hx=>?_⟩
   rcases hx with rfl | rfl
   ·exact ⟨(by decide:(1:Int)≠2),fun _ => .inl rfl⟩
   ·exact ⟨(by decide:(0:Int)≠2),fun h=>absurd h (by decide : ¬ (0:Int)=1)⟩
theorem sndG {r:RatR} (hr:RateS r) {n:Int} (h : 1≤n∧n≤16777216) {s:Int} (f0 : 0≤s) (f1:s≤68719476700) :
  CPure Tryz.prog 17 [vproj (prjG r r r 1 [[gapC n,c1]]),vstr nmS,vint s,vint (1:Nat), .t (taudios audR)] (.tup [.t (tchs [sndV (prjE r r audR) [[gapC n,c1]] r s 1 0]),vint 0]):=by
 refine cSnd1 hr hr hr (by simp) (fun t ht=>?_) (one_aud audR_one) (by decide) (by omega) (by omega) (fun t ht x hx hk=>?_)
 ·simp only [List.mem_cons,List.not_mem_nil,or_false] at ht
  subst ht
  exact trkG h
 ·simp only [List.mem_cons,List.not_mem_nil,or_false] at ht
  subst ht
  simp only [List.mem_cons,List.not_mem_nil,or_false] at hx
  rcases hx with rfl | rfl
  ·exact absurd rfl hk
  ·exact cutT_1 audR_one hr (by decide) (by decide) vr11 vr11 (qb11 _ _ (by decide) (by decide)) (qb11 _ _ (by decide) (by decide))
theorem beg_le {r:RatR} (hr:RateS r) (h23 : 23*r.den≤r.num) {n:Int} (h : 1≤n∧n≤16777216) : 0≤begS r n∧begS r n≤68719476700:=by
 have hn:=hr.n
 have hd:=hr.d
 have hp : 0≤2*n*(48000*r.den):=Int.mul_nonneg (by omega) (by omega)
 have hq : 2*n*(48000*r.den)≤33554432*(48000*r.den):=Int.mul_le_mul_of_nonneg_right (by omega) (by omega)
 unfold begS
 refine ⟨Int.ediv_nonneg (by omega) (by omega),?_⟩
 refine Int.le_of_lt_add_one (Int.ediv_lt_of_lt_mul (by omega) ?_)
 have e:(68719476700+1)*(2*r.num)=137438953402*r.num:=by omega
 rw [e]
 omega
theorem sync_z {r:RatR} (hr:RateS r) (h23 : 23*r.den≤r.num) {n:Int} (h : 1≤n∧n≤16777216):∃ z:Int,(-32768≤z∧z≤32767)∧sndV (prjE r r audR) [[gapC n,c1]] r (begS r n) 1 0 = [z]∧2*((z+16384)*r.num - 768000*r.den)≤17*r.num ∧ -2*((z+16384)*r.num - 768000*r.den)≤17*r.num:=by
 have hs:=snd_sync (E:=prjE r r audR) (nm:=nmA) hr.n hr.d hr.m30 h23 (by rw [rate_a,toQ_div (rateS_v hr).2.1]) (by rw [(one_a audR_one).2];rfl) (n:=n) (by omega) c1_v
 have key:∀ z:Int,(2*((z+16384)*r.num - 16*48000*r.den)≤17*r.num ∧ -2*((z+16384)*r.num - 16*48000*r.den)≤17*r.num)→(2*((z+16384)*r.num - 768000*r.den)≤17*r.num ∧ -2*((z+16384)*r.num - 768000*r.den)≤17*r.num):=fun z h=>by
  have e : 16*48000*r.den=768000*r.den:=by omega
  rw [e] at h
  exact h
 obtain ⟨q1,q2⟩:=key _ hs
 refine ⟨smpV (prjE r r audR) [[gapC n,c1]] r (begS r n) 0,by unfold smpV clampV;omega,?_,q1,q2⟩
 unfold sndV sndL
 simp only [List.range_one,List.map_cons,List.map_nil]
 rw [show ((0:Nat):Int)=0 from rfl,Int.add_zero]
set_option maxHeartbeats 4000000 in
theorem sync13 (g w:Int) (hg : -2147483648≤g∧g≤2147483647) (hw:I64 w):CPure Tryz.prog 13 [.t (.lit (.int .i32 g)),vint w] (vbool true):=by
 obtain ⟨r,hr,h23,hsel,e0,e3⟩:=rate4b w [ti 0,ti 0]
 have w1:=tmod_abs w (n:=4) (by decide)
 have hmk:=mask24 g
 obtain ⟨v,hv⟩:∃ v,v=bits .and .i32 g 16777215:=⟨_,rfl⟩
 rw [← hv] at hmk
 obtain ⟨n,hn⟩:∃ n,n=v+1:=⟨_,rfl⟩
 have hn1 : 1≤n∧n≤16777216:=by omega
 obtain ⟨b0,b1⟩:=beg_le hr h23 hn1
 obtain ⟨z,hz,ez,z0,z1⟩:=sync_z hr h23 hn1
 have hS:=sndG hr hn1 b0 b1
 rw [ez] at hS
 obtain ⟨hu,hvr,hn2,hd2⟩:=rateS_v hr
 have rn:=hr.n
 have rd:=hr.d
 have hb:=mul_abs2 (i:=z+16384) (t:=r.num) (M:=49152) (N:=1048576) (by omega) (by omega)
 have nvA:∀ (d:List T) (x:List V) (l:List (List V)),nthV d (x::l) 0=x:=fun _ _ _=>rfl
 refine cpure_of Tryz.xen13 Tryz.func13 rfl Tryz.ntmps13 (by rw [Tryz.results13]) ?_
 refine awp_seq (aw_ok _ ?_)
 simp only [go_sem,simprocAttr,decide_true,decide_false]
 refine awp_seq (aw_ok _ ?_)
 simp only [go_sem,simprocAttr,decide_true,decide_false]
 refine ⟨_,cWhole 25,?_⟩
 simp only [go_sem,simprocAttr,decide_true,decide_false]
 refine ⟨_,cWhole 24,?_⟩
 simp only [go_sem,simprocAttr,decide_true,decide_false,wrap64 (x:=w.tmod 4+4) (by omega) (by omega),hsel]
 refine ⟨⟨e0,e3⟩,by omega,?_⟩
 refine awp_seq (aw_ok _ ?_)
 simp only [go_sem,Nat.reduceGT,Nat.reducePow,Nat.reduceLT,↓reduceIte,Nat.reduceAdd,Nat.reduceMul,Nat.reduceSub,Nat.reduceMod,Nat.reduceLeDiff,Nat.reduceEqDiff,Nat.reduceBEq,reduceCtorEq]
 obtain ⟨R,hR⟩:∃ R,R=List.replicate (Int.toNat 2100) [T.lit (.int .i16 0)]:=⟨_,rfl⟩
 have hRf:R=(fillP rampF 2100 0).map c16:=by rw [hR,fillP_zero];rfl
 rw [← hR]
 refine ⟨⟨by decide,by decide,by decide⟩,?_⟩
 rw [hRf]
 refine awp_seq (aw_ok _ ?_)
 simp only [go_sem,simprocAttr,decide_true,decide_false,nvA,fillP_len]
 refine awp_loop_f (fun (i:Nat) σ => setB 2 (.row 64 1 (c16 0) (tRows ((fillP rampF 2100 i).map c16))) (setS 33 (vint i) (deadS [7,34,35,36,37,38,39,40,41,42,43,44,45,46] (cleanS σ)))) (fun i=>i≤2100) (fun i=>2100 - i) 0 (weak_self ?_) (Nat.zero_le _) ?_
 ·simp only [go_sem,simprocAttr]
  try simp
 ·intro i hi
  refine aw_ok _ ?_
  simp only [go_sem,simprocAttr]
  refine ⟨fun hlt=>?_,fun hge=>?_⟩
  ·simp only [bxx] at hlt
   have hil:i<2100:=by omega
   have hwi:IntKind.i64.wrap ((i:Int)+1)=((i+1:Nat):Int):=by rw [wrap1 (by omega)];omega
   unfold awS
   simp only [go_sem,simprocAttr,decide_true,decide_false,nvA,fillP_len,wrap64 (x:=16*(i:Int)) (by omega) (by omega),wrap64 (x:=16*(i:Int) - 16384) (by omega) (by omega),wrap16 (x:=16*(i:Int) - 16384) (by omega) (by omega)]
   refine ⟨⟨by omega,by omega⟩,by omega,i+1,weak_self ?_,by omega,by omega⟩
   simp only [go_sem,simprocAttr,decide_true,decide_false,hwi]
   refine ⟨by simp,by simp,by simp,fillP_set rampF hil,by simp,by simp⟩
  ·simp only [bxx] at hge
   have:i=2100:=by omega
   subst this
   rw [ramp_full]
   unfold awS
   simp only [go_sem,simprocAttr,decide_true,decide_false]
   refine awp_seq (aw_ok _ ?_)
   simp only [go_sem,simprocAttr,decide_true,decide_false, ← hv,wrap64 (x:=v) (by omega) (by omega), ← hn,wrap64 (x:=n) (by omega) (by omega)]
   refine awp_seq (aw_ok _ ?_)
   simp only [go_sem,simprocAttr,decide_true,decide_false]
   refine ⟨_,cSampleF n (by omega) r hr,?_⟩
   simp only [go_sem,simprocAttr,decide_true,decide_false]
   refine awp_give [2,3] ?_
   simp only [go_sem,simprocAttr,decide_true,decide_false]
   refine awp_seq (aw_ok _ ?_)
   simp only [go_sem,simprocAttr,decide_true,decide_false]
   refine drawP_of [6,7,11] 18 .done rfl (by kernel_rfl) (by kernel_rfl) (by decide) ?_
   simp only [go_sem,simprocAttr,decide_true,decide_false]
   refine ⟨_,cWhole 1,?_⟩
   simp only [go_sem,simprocAttr,decide_true,decide_false]
   refine ⟨_,cWhole 1,?_⟩
   simp only [go_sem,simprocAttr,decide_true,decide_false]
   refine ⟨_,cCut27 ⟨1,1⟩ ⟨1,1⟩ 1,?_⟩
   simp only [go_sem,simprocAttr,decide_true,decide_false]
   refine ⟨_,pGap r n c1,?_⟩
   simp only [go_sem,simprocAttr,decide_true,decide_false]
   refine ⟨_,hS,?_⟩
   simp only [go_sem,simprocAttr,decide_true,decide_false]
   refine ⟨by kernel_rfl,?_⟩
   obtain ⟨dd,hdd⟩:∃ dd,dd=(z+16384)*r.num - 768000*r.den:=⟨_,rfl⟩
   rw [← hdd] at z0 z1
   have d1:decide (2*dd≤17*r.num)=true:=decide_eq_true z0
   have d2:decide (-2*dd≤17*r.num)=true:=decide_eq_true z1
   refine awp_seq (aw_ok _ ?_)
   simp only [go_sem,simprocAttr,decide_true,decide_false,tchs,t16,nth_one,List.map_cons,List.map_nil]
   refine awp_seq (aw_ok _ ?_)
   simp only [go_sem,simprocAttr,decide_true,decide_false]
   refine drawC_of 15 .done rfl (by kernel_rfl) (by kernel_rfl) (by decide) ?_
   simp only [go_sem,simprocAttr,decide_true,decide_false,nth_one,wrap64 (x:=z) (by omega) (by omega),wrap64 (x:=z+16384) (by omega) (by omega),wrap64 (x:=(z+16384)*r.num) (by omega) (by omega),wrap64 (x:=768000*r.den) (by omega) (by omega), ← hdd,wrap64 (x:=dd) (by omega) (by omega)]
   refine ⟨by kernel_rfl,?_⟩
   refine aw_ok _ ?_
   simp only [go_sem,simprocAttr,decide_true,decide_false,wrap64 (x:=2*dd) (by omega) (by omega),wrap64 (x := -2*dd) (by omega) (by omega),wrap64 (x:=17*r.num) (by omega) (by omega),d1,d2]
   refine ⟨_,cAwake27,?_⟩
   simp only [go_sem,simprocAttr,decide_true,decide_false]
end Go.Proofs.YtjmoncjecpckhaaGreat
