/- Proved here: What the statement about split clips computes, for use in the proofs of the given statements; conditions stand in each theorem. -/
import Derived.Test.YtjmoncjecpckhaaGreatVJ
import Derived.Test.YtjmoncjecpckhaaGreatZG
set_option linter.unusedSimpArgs false
set_option linter.unusedVariables false
set_option linter.unusedSectionVars false
set_option linter.unnecessarySimpa false
namespace Go.Proofs.YtjmoncjecpckhaaGreat
open Go.RowKit
set_option maxRecDepth 4000
theorem mask1 (w:Int):bits .and .i64 w 1=0∨bits .and .i64 w 1=1:=by
 have hb:(BitVec.ofInt 64 (1:Int)).toNat=1:=by decide
 have hx:((BitVec.ofInt 64 w) &&& (BitVec.ofInt 64 (1:Int))).toNat≤1:=by
  rw [BitVec.toNat_and,hb]
  exact Nat.and_le_right
 have e:bits .and .i64 w 1=IntKind.i64.wrap ((BitVec.ofInt 64 w &&& BitVec.ofInt 64 (1:Int)).toNat:Int):=rfl
 rw [e]
 generalize ((BitVec.ofInt 64 w &&& BitVec.ofInt 64 (1:Int)).toNat)=n at hx ⊢
 rw [wrapN (by omega)]
 omega
theorem rate2 (w:Int) (d:List T):∃ r:RatR,RateS r∧23*r.den≤r.num∧nth d [[ti 25,ti 1],[ti 30000,ti 1001]] (bits .and .i64 w 1).toNat = [ti r.num,ti r.den]∧0≤bits .and .i64 w 1∧bits .and .i64 w 1<2:=by
 rcases mask1 w with e | e
 ·rw [e]
  exact ⟨⟨25,1⟩,rateS25,by decide,rfl,by decide,by decide⟩
 ·rw [e]
  exact ⟨⟨30000,1001⟩,rateS2997,by decide,rfl,by decide,by decide⟩
theorem beg10 {r:RatR} (hr:RateS r) (h23 : 23*r.den≤r.num) (k:Nat) (hk:k≤10) : 0≤begS r k∧begS r k≤100000:=by
 have hn:=hr.n
 have hd:=hr.d
 have hp : 0≤2*(k:Int)*(48000*r.den):=Int.mul_nonneg (by omega) (by omega)
 have hq : 2*(k:Int)*(48000*r.den)≤20*(48000*r.den):=Int.mul_le_mul_of_nonneg_right (by omega) (by omega)
 unfold begS
 refine ⟨Int.ediv_nonneg (by omega) (by omega),?_⟩
 refine Int.le_of_lt_add_one (Int.ediv_lt_of_lt_mul (by omega) ?_)
 omega
theorem pLst2 (r:RatR) (l:List ClipR) {d1 d2:List T}:CPure Tryz.prog 18 [vrat r, .t (.list 1 d1 [[.list 22 d2 (l.map ClipR.c)]])] (vproj (prjG r r r 1 [l])) :=
 cpure_as (.cons as_refl (.cons (as_imp (imp_list (by exact ⟨⟨imp_list (impR_refl _),trivial⟩,trivial⟩))) .nil)) (cProject27 r [l])
set_option maxHeartbeats 4000000 in
theorem splits14 (L:List Int) (y f w:Int) (hy : 0≤y∧y≤255) (hf : 0≤f∧f≤65535) (hw:I64 w):CPure Tryz.prog 14 [.t (tints L), .t (.lit (.int .u8 y)), .t (.lit (.int .u16 f)),vint w] (vbool true):=by
 obtain ⟨r,hr,h23,hsel,e0,e3⟩:=rate2 w [ti 0,ti 0]
 have hS:=cSounds L 9000 (by decide)
 have hA:=sounds_two L 9000 (by decide)
 have k0:=tmod_abs y (n:=11) (by decide)
 have k1:=Int.tmod_nonneg 11 hy.1
 obtain ⟨k,hk⟩:=nat_of k1
 have hk10:k≤10:=by omega
 have j0:=tmod_abs f (n:=3) (by decide)
 have j1:=Int.tmod_nonneg 3 hf.1
 obtain ⟨j,hj⟩:=nat_of j1
 obtain ⟨b0,b1⟩:=beg10 hr h23 k hk10
 obtain ⟨m,hm⟩:∃ m,m=max 0 (begS r k - 10+(j:Int)*700):=⟨_,rfl⟩
 have ca:=cCutI3 tS_cut (by decide) (by decide) 0 (k:Int) (by omega) (by omega) (by omega) (by omega) (by omega) (by decide)
 have cb:=cCutI3 tS_cut (by decide) (by decide) (k:Int) 12 (by omega) (by omega) (by omega) (by omega) (by omega) (by decide)
 rw [Int.sub_zero] at ca
 have hok:=okS_k hk10
 obtain ⟨hfr,hfit⟩:=piece_fr hk10
 have s1:=sndS hr hA okS_t (fun x hx=>(tS_cut.gd x hx).fit) m (by omega) (by omega)
 have s2:=sndS hr hA hok hfit m (by omega) (by omega)
 rw [split_same _ _ _ hk10] at s2
 have l1:=sndV_len (prjE r r (soundsA L 9000)) [tS] r m 20 0
 generalize sndV (prjE r r (soundsA L 9000)) [tS] r m 20 0=U at s1 s2 l1
 have hAB:(pieceS k).length≤64:=(track_all (okS_trk hok hfit).ok).1
 unfold pieceS at s2 hAB
 generalize pk (cutT tS 0 (k:Int))=PA at ca s2 hAB
 generalize pk (cutT tS (k:Int) (12 - (k:Int)))=PB at cb s2 hAB
 rw [List.length_append] at hAB
 have hSm:=cSame27 [U] (by simp) (fun x hx=>by
  simp only [List.mem_cons,List.not_mem_nil,or_false] at hx
  rw [hx,l1]
  decide)
 refine cpure_of Tryz.xen14 Tryz.func14 rfl Tryz.ntmps14 (by rw [Tryz.results14]) ?_
 refine awp_seq (aw_ok _ ?_)
 simp only [go_sem,simprocAttr,decide_true,decide_false]
 refine awp_seq (aw_ok _ ?_)
 simp only [go_sem,simprocAttr,decide_true,decide_false]
 refine ⟨_,cWhole 25,?_⟩
 simp only [go_sem,simprocAttr,decide_true,decide_false,hsel]
 refine ⟨⟨e0,e3⟩,by omega,?_⟩
 refine awp_seq (aw_ok _ ?_)
 simp only [go_sem,simprocAttr,decide_true,decide_false]
 refine ⟨_,hS,?_⟩
 simp only [go_sem,simprocAttr,decide_true,decide_false]
 refine awp_seq (aw_ok _ ?_)
 simp only [go_sem,simprocAttr,decide_true,decide_false]
 refine ⟨_,cWhole 0,?_⟩
 simp only [go_sem,simprocAttr,decide_true,decide_false]
 refine ⟨_,cCut27 ⟨0,1⟩ ⟨3,2⟩ 3,?_⟩
 simp only [go_sem,simprocAttr,decide_true,decide_false]
 refine ⟨_,cCut27 ⟨5,2⟩ ⟨-1,2⟩ 4,?_⟩
 simp only [go_sem,simprocAttr,decide_true,decide_false]
 refine ⟨_,cWhole 1,?_⟩
 simp only [go_sem,simprocAttr,decide_true,decide_false]
 refine ⟨_,cWhole 1,?_⟩
 simp only [go_sem,simprocAttr,decide_true,decide_false]
 refine ⟨_,cCut27 ⟨1,1⟩ ⟨1,1⟩ 3,?_⟩
 simp only [go_sem,simprocAttr,decide_true,decide_false]
 refine awp_seq (aw_ok _ ?_)
 simp only [go_sem,simprocAttr,decide_true,decide_false,setRow,nth_zero2,nth_one2,nthV_0,nthV_1,tRows,List.map_cons,List.map_nil,List.set_cons_zero,List.set_cons_succ,List.length_cons,List.length_nil,List.take_succ_cons,List.take_zero,List.drop_succ_cons,List.drop_zero,List.cons_append,List.nil_append]
 refine awp_seq (aw_ok _ ?_)
 simp only [go_sem,simprocAttr,decide_true,decide_false,hk,wrapN (n:=k) (by omega)]
 refine awp_give [2] ?_
 simp only [go_sem,simprocAttr,decide_true,decide_false]
 refine awp_seq (aw_ok _ ?_)
 simp only [go_sem,simprocAttr,decide_true,decide_false]
 refine icall_io (cio_args (.cons (as_imp (imp_list (impR_refl _))) (.cons as_refl (.cons as_refl .nil))) ca) [] rfl (by omega) (by decide) ?_ rfl rfl rfl rfl ?_
 ·simp only [go_sem,simprocAttr,decide_true,decide_false]
 simp only [go_sem,simprocAttr,decide_true,decide_false,List.getElem?_nil]
 refine awp_seq (aw_ok _ ?_)
 simp only [go_sem,simprocAttr,decide_true,decide_false]
 refine icall_io (cio_args (.cons (as_imp (imp_list (impR_refl _))) (.cons as_refl (.cons as_refl .nil))) cb) [] rfl (by omega) (by decide) ?_ rfl rfl rfl rfl ?_
 ·simp only [go_sem,simprocAttr,decide_true,decide_false]
 simp only [go_sem,simprocAttr,decide_true,decide_false,List.getElem?_nil]
 refine awp_seq (aw_ok _ ?_)
 simp only [go_sem,simprocAttr,decide_true,decide_false]
 refine ⟨_,cSampleF (k:Int) (by omega) r hr,?_⟩
 simp only [go_sem,simprocAttr,decide_true,decide_false]
 refine awp_seq (aw_ok _ ?_)
 simp only [go_sem,simprocAttr,decide_true,decide_false,hj,wrapN (n:=j) (by omega),wrap64 (x:=begS r k - 10) (by omega) (by omega),wrap64 (x:=(j:Int)*700) (by omega) (by omega),wrap64 (x:=begS r k - 10+(j:Int)*700) (by omega) (by omega), ← hm]
 refine awp_seq (aw_ok _ ?_)
 simp only [go_sem,simprocAttr,decide_true,decide_false]
 refine lcall_give ?_
 simp only [go_sem,simprocAttr,decide_true,decide_false]
 refine ⟨_,pLst2 r tS,?_⟩
 simp only [go_sem,simprocAttr,decide_true,decide_false]
 refine ⟨_,s1,?_⟩
 simp only [go_sem,simprocAttr,decide_true,decide_false]
 refine awp_seq (aw_ok _ ?_)
 simp only [go_sem,simprocAttr,decide_true,decide_false]
 refine drawQ_of [4] [3] 14 .done rfl (by kernel_rfl) (by kernel_rfl) (by decide) ?_
 simp only [go_sem,simprocAttr,decide_true,decide_false]
 rw [← List.map_append]
 refine ⟨⟨by unfold maxLen;omega,by omega⟩,_,pLst2 r (PA++PB),?_⟩
 simp only [go_sem,simprocAttr,decide_true,decide_false]
 refine ⟨_,s2,?_⟩
 simp only [go_sem,simprocAttr,decide_true,decide_false]
 refine ⟨by kernel_rfl,?_⟩
 refine aw_ok _ ?_
 simp only [go_sem,simprocAttr,decide_true,decide_false]
 refine ⟨_,hSm,?_⟩
 simp only [go_sem,simprocAttr,decide_true,decide_false]
 refine ⟨_,cAwake27,?_⟩
 simp only [go_sem,simprocAttr,decide_true,decide_false]
end Go.Proofs.YtjmoncjecpckhaaGreat
