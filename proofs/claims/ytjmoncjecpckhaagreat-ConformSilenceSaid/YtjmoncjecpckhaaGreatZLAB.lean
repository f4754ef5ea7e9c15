/- Proved here: What the statement about silence computes, for use in the proofs of the given statements; conditions stand in each theorem. -/
import Derived.Test.YtjmoncjecpckhaaGreatVM
set_option linter.unusedSimpArgs false
set_option linter.unusedVariables false
set_option linter.unusedSectionVars false
set_option linter.unnecessarySimpa false
namespace Go.Proofs.YtjmoncjecpckhaaGreat
open Go.RowKit
set_option maxRecDepth 4000
abbrev rawC (n k g:Int) (t:T):List T:=[ti n,ti k,ti 0,tstr ⟨#[]⟩,ti 0,ti 0,ti 0,ti 0,tbl false,ti 0,tstr ⟨#[]⟩,ti 0,ti 0,ti 0,ti 0,tbl false,ti 0,ti 0,ti 0,tstr ⟨#[]⟩,ti g,t]
theorem chan_take (m:Nat):List.take m [[ti 0],[ti 1],[ti 2],[ti 3]]=(([0,1,2,3]:List Int).take m).map intC:=by
 rw [List.map_take]
 rfl
theorem blk_imp (m:Nat):ImpR [rawC 3 0 0 (.lit (.slice none 0 0)),rawC 4 1 4096 (.list 1 (intC 0) ((([0,1,2,3]:List Int).take m).map intC))] ((blkT m).map ClipR.c):=by
 exact ⟨⟨imp_refl,imp_refl,imp_refl,imp_refl,imp_refl,imp_refl,imp_refl,imp_refl,imp_refl,imp_refl,imp_refl,imp_refl,imp_refl,imp_refl,imp_refl,imp_refl,imp_refl,imp_refl,imp_refl,imp_refl,imp_refl,imp_nil,trivial⟩,impR_refl _⟩
theorem as_projS (m:Nat) {d1 d2:List T}:∀ (w:World) (E:Env) v,RdV w E (.agg [.t (rawMs ⟨25,1⟩), .t (.list 9 zSeqT [[tstr nmS,ti 25,ti 1,ti 16,ti 16, .lit (.slice none 0 0), .list 1 d1 [[.list 22 d2 [rawC 3 0 0 (.lit (.slice none 0 0)),rawC 4 1 4096 (.list 1 (intC 0) ((([0,1,2,3]:List Int).take m).map intC))]]], .lit (.slice none 0 0),ti m]])]) v→RdV w E (vproj (prjG ⟨25,1⟩ ⟨25,1⟩ ⟨25,1⟩ m [blkT m])) v :=
 as_impAgg (by exact ⟨as_imp (imp_list ⟨iL_app2 _ imp_nil,iL_app2 _ imp_nil,trivial⟩),as_imp (imp_list (by exact ⟨⟨imp_refl,imp_refl,imp_refl,imp_refl,imp_refl,imp_nil,imp_list (by exact ⟨⟨imp_list (blk_imp m),trivial⟩,trivial⟩),imp_nil,imp_refl,trivial⟩,trivial⟩)),trivial⟩)
set_option maxHeartbeats 4000000 in
theorem silence12 (f c:Int) (hf : -2147483648≤f∧f≤2147483647) (hc : 0≤c∧c≤255):CPure Tryz.prog 12 [.t (.lit (.int .i32 f)), .t (.lit (.int .u8 c))] (vbool true):=by
 have k0:=tmod_abs c (n:=5) (by decide)
 have k1:=Int.tmod_nonneg 5 hc.1
 obtain ⟨m,hm⟩:=nat_of k1
 have hm4:m≤4:=by omega
 have s1:=cSilent hm4 f hf.1 hf.2
 obtain ⟨Z,hZ⟩:∃ Z,Z=List.replicate 9 (0:Int):=⟨_,rfl⟩
 rw [← hZ] at s1
 have hSm:=cSame27 [Z] (by simp) (fun x hx=>by
  simp only [List.mem_cons,List.not_mem_nil,or_false] at hx
  rw [hx,hZ]
  decide)
 have hnZ:∀ (d:List T) (i:Nat),i<m→nth d (List.map (fun p=>[T.list 1 (c16 0) (p.map c16)]) (List.replicate m Z)) i = [T.list 1 (c16 0) (Z.map c16)]:=fun d i hi=>by
  unfold nth
  rw [List.getElem?_map,List.getElem?_replicate,if_pos hi]
  rfl
 refine cpure_of Tryz.xen12 Tryz.func12 rfl Tryz.ntmps12 (by rw [Tryz.results12]) ?_
 refine awp_seq (aw_ok _ ?_)
 simp only [go_sem,simprocAttr,decide_true,decide_false]
 refine awp_seq (aw_ok _ ?_)
 simp only [go_sem,simprocAttr,decide_true,decide_false]
 refine awp_seq (aw_ok _ ?_)
 simp only [go_sem,simprocAttr,decide_true,decide_false]
 refine drawL_of [] [5] 8 .done rfl (by kernel_rfl) (by kernel_rfl) (by decide) ?_
 simp only [go_sem,simprocAttr,decide_true,decide_false]
 refine ⟨_,cWhole 25,?_⟩
 simp only [go_sem,simprocAttr,decide_true,decide_false]
 refine flent (cProjS ⟨25,1⟩ (rawC 0 0 0 (.lit (.slice none 0 0))) [rawC 3 0 0 (.lit (.slice none 0 0)),rawC 4 1 4096 (.lit (.slice none 0 0))]) [5,4] rfl (by decide) rfl rfl rfl ?_ ?_
 ·simp only [go_sem,simprocAttr,decide_true,decide_false]
  try simp
 simp only [go_sem,simprocAttr,decide_true,decide_false,List.getElem?_nil]
 refine ⟨by kernel_rfl,?_⟩
 refine awp_seq (aw_ok _ ?_)
 simp only [go_sem,simprocAttr,decide_true,decide_false,hm,wrapN (n:=m) (by omega)]
 refine awp_seq (aw_ok _ ?_)
 simp only [go_sem,simprocAttr,decide_true,decide_false,setRow,nth_zero2,nthV_0,tRows,List.map_cons,List.map_nil,List.set_cons_zero,List.set_cons_succ,List.length_cons,List.length_nil,List.take_succ_cons,List.take_zero,List.drop_succ_cons,List.drop_zero,List.cons_append,List.nil_append]
 refine awp_seq (aw_ok _ ?_)
 simp only [go_sem,simprocAttr,decide_true,decide_false]
 refine drawP_of [7] 13 .done rfl (by kernel_rfl) (by kernel_rfl) (by decide) ?_
 simp only [go_sem,simprocAttr,decide_true,decide_false,setRow,nth_zero2,nthV_0,nthV_1,tRows,List.map_cons,List.map_nil,List.set_cons_zero,List.set_cons_succ,List.length_cons,List.length_nil,List.take_succ_cons,List.take_zero,List.drop_succ_cons,List.drop_zero,List.cons_append,List.nil_append]
 refine ⟨⟨by omega,by omega⟩,by kernel_rfl,?_⟩
 refine awp_seq (aw_ok _ ?_)
 simp only [go_sem,simprocAttr,decide_true,decide_false,wrap64 (x:=f) (by omega) (by omega)]
 refine lcall_give ?_
 simp only [go_sem,simprocAttr,decide_true,decide_false]
 rw [chan_take m]
 refine ⟨_,cpure_as (.cons (as_projS m) (.cons as_refl (.cons as_refl (.cons as_refl (.cons as_nilL .nil))))) s1,?_⟩
 simp only [go_sem,simprocAttr,decide_true,decide_false]
 refine awp_seq (aw_ok _ ?_)
 simp only [go_sem,simprocAttr,decide_true,decide_false,tchs,t16,List.length_map,List.length_replicate]
 refine awp_seq (aw_ok _ ?_)
 simp only [go_sem,simprocAttr,decide_true,decide_false]
 refine awp_loop_f (fun (i:Nat) σ => setS 55 (vint i) (deadS [10,56,57,58,59,60,61,62,63,64,65,66,67] (cleanS σ))) (fun i=>i≤m) (fun i=>m - i) 0 (weak_self ?_) (Nat.zero_le _) ?_
 ·simp only [go_sem,simprocAttr]
  try simp
 ·intro i hi
  refine aw_ok _ ?_
  simp only [go_sem,simprocAttr]
  refine ⟨fun hlt=>?_,fun hge=>?_⟩
  ·simp only [bxx] at hlt
   rw [List.length_replicate] at hlt
   have hil:i<m:=by omega
   have hwi:IntKind.i64.wrap ((i:Int)+1)=((i+1:Nat):Int):=by rw [wrap1 (by omega)];omega
   unfold awS
   simp only [go_sem,simprocAttr,decide_true,decide_false]
   refine drawP_of [4,5,6] 9 .done rfl (by kernel_rfl) (by kernel_rfl) (by decide) ?_
   simp only [go_sem,simprocAttr,decide_true,decide_false,List.length_map,List.length_replicate,hnZ _ _ hil]
   subst hZ
   refine ⟨⟨by omega,by omega⟩,by unfold maxLen;omega,_,hSm,?_⟩
   simp only [go_sem,simprocAttr,decide_true,decide_false]
   refine ⟨by kernel_rfl,?_⟩
   refine ⟨i+1,weak_self ?_,by omega,by omega⟩
   simp only [go_sem,simprocAttr,decide_true,decide_false,hwi]
   try simp
  ·simp only [bxx] at hge
   unfold awS
   simp only [go_sem,simprocAttr,decide_true,decide_false]
   refine aw_ok _ ?_
   simp only [go_sem,simprocAttr,decide_true,decide_false]
   refine ⟨_,cAwake27,?_⟩
   simp only [go_sem,simprocAttr,decide_true,decide_false]
end Go.Proofs.YtjmoncjecpckhaaGreat
