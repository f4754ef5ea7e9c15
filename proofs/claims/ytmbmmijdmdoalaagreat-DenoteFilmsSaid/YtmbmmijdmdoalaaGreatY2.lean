/- Proved here: The simplified expression, for use in the proofs of the given statements; conditions stand in each theorem. -/
import Derived.Test.YtmbmmijdmdoalaaGreatY1
import Derived.Test.YtmbmmijdmdoalaaGreatZV
set_option linter.unusedSimpArgs false
set_option linter.unusedVariables false
set_option linter.unusedSectionVars false
set_option linter.unnecessarySimpa false
namespace Go.Proofs.YtmbmmijdmdoalaaGreat
open Go.RowKit
set_option maxRecDepth 4000
def opE:ExprR→Int
 | .mk op .. => op
def zeroE:ExprR := .mk 0 ⟨#[]⟩ 0 0 0 0 ⟨#[]⟩ []
def redE (op:Int) (media:ByteArray) (frame num den param:Int) (text:ByteArray) (args:List ExprR):ExprR :=
 match args with
 | [x,y]=>if eqE x y=true then x else if (op==4&&opE x==0)=true then (if decide (param > 16)=true then y else zeroE) else .mk op media frame num den param text [x,y]
 | args => .mk op media frame num den param text args
theorem redE_two (op:Int) (media:ByteArray) (frame num den param:Int) (text:ByteArray) (x y:ExprR):redE op media frame num den param text [x,y] =
  if eqE x y=true then x else if (op==4&&opE x==0)=true then (if decide (param > 16)=true then y else zeroE) else .mk op media frame num den param text [x,y]:=rfl
theorem pureW_zeroE {h:Heap}:pureW (vexpr zeroE) (.agg [vint 0,vstr ⟨#[]⟩,vint 0,vint 0,vint 0,vint 0,vstr ⟨#[]⟩, .t (.lit (.slice none 0 0))]) h:=by
 have e:V.lend h (.agg [vint 0,vstr ⟨#[]⟩,vint 0,vint 0,vint 0,vint 0,vstr ⟨#[]⟩, .t (.lit (.slice none 0 0))]) = .agg [vint 0,vstr ⟨#[]⟩,vint 0,vint 0,vint 0,vint 0,vstr ⟨#[]⟩, .t (.lit (.slice none 0 0))]:=rfl
 refine ⟨by rw [e];rfl,fun w E v hv=>?_⟩
 rw [e] at hv
 exact as_agg (by exact ⟨.inl rfl, .inl rfl, .inl rfl, .inl rfl, .inl rfl, .inl rfl, .inl rfl, .inr ⟨rfl,_,_,rfl⟩,trivial⟩) w E v hv
theorem cst0:((0:Nat):Int)=0:=rfl
theorem cst1:((1:Nat):Int)=1:=rfl
theorem cst2:((2:Nat):Int)=2:=rfl
theorem cw1:IntKind.i64.wrap 1=1:=by decide
theorem cw2:IntKind.i64.wrap 2=2:=by decide
theorem nth_1a (d a:List T):nth d [a] 0=a:=rfl
theorem nth2a (d a b:List T):nth d [a,b] 0=a:=rfl
theorem nth2b (d a b:List T):nth d [a,b] 1=b:=rfl
theorem cReduced2 (op:Int) (media:ByteArray) (frame num den param:Int) (text:ByteArray) (x y:ExprR) :
  CPure Tryz.prog 198 [vex op media frame num den param text [x,y]] (vexpr (redE op media frame num den param text [x,y])):=by
 obtain ⟨o1,m1,fr1,nu1,de1,pa1,te1,ar1⟩:=x
 obtain ⟨o2,m2,fr2,nu2,de2,pa2,te2,ar2⟩:=y
 refine cpure_ofW Tryz.xen198 Tryz.func198 rfl Tryz.ntmps198 (by rw [Tryz.results198]) (aw_ok _ ?_)
 simp only [go_sem,↓reduceIte,Nat.reduceAdd,Nat.reduceSub,reduceCtorEq,Bool.and_true,List.map_cons,List.map_nil,List.length_cons,List.length_nil,ExprR.c,cs_eq]
 refine ⟨fun h=>absurd h (by decide),fun _=>?_⟩
 unfold awS
 simp only [go_sem]
 refine drawR_of [0,1,2,3,4,5,6,7,8] .done rfl (by kernel_rfl) (by kernel_rfl) (by decide) ?_
 simp only [go_sem,↓reduceIte,Nat.reduceAdd,Nat.reduceLeDiff,reduceCtorEq,Int.reduceLE,Int.reduceToNat,Bool.and_true,nth2a,nth2b,ExprR.c,cs_eq]
 refine ⟨by decide,by decide,_,cSameE (.mk o1 m1 fr1 nu1 de1 pa1 te1 ar1) (.mk o2 m2 fr2 nu2 de2 pa2 te2 ar2),?_⟩
 simp only [go_sem]
 refine ⟨fun h1=>?_,fun h1=>?_⟩
 ·unfold awS
  simp only [go_sem,↓reduceIte,Nat.reduceAdd,Nat.reduceLeDiff,reduceCtorEq,Int.reduceLE,Int.reduceToNat,Bool.and_true,nth2a,ExprR.c,cs_eq]
  refine ⟨by decide,?_⟩
  rw [redE_two,if_pos h1]
  exact pureW_self rfl rfl
 ·unfold awS
  simp only [go_sem,↓reduceIte,Nat.reduceAdd,reduceCtorEq,Int.reduceLE,Int.reduceToNat,Bool.true_and,nth2a,ExprR.c,cs_eq]
  rw [redE_two,if_neg (by rw [h1];exact Bool.false_ne_true)]
  refine ⟨fun _=>by decide,fun h2=>?_,fun h2=>?_⟩
  ·rw [show (op==4&&opE (.mk o1 m1 fr1 nu1 de1 pa1 te1 ar1)==0)=true from h2,if_pos rfl]
   unfold awS
   simp only [go_sem,↓reduceIte,reduceCtorEq]
   refine ⟨fun h3=>?_,fun h3=>?_⟩
   ·rw [if_pos h3]
    unfold awS
    simp only [go_sem,↓reduceIte,Nat.reduceAdd,Nat.reduceLeDiff,reduceCtorEq,Int.reduceLE,Int.reduceToNat,Bool.and_true,nth2b,ExprR.c,cs_eq]
    refine ⟨by decide,?_⟩
    exact pureW_self rfl rfl
   ·rw [if_neg (by rw [h3];exact Bool.false_ne_true)]
    unfold awS
    simp only [go_sem,↓reduceIte,Nat.reduceAdd,Nat.reduceLeDiff,Bool.and_true]
    exact pureW_zeroE
  ·rw [show (op==4&&opE (.mk o1 m1 fr1 nu1 de1 pa1 te1 ar1)==0)=false from h2,if_neg Bool.false_ne_true]
   unfold awS
   simp only [go_sem,↓reduceIte,Nat.reduceAdd,Nat.reduceLeDiff,reduceCtorEq,Bool.and_true]
   exact pureW_self rfl rfl
theorem cReducedN (op:Int) (media:ByteArray) (frame num den param:Int) (text:ByteArray) (args:List ExprR) (h:args.length<2) :
  CPure Tryz.prog 198 [vex op media frame num den param text args] (vexpr (.mk op media frame num den param text args)):=by
 refine cpure_of Tryz.xen198 Tryz.func198 rfl Tryz.ntmps198 (by rw [Tryz.results198]) (aw_ok _ ?_)
 simp only [go_sem,↓reduceIte,Nat.reduceAdd,Nat.reduceSub,reduceCtorEq]
 refine ⟨fun _=>?_,fun h2=>?_⟩
 ·unfold awS
  simp only [go_sem,↓reduceIte,Nat.reduceAdd,Nat.reduceLeDiff,reduceCtorEq]
 ·exfalso
  simp only [bne_eq_false_iff_eq] at h2
  omega
mutual
def simE:ExprR→ExprR
 | .mk op media frame num den param text args=>redE op media frame num den param text (simEs args)
def simEs:List ExprR→List ExprR
 | []=>[]
 | e::es=>simE e::simEs es
end
theorem simE_one (op:Int) (media:ByteArray) (frame num den param:Int) (text:ByteArray) (a:ExprR):simE (.mk op media frame num den param text [a]) = .mk op media frame num den param text [simE a]:=by
 conv=>lhs;unfold simE
 simp only [simEs]
 rfl
theorem simE_two (op:Int) (media:ByteArray) (frame num den param:Int) (text:ByteArray) (a b:ExprR):simE (.mk op media frame num den param text [a,b])=redE op media frame num den param text [simE a,simE b]:=by
 conv=>lhs;unfold simE
 simp only [simEs]
theorem cSimple1:∀ (m:Nat) (e:ExprR),SizeOf.sizeOf e<m→e.fit→validE e=true→CPure Tryz.prog 135 [vexpr e] (vexpr (simE e))
 | 0,e,h,_,_=>absurd h (Nat.not_lt_zero _)
 | m+1, .mk op media frame num den param text args,hm,hfit,hv=>by
  simp only [ExprR.fit] at hfit
  obtain ⟨f1,f2,f3,f4,f5,f6⟩:=hfit
  unfold validE at hv
  rw [Bool.and_eq_true,validEs_eq,List.all_eq_true] at hv
  have hl:args.length≤2:=fields_len hv.1
  have ih:∀ e∈args,CPure Tryz.prog 135 [vexpr e] (vexpr (simE e)):=fun e he=>cSimple1 m e (by have:=arg_lt he op media frame num den param text;omega) (fits_mem f6 e he) (hv.2 e he)
  rw [vexpr_mk]
  match args,hl,ih with
  | [],_,_ =>
   refine cpure_ofW Tryz.xen135 Tryz.func135 rfl Tryz.ntmps135 (by rw [Tryz.results135]) (aw_ok _ ?_)
   simp only [go_sem,↓reduceIte,Nat.reduceAdd,Nat.reduceSub,reduceCtorEq,Bool.and_true,List.map_nil,List.length_nil]
   refine icall_of Tryz.xen197 Tryz.func197 rfl Tryz.ntmps197 (by rw [Tryz.results197]) (aw_ok _ ?_)
   simp only [go_sem,↓reduceIte,Nat.reduceSub,List.map_nil,List.length_nil]
   intro b
   refine ⟨fun _=>?_,fun _=>?_⟩
   ·unfold awS
    simp only [go_sem,↓reduceIte,Nat.reduceAdd,Nat.reduceLeDiff,reduceCtorEq,Bool.and_true,List.length_nil,cst0]
    refine awp_loopL ?_
    refine awpL_step (aw_ok _ ?_)
    simp only [go_sem,↓reduceIte,Nat.reduceAdd,Nat.reduceLeDiff,reduceCtorEq,Int.reduceLT,decide_false,Bool.and_true]
    refine ⟨_,cpure_as (.cons (as_agg (by exact ⟨.inl rfl, .inl rfl, .inl rfl, .inl rfl, .inl rfl, .inl rfl, .inl rfl, .inr ⟨rfl,_,_,rfl⟩,trivial⟩)) .nil) (cReducedN op media frame num den param text [] (by decide)),?_⟩
    simp only [go_sem,↓reduceIte,Nat.reduceAdd,Nat.reduceLeDiff,Bool.and_true]
    exact pureW_self rfl rfl
   ·unfold awS
    simp only [go_sem,Nat.reducePow,Nat.reduceLT,↓reduceIte,Nat.reduceAdd,Nat.reduceMul,Nat.reduceLeDiff,Nat.reduceEqDiff,reduceCtorEq,Bool.and_true,List.map_nil,List.length_nil,cst0]
    refine ⟨by decide,?_⟩
    refine awp_loopL ?_
    refine awpL_step (aw_ok _ ?_)
    simp only [go_sem,↓reduceIte,Nat.reduceAdd,Nat.reduceLeDiff,reduceCtorEq,Int.reduceLT,decide_false,Bool.and_true,Bool.and_false]
    refine lcall_give ?_
    simp only [go_sem,↓reduceIte,Nat.reduceAdd,Nat.reduceEqDiff,Bool.and_true]
    refine ⟨_,cReducedN op media frame num den param text [] (by decide),?_⟩
    simp only [go_sem,↓reduceIte,Nat.reduceAdd,Nat.reduceLeDiff,Bool.and_true]
    exact pureW_self rfl rfl
  | [a],_,ih =>
   have iha:=ih a (by simp)
   rcases hsa:simE a with ⟨o2,m2,fr2,nu2,de2,pa2,te2,ar2⟩
   have hsim:simE (.mk op media frame num den param text [a]) = .mk op media frame num den param text [simE a]:=simE_one ..
   rw [hsim,hsa]
   rw [hsa] at iha
   obtain ⟨o1,m1,fr1,nu1,de1,pa1,te1,ar1⟩:=a
   refine cpure_ofW Tryz.xen135 Tryz.func135 rfl Tryz.ntmps135 (by rw [Tryz.results135]) (aw_ok _ ?_)
   simp only [go_sem,↓reduceIte,Nat.reduceAdd,Nat.reduceSub,reduceCtorEq,Bool.and_true,List.map_nil,List.map_cons,List.length_cons,List.length_nil]
   refine icall_of Tryz.xen197 Tryz.func197 rfl Tryz.ntmps197 (by rw [Tryz.results197]) (aw_ok _ ?_)
   simp only [go_sem,↓reduceIte,Nat.reduceSub,reduceCtorEq,List.map_nil,List.map_cons,List.length_cons,List.length_nil,ExprR.c,cs_eq]
   intro b hnb
   refine ⟨fun hb=>absurd (hnb hb) (by simp),fun _=>?_⟩
   unfold awS
   simp only [go_sem,Nat.reducePow,Nat.reduceLT,↓reduceIte,Nat.reduceAdd,Nat.reduceMul,Nat.reduceLeDiff,Nat.reduceEqDiff,reduceCtorEq,Bool.and_true,List.map_nil,List.map_cons,List.length_cons,List.length_nil,ExprR.c,cs_eq,cst1]
   refine ⟨by decide,?_⟩
   refine awp_loopL ?_
   refine awpL_step (aw_ok _ ?_)
   simp only [go_sem,Nat.reduceLT,↓reduceIte,Int.reduceLT,Int.reduceLE,Int.reduceToNat,decide_true,cst1]
   refine ⟨by decide,?_⟩
   simp only [go_sem,↓reduceIte,Nat.reduceAdd,Nat.reduceLeDiff,Bool.and_true,nth_1a]
   refine drawC_of 7 .done rfl (by kernel_rfl) (by kernel_rfl) (by decide) ?_
   simp only [go_sem,↓reduceIte,Nat.reduceAdd,Nat.reduceLeDiff,reduceCtorEq,Bool.and_true]
   refine ⟨_,iha,?_⟩
   simp only [go_sem,Nat.reduceLT,↓reduceIte,Nat.reduceAdd,Nat.reduceLeDiff,Nat.reduceEqDiff,Int.reduceLT,Int.reduceLE,Int.reduceAdd,Int.reduceToNat,Bool.and_true,cst1,cw1]
   refine ⟨by kernel_rfl,?_⟩
   refine awpL_step (aw_ok _ ?_)
   simp only [go_sem,↓reduceIte,Nat.reduceAdd,Nat.reduceLeDiff,reduceCtorEq,Int.reduceLT,decide_false,Bool.and_true,Bool.and_false]
   refine lcall_give ?_
   simp only [go_sem,↓reduceIte,Nat.reduceAdd,Nat.reduceEqDiff,Bool.and_true,tRows,nth,Option.getD_some,List.getElem?_cons_zero,List.map_cons,List.map_nil,List.set_cons_zero,List.set_cons_succ,List.drop_succ_cons,List.drop_zero]
   have hc:=cReducedN op media frame num den param text [.mk o2 m2 fr2 nu2 de2 pa2 te2 ar2] (by simp)
   simp only [vex,texprs,List.map_cons,List.map_nil,ExprR.c,cs_eq] at hc
   refine ⟨_,hc,?_⟩
   simp only [go_sem,↓reduceIte,Nat.reduceAdd,Nat.reduceLeDiff,Bool.and_true]
   exact pureW_self rfl rfl
  | [a,b],_,ih =>
   have iha:=ih a (by simp)
   have ihb:=ih b (by simp)
   rcases hsa:simE a with ⟨o2,m2,fr2,nu2,de2,pa2,te2,ar2⟩
   rcases hsb:simE b with ⟨o4,m4,fr4,nu4,de4,pa4,te4,ar4⟩
   rw [simE_two,hsa,hsb]
   rw [hsa] at iha
   rw [hsb] at ihb
   obtain ⟨o1,m1,fr1,nu1,de1,pa1,te1,ar1⟩:=a
   obtain ⟨o3,m3,fr3,nu3,de3,pa3,te3,ar3⟩:=b
   refine cpure_ofW Tryz.xen135 Tryz.func135 rfl Tryz.ntmps135 (by rw [Tryz.results135]) (aw_ok _ ?_)
   simp only [go_sem,↓reduceIte,Nat.reduceAdd,Nat.reduceSub,reduceCtorEq,Bool.and_true,List.map_nil,List.map_cons,List.length_cons,List.length_nil]
   refine icall_of Tryz.xen197 Tryz.func197 rfl Tryz.ntmps197 (by rw [Tryz.results197]) (aw_ok _ ?_)
   simp only [go_sem,↓reduceIte,Nat.reduceSub,reduceCtorEq,List.map_nil,List.map_cons,List.length_cons,List.length_nil,ExprR.c,cs_eq]
   intro b hnb
   refine ⟨fun hb=>absurd (hnb hb) (by simp),fun _=>?_⟩
   unfold awS
   simp only [go_sem,Nat.reducePow,Nat.reduceLT,↓reduceIte,Nat.reduceAdd,Nat.reduceMul,Nat.reduceLeDiff,Nat.reduceEqDiff,reduceCtorEq,Bool.and_true,List.map_nil,List.map_cons,List.length_cons,List.length_nil,ExprR.c,cs_eq,cst2]
   refine ⟨by decide,?_⟩
   refine awp_loopL ?_
   refine awpL_step (aw_ok _ ?_)
   simp only [go_sem,Nat.reduceLT,↓reduceIte,Nat.reduceAdd,Int.reduceLT,Int.reduceLE,Int.reduceToNat,decide_true,cst2]
   refine ⟨by decide,?_⟩
   simp only [go_sem,↓reduceIte,Nat.reduceAdd,Nat.reduceLeDiff,Bool.and_true,nth2a]
   refine drawC_of 7 .done rfl (by kernel_rfl) (by kernel_rfl) (by decide) ?_
   simp only [go_sem,↓reduceIte,Nat.reduceAdd,Nat.reduceLeDiff,reduceCtorEq,Bool.and_true]
   refine ⟨_,iha,?_⟩
   simp only [go_sem,Nat.reduceLT,↓reduceIte,Nat.reduceAdd,Nat.reduceLeDiff,Nat.reduceEqDiff,Int.reduceLT,Int.reduceLE,Int.reduceAdd,Int.reduceToNat,Bool.and_true,cst2,cw1]
   refine ⟨by kernel_rfl,?_⟩
   refine awpL_step (aw_ok _ ?_)
   simp only [go_sem,Nat.reduceLT,↓reduceIte,Nat.reduceAdd,Nat.reduceLeDiff,Nat.reduceEqDiff,Int.reduceLT,Int.reduceLE,Int.reduceToNat,decide_true,Bool.and_true,cst2,tRows,nthV,nth,Option.getD_some,List.getElem?_cons_zero,List.getElem?_cons_succ,List.map_cons,List.map_nil,List.set_cons_zero,List.set_cons_succ,List.drop_succ_cons,List.drop_zero]
   refine drawC_of 7 .done rfl (by kernel_rfl) (by kernel_rfl) (by decide) ?_
   simp only [go_sem,↓reduceIte,Nat.reduceAdd,Nat.reduceLeDiff,reduceCtorEq,Bool.and_true]
   refine ⟨_,ihb,?_⟩
   simp only [go_sem,Nat.reduceLT,↓reduceIte,Nat.reduceAdd,Nat.reduceLeDiff,Nat.reduceEqDiff,Int.reduceLT,Int.reduceLE,Int.reduceAdd,Int.reduceToNat,Bool.and_true,cst2,cw2]
   refine ⟨by kernel_rfl,?_⟩
   refine awpL_step (aw_ok _ ?_)
   simp only [go_sem,↓reduceIte,Nat.reduceAdd,Nat.reduceLeDiff,reduceCtorEq,Int.reduceLT,decide_false,Bool.and_true,Bool.and_false]
   refine lcall_give ?_
   simp only [go_sem,↓reduceIte,Nat.reduceAdd,Nat.reduceEqDiff,Bool.and_true,nthV,Option.getD_some,List.getElem?_cons_zero,List.getElem?_cons_succ,List.map_cons,List.map_nil,List.set_cons_zero,List.set_cons_succ,List.drop_succ_cons,List.drop_zero]
   have hc:=cReduced2 op media frame num den param text (.mk o2 m2 fr2 nu2 de2 pa2 te2 ar2) (.mk o4 m4 fr4 nu4 de4 pa4 te4 ar4)
   simp only [vex,texprs,List.map_cons,List.map_nil,ExprR.c,cs_eq] at hc
   rcases hred:redE op media frame num den param text [.mk o2 m2 fr2 nu2 de2 pa2 te2 ar2, .mk o4 m4 fr4 nu4 de4 pa4 te4 ar4] with ⟨o5,m5,fr5,nu5,de5,pa5,te5,ar5⟩
   rw [hred] at hc
   refine ⟨_,hc,?_⟩
   simp only [go_sem,↓reduceIte,Nat.reduceAdd,Nat.reduceLeDiff,Bool.and_true]
   exact pureW_self rfl rfl
  | _::_::_::_,h,_=>simp at h
open Go.RowKit
set_option maxRecDepth 4000
theorem nopSimple:NopD Tryz.prog 133:=by
 refine ⟨Tryz.xen133,fun cap w=>callsDIn_of_wpSIn Tryz.func133 rfl trivial fun c₀ cs hu=>?_⟩
 have k1 : 1<cap.size+(4 - cap.size):=by omega
 have k2 : 2<cap.size+(4 - cap.size):=by omega
 have k3 : 1<max 4 cap.size:=by omega
 have k4 : 2<max 4 cap.size:=by omega
 apply wpSIn_seq
 apply wpSIn_region
 simp [wpOpsSIn,Fence.wide,go_sem,recoverD,hu,Tryz.ntmps133,Exit.thenS,k1,k2,k3,k4]
 refine wpSIn_cond (t:=false) (by simp [Act.eval,k2,k4]) ?_
 refine wpSIn_of_wpIn rfl (wpIn_skip ?_)
 refine ⟨rfl, .returning,by rw [← hu], .tuple #[],?_,⟨_,rfl⟩,rfl,rfl⟩
 simp [results,Tryz.results133,go_sem]
def simpE (e:ExprR):ExprR:=if validE e=true then simE e else zeroE
theorem cSimple (e:ExprR) (h:e.fit):CPure Tryz.prog 67 [vexpr e] (vexpr (simpE e)):=by
 have hV:=cValidE e h
 have hS:=fun hv=>cSimple1 _ e (Nat.lt_succ_self _) h hv
 unfold simpE
 obtain ⟨op,media,frame,num,den,param,text,args⟩:=e
 rw [vexpr_mk]
 refine cpure_ofW Tryz.xen67 Tryz.func67 rfl Tryz.ntmps67 (by rw [Tryz.results67]) (aw_ok _ ?_)
 simp only [go_sem,simprocAttr]
 refine ⟨_,hV,?_⟩
 simp only [go_sem,simprocAttr]
 refine ⟨fun h1=>?_,fun h1=>?_⟩
 ·unfold awS
  simp only [go_sem,simprocAttr]
  rw [if_neg (by rw [nt h1];exact Bool.false_ne_true)]
  exact ⟨nopSimple,pureW_zeroE⟩
 ·rw [if_pos (nf h1)]
  have hc:=hS (nf h1)
  rcases hs:simE (.mk op media frame num den param text args) with ⟨o2,m2,fr2,nu2,de2,pa2,te2,ar2⟩
  rw [hs] at hc
  unfold awS
  simp only [go_sem,simprocAttr]
  refine ⟨_,hc,?_⟩
  simp only [go_sem,simprocAttr]
  exact ⟨nopSimple,pureW_self rfl rfl⟩
end Go.Proofs.YtmbmmijdmdoalaaGreat
