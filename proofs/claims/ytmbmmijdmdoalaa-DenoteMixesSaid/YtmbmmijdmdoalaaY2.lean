/- Proved here: The simplified expression, for use in the proofs of the given statements; conditions stand in each theorem. -/
import Derived.Test.YtmbmmijdmdoalaaY1
import Derived.Test.YtmbmmijdmdoalaaZV
set_option linter.unusedSimpArgs false
set_option linter.unusedVariables false
set_option linter.unusedSectionVars false
set_option linter.unnecessarySimpa false
namespace Go.Proofs.Ytmbmmijdmdoalaa
open Go.RowKit
set_option maxRecDepth 4000
def opE:ExprR→Int
 | .mk op .. => op
def zeroE:ExprR := .mk 0 ⟨#[]⟩ 0 0 0 0 ⟨#[]⟩ []
def redE (op:Int) (media:ByteArray) (frame num den param:Int) (text:ByteArray) (args:List ExprR):ExprR :=
 match args with
 | [x,y]=>if eqE x y=true then x else if (op==4&&opE x==0)=true then (if decide (param > 16)=true then y else zeroE) else .mk op media frame num den param text [x,y]
 | args => .mk op media frame num den param text args
theorem redE_two (op:Int) (media:ByteArray) (frame num den param:Int) (text:ByteArray) (x y:ExprR):redE op media frame num den param text [x,y] =
  if eqE x y=true then x else if (op==4&&opE x==0)=true then (if decide (param > 16)=true then y else zeroE) else .mk op media frame num den param text [x,y]:=rfl
theorem pureW_zeroE {h:Heap}:pureW (vexpr zeroE) (.agg [vint 0,vstr ⟨#[]⟩,vint 0,vint 0,vint 0,vint 0,vstr ⟨#[]⟩, .t (.lit (.slice none 0 0))]) h:=by
 have e:V.lend h (.agg [vint 0,vstr ⟨#[]⟩,vint 0,vint 0,vint 0,vint 0,vstr ⟨#[]⟩, .t (.lit (.slice none 0 0))]) = .agg [vint 0,vstr ⟨#[]⟩,vint 0,vint 0,vint 0,vint 0,vstr ⟨#[]⟩, .t (.lit (.slice none 0 0))]:=rfl
 refine ⟨by rw [e];rfl,fun w E v hv=>?_⟩
 rw [e] at hv
 exact as_agg (by exact ⟨.inl rfl, .inl rfl, .inl rfl, .inl rfl, .inl rfl, .inl rfl, .inl rfl, .inr ⟨rfl,_,_,rfl⟩,trivial⟩) w E v hv
theorem cst0:((0:Nat):Int)=0:=rfl
theorem cst1:((1:Nat):Int)=1:=rfl
theorem cst2:((2:Nat):Int)=2:=rfl
theorem cw1:IntKind.i64.wrap 1=1:=by decide
theorem cw2:IntKind.i64.wrap 2=2:=by decide
theorem nth_1a (d a:List T):nth d [a] 0=a:=rfl
theorem nth2a (d a b:List T):nth d [a,b] 0=a:=rfl
theorem nth2b (d a b:List T):nth d [a,b] 1=b:=rfl
theorem cReduced2 (op:Int) (media:ByteArray) (frame num den param:Int) (text:ByteArray) (x y:ExprR) :
  CPure Try.prog 28 [vex op media frame num den param text [x,y]] (vexpr (redE op media frame num den param text [x,y])):=by
 obtain ⟨o1,m1,fr1,nu1,de1,pa1,te1,ar1⟩:=x
 obtain ⟨o2,m2,fr2,nu2,de2,pa2,te2,ar2⟩:=y
 refine cpure_ofW Try.xen28 Try.func28 rfl Try.ntmps28 (by rw [Try.results28]) (aw_ok _ ?_)
 simp only [go_sem,Nat.reduceGT,Nat.reducePow,Nat.reduceLT,↓reduceIte,Nat.reduceAdd,Nat.reduceMul,Nat.reduceSub,Nat.reduceMod,Nat.reduceLeDiff,Nat.reduceEqDiff,Nat.reduceBEq,reduceCtorEq,Int.reduceLT,Int.reduceLE,Int.reduceGT,Int.reduceGE,Int.reduceEq,Int.reduceNe,Int.reduceBEq,Int.reduceBNe,Int.reduceAdd,Int.reduceSub,Int.reduceNeg,Int.reduceToNat,decide_true,decide_false,Bool.or_false,Bool.false_or,Bool.or_true,Bool.true_or,Bool.and_true,Bool.true_and,Bool.and_false,Bool.false_and,List.map_cons,List.map_nil,List.length_cons,List.length_nil,ExprR.c,cs_eq]
 refine ⟨fun h=>absurd h (by decide),fun _=>?_⟩
 unfold awS
 simp only [go_sem,Nat.reduceGT,Nat.reducePow,Nat.reduceLT,↓reduceIte,Nat.reduceAdd,Nat.reduceMul,Nat.reduceSub,Nat.reduceMod,Nat.reduceLeDiff,Nat.reduceEqDiff,Nat.reduceBEq,reduceCtorEq,Int.reduceLT,Int.reduceLE,Int.reduceGT,Int.reduceGE,Int.reduceEq,Int.reduceNe,Int.reduceBEq,Int.reduceBNe,Int.reduceAdd,Int.reduceSub,Int.reduceNeg,Int.reduceToNat,decide_true,decide_false,Bool.or_false,Bool.false_or,Bool.or_true,Bool.true_or,Bool.and_true,Bool.true_and,Bool.and_false,Bool.false_and]
 refine drawR_of [0,1,2,3,4,5,6,7,8] .done rfl (by kernel_rfl) (by kernel_rfl) (by decide) ?_
 simp only [go_sem,Nat.reduceGT,Nat.reducePow,Nat.reduceLT,↓reduceIte,Nat.reduceAdd,Nat.reduceMul,Nat.reduceSub,Nat.reduceMod,Nat.reduceLeDiff,Nat.reduceEqDiff,Nat.reduceBEq,reduceCtorEq,Int.reduceLT,Int.reduceLE,Int.reduceGT,Int.reduceGE,Int.reduceEq,Int.reduceNe,Int.reduceBEq,Int.reduceBNe,Int.reduceAdd,Int.reduceSub,Int.reduceNeg,Int.reduceToNat,decide_true,decide_false,Bool.or_false,Bool.false_or,Bool.or_true,Bool.true_or,Bool.and_true,Bool.true_and,Bool.and_false,Bool.false_and,nth2a,nth2b,ExprR.c,cs_eq]
 refine ⟨by decide,by decide,_,cSameE (.mk o1 m1 fr1 nu1 de1 pa1 te1 ar1) (.mk o2 m2 fr2 nu2 de2 pa2 te2 ar2),?_⟩
 simp only [go_sem,Nat.reduceGT,Nat.reducePow,Nat.reduceLT,↓reduceIte,Nat.reduceAdd,Nat.reduceMul,Nat.reduceSub,Nat.reduceMod,Nat.reduceLeDiff,Nat.reduceEqDiff,Nat.reduceBEq,reduceCtorEq,Int.reduceLT,Int.reduceLE,Int.reduceGT,Int.reduceGE,Int.reduceEq,Int.reduceNe,Int.reduceBEq,Int.reduceBNe,Int.reduceAdd,Int.reduceSub,Int.reduceNeg,Int.reduceToNat,decide_true,decide_false,Bool.or_false,Bool.false_or,Bool.or_true,Bool.true_or,Bool.and_true,Bool.true_and,Bool.and_false,Bool.false_and]
 refine ⟨fun h1=>?_,fun h1=>?_⟩
 ·unfold awS
  simp only [go_sem,Nat.reduceGT,Nat.reducePow,Nat.reduceLT,↓reduceIte,Nat.reduceAdd,Nat.reduceMul,Nat.reduceSub,Nat.reduceMod,Nat.reduceLeDiff,Nat.reduceEqDiff,Nat.reduceBEq,reduceCtorEq,Int.reduceLT,Int.reduceLE,Int.reduceGT,Int.reduceGE,Int.reduceEq,Int.reduceNe,Int.reduceBEq,Int.reduceBNe,Int.reduceAdd,Int.reduceSub,Int.reduceNeg,Int.reduceToNat,decide_true,decide_false,Bool.or_false,Bool.false_or,Bool.or_true,Bool.true_or,Bool.and_true,Bool.true_and,Bool.and_false,Bool.false_and,nth2a,nth2b,ExprR.c,cs_eq]
  refine ⟨by decide,?_⟩
  rw [redE_two,if_pos h1]
  exact pureW_self rfl rfl
 ·unfold awS
  simp only [go_sem,Nat.reduceGT,Nat.reducePow,Nat.reduceLT,↓reduceIte,Nat.reduceAdd,Nat.reduceMul,Nat.reduceSub,Nat.reduceMod,Nat.reduceLeDiff,Nat.reduceEqDiff,Nat.reduceBEq,reduceCtorEq,Int.reduceLT,Int.reduceLE,Int.reduceGT,Int.reduceGE,Int.reduceEq,Int.reduceNe,Int.reduceBEq,Int.reduceBNe,Int.reduceAdd,Int.reduceSub,Int.reduceNeg,Int.reduceToNat,decide_true,decide_false,Bool.or_false,Bool.false_or,Bool.or_true,Bool.true_or,Bool.and_true,Bool.true_and,Bool.and_false,Bool.false_and,nth2a,nth2b,ExprR.c,cs_eq]
  rw [redE_two,if_neg (by rw [h1];exact Bool.false_ne_true)]
  refine ⟨fun _=>by decide,fun h2=>?_,fun h2=>?_⟩
  ·rw [show (op==4&&opE (.mk o1 m1 fr1 nu1 de1 pa1 te1 ar1)==0)=true from h2,if_pos rfl]
   unfold awS
   simp only [go_sem,Nat.reduceGT,Nat.reducePow,Nat.reduceLT,↓reduceIte,Nat.reduceAdd,Nat.reduceMul,Nat.reduceSub,Nat.reduceMod,Nat.reduceLeDiff,Nat.reduceEqDiff,Nat.reduceBEq,reduceCtorEq,Int.reduceLT,Int.reduceLE,Int.reduceGT,Int.reduceGE,Int.reduceEq,Int.reduceNe,Int.reduceBEq,Int.reduceBNe,Int.reduceAdd,Int.reduceSub,Int.reduceNeg,Int.reduceToNat,decide_true,decide_false,Bool.or_false,Bool.false_or,Bool.or_true,Bool.true_or,Bool.and_true,Bool.true_and,Bool.and_false,Bool.false_and,nth2a,nth2b,ExprR.c,cs_eq]
   refine ⟨fun h3=>?_,fun h3=>?_⟩
   ·rw [if_pos h3]
    unfold awS
    simp only [go_sem,Nat.reduceGT,Nat.reducePow,Nat.reduceLT,↓reduceIte,Nat.reduceAdd,Nat.reduceMul,Nat.reduceSub,Nat.reduceMod,Nat.reduceLeDiff,Nat.reduceEqDiff,Nat.reduceBEq,reduceCtorEq,Int.reduceLT,Int.reduceLE,Int.reduceGT,Int.reduceGE,Int.reduceEq,Int.reduceNe,Int.reduceBEq,Int.reduceBNe,Int.reduceAdd,Int.reduceSub,Int.reduceNeg,Int.reduceToNat,decide_true,decide_false,Bool.or_false,Bool.false_or,Bool.or_true,Bool.true_or,Bool.and_true,Bool.true_and,Bool.and_false,Bool.false_and,nth2a,nth2b,ExprR.c,cs_eq]
    refine ⟨by decide,?_⟩
    exact pureW_self rfl rfl
   ·rw [if_neg (by rw [h3];exact Bool.false_ne_true)]
    unfold awS
    simp only [go_sem,Nat.reduceGT,Nat.reducePow,Nat.reduceLT,↓reduceIte,Nat.reduceAdd,Nat.reduceMul,Nat.reduceSub,Nat.reduceMod,Nat.reduceLeDiff,Nat.reduceEqDiff,Nat.reduceBEq,reduceCtorEq,Int.reduceLT,Int.reduceLE,Int.reduceGT,Int.reduceGE,Int.reduceEq,Int.reduceNe,Int.reduceBEq,Int.reduceBNe,Int.reduceAdd,Int.reduceSub,Int.reduceNeg,Int.reduceToNat,decide_true,decide_false,Bool.or_false,Bool.false_or,Bool.or_true,Bool.true_or,Bool.and_true,Bool.true_and,Bool.and_false,Bool.false_and,nth2a,nth2b,ExprR.c,cs_eq]
    exact pureW_zeroE
  ·rw [show (op==4&&opE (.mk o1 m1 fr1 nu1 de1 pa1 te1 ar1)==0)=false from h2,if_neg Bool.false_ne_true]
   unfold awS
   simp only [go_sem,Nat.reduceGT,Nat.reducePow,Nat.reduceLT,↓reduceIte,Nat.reduceAdd,Nat.reduceMul,Nat.reduceSub,Nat.reduceMod,Nat.reduceLeDiff,Nat.reduceEqDiff,Nat.reduceBEq,reduceCtorEq,Int.reduceLT,Int.reduceLE,Int.reduceGT,Int.reduceGE,Int.reduceEq,Int.reduceNe,Int.reduceBEq,Int.reduceBNe,Int.reduceAdd,Int.reduceSub,Int.reduceNeg,Int.reduceToNat,decide_true,decide_false,Bool.or_false,Bool.false_or,Bool.or_true,Bool.true_or,Bool.and_true,Bool.true_and,Bool.and_false,Bool.false_and,nth2a,nth2b,ExprR.c,cs_eq]
   exact pureW_self rfl rfl
theorem cReducedN (op:Int) (media:ByteArray) (frame num den param:Int) (text:ByteArray) (args:List ExprR) (h:args.length<2) :
  CPure Try.prog 28 [vex op media frame num den param text args] (vexpr (.mk op media frame num den param text args)):=by
 refine cpure_of Try.xen28 Try.func28 rfl Try.ntmps28 (by rw [Try.results28]) (aw_ok _ ?_)
 simp only [go_sem,Nat.reduceGT,Nat.reducePow,Nat.reduceLT,↓reduceIte,Nat.reduceAdd,Nat.reduceMul,Nat.reduceSub,Nat.reduceMod,Nat.reduceLeDiff,Nat.reduceEqDiff,Nat.reduceBEq,reduceCtorEq]
 refine ⟨fun _=>?_,fun h2=>?_⟩
 ·unfold awS
  simp only [go_sem,Nat.reduceGT,Nat.reducePow,Nat.reduceLT,↓reduceIte,Nat.reduceAdd,Nat.reduceMul,Nat.reduceSub,Nat.reduceMod,Nat.reduceLeDiff,Nat.reduceEqDiff,Nat.reduceBEq,reduceCtorEq]
 ·exfalso
  simp only [bne_eq_false_iff_eq] at h2
  omega
mutual
def simE:ExprR→ExprR
 | .mk op media frame num den param text args=>redE op media frame num den param text (simEs args)
def simEs:List ExprR→List ExprR
 | []=>[]
 | e::es=>simE e::simEs es
end
theorem simE_one (op:Int) (media:ByteArray) (frame num den param:Int) (text:ByteArray) (a:ExprR):simE (.mk op media frame num den param text [a]) = .mk op media frame num den param text [simE a]:=by
 conv=>lhs;unfold simE
 simp only [simEs]
 rfl
theorem simE_two (op:Int) (media:ByteArray) (frame num den param:Int) (text:ByteArray) (a b:ExprR):simE (.mk op media frame num den param text [a,b])=redE op media frame num den param text [simE a,simE b]:=by
 conv=>lhs;unfold simE
 simp only [simEs]
theorem cSimple1:∀ (m:Nat) (e:ExprR),SizeOf.sizeOf e<m→e.fit→validE e=true→CPure Try.prog 18 [vexpr e] (vexpr (simE e))
 | 0,e,h,_,_=>absurd h (Nat.not_lt_zero _)
 | m+1, .mk op media frame num den param text args,hm,hfit,hv=>by
  simp only [ExprR.fit] at hfit
  obtain ⟨f1,f2,f3,f4,f5,f6⟩:=hfit
  unfold validE at hv
  rw [Bool.and_eq_true,validEs_eq,List.all_eq_true] at hv
  have hl:args.length≤2:=fields_len hv.1
  have ih:∀ e∈args,CPure Try.prog 18 [vexpr e] (vexpr (simE e)):=fun e he=>cSimple1 m e (by have:=arg_lt he op media frame num den param text;omega) (fits_mem f6 e he) (hv.2 e he)
  rw [vexpr_mk]
  match args,hl,ih with
  | [],_,_ =>
   refine cpure_ofW Try.xen18 Try.func18 rfl Try.ntmps18 (by rw [Try.results18]) (aw_ok _ ?_)
   simp only [go_sem,Nat.reduceGT,Nat.reducePow,Nat.reduceLT,↓reduceIte,Nat.reduceAdd,Nat.reduceMul,Nat.reduceSub,Nat.reduceMod,Nat.reduceLeDiff,Nat.reduceEqDiff,Nat.reduceBEq,reduceCtorEq,Int.reduceLT,Int.reduceLE,Int.reduceGT,Int.reduceGE,Int.reduceEq,Int.reduceNe,Int.reduceBEq,Int.reduceBNe,Int.reduceAdd,Int.reduceSub,Int.reduceNeg,Int.reduceToNat,decide_true,decide_false,Bool.or_false,Bool.false_or,Bool.or_true,Bool.true_or,Bool.and_true,Bool.true_and,Bool.and_false,Bool.false_and,List.map_nil,List.length_nil]
   refine icall_of Try.xen27 Try.func27 rfl Try.ntmps27 (by rw [Try.results27]) (aw_ok _ ?_)
   simp only [go_sem,Nat.reduceGT,Nat.reducePow,Nat.reduceLT,↓reduceIte,Nat.reduceAdd,Nat.reduceMul,Nat.reduceSub,Nat.reduceMod,Nat.reduceLeDiff,Nat.reduceEqDiff,Nat.reduceBEq,reduceCtorEq,Int.reduceLT,Int.reduceLE,Int.reduceGT,Int.reduceGE,Int.reduceEq,Int.reduceNe,Int.reduceBEq,Int.reduceBNe,Int.reduceAdd,Int.reduceSub,Int.reduceNeg,Int.reduceToNat,decide_true,decide_false,Bool.or_false,Bool.false_or,Bool.or_true,Bool.true_or,Bool.and_true,Bool.true_and,Bool.and_false,Bool.false_and,List.map_nil,List.length_nil]
   intro b
   refine ⟨fun _=>?_,fun _=>?_⟩
   ·unfold awS
    simp only [go_sem,Nat.reduceGT,Nat.reducePow,Nat.reduceLT,↓reduceIte,Nat.reduceAdd,Nat.reduceMul,Nat.reduceSub,Nat.reduceMod,Nat.reduceLeDiff,Nat.reduceEqDiff,Nat.reduceBEq,reduceCtorEq,Int.reduceLT,Int.reduceLE,Int.reduceGT,Int.reduceGE,Int.reduceEq,Int.reduceNe,Int.reduceBEq,Int.reduceBNe,Int.reduceAdd,Int.reduceSub,Int.reduceNeg,Int.reduceToNat,decide_true,decide_false,Bool.or_false,Bool.false_or,Bool.or_true,Bool.true_or,Bool.and_true,Bool.true_and,Bool.and_false,Bool.false_and,List.map_nil,List.length_nil,cst0]
    refine awp_loopL ?_
    refine awpL_step (aw_ok _ ?_)
    simp only [go_sem,Nat.reduceGT,Nat.reducePow,Nat.reduceLT,↓reduceIte,Nat.reduceAdd,Nat.reduceMul,Nat.reduceSub,Nat.reduceMod,Nat.reduceLeDiff,Nat.reduceEqDiff,Nat.reduceBEq,reduceCtorEq,Int.reduceLT,Int.reduceLE,Int.reduceGT,Int.reduceGE,Int.reduceEq,Int.reduceNe,Int.reduceBEq,Int.reduceBNe,Int.reduceAdd,Int.reduceSub,Int.reduceNeg,Int.reduceToNat,decide_true,decide_false,Bool.or_false,Bool.false_or,Bool.or_true,Bool.true_or,Bool.and_true,Bool.true_and,Bool.and_false,Bool.false_and,cst0]
    refine ⟨_,cpure_as (.cons (as_agg (by exact ⟨.inl rfl, .inl rfl, .inl rfl, .inl rfl, .inl rfl, .inl rfl, .inl rfl, .inr ⟨rfl,_,_,rfl⟩,trivial⟩)) .nil) (cReducedN op media frame num den param text [] (by decide)),?_⟩
    simp only [go_sem,Nat.reduceGT,Nat.reducePow,Nat.reduceLT,↓reduceIte,Nat.reduceAdd,Nat.reduceMul,Nat.reduceSub,Nat.reduceMod,Nat.reduceLeDiff,Nat.reduceEqDiff,Nat.reduceBEq,reduceCtorEq,Int.reduceLT,Int.reduceLE,Int.reduceGT,Int.reduceGE,Int.reduceEq,Int.reduceNe,Int.reduceBEq,Int.reduceBNe,Int.reduceAdd,Int.reduceSub,Int.reduceNeg,Int.reduceToNat,decide_true,decide_false,Bool.or_false,Bool.false_or,Bool.or_true,Bool.true_or,Bool.and_true,Bool.true_and,Bool.and_false,Bool.false_and]
    exact pureW_self rfl rfl
   ·unfold awS
    simp only [go_sem,Nat.reduceGT,Nat.reducePow,Nat.reduceLT,↓reduceIte,Nat.reduceAdd,Nat.reduceMul,Nat.reduceSub,Nat.reduceMod,Nat.reduceLeDiff,Nat.reduceEqDiff,Nat.reduceBEq,reduceCtorEq,Int.reduceLT,Int.reduceLE,Int.reduceGT,Int.reduceGE,Int.reduceEq,Int.reduceNe,Int.reduceBEq,Int.reduceBNe,Int.reduceAdd,Int.reduceSub,Int.reduceNeg,Int.reduceToNat,decide_true,decide_false,Bool.or_false,Bool.false_or,Bool.or_true,Bool.true_or,Bool.and_true,Bool.true_and,Bool.and_false,Bool.false_and,List.map_nil,List.length_nil,cst0]
    refine ⟨by decide,?_⟩
    refine awp_loopL ?_
    refine awpL_step (aw_ok _ ?_)
    simp only [go_sem,Nat.reduceGT,Nat.reducePow,Nat.reduceLT,↓reduceIte,Nat.reduceAdd,Nat.reduceMul,Nat.reduceSub,Nat.reduceMod,Nat.reduceLeDiff,Nat.reduceEqDiff,Nat.reduceBEq,reduceCtorEq,Int.reduceLT,Int.reduceLE,Int.reduceGT,Int.reduceGE,Int.reduceEq,Int.reduceNe,Int.reduceBEq,Int.reduceBNe,Int.reduceAdd,Int.reduceSub,Int.reduceNeg,Int.reduceToNat,decide_true,decide_false,Bool.or_false,Bool.false_or,Bool.or_true,Bool.true_or,Bool.and_true,Bool.true_and,Bool.and_false,Bool.false_and,cst0]
    refine lcall_give ?_
    simp only [go_sem,Nat.reduceGT,Nat.reducePow,Nat.reduceLT,↓reduceIte,Nat.reduceAdd,Nat.reduceMul,Nat.reduceSub,Nat.reduceMod,Nat.reduceLeDiff,Nat.reduceEqDiff,Nat.reduceBEq,reduceCtorEq,Int.reduceLT,Int.reduceLE,Int.reduceGT,Int.reduceGE,Int.reduceEq,Int.reduceNe,Int.reduceBEq,Int.reduceBNe,Int.reduceAdd,Int.reduceSub,Int.reduceNeg,Int.reduceToNat,decide_true,decide_false,Bool.or_false,Bool.false_or,Bool.or_true,Bool.true_or,Bool.and_true,Bool.true_and,Bool.and_false,Bool.false_and]
    refine ⟨_,cReducedN op media frame num den param text [] (by decide),?_⟩
    simp only [go_sem,Nat.reduceGT,Nat.reducePow,Nat.reduceLT,↓reduceIte,Nat.reduceAdd,Nat.reduceMul,Nat.reduceSub,Nat.reduceMod,Nat.reduceLeDiff,Nat.reduceEqDiff,Nat.reduceBEq,reduceCtorEq,Int.reduceLT,Int.reduceLE,Int.reduceGT,Int.reduceGE,Int.reduceEq,Int.reduceNe,Int.reduceBEq,Int.reduceBNe,Int.reduceAdd,Int.reduceSub,Int.reduceNeg,Int.reduceToNat,decide_true,decide_false,Bool.or_false,Bool.false_or,Bool.or_true,Bool.true_or,Bool.and_true,Bool.true_and,Bool.and_false,Bool.false_and]
    exact pureW_self rfl rfl
  | [a],_,ih =>
   have iha:=ih a (by simp)
   rcases hsa:simE a with ⟨o2,m2,fr2,nu2,de2,pa2,te2,ar2⟩
   have hsim:simE (.mk op media frame num den param text [a]) = .mk op media frame num den param text [simE a]:=simE_one ..
   rw [hsim,hsa]
   rw [hsa] at iha
   obtain ⟨o1,m1,fr1,nu1,de1,pa1,te1,ar1⟩:=a
   refine cpure_ofW Try.xen18 Try.func18 rfl Try.ntmps18 (by rw [Try.results18]) (aw_ok _ ?_)
   simp only [go_sem,Nat.reduceGT,Nat.reducePow,Nat.reduceLT,↓reduceIte,Nat.reduceAdd,Nat.reduceMul,Nat.reduceSub,Nat.reduceMod,Nat.reduceLeDiff,Nat.reduceEqDiff,Nat.reduceBEq,reduceCtorEq,Int.reduceLT,Int.reduceLE,Int.reduceGT,Int.reduceGE,Int.reduceEq,Int.reduceNe,Int.reduceBEq,Int.reduceBNe,Int.reduceAdd,Int.reduceSub,Int.reduceNeg,Int.reduceToNat,decide_true,decide_false,Bool.or_false,Bool.false_or,Bool.or_true,Bool.true_or,Bool.and_true,Bool.true_and,Bool.and_false,Bool.false_and,List.map_nil,List.map_cons,List.length_cons,List.length_nil,ExprR.c,cs_eq]
   refine icall_of Try.xen27 Try.func27 rfl Try.ntmps27 (by rw [Try.results27]) (aw_ok _ ?_)
   simp only [go_sem,Nat.reduceGT,Nat.reducePow,Nat.reduceLT,↓reduceIte,Nat.reduceAdd,Nat.reduceMul,Nat.reduceSub,Nat.reduceMod,Nat.reduceLeDiff,Nat.reduceEqDiff,Nat.reduceBEq,reduceCtorEq,Int.reduceLT,Int.reduceLE,Int.reduceGT,Int.reduceGE,Int.reduceEq,Int.reduceNe,Int.reduceBEq,Int.reduceBNe,Int.reduceAdd,Int.reduceSub,Int.reduceNeg,Int.reduceToNat,decide_true,decide_false,Bool.or_false,Bool.false_or,Bool.or_true,Bool.true_or,Bool.and_true,Bool.true_and,Bool.and_false,Bool.false_and,List.map_nil,List.map_cons,List.length_cons,List.length_nil,ExprR.c,cs_eq]
   intro b hnb
   refine ⟨fun hb=>absurd (hnb hb) (by simp),fun _=>?_⟩
   unfold awS
   simp only [go_sem,Nat.reduceGT,Nat.reducePow,Nat.reduceLT,↓reduceIte,Nat.reduceAdd,Nat.reduceMul,Nat.reduceSub,Nat.reduceMod,Nat.reduceLeDiff,Nat.reduceEqDiff,Nat.reduceBEq,reduceCtorEq,Int.reduceLT,Int.reduceLE,Int.reduceGT,Int.reduceGE,Int.reduceEq,Int.reduceNe,Int.reduceBEq,Int.reduceBNe,Int.reduceAdd,Int.reduceSub,Int.reduceNeg,Int.reduceToNat,decide_true,decide_false,Bool.or_false,Bool.false_or,Bool.or_true,Bool.true_or,Bool.and_true,Bool.true_and,Bool.and_false,Bool.false_and,List.map_nil,List.map_cons,List.length_cons,List.length_nil,ExprR.c,cs_eq,cst1]
   refine ⟨by decide,?_⟩
   refine awp_loopL ?_
   refine awpL_step (aw_ok _ ?_)
   simp only [go_sem,Nat.reduceGT,Nat.reducePow,Nat.reduceLT,↓reduceIte,Nat.reduceAdd,Nat.reduceMul,Nat.reduceSub,Nat.reduceMod,Nat.reduceLeDiff,Nat.reduceEqDiff,Nat.reduceBEq,reduceCtorEq,Int.reduceLT,Int.reduceLE,Int.reduceGT,Int.reduceGE,Int.reduceEq,Int.reduceNe,Int.reduceBEq,Int.reduceBNe,Int.reduceAdd,Int.reduceSub,Int.reduceNeg,Int.reduceToNat,decide_true,decide_false,Bool.or_false,Bool.false_or,Bool.or_true,Bool.true_or,Bool.and_true,Bool.true_and,Bool.and_false,Bool.false_and,cst1,cst0]
   refine ⟨by decide,?_⟩
   simp only [go_sem,Nat.reduceGT,Nat.reducePow,Nat.reduceLT,↓reduceIte,Nat.reduceAdd,Nat.reduceMul,Nat.reduceSub,Nat.reduceMod,Nat.reduceLeDiff,Nat.reduceEqDiff,Nat.reduceBEq,reduceCtorEq,Int.reduceLT,Int.reduceLE,Int.reduceGT,Int.reduceGE,Int.reduceEq,Int.reduceNe,Int.reduceBEq,Int.reduceBNe,Int.reduceAdd,Int.reduceSub,Int.reduceNeg,Int.reduceToNat,decide_true,decide_false,Bool.or_false,Bool.false_or,Bool.or_true,Bool.true_or,Bool.and_true,Bool.true_and,Bool.and_false,Bool.false_and,cst1,cst0,nth_1a]
   refine drawC_of 7 .done rfl (by kernel_rfl) (by kernel_rfl) (by decide) ?_
   simp only [go_sem,Nat.reduceGT,Nat.reducePow,Nat.reduceLT,↓reduceIte,Nat.reduceAdd,Nat.reduceMul,Nat.reduceSub,Nat.reduceMod,Nat.reduceLeDiff,Nat.reduceEqDiff,Nat.reduceBEq,reduceCtorEq,Int.reduceLT,Int.reduceLE,Int.reduceGT,Int.reduceGE,Int.reduceEq,Int.reduceNe,Int.reduceBEq,Int.reduceBNe,Int.reduceAdd,Int.reduceSub,Int.reduceNeg,Int.reduceToNat,decide_true,decide_false,Bool.or_false,Bool.false_or,Bool.or_true,Bool.true_or,Bool.and_true,Bool.true_and,Bool.and_false,Bool.false_and,cst1,cst0]
   refine ⟨_,iha,?_⟩
   simp only [go_sem,Nat.reduceGT,Nat.reducePow,Nat.reduceLT,↓reduceIte,Nat.reduceAdd,Nat.reduceMul,Nat.reduceSub,Nat.reduceMod,Nat.reduceLeDiff,Nat.reduceEqDiff,Nat.reduceBEq,reduceCtorEq,Int.reduceLT,Int.reduceLE,Int.reduceGT,Int.reduceGE,Int.reduceEq,Int.reduceNe,Int.reduceBEq,Int.reduceBNe,Int.reduceAdd,Int.reduceSub,Int.reduceNeg,Int.reduceToNat,decide_true,decide_false,Bool.or_false,Bool.false_or,Bool.or_true,Bool.true_or,Bool.and_true,Bool.true_and,Bool.and_false,Bool.false_and,cst1,cst0,cw1]
   refine ⟨by kernel_rfl,?_⟩
   refine awpL_step (aw_ok _ ?_)
   simp only [go_sem,Nat.reduceGT,Nat.reducePow,Nat.reduceLT,↓reduceIte,Nat.reduceAdd,Nat.reduceMul,Nat.reduceSub,Nat.reduceMod,Nat.reduceLeDiff,Nat.reduceEqDiff,Nat.reduceBEq,reduceCtorEq,Int.reduceLT,Int.reduceLE,Int.reduceGT,Int.reduceGE,Int.reduceEq,Int.reduceNe,Int.reduceBEq,Int.reduceBNe,Int.reduceAdd,Int.reduceSub,Int.reduceNeg,Int.reduceToNat,decide_true,decide_false,Bool.or_false,Bool.false_or,Bool.or_true,Bool.true_or,Bool.and_true,Bool.true_and,Bool.and_false,Bool.false_and,cst1,cst0,cw1]
   refine lcall_give ?_
   simp only [go_sem,Nat.reduceGT,Nat.reducePow,Nat.reduceLT,↓reduceIte,Nat.reduceAdd,Nat.reduceMul,Nat.reduceSub,Nat.reduceMod,Nat.reduceLeDiff,Nat.reduceEqDiff,Nat.reduceBEq,reduceCtorEq,Int.reduceLT,Int.reduceLE,Int.reduceGT,Int.reduceGE,Int.reduceEq,Int.reduceNe,Int.reduceBEq,Int.reduceBNe,Int.reduceAdd,Int.reduceSub,Int.reduceNeg,Int.reduceToNat,decide_true,decide_false,Bool.or_false,Bool.false_or,Bool.or_true,Bool.true_or,Bool.and_true,Bool.true_and,Bool.and_false,Bool.false_and,cst1,cst0,cw1,tRows,nthV,nth,Option.getD_some,List.getElem?_cons_zero,List.getElem?_cons_succ,List.map_cons,List.map_nil,List.set_cons_zero,List.set_cons_succ,List.drop_succ_cons,List.drop_zero]
   have hc:=cReducedN op media frame num den param text [.mk o2 m2 fr2 nu2 de2 pa2 te2 ar2] (by simp)
   simp only [vex,texprs,List.map_cons,List.map_nil,ExprR.c,cs_eq] at hc
   refine ⟨_,hc,?_⟩
   simp only [go_sem,Nat.reduceGT,Nat.reducePow,Nat.reduceLT,↓reduceIte,Nat.reduceAdd,Nat.reduceMul,Nat.reduceSub,Nat.reduceMod,Nat.reduceLeDiff,Nat.reduceEqDiff,Nat.reduceBEq,reduceCtorEq,Int.reduceLT,Int.reduceLE,Int.reduceGT,Int.reduceGE,Int.reduceEq,Int.reduceNe,Int.reduceBEq,Int.reduceBNe,Int.reduceAdd,Int.reduceSub,Int.reduceNeg,Int.reduceToNat,decide_true,decide_false,Bool.or_false,Bool.false_or,Bool.or_true,Bool.true_or,Bool.and_true,Bool.true_and,Bool.and_false,Bool.false_and]
   exact pureW_self rfl rfl
  | [a,b],_,ih =>
   have iha:=ih a (by simp)
   have ihb:=ih b (by simp)
   rcases hsa:simE a with ⟨o2,m2,fr2,nu2,de2,pa2,te2,ar2⟩
   rcases hsb:simE b with ⟨o4,m4,fr4,nu4,de4,pa4,te4,ar4⟩
   rw [simE_two,hsa,hsb]
   rw [hsa] at iha
   rw [hsb] at ihb
   obtain ⟨o1,m1,fr1,nu1,de1,pa1,te1,ar1⟩:=a
   obtain ⟨o3,m3,fr3,nu3,de3,pa3,te3,ar3⟩:=b
   refine cpure_ofW Try.xen18 Try.func18 rfl Try.ntmps18 (by rw [Try.results18]) (aw_ok _ ?_)
   simp only [go_sem,Nat.reduceGT,Nat.reducePow,Nat.reduceLT,↓reduceIte,Nat.reduceAdd,Nat.reduceMul,Nat.reduceSub,Nat.reduceMod,Nat.reduceLeDiff,Nat.reduceEqDiff,Nat.reduceBEq,reduceCtorEq,Int.reduceLT,Int.reduceLE,Int.reduceGT,Int.reduceGE,Int.reduceEq,Int.reduceNe,Int.reduceBEq,Int.reduceBNe,Int.reduceAdd,Int.reduceSub,Int.reduceNeg,Int.reduceToNat,decide_true,decide_false,Bool.or_false,Bool.false_or,Bool.or_true,Bool.true_or,Bool.and_true,Bool.true_and,Bool.and_false,Bool.false_and,List.map_nil,List.map_cons,List.length_cons,List.length_nil,ExprR.c,cs_eq]
   refine icall_of Try.xen27 Try.func27 rfl Try.ntmps27 (by rw [Try.results27]) (aw_ok _ ?_)
   simp only [go_sem,Nat.reduceGT,Nat.reducePow,Nat.reduceLT,↓reduceIte,Nat.reduceAdd,Nat.reduceMul,Nat.reduceSub,Nat.reduceMod,Nat.reduceLeDiff,Nat.reduceEqDiff,Nat.reduceBEq,reduceCtorEq,Int.reduceLT,Int.reduceLE,Int.reduceGT,Int.reduceGE,Int.reduceEq,Int.reduceNe,Int.reduceBEq,Int.reduceBNe,Int.reduceAdd,Int.reduceSub,Int.reduceNeg,Int.reduceToNat,decide_true,decide_false,Bool.or_false,Bool.false_or,Bool.or_true,Bool.true_or,Bool.and_true,Bool.true_and,Bool.and_false,Bool.false_and,List.map_nil,List.map_cons,List.length_cons,List.length_nil,ExprR.c,cs_eq]
   intro b hnb
   refine ⟨fun hb=>absurd (hnb hb) (by simp),fun _=>?_⟩
   unfold awS
   simp only [go_sem,Nat.reduceGT,Nat.reducePow,Nat.reduceLT,↓reduceIte,Nat.reduceAdd,Nat.reduceMul,Nat.reduceSub,Nat.reduceMod,Nat.reduceLeDiff,Nat.reduceEqDiff,Nat.reduceBEq,reduceCtorEq,Int.reduceLT,Int.reduceLE,Int.reduceGT,Int.reduceGE,Int.reduceEq,Int.reduceNe,Int.reduceBEq,Int.reduceBNe,Int.reduceAdd,Int.reduceSub,Int.reduceNeg,Int.reduceToNat,decide_true,decide_false,Bool.or_false,Bool.false_or,Bool.or_true,Bool.true_or,Bool.and_true,Bool.true_and,Bool.and_false,Bool.false_and,List.map_nil,List.map_cons,List.length_cons,List.length_nil,ExprR.c,cs_eq,cst2]
   refine ⟨by decide,?_⟩
   refine awp_loopL ?_
   refine awpL_step (aw_ok _ ?_)
   simp only [go_sem,Nat.reduceGT,Nat.reducePow,Nat.reduceLT,↓reduceIte,Nat.reduceAdd,Nat.reduceMul,Nat.reduceSub,Nat.reduceMod,Nat.reduceLeDiff,Nat.reduceEqDiff,Nat.reduceBEq,reduceCtorEq,Int.reduceLT,Int.reduceLE,Int.reduceGT,Int.reduceGE,Int.reduceEq,Int.reduceNe,Int.reduceBEq,Int.reduceBNe,Int.reduceAdd,Int.reduceSub,Int.reduceNeg,Int.reduceToNat,decide_true,decide_false,Bool.or_false,Bool.false_or,Bool.or_true,Bool.true_or,Bool.and_true,Bool.true_and,Bool.and_false,Bool.false_and,cst2,cst0]
   refine ⟨by decide,?_⟩
   simp only [go_sem,Nat.reduceGT,Nat.reducePow,Nat.reduceLT,↓reduceIte,Nat.reduceAdd,Nat.reduceMul,Nat.reduceSub,Nat.reduceMod,Nat.reduceLeDiff,Nat.reduceEqDiff,Nat.reduceBEq,reduceCtorEq,Int.reduceLT,Int.reduceLE,Int.reduceGT,Int.reduceGE,Int.reduceEq,Int.reduceNe,Int.reduceBEq,Int.reduceBNe,Int.reduceAdd,Int.reduceSub,Int.reduceNeg,Int.reduceToNat,decide_true,decide_false,Bool.or_false,Bool.false_or,Bool.or_true,Bool.true_or,Bool.and_true,Bool.true_and,Bool.and_false,Bool.false_and,cst2,cst0,nth2a]
   refine drawC_of 7 .done rfl (by kernel_rfl) (by kernel_rfl) (by decide) ?_
   simp only [go_sem,Nat.reduceGT,Nat.reducePow,Nat.reduceLT,↓reduceIte,Nat.reduceAdd,Nat.reduceMul,Nat.reduceSub,Nat.reduceMod,Nat.reduceLeDiff,Nat.reduceEqDiff,Nat.reduceBEq,reduceCtorEq,Int.reduceLT,Int.reduceLE,Int.reduceGT,Int.reduceGE,Int.reduceEq,Int.reduceNe,Int.reduceBEq,Int.reduceBNe,Int.reduceAdd,Int.reduceSub,Int.reduceNeg,Int.reduceToNat,decide_true,decide_false,Bool.or_false,Bool.false_or,Bool.or_true,Bool.true_or,Bool.and_true,Bool.true_and,Bool.and_false,Bool.false_and,cst2,cst0]
   refine ⟨_,iha,?_⟩
   simp only [go_sem,Nat.reduceGT,Nat.reducePow,Nat.reduceLT,↓reduceIte,Nat.reduceAdd,Nat.reduceMul,Nat.reduceSub,Nat.reduceMod,Nat.reduceLeDiff,Nat.reduceEqDiff,Nat.reduceBEq,reduceCtorEq,Int.reduceLT,Int.reduceLE,Int.reduceGT,Int.reduceGE,Int.reduceEq,Int.reduceNe,Int.reduceBEq,Int.reduceBNe,Int.reduceAdd,Int.reduceSub,Int.reduceNeg,Int.reduceToNat,decide_true,decide_false,Bool.or_false,Bool.false_or,Bool.or_true,Bool.true_or,Bool.and_true,Bool.true_and,Bool.and_false,Bool.false_and,cst2,cst0,cw1]
   refine ⟨by kernel_rfl,?_⟩
   refine awpL_step (aw_ok _ ?_)
   simp only [go_sem,Nat.reduceGT,Nat.reducePow,Nat.reduceLT,↓reduceIte,Nat.reduceAdd,Nat.reduceMul,Nat.reduceSub,Nat.reduceMod,Nat.reduceLeDiff,Nat.reduceEqDiff,Nat.reduceBEq,reduceCtorEq,Int.reduceLT,Int.reduceLE,Int.reduceGT,Int.reduceGE,Int.reduceEq,Int.reduceNe,Int.reduceBEq,Int.reduceBNe,Int.reduceAdd,Int.reduceSub,Int.reduceNeg,Int.reduceToNat,decide_true,decide_false,Bool.or_false,Bool.false_or,Bool.or_true,Bool.true_or,Bool.and_true,Bool.true_and,Bool.and_false,Bool.false_and,cst2,cst0,cw1,cw2,tRows,nthV,nth,Option.getD_some,List.getElem?_cons_zero,List.getElem?_cons_succ,List.map_cons,List.map_nil,List.set_cons_zero,List.set_cons_succ,List.drop_succ_cons,List.drop_zero]
   refine drawC_of 7 .done rfl (by kernel_rfl) (by kernel_rfl) (by decide) ?_
   simp only [go_sem,Nat.reduceGT,Nat.reducePow,Nat.reduceLT,↓reduceIte,Nat.reduceAdd,Nat.reduceMul,Nat.reduceSub,Nat.reduceMod,Nat.reduceLeDiff,Nat.reduceEqDiff,Nat.reduceBEq,reduceCtorEq,Int.reduceLT,Int.reduceLE,Int.reduceGT,Int.reduceGE,Int.reduceEq,Int.reduceNe,Int.reduceBEq,Int.reduceBNe,Int.reduceAdd,Int.reduceSub,Int.reduceNeg,Int.reduceToNat,decide_true,decide_false,Bool.or_false,Bool.false_or,Bool.or_true,Bool.true_or,Bool.and_true,Bool.true_and,Bool.and_false,Bool.false_and,cst2,cst0]
   refine ⟨_,ihb,?_⟩
   simp only [go_sem,Nat.reduceGT,Nat.reducePow,Nat.reduceLT,↓reduceIte,Nat.reduceAdd,Nat.reduceMul,Nat.reduceSub,Nat.reduceMod,Nat.reduceLeDiff,Nat.reduceEqDiff,Nat.reduceBEq,reduceCtorEq,Int.reduceLT,Int.reduceLE,Int.reduceGT,Int.reduceGE,Int.reduceEq,Int.reduceNe,Int.reduceBEq,Int.reduceBNe,Int.reduceAdd,Int.reduceSub,Int.reduceNeg,Int.reduceToNat,decide_true,decide_false,Bool.or_false,Bool.false_or,Bool.or_true,Bool.true_or,Bool.and_true,Bool.true_and,Bool.and_false,Bool.false_and,cst2,cst0,cw1,cw2]
   refine ⟨by kernel_rfl,?_⟩
   refine awpL_step (aw_ok _ ?_)
   simp only [go_sem,Nat.reduceGT,Nat.reducePow,Nat.reduceLT,↓reduceIte,Nat.reduceAdd,Nat.reduceMul,Nat.reduceSub,Nat.reduceMod,Nat.reduceLeDiff,Nat.reduceEqDiff,Nat.reduceBEq,reduceCtorEq,Int.reduceLT,Int.reduceLE,Int.reduceGT,Int.reduceGE,Int.reduceEq,Int.reduceNe,Int.reduceBEq,Int.reduceBNe,Int.reduceAdd,Int.reduceSub,Int.reduceNeg,Int.reduceToNat,decide_true,decide_false,Bool.or_false,Bool.false_or,Bool.or_true,Bool.true_or,Bool.and_true,Bool.true_and,Bool.and_false,Bool.false_and,cst2,cst0,cw1,cw2]
   refine lcall_give ?_
   simp only [go_sem,Nat.reduceGT,Nat.reducePow,Nat.reduceLT,↓reduceIte,Nat.reduceAdd,Nat.reduceMul,Nat.reduceSub,Nat.reduceMod,Nat.reduceLeDiff,Nat.reduceEqDiff,Nat.reduceBEq,reduceCtorEq,Int.reduceLT,Int.reduceLE,Int.reduceGT,Int.reduceGE,Int.reduceEq,Int.reduceNe,Int.reduceBEq,Int.reduceBNe,Int.reduceAdd,Int.reduceSub,Int.reduceNeg,Int.reduceToNat,decide_true,decide_false,Bool.or_false,Bool.false_or,Bool.or_true,Bool.true_or,Bool.and_true,Bool.true_and,Bool.and_false,Bool.false_and,cst2,cst0,cw1,cw2,tRows,nthV,nth,Option.getD_some,List.getElem?_cons_zero,List.getElem?_cons_succ,List.map_cons,List.map_nil,List.set_cons_zero,List.set_cons_succ,List.drop_succ_cons,List.drop_zero]
   have hc:=cReduced2 op media frame num den param text (.mk o2 m2 fr2 nu2 de2 pa2 te2 ar2) (.mk o4 m4 fr4 nu4 de4 pa4 te4 ar4)
   simp only [vex,texprs,List.map_cons,List.map_nil,ExprR.c,cs_eq] at hc
   rcases hred:redE op media frame num den param text [.mk o2 m2 fr2 nu2 de2 pa2 te2 ar2, .mk o4 m4 fr4 nu4 de4 pa4 te4 ar4] with ⟨o5,m5,fr5,nu5,de5,pa5,te5,ar5⟩
   rw [hred] at hc
   refine ⟨_,hc,?_⟩
   simp only [go_sem,Nat.reduceGT,Nat.reducePow,Nat.reduceLT,↓reduceIte,Nat.reduceAdd,Nat.reduceMul,Nat.reduceSub,Nat.reduceMod,Nat.reduceLeDiff,Nat.reduceEqDiff,Nat.reduceBEq,reduceCtorEq,Int.reduceLT,Int.reduceLE,Int.reduceGT,Int.reduceGE,Int.reduceEq,Int.reduceNe,Int.reduceBEq,Int.reduceBNe,Int.reduceAdd,Int.reduceSub,Int.reduceNeg,Int.reduceToNat,decide_true,decide_false,Bool.or_false,Bool.false_or,Bool.or_true,Bool.true_or,Bool.and_true,Bool.true_and,Bool.and_false,Bool.false_and]
   exact pureW_self rfl rfl
  | _::_::_::_,h,_=>simp at h
open Go.RowKit
set_option maxRecDepth 4000
theorem nopSimple:NopD Try.prog 16:=by
 refine ⟨Try.xen16,fun cap w=>callsDIn_of_wpSIn Try.func16 rfl trivial fun c₀ cs hu=>?_⟩
 have k1 : 1<cap.size+(4 - cap.size):=by omega
 have k2 : 2<cap.size+(4 - cap.size):=by omega
 have k3 : 1<max 4 cap.size:=by omega
 have k4 : 2<max 4 cap.size:=by omega
 apply wpSIn_seq
 apply wpSIn_region
 simp [wpOpsSIn,Fence.wide,go_sem,recoverD,hu,Try.ntmps16,Exit.thenS,k1,k2,k3,k4]
 refine wpSIn_cond (t:=false) (by simp [Act.eval,k2,k4]) ?_
 refine wpSIn_of_wpIn rfl (wpIn_skip ?_)
 refine ⟨rfl, .returning,by rw [← hu], .tuple #[],?_,⟨_,rfl⟩,rfl,rfl⟩
 simp [results,Try.results16,go_sem]
def simpE (e:ExprR):ExprR:=if validE e=true then simE e else zeroE
theorem cSimple (e:ExprR) (h:e.fit):CPure Try.prog 8 [vexpr e] (vexpr (simpE e)):=by
 have hV:=cValidE e h
 have hS:=fun hv=>cSimple1 _ e (Nat.lt_succ_self _) h hv
 unfold simpE
 obtain ⟨op,media,frame,num,den,param,text,args⟩:=e
 rw [vexpr_mk]
 refine cpure_ofW Try.xen8 Try.func8 rfl Try.ntmps8 (by rw [Try.results8]) (aw_ok _ ?_)
 simp only [go_sem,simprocAttr]
 refine ⟨_,hV,?_⟩
 simp only [go_sem,simprocAttr]
 refine ⟨fun h1=>?_,fun h1=>?_⟩
 ·unfold awS
  simp only [go_sem,simprocAttr]
  rw [if_neg (by rw [nt h1];exact Bool.false_ne_true)]
  exact ⟨nopSimple,pureW_zeroE⟩
 ·rw [if_pos (nf h1)]
  have hc:=hS (nf h1)
  rcases hs:simE (.mk op media frame num den param text args) with ⟨o2,m2,fr2,nu2,de2,pa2,te2,ar2⟩
  rw [hs] at hc
  unfold awS
  simp only [go_sem,simprocAttr]
  refine ⟨_,hc,?_⟩
  simp only [go_sem,simprocAttr]
  exact ⟨nopSimple,pureW_self rfl rfl⟩
end Go.Proofs.Ytmbmmijdmdoalaa
