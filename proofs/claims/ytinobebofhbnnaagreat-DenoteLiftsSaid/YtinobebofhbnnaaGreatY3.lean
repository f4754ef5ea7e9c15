/- Proved here: When two expressions are the same by the reference, for use in the proofs of the given statements; conditions stand in each theorem. -/
import Derived.Test.YtinobebofhbnnaaGreatY1
set_option linter.unusedSimpArgs false
set_option linter.unusedVariables false
set_option linter.unusedSectionVars false
set_option linter.unnecessarySimpa false
namespace Go.Proofs.YtinobebofhbnnaaGreat
open Go.RowKit
set_option maxRecDepth 4000
def headEqE (op:Int) (media:ByteArray) (frame num den param:Int) (text:ByteArray) (n:Int) (op2:Int) (media2:ByteArray) (frame2 num2 den2 param2:Int) (text2:ByteArray) (n2:Int):Bool :=
 op==op2&&(media.toList==media2.toList)&&frame==frame2&&num==num2&&den==den2&&param==param2&&(text.toList==text2.toList)&&n==n2
theorem eqE_head {op:Int} {media:ByteArray} {frame num den param:Int} {text:ByteArray} {args:List ExprR} {op2:Int} {media2:ByteArray} {frame2 num2 den2 param2:Int} {text2:ByteArray} {args2:List ExprR} :
  eqE (.mk op media frame num den param text args) (.mk op2 media2 frame2 num2 den2 param2 text2 args2)=(headEqE op media frame num den param text args.length op2 media2 frame2 num2 den2 param2 text2 args2.length&&eqEs args args2):=by
 unfold eqE headEqE
 by_cases h:args.length=args2.length
 ·have:((args.length:Int)==args2.length)=true:=by rw [beq_iff_eq,h]
  rw [this,Bool.and_true]
 ·rw [eqEs_len h,Bool.and_false,Bool.and_false]
theorem cRSameE1:∀ (m:Nat) (a b:ExprR),SizeOf.sizeOf a<m→CPure Tryz.prog 46 [vexpr a,vexpr b] (vbool (eqE a b))
 | 0,e,_,h=>absurd h (Nat.not_lt_zero _)
 | m+1, .mk op media frame num den param text args, .mk op2 media2 frame2 num2 den2 param2 text2 args2,hm=>by
  have ih:∀ x∈args, ∀ y∈args2,CPure Tryz.prog 46 [vexpr x,vexpr y] (vbool (eqE x y)):=fun x hx y _=>cRSameE1 m x y (by have:=arg_lt hx op media frame num den param text;omega)
  rw [vexpr_mk,vexpr_mk]
  refine cpure_of Tryz.xen46 Tryz.func46 rfl Tryz.ntmps46 (by rw [Tryz.results46]) (awp_facts fun hf=>aw_ok _ ?_)
  simp only [go_sem,simprocAttr,factsT,List.length_map] at hf
  have hla:args.length≤maxLen:=by omega
  simp only [go_sem,simprocAttr]
  refine brW (b := !headEqE op media frame num den param text args.length op2 media2 frame2 num2 den2 param2 text2 args2.length) ?_ ⟨fun h1=>?_,fun h1=>?_⟩
  ·unfold headEqE
   simp only [bne,Bool.not_and]
  ·unfold awS
   simp only [go_sem,simprocAttr]
   rw [eqE_head,nt h1]
   rfl
  ·unfold awS
   simp only [go_sem,simprocAttr]
   have hH:=nf h1
   have hl:args.length=args2.length:=by
    unfold headEqE at hH
    simp only [Bool.and_eq_true,beq_iff_eq] at hH
    omega
   rw [eqE_head,hH,Bool.true_and]
   refine awp_loop_f (fun (k:Nat) σ => setS 5 (vint k) (deadS [62,63,64,65,66,67,68,69,70,71,72,73,74,75,76,77,78,79,80] (cleanS σ))) (fun k=>k≤args.length ∧ ∀ i,i<k→eqE (args.getD i default) (args2.getD i default)=true) (fun k=>args.length - k) 0 (weak_self ?_) ⟨Nat.zero_le _,by omega⟩ ?_
   ·simp only [go_sem,simprocAttr]<;>simp
   ·rintro k ⟨hk,hi⟩
    refine aw_ok _ ?_
    simp only [go_sem,simprocAttr]
    refine ⟨fun hlt=>?_,fun hge=>?_⟩
    ·simp only [bxx] at hlt
     have hn1:=nth_expr zE (show k<args.length by omega)
     have hn2:=nth_expr zE (show k<args2.length by omega)
     have ihk:=ih _ (mem_getDE (show k<args.length by omega)) _ (mem_getDE (show k<args2.length by omega))
     have hhit := @eqEs_hit args args2 k
     have hup:eqE (args.getD k default) (args2.getD k default)=true → ∀ i,i<k+1→eqE (args.getD i default) (args2.getD i default)=true:=fun h=>upto hi h
     rcases hx:args.getD k default with ⟨o1,m1,fr1,nu1,de1,pa1,te1,ar1⟩
     rcases hy:args2.getD k default with ⟨o2,m2,fr2,nu2,de2,pa2,te2,ar2⟩
     rw [hx] at hn1 ihk hhit hup
     rw [hy] at hn2 ihk hhit hup
     unfold awS
     simp only [go_sem,simprocAttr]
     refine drawR_of [0,1,2,3,4,5,6,7,8,9,10,11] .done rfl (by kernel_rfl) (by kernel_rfl) (by decide) ?_
     simp only [go_sem,simprocAttr,hn1,hn2,ExprR.c,cs_eq]
     refine ⟨⟨by omega,by omega⟩,⟨by omega,by omega⟩,_,ihk,?_⟩
     simp only [go_sem,simprocAttr]
     refine ⟨fun h2=>?_,fun h2=>?_⟩
     ·unfold awS
      simp only [go_sem,simprocAttr]
      rw [hhit (by simpa using h2)]
     ·unfold awS
      simp only [go_sem,simprocAttr]
      refine ⟨k+1,weak_self ?_,⟨by omega,hup (by simpa using h2)⟩,by omega⟩
      simp only [go_sem,simprocAttr]<;>simp [wrap_of (show k<args.length by omega) hla]
    ·simp only [bxx] at hge
     unfold awS
     simp only [go_sem,simprocAttr]
     rw [eqEs_done hl (fun i h2=>hi i (by omega))]
open Go.RowKit
set_option maxRecDepth 4000
def bareB (op:Int) (media:ByteArray) (frame num den param:Int) (text:ByteArray):Bool :=
 !((!(op==1)&&(!(noB media)||frame != 0))||(!(op==2||op==3)&&(num != 0||den != 0)))&&((op==3||op==4||param==0)&&(op==5||noB text))
def opsOk (op:Int) (media:ByteArray) (frame num den param:Int) (text:ByteArray):Bool :=
 if (op==0)=true then true
 else if (op==1)=true then vName media&&decide (0≤frame)&&decide (frame<2147483647)
 else if (op==2||op==3)=true then shareB num den&&decide (0≤param)&&decide (param≤3)
 else if (op==4)=true then decide (0≤param)&&decide (param≤255)
 else if (op==5)=true then vLine text
 else false
def manyE (op:Int):Int:=if (op==2||op==3||op==4)=true then 2 else if (op==5)=true then 1 else 0
open Go.RowKit
set_option maxRecDepth 4000
theorem validE_mk {op:Int} {media:ByteArray} {frame num den param:Int} {text:ByteArray} {args:List ExprR} (h:fieldsOk op media frame num den param text args.length=true) (h2:∀ e∈args,validE e=true) :
  validE (.mk op media frame num den param text args)=true:=by
 unfold validE
 rw [Bool.and_eq_true,validEs_eq,List.all_eq_true]
 exact ⟨h,h2⟩
mutual
def leastE:ExprR→Bool
 | .mk op _ _ _ _ _ _ args => !((args.length==2&&eqE (args.getD 0 default) (args.getD 1 default))||(op==4&&opE (args.getD 0 default)==0))&&leastEs args
def leastEs:List ExprR→Bool
 | []=>true
 | e::es=>leastE e&&leastEs es
end
theorem validE_zero:validE zeroE=true:=by simp [zeroE,validE,validEs,fieldsOk,noB]
theorem simE_zero:simE zeroE=zeroE:=by simp only [zeroE,simE,simEs];rfl
open Go.RowKit
set_option maxRecDepth 4000
theorem cRSameE (a b:ExprR):CPure Tryz.prog 46 [vexpr a,vexpr b] (vbool (eqE a b)):=cRSameE1 _ a b (Nat.lt_succ_self _)
end Go.Proofs.YtinobebofhbnnaaGreat
