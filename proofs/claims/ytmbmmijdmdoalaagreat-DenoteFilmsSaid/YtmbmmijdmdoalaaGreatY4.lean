/- Proved here: Plain laws of the simplified expression, for use in the proofs of the given statements; conditions stand in each theorem. -/
import Derived.Test.YtmbmmijdmdoalaaGreatY2
import Derived.Test.YtmbmmijdmdoalaaGreatY3
set_option linter.unusedSimpArgs false
set_option linter.unusedVariables false
set_option linter.unusedSectionVars false
set_option linter.unnecessarySimpa false
namespace Go.Proofs.YtmbmmijdmdoalaaGreat
open Go.RowKit
set_option maxRecDepth 4000
theorem noB_eq {s:ByteArray} (h:noB s=true):s=⟨#[]⟩:=by
 unfold noB at h
 exact bytes_inj (by simpa using h)
theorem fields_op0 {media:ByteArray} {frame num den param:Int} {text:ByteArray} {n:Int} (h:fieldsOk 0 media frame num den param text n=true) :
  media=⟨#[]⟩∧frame=0∧num=0∧den=0∧param=0∧text=⟨#[]⟩∧n=0:=by
 unfold fieldsOk at h
 rw [if_pos (by rfl)] at h
 simp only [Bool.and_eq_true,beq_iff_eq] at h
 exact ⟨noB_eq h.1.1.1.1.1,h.1.1.1.1.2,h.1.1.1.2.1,h.1.1.1.2.2,h.1.1.2,noB_eq h.1.2,h.2⟩
theorem validE_parts {op:Int} {media:ByteArray} {frame num den param:Int} {text:ByteArray} {args:List ExprR} (h:validE (.mk op media frame num den param text args)=true) :
  fieldsOk op media frame num den param text args.length=true ∧ ∀ e∈args,validE e=true:=by
 unfold validE at h
 rw [Bool.and_eq_true,validEs_eq,List.all_eq_true] at h
 exact h
theorem validE_mk {op:Int} {media:ByteArray} {frame num den param:Int} {text:ByteArray} {args:List ExprR} (h:fieldsOk op media frame num den param text args.length=true) (h2:∀ e∈args,validE e=true) :
  validE (.mk op media frame num den param text args)=true:=by
 unfold validE
 rw [Bool.and_eq_true,validEs_eq,List.all_eq_true]
 exact ⟨h,h2⟩
theorem op_zero {e:ExprR} (hv:validE e=true) (h:opE e=0):e=zeroE:=by
 obtain ⟨op,media,frame,num,den,param,text,args⟩:=e
 have hop:op=0:=h
 subst hop
 obtain ⟨h1,h2,h3,h4,h5,h6,h7⟩:=fields_op0 (validE_parts hv).1
 have:args = []:=by cases args with
  | nil=>rfl
  | cons _ _=>simp at h7;omega
 rw [h1,h2,h3,h4,h5,h6,this]
 rfl
mutual
def leastE:ExprR→Bool
 | .mk op _ _ _ _ _ _ args => !((args.length==2&&eqE (args.getD 0 default) (args.getD 1 default))||(op==4&&opE (args.getD 0 default)==0))&&leastEs args
def leastEs:List ExprR→Bool
 | []=>true
 | e::es=>leastE e&&leastEs es
end
theorem validE_zero:validE zeroE=true:=by simp [zeroE,validE,validEs,fieldsOk,noB]
theorem leastE_zero:leastE zeroE=true:=by simp [zeroE,leastE,leastEs]
theorem simE_zero:simE zeroE=zeroE:=by simp only [zeroE,simE,simEs];rfl
theorem fields_op4 {media:ByteArray} {frame num den param:Int} {text:ByteArray} {n:Int} (h:fieldsOk 4 media frame num den param text n=true):n=2:=by
 unfold fieldsOk at h
 rw [if_neg (by decide),if_neg (by decide),if_neg (by decide),if_neg (by decide),if_pos (by decide)] at h
 simp only [Bool.and_eq_true,beq_iff_eq] at h
 exact h.2
theorem simE_good:∀ (m:Nat) (e:ExprR),SizeOf.sizeOf e<m→validE e=true→validE (simE e)=true∧leastE (simE e)=true∧simE (simE e)=simE e
 | 0,_,h,_=>absurd h (Nat.not_lt_zero _)
 | m+1, .mk op media frame num den param text args,hm,hv=>by
  obtain ⟨h1,h2⟩:=validE_parts hv
  have hl:=fields_len h1
  have ih:∀ e∈args,validE (simE e)=true∧leastE (simE e)=true∧simE (simE e)=simE e:=fun e he=>simE_good m e (by have:=arg_lt he op media frame num den param text;omega) (h2 e he)
  match args,hl,ih,h1 with
  | [],_,_,h1 =>
   have e1:simE (.mk op media frame num den param text []) = .mk op media frame num den param text []:=by
    conv=>lhs;unfold simE
    simp only [simEs]
    rfl
   rw [e1]
   refine ⟨validE_mk h1 (by simp),?_,e1⟩
   have h4:(op==4)=false:=by
    rw [Bool.eq_false_iff]
    intro h4
    rw [beq_iff_eq] at h4
    subst h4
    have:=fields_op4 h1
    simp at this
   simp [leastE,leastEs,h4]
  | [a],_,ih,h1 =>
   obtain ⟨i1,i2,i3⟩:=ih a (by simp)
   rw [simE_one]
   refine ⟨validE_mk h1 (by simpa using i1),?_,by rw [simE_one,i3]⟩
   have h4:(op==4)=false:=by
    rw [Bool.eq_false_iff]
    intro h4
    rw [beq_iff_eq] at h4
    subst h4
    have:=fields_op4 h1
    simp at this
   simp [leastE,leastEs,h4,i2]
  | [a,b],_,ih,h1 =>
   obtain ⟨i1,i2,i3⟩:=ih a (by simp)
   obtain ⟨j1,j2,j3⟩:=ih b (by simp)
   rw [simE_two,redE_two]
   split
   ·exact ⟨i1,i2,i3⟩
   ·rename_i hne
    split
    ·split
     ·exact ⟨j1,j2,j3⟩
     ·exact ⟨validE_zero,leastE_zero,simE_zero⟩
    ·rename_i hk
     refine ⟨validE_mk h1 (by simp [i1,j1]),?_,?_⟩
     ·rw [Bool.not_eq_true] at hne hk
      simp [leastE,leastEs,i2,j2,hne,hk]
     ·rw [simE_two,i3,j3,redE_two,if_neg hne,if_neg hk]
  | _::_::_::_,h,_,_=>simp at h
theorem simE_valid {e:ExprR} (h:validE e=true):validE (simE e)=true:=(simE_good _ e (Nat.lt_succ_self _) h).1
open Go.RowKit
set_option maxRecDepth 4000
theorem nth_0 (d:List T) (n:Nat):nth d [] n=d:=by simp [nth]
theorem nth_1b (d a:List T):nth d [a] 1=d:=rfl
theorem cRSameE (a b:ExprR):CPure Tryz.prog 66 [vexpr a,vexpr b] (vbool (eqE a b)):=cRSameE1 _ a b (Nat.lt_succ_self _)
theorem cRSimple1:∀ (m:Nat) (e:ExprR),SizeOf.sizeOf e<m→e.fit→validE e=true→CPure Tryz.prog 64 [vexpr e] (vexpr (simE e))
 | 0,e,h,_,_=>absurd h (Nat.not_lt_zero _)
 | m+1, .mk op media frame num den param text args,hm,hfit,hv=>by
  simp only [ExprR.fit] at hfit
  obtain ⟨f1,f2,f3,f4,f5,f6⟩:=hfit
  obtain ⟨hv1,hv2⟩:=validE_parts hv
  have hl:args.length≤2:=fields_len hv1
  have ih:∀ e∈args,CPure Tryz.prog 64 [vexpr e] (vexpr (simE e)):=fun e he=>cRSimple1 m e (by have:=arg_lt he op media frame num den param text;omega) (fits_mem f6 e he) (hv2 e he)
  have h4:op=4→args.length=2:=fun h=>by
   subst h
   have:=fields_op4 hv1
   omega
  clear hm
  rw [vexpr_mk]
  match args,hl,ih,h4,hv2 with
  | [],_,_,h4,_ =>
   have h4':(op==4)=false:=by rw [Bool.eq_false_iff];intro h;rw [beq_iff_eq] at h;have:=h4 h;simp at this
   have e1:simE (.mk op media frame num den param text []) = .mk op media frame num den param text []:=by
    conv=>lhs;unfold simE
    simp only [simEs]
    rfl
   rw [e1]
   refine cpure_ofW Tryz.xen64 Tryz.func64 rfl Tryz.ntmps64 (by rw [Tryz.results64]) (aw_ok _ ?_)
   simp only [go_sem,simprocAttr,decide_true,decide_false,List.map_nil,List.length_nil]
   refine awp_loop_f (fun (_:Nat) σ => setS 3 (.t (texprs [])) σ) (fun _=>True) (fun _=>0) 0 (weak_self ?_) trivial ?_
   ·simp only [go_sem,simprocAttr,decide_true,decide_false]<;>simp
   ·intro k _
    refine aw_ok _ ?_
    simp only [go_sem,simprocAttr,decide_true,decide_false,List.map_nil,List.length_nil,cst0]
    refine drawR_of [0,1,2,3,4,5,6,7,8,9,10,11] .done rfl (by kernel_rfl) (by kernel_rfl) (by decide) ?_
    simp only [go_sem,simprocAttr,decide_true,decide_false,h4',cst0,List.map_nil,List.length_nil,nth_0,zE]
    refine ⟨vbool false,fun h=>h.elim,?_⟩
    simp only [go_sem,simprocAttr,decide_true,decide_false,h4',cst0,List.map_nil,List.length_nil,nth_0,zE]
    exact pureW_self rfl rfl
  | [a],_,ih,h4,_ =>
   have h4':(op==4)=false:=by rw [Bool.eq_false_iff];intro h;rw [beq_iff_eq] at h;have:=h4 h;simp at this
   have iha:=ih a (by simp)
   rcases hsa:simE a with ⟨o2,m2,fr2,nu2,de2,pa2,te2,ar2⟩
   rw [simE_one,hsa]
   rw [hsa] at iha
   obtain ⟨o1,m1,fr1,nu1,de1,pa1,te1,ar1⟩:=a
   refine cpure_ofW Tryz.xen64 Tryz.func64 rfl Tryz.ntmps64 (by rw [Tryz.results64]) (aw_ok _ ?_)
   simp only [go_sem,simprocAttr,decide_true,decide_false,List.map_nil,List.map_cons,List.length_cons,List.length_nil,ExprR.c,cs_eq]
   refine awp_loopL ?_
   refine awpL_step (aw_ok _ ?_)
   simp only [go_sem,simprocAttr,decide_true,decide_false,List.map_nil,List.map_cons,List.length_cons,List.length_nil,ExprR.c,cs_eq,cst1,cst0,nth_1a]
   refine ⟨_,iha,?_⟩
   simp only [go_sem,simprocAttr,decide_true,decide_false,cst1,cst0,cw1]
   refine ⟨by decide,?_⟩
   refine awpL_step (aw_ok _ ?_)
   simp only [go_sem,simprocAttr,decide_true,decide_false,List.map_nil,List.map_cons,List.length_cons,List.length_nil,cst1,cst0,cw1]
   refine drawR_of [0,1,2,3,4,5,6,7,8,9,10,11] .done rfl (by kernel_rfl) (by kernel_rfl) (by decide) ?_
   simp only [go_sem,simprocAttr,decide_true,decide_false,h4',cst1,cst0,List.map_cons,List.map_nil,List.length_cons,List.length_nil,nth_1a,nth_1b]
   refine ⟨vbool false,fun h=>h.elim,?_⟩
   simp only [go_sem,simprocAttr,decide_true,decide_false,h4',cst1,cst0,List.map_cons,List.map_nil,List.length_cons,List.length_nil,nth_1a,nth_1b]
   refine pureW_self ?_ ?_<;>(simp only [vex,texprs,List.map_cons,List.map_nil,ExprR.c,cs_eq];rfl)
  | [a,b],_,ih,_,hv2 =>
   have iha:=ih a (by simp)
   have ihb:=ih b (by simp)
   have va:=simE_valid (hv2 a (by simp))
   rw [simE_two]
   obtain ⟨x,hx⟩:∃ x,simE a=x:=⟨_,rfl⟩
   obtain ⟨y,hy⟩:∃ y,simE b=y:=⟨_,rfl⟩
   rw [hx] at iha va ⊢
   rw [hy] at ihb ⊢
   have hS:=cRSameE x y
   have hz:opE x=0→x=zeroE:=op_zero va
   obtain ⟨o1,m1,fr1,nu1,de1,pa1,te1,ar1⟩:=a
   obtain ⟨o3,m3,fr3,nu3,de3,pa3,te3,ar3⟩:=b
   obtain ⟨o2,m2,fr2,nu2,de2,pa2,te2,ar2⟩:=x
   obtain ⟨o4,m4,fr4,nu4,de4,pa4,te4,ar4⟩:=y
   refine cpure_ofW Tryz.xen64 Tryz.func64 rfl Tryz.ntmps64 (by rw [Tryz.results64]) (aw_ok _ ?_)
   simp only [go_sem,simprocAttr,decide_true,decide_false,List.map_nil,List.map_cons,List.length_cons,List.length_nil,ExprR.c,cs_eq]
   refine awp_loopL ?_
   refine awpL_step (aw_ok _ ?_)
   simp only [go_sem,simprocAttr,decide_true,decide_false,List.map_nil,List.map_cons,List.length_cons,List.length_nil,ExprR.c,cs_eq,cst2,cst0,nth2a]
   refine ⟨_,iha,?_⟩
   simp only [go_sem,simprocAttr,decide_true,decide_false,cst1,cst2,cst0,cw1]
   refine ⟨by decide,?_⟩
   refine awpL_step (aw_ok _ ?_)
   simp only [go_sem,simprocAttr,decide_true,decide_false,List.map_nil,List.map_cons,List.length_cons,List.length_nil,ExprR.c,cs_eq,cst2,cst1,cst0,cw1,nth2b]
   refine ⟨_,ihb,?_⟩
   simp only [go_sem,simprocAttr,decide_true,decide_false,cst1,cst2,cst0,cw1,cw2]
   refine ⟨by decide,?_⟩
   refine awpL_step (aw_ok _ ?_)
   simp only [go_sem,simprocAttr,decide_true,decide_false,List.map_nil,List.map_cons,List.length_cons,List.length_nil,cst2,cst1,cst0,cw1,cw2]
   refine drawR_of [0,1,2,3,4,5,6,7,8,9,10,11] .done rfl (by kernel_rfl) (by kernel_rfl) (by decide) ?_
   simp only [go_sem,simprocAttr,decide_true,decide_false,cst2,cst1,cst0,List.map_cons,List.map_nil,List.length_cons,List.length_nil,nth2a,nth2b]
   refine ⟨_,hS,?_⟩
   simp only [go_sem,simprocAttr,decide_true,decide_false,cst2,cst1,cst0,List.map_cons,List.map_nil,List.length_cons,List.length_nil,nth2a,nth2b]
   rw [redE_two]
   refine ⟨fun h1=>?_,fun h1=>?_⟩
   ·rw [if_pos h1]
    unfold awS
    simp only [go_sem,simprocAttr,decide_true,decide_false,cst2,cst1,cst0,List.map_cons,List.map_nil,List.length_cons,List.length_nil,nth2a,nth2b]
    exact pureW_self rfl rfl
   ·rw [if_neg (by rw [h1];exact Bool.false_ne_true)]
    unfold awS
    simp only [go_sem,simprocAttr,decide_true,decide_false,cst2,cst1,cst0,List.map_cons,List.map_nil,List.length_cons,List.length_nil,nth2a,nth2b]
    refine ⟨fun h2=>?_,fun h2=>?_⟩
    ·rw [show (op==4&&opE (.mk o2 m2 fr2 nu2 de2 pa2 te2 ar2)==0)=true from h2,if_pos rfl]
     unfold awS
     simp only [go_sem,simprocAttr,decide_true,decide_false,cst2,cst1,cst0,List.map_cons,List.map_nil,List.length_cons,List.length_nil,nth2a,nth2b]
     refine ⟨fun h3=>?_,fun h3=>?_⟩
     ·rw [if_pos h3]
      unfold awS
      simp only [go_sem,simprocAttr,decide_true,decide_false,cst2,cst1,cst0,List.map_cons,List.map_nil,List.length_cons,List.length_nil,nth2a,nth2b]
      exact pureW_self rfl rfl
     ·rw [if_neg (by rw [h3];exact Bool.false_ne_true)]
      have hz':=hz (by simp only [Bool.and_eq_true,beq_iff_eq] at h2;exact h2.2)
      rw [← hz']
      unfold awS
      simp only [go_sem,simprocAttr,decide_true,decide_false,cst2,cst1,cst0,List.map_cons,List.map_nil,List.length_cons,List.length_nil,nth2a,nth2b]
      exact pureW_self rfl rfl
    ·rw [show (op==4&&opE (.mk o2 m2 fr2 nu2 de2 pa2 te2 ar2)==0)=false from h2,if_neg Bool.false_ne_true]
     unfold awS
     simp only [go_sem,simprocAttr,decide_true,decide_false,cst2,cst1,cst0,List.map_cons,List.map_nil,List.length_cons,List.length_nil,nth2a,nth2b]
     refine pureW_self ?_ ?_<;>first | rfl | (simp only [vex,texprs,List.map_cons,List.map_nil,ExprR.c,cs_eq];rfl)
  | _::_::_::_,h,_,_,_=>simp at h
end Go.Proofs.YtmbmmijdmdoalaaGreat
