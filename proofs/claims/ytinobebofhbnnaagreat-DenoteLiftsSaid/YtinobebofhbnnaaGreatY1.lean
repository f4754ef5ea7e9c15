/- Proved here: Expressions as plain data, and which are valid, for use in the proofs of the given statements; conditions stand in each theorem. -/
import Derived.Test.YtinobebofhbnnaaGreatZH
import Derived.Test.YtinobebofhbnnaaGreatZI
import Derived.Test.YtinobebofhbnnaaGreatZS
import Derived.Test.YtinobebofhbnnaaGreatZU
set_option linter.unusedSimpArgs false
set_option linter.unusedVariables false
set_option linter.unusedSectionVars false
set_option linter.unnecessarySimpa false
namespace Go.Proofs.YtinobebofhbnnaaGreat
open Go.RowKit
set_option maxRecDepth 4000
inductive ExprR where
 | mk (op:Int) (media:ByteArray) (frame num den param:Int) (text:ByteArray) (args:List ExprR)
instance:Inhabited ExprR:=⟨.mk 0 ⟨#[]⟩ 0 0 0 0 ⟨#[]⟩ []⟩
def zE:List T:=[ti 0,tstr ⟨#[]⟩,ti 0,ti 0,ti 0,ti 0,tstr ⟨#[]⟩, .lit (.slice none 0 0)]
mutual
def ExprR.c:ExprR→List T
 | .mk op media frame num den param text args=>[ti op,tstr media,ti frame,ti num,ti den,ti param,tstr text, .list 8 zE (ExprR.cs args)]
def ExprR.cs:List ExprR→List (List T)
 | []=>[]
 | e::es=>ExprR.c e::ExprR.cs es
end
theorem cs_eq:∀ l:List ExprR,ExprR.cs l=l.map ExprR.c
 | []=>by simp only [ExprR.cs,List.map_nil]
 | e::es=>by simp only [ExprR.cs,List.map_cons,cs_eq es]
abbrev texprs (l:List ExprR):T := .list 8 zE (l.map ExprR.c)
abbrev vex (op:Int) (media:ByteArray) (frame num den param:Int) (text:ByteArray) (args:List ExprR):V :=
 .agg [vint op,vstr media,vint frame,vint num,vint den,vint param,vstr text, .t (texprs args)]
def vexpr:ExprR→V
 | .mk op media frame num den param text args=>vex op media frame num den param text args
@[go_sem] theorem vexpr_mk (op:Int) (media:ByteArray) (frame num den param:Int) (text:ByteArray) (args:List ExprR):vexpr (.mk op media frame num den param text args)=vex op media frame num den param text args:=rfl
@[go_sem] theorem ExprR.cl:∀ e:ExprR,(ExprR.c e).length=8
 | .mk .. => by simp only [ExprR.c];rfl
@[go_sem] theorem ExprR.ct:∀ e:ExprR,V.agg ((ExprR.c e).map V.t)=vexpr e
 | .mk .. => by simp only [ExprR.c,cs_eq];rfl
mutual
def ExprR.fit:ExprR→Prop
 | .mk op _ frame num den param _ args=>I64 op∧I64 frame∧I64 num∧I64 den∧I64 param∧ExprR.fits args
def ExprR.fits:List ExprR→Prop
 | []=>True
 | e::es=>ExprR.fit e∧ExprR.fits es
end
theorem fits_mem:∀ {l:List ExprR},ExprR.fits l → ∀ e∈l,e.fit
 | [],_,e,h=>by cases h
 | x::l,hf,e,h=>by
  simp only [ExprR.fits] at hf
  rcases List.mem_cons.1 h with rfl | h
  ·exact hf.1
  ·exact fits_mem hf.2 e h
def shareB (num den:Int):Bool:=decide (num > 0)&&decide (num<den)&&decide (den≤2147483648)&&vRat ⟨num,den⟩
theorem cPText (s:ByteArray):CPure Tryz.prog 236 [vstr s] (vbool (vLine s)):=by
 refine cpure_of Tryz.xen236 Tryz.func236 rfl Tryz.ntmps236 (by rw [Tryz.results236]) (awp_facts fun hf=>aw_ok _ ?_)
 simp only [go_sem,simprocAttr,factsT] at hf
 have hl:s.size≤maxLen:=hf
 simp only [go_sem,simprocAttr]
 refine ⟨fun h=>?_,fun h=>?_⟩
 ·unfold awS
  simp only [go_sem,simprocAttr]
  have:vLine s=false:=by
   simp only [bxx] at h
   simp only [vLine,Bool.and_eq_false_iff,decide_eq_false_iff_not]
   omega
  rw [this]
 ·unfold awS
  simp only [go_sem,simprocAttr]
  refine awp_loop_f (fun (k:Nat) σ => setS 14 (vint k) (deadS [4,5,6,7,8,9,10,11,12] σ)) (fun k=>k≤s.size ∧ ∀ i,i<k→lnI (byteAt s i)=true) (fun k=>s.size - k) 0 (weak_self ?_) ⟨Nat.zero_le _,by omega⟩ ?_
  ·simp only [go_sem,simprocAttr]<;>rfl
  ·rintro k ⟨hk,hi⟩
   refine aw_ok _ ?_
   simp only [go_sem,simprocAttr]
   refine ⟨fun hlt=>?_,fun hge=>?_⟩
   all_goals simp only [decide_eq_true_eq,decide_eq_false_iff_not,Int.ofNat_lt] at *
   ·unfold awS
    simp only [go_sem,simprocAttr]
    refine ⟨⟨by omega,by omega⟩,fun _=>⟨by omega,by omega⟩,?_⟩
    refine brW (b := !lnI (byteAt s k)) ?_ ⟨fun hb=>?_,fun hb=>?_⟩
    ·unfold byteAt lnI
     rw [Bool.eq_iff_iff];simp only [bxx];omega
    ·unfold awS
     simp only [go_sem,simprocAttr]
     rw [vLine,bytes_hit hlt (by simpa using hb)]
     simp
    ·unfold awS
     simp only [go_sem,simprocAttr]
     refine ⟨k+1,weak_self ?_,⟨hlt,fun i h2=>?_⟩,by omega⟩
     ·simp only [go_sem,simprocAttr]<;>simp [wrap_of hlt hl]
     ·rcases Nat.lt_or_ge i k with h3 | h3
      ·exact hi i h3
      ·rw [show i=k from by omega];simpa using hb
   ·unfold awS
    simp only [go_sem,simprocAttr]
    rw [vLine,bytes_done (fun i h2=>hi i (by omega))]
    simp only [bxx] at h
    simp
    omega
theorem cPShare (op:Int) (media:ByteArray) (frame num den param:Int) (text:ByteArray) (args:List ExprR) (h:I64 num) (h':I64 den) :
  CPure Tryz.prog 235 [vex op media frame num den param text args] (vbool (shareB num den)):=by
 refine cpure_of Tryz.xen235 Tryz.func235 rfl Tryz.ntmps235 (by rw [Tryz.results235]) (aw_ok _ ?_)
 simp only [go_sem,simprocAttr]
 refine ⟨_,fun _=>cPRat ⟨num,den⟩ ⟨h,h'⟩,?_⟩
 simp only [go_sem,simprocAttr]<;>rfl
def noB (s:ByteArray):Bool:=s.toList==(⟨#[]⟩:ByteArray).toList
def fieldsOk (op:Int) (media:ByteArray) (frame num den param:Int) (text:ByteArray) (n:Int):Bool :=
 if (op==0)=true then noB media&&frame==0&&(num==0&&den==0)&&param==0&&noB text&&n==0
 else if (op==1)=true then vName media&&decide (frame ≥ 0)&&decide (frame≤2147483646)&&(num==0&&den==0)&&param==0&&noB text&&n==0
 else if (op==2)=true then noB media&&frame==0&&shareB num den&&param==0&&noB text&&n==2
 else if (op==3)=true then noB media&&frame==0&&shareB num den&&decide (param ≥ 0)&&decide (param≤3)&&noB text&&n==2
 else if (op==4)=true then noB media&&frame==0&&(num==0&&den==0)&&decide (param ≥ 0)&&decide (param≤255)&&noB text&&n==2
 else if (op==5)=true then noB media&&frame==0&&(num==0&&den==0)&&param==0&&vLine text&&n==1
 else false
theorem cPFields (op:Int) (media:ByteArray) (frame num den param:Int) (text:ByteArray) (args:List ExprR) (h:I64 num) (h':I64 den) :
  CPure Tryz.prog 187 [vex op media frame num den param text args] (vbool (fieldsOk op media frame num den param text args.length)):=by
 refine cpure_of Tryz.xen187 Tryz.func187 rfl Tryz.ntmps187 (by rw [Tryz.results187]) (aw_ok _ ?_)
 simp only [go_sem,simprocAttr]
 refine drawR_of [0,1,2,3,4,5,6,7] .done rfl (by kernel_rfl) (by kernel_rfl) (by decide) ?_
 simp only [go_sem,simprocAttr]
 refine ⟨fun h0=>?_,fun h0=>?_⟩
 ·unfold awS
  simp only [go_sem,simprocAttr]
  unfold fieldsOk
  rw [if_pos h0]
  rfl
 ·unfold awS
  simp only [go_sem,simprocAttr]
  refine ⟨fun h1=>?_,fun h1=>?_⟩
  ·unfold awS
   simp only [go_sem,simprocAttr]
   refine ⟨_,cPName media,?_⟩
   simp only [go_sem,simprocAttr]
   unfold fieldsOk
   rw [if_neg (by rw [h0];exact Bool.false_ne_true),if_pos h1]
   rfl
  ·unfold awS
   simp only [go_sem,simprocAttr]
   refine ⟨fun h2=>?_,fun h2=>?_⟩
   ·unfold awS
    simp only [go_sem,simprocAttr]
    refine ⟨_,fun _=>cPShare op media frame num den param text args h h',?_⟩
    simp only [go_sem,simprocAttr]
    unfold fieldsOk
    rw [if_neg (by rw [h0];exact Bool.false_ne_true),if_neg (by rw [h1];exact Bool.false_ne_true),if_pos h2]
    rfl
   ·unfold awS
    simp only [go_sem,simprocAttr]
    refine ⟨fun h3=>?_,fun h3=>?_⟩
    ·unfold awS
     simp only [go_sem,simprocAttr]
     refine ⟨_,fun _=>cPShare op media frame num den param text args h h',?_⟩
     simp only [go_sem,simprocAttr]
     unfold fieldsOk
     rw [if_neg (by rw [h0];exact Bool.false_ne_true),if_neg (by rw [h1];exact Bool.false_ne_true),if_neg (by rw [h2];exact Bool.false_ne_true),if_pos h3]
     rfl
    ·unfold awS
     simp only [go_sem,simprocAttr]
     refine ⟨fun h4=>?_,fun h4=>?_⟩
     ·unfold awS
      simp only [go_sem,simprocAttr]
      unfold fieldsOk
      rw [if_neg (by rw [h0];exact Bool.false_ne_true),if_neg (by rw [h1];exact Bool.false_ne_true),if_neg (by rw [h2];exact Bool.false_ne_true),if_neg (by rw [h3];exact Bool.false_ne_true),if_pos h4]
      rfl
     ·unfold awS
      simp only [go_sem,simprocAttr]
      refine ⟨fun h5=>?_,fun h5=>?_⟩
      ·unfold awS
       simp only [go_sem,simprocAttr]
       refine ⟨_,fun _=>cPText text,?_⟩
       simp only [go_sem,simprocAttr]
       unfold fieldsOk
       rw [if_neg (by rw [h0];exact Bool.false_ne_true),if_neg (by rw [h1];exact Bool.false_ne_true),if_neg (by rw [h2];exact Bool.false_ne_true),if_neg (by rw [h3];exact Bool.false_ne_true),if_neg (by rw [h4];exact Bool.false_ne_true),if_pos h5]
       rfl
      ·unfold awS
       simp only [go_sem,simprocAttr]
       unfold fieldsOk
       rw [if_neg (by rw [h0];exact Bool.false_ne_true),if_neg (by rw [h1];exact Bool.false_ne_true),if_neg (by rw [h2];exact Bool.false_ne_true),if_neg (by rw [h3];exact Bool.false_ne_true),if_neg (by rw [h4];exact Bool.false_ne_true),if_neg (by rw [h5];exact Bool.false_ne_true)]
mutual
def validE:ExprR→Bool
 | .mk op media frame num den param text args=>fieldsOk op media frame num den param text args.length&&validEs args
def validEs:List ExprR→Bool
 | []=>true
 | e::es=>validE e&&validEs es
end
theorem validEs_eq:∀ l:List ExprR,validEs l=l.all validE
 | []=>by simp only [validEs,List.all_nil]
 | e::es=>by simp only [validEs,List.all_cons,validEs_eq es]
theorem fields_len {op:Int} {media:ByteArray} {frame num den param:Int} {text:ByteArray} {n:Nat} (h:fieldsOk op media frame num den param text n=true):n≤2:=by
 unfold fieldsOk at h
 repeat' split at h
 all_goals first
  | (simp only [Bool.and_eq_true,beq_iff_eq] at h;omega)
  | cases h
theorem nth_expr (d:List T) {l:List ExprR} {k:Nat} (h:k<l.length):nth d (l.map ExprR.c) k=ExprR.c (l.getD k default):=by
 unfold nth
 rw [List.getElem?_map,List.getElem?_eq_getElem h,getD_of_lt h]
 rfl
theorem arg_lt {e:ExprR} {l:List ExprR} (h:e∈l) (op:Int) (media:ByteArray) (frame num den param:Int) (text:ByteArray):SizeOf.sizeOf e<SizeOf.sizeOf (ExprR.mk op media frame num den param text l):=by
 have:=List.sizeOf_lt_of_mem h
 simp only [ExprR.mk.sizeOf_spec]
 omega
theorem cPValidE:∀ (m:Nat) (e:ExprR),SizeOf.sizeOf e<m→e.fit→CPure Tryz.prog 113 [vexpr e] (vbool (validE e))
 | 0,e,h,_=>absurd h (Nat.not_lt_zero _)
 | m+1, .mk op media frame num den param text args,hm,hfit=>by
  simp only [ExprR.fit] at hfit
  obtain ⟨f1,f2,f3,f4,f5,f6⟩:=hfit
  have ih:∀ e∈args,CPure Tryz.prog 113 [vexpr e] (vbool (validE e)):=fun e he=>cPValidE m e (by have:=arg_lt he op media frame num den param text;omega) (fits_mem f6 e he)
  rw [vexpr_mk]
  refine cpure_of Tryz.xen113 Tryz.func113 rfl Tryz.ntmps113 (by rw [Tryz.results113]) (aw_ok _ ?_)
  simp only [go_sem,simprocAttr]
  refine ⟨_,cPFields op media frame num den param text args f3 f4,?_⟩
  simp only [go_sem,simprocAttr]
  refine ⟨fun h1=>?_,fun h1=>?_⟩
  ·unfold awS
   simp only [go_sem,simprocAttr]
   unfold validE
   rw [nt h1]
   rfl
  ·have hF:=nf h1
   have hv:validE (.mk op media frame num den param text args)=args.all validE:=by unfold validE;rw [hF,Bool.true_and,validEs_eq]
   have hl:args.length≤2:=fields_len hF
   rw [hv]
   unfold awS
   simp only [go_sem,simprocAttr]
   refine awp_loop_f (fun (k:Nat) σ => setS 11 (vint k) (deadS [4,12,13,14,15,16,17,18] (cleanS σ))) (fun k=>k≤args.length ∧ ∀ i,i<k→validE (args.getD i default)=true) (fun k=>args.length - k) 0 (weak_self ?_) ⟨Nat.zero_le _,by omega⟩ ?_
   ·simp only [go_sem,simprocAttr]<;>simp
   ·rintro k ⟨hk,hi⟩
    refine aw_ok _ ?_
    simp only [go_sem,simprocAttr]
    refine ⟨fun hlt=>?_,fun hge=>?_⟩
    ·simp only [bxx] at hlt
     have hmem:args.getD k default∈args:=by rw [getD_of_lt (by omega)];exact List.getElem_mem (by omega)
     have hn:=nth_expr zE (show k<args.length by omega)
     have ihk:=ih _ hmem
     have hall := @all_hit ExprR default validE args k (by omega)
     have hup:validE (args.getD k default)=true → ∀ i,i<k+1→validE (args.getD i default)=true:=fun h=>upto hi h
     rcases hx:args.getD k default with ⟨o2,m2,fr2,nu2,de2,pa2,te2,ar2⟩
     rw [hx] at hn ihk hall hup
     unfold awS
     simp only [go_sem,simprocAttr,hn,ExprR.c,cs_eq]
     refine ⟨⟨by omega,by omega⟩,_,ihk,?_⟩
     simp only [go_sem,simprocAttr]
     refine ⟨fun h2=>?_,fun h2=>?_⟩
     ·unfold awS
      simp only [go_sem,simprocAttr]
      rw [hall (nt h2)]
     ·unfold awS
      simp only [go_sem,simprocAttr]
      refine ⟨k+1,weak_self ?_,⟨by omega,hup (nf h2)⟩,by omega⟩
      simp only [go_sem,simprocAttr]<;>simp [wrap1 (show k<9223372036854775807 by omega)]
    ·simp only [bxx] at hge
     unfold awS
     simp only [go_sem,simprocAttr]
     rw [all_done (d:=default) (p:=validE) (fun i h2=>hi i (by omega))]
open Go.RowKit
set_option maxRecDepth 4000
mutual
def eqE:ExprR→ExprR→Bool
 | .mk op media frame num den param text args, .mk op2 media2 frame2 num2 den2 param2 text2 args2 =>
  op==op2&&(media.toList==media2.toList)&&frame==frame2&&num==num2&&den==den2&&param==param2&&(text.toList==text2.toList)&&eqEs args args2
def eqEs:List ExprR→List ExprR→Bool
 | [],[]=>true
 | x::xs,y::ys=>eqE x y&&eqEs xs ys
 | [],_::_=>false
 | _::_,[]=>false
end
mutual
theorem eqE_iff:∀ {a b:ExprR},eqE a b=true ↔ a=b
 | .mk op media frame num den param text args, .mk op2 media2 frame2 num2 den2 param2 text2 args2=>by
  simp only [eqE,Bool.and_eq_true,beq_bytesL,decide_eq_true_eq,beq_iff_eq,ExprR.mk.injEq,eqEs_iff (a:=args) (b:=args2),and_assoc]
theorem eqEs_iff:∀ {a b:List ExprR},eqEs a b=true ↔ a=b
 | [],[]=>by simp only [eqEs]
 | x::xs,y::ys=>by simp only [eqEs,Bool.and_eq_true,eqE_iff (a:=x) (b:=y),eqEs_iff (a:=xs) (b:=ys),List.cons.injEq]
 | [],_::_=>by simp [eqEs]
 | _::_,[]=>by simp [eqEs]
end
theorem eqEs_ne {a b:List ExprR} (h:a≠b):eqEs a b=false:=by rw [Bool.eq_false_iff,ne_eq,eqEs_iff];exact h
theorem eqEs_len {a b:List ExprR} (h:a.length≠b.length):eqEs a b=false:=eqEs_ne fun e=>h (by rw [e])
theorem eqEs_hit {a b:List ExprR} {k:Nat} (h2:eqE (a.getD k default) (b.getD k default)=false):eqEs a b=false:=by
 refine eqEs_ne ?_
 rintro rfl
 rw [Bool.eq_false_iff,ne_eq,eqE_iff] at h2
 exact h2 rfl
theorem eqEs_done {a b:List ExprR} (hl:a.length=b.length) (h:∀ i,i<a.length→eqE (a.getD i default) (b.getD i default)=true):eqEs a b=true:=by
 rw [eqEs_iff]
 refine List.ext_getElem hl fun i h1 h2=>?_
 have:=eqE_iff.1 (h i h1)
 rw [getD_of_lt h1,getD_of_lt h2] at this
 exact this
theorem asCloE (f:FuncId):∀ (w:World) (E:Env) v,RdV w E (.t (.lit (.func (.func f) #[] #[]))) v→RdV w E (.clo f []) v:=by
 intro w E v h
 obtain ⟨rfl,_⟩:=rdV_lit_inv h
 simp only [RdV]
 exact ⟨#[],rfl,by simp only [RdVs]⟩
theorem mem_getDE {l:List ExprR} {k:Nat} (h:k<l.length):l.getD k default∈l:=by rw [getD_of_lt h];exact List.getElem_mem h
theorem cEqFE (a b:List ExprR) (ih:∀ x∈a, ∀ y∈b,CPure Tryz.prog 63 [vexpr x,vexpr y] (vbool (eqE x y))) :
  CPure Tryz.prog 136 [.t (texprs a), .t (texprs b), .t (.lit (.func (.func 63) #[] #[]))] (vbool (eqEs a b)):=by
 refine cpure_as (.cons as_refl (.cons as_refl (.cons (asCloE _) .nil))) (args:=[.t (texprs a), .t (texprs b), .clo 63 []]) ?_
 refine cpure_of Tryz.xen136 Tryz.func136 rfl Tryz.ntmps136 (by rw [Tryz.results136]) (awp_facts fun hf=>aw_ok _ ?_)
 simp only [go_sem,simprocAttr,factsT] at hf
 have hla:a.length≤maxLen:=by first | exact hf.1 | exact hf.1.1 | exact hf.2.1
 simp only [go_sem,simprocAttr]
 refine ⟨fun h=>?_,fun h=>?_⟩
 ·simp only [bxx] at h
  unfold awS
  simp only [go_sem,simprocAttr]
  rw [eqEs_len (by omega)]
 ·have hl:a.length=b.length:=by simp only [bne_eq_false_iff_eq] at h;omega
  unfold awS
  simp only [go_sem,simprocAttr]
  refine awp_loop_f (fun (k:Nat) σ => setS 17 (vint k) (deadS [7,8,9,18,19,20,21,22,23,24,25,26,27,28,29,30,31] (cleanS σ))) (fun k=>k≤a.length ∧ ∀ i,i<k→eqE (a.getD i default) (b.getD i default)=true) (fun k=>a.length - k) 0 (weak_self ?_) ⟨Nat.zero_le _,by omega⟩ ?_
  ·simp only [go_sem,simprocAttr]<;>simp
  ·rintro k ⟨hk,hi⟩
   refine aw_ok _ ?_
   simp only [go_sem,simprocAttr]
   refine ⟨fun hlt=>?_,fun hge=>?_⟩
   ·simp only [bxx] at hlt
    have hn1:=nth_expr zE (show k<a.length by omega)
    have hn2:=nth_expr zE (show k<b.length by omega)
    have ihk:=ih _ (mem_getDE (show k<a.length by omega)) _ (mem_getDE (show k<b.length by omega))
    have hhit := @eqEs_hit a b k
    have hup:eqE (a.getD k default) (b.getD k default)=true → ∀ i,i<k+1→eqE (a.getD i default) (b.getD i default)=true:=fun h=>upto hi h
    rcases hx:a.getD k default with ⟨o1,m1,fr1,nu1,de1,pa1,te1,ar1⟩
    rcases hy:b.getD k default with ⟨o2,m2,fr2,nu2,de2,pa2,te2,ar2⟩
    rw [hx] at hn1 ihk hhit hup
    rw [hy] at hn2 ihk hhit hup
    unfold awS
    simp only [go_sem,simprocAttr,hn1,hn2,ExprR.c,cs_eq]
    refine ⟨⟨by omega,by omega⟩,⟨by omega,by omega⟩,?_⟩
    refine lcall_pure ihk rfl ?_
    simp only [go_sem,simprocAttr]
    refine ⟨fun h2=>?_,fun h2=>?_⟩
    ·unfold awS
     simp only [go_sem,simprocAttr]
     rw [hhit (by simpa using h2)]
    ·unfold awS
     simp only [go_sem,simprocAttr]
     refine ⟨k+1,weak_self ?_,⟨by omega,hup (by simpa using h2)⟩,by omega⟩
     simp only [go_sem,simprocAttr]<;>simp [wrap_of (show k<a.length by omega) hla]
   ·simp only [bxx] at hge
    unfold awS
    simp only [go_sem,simprocAttr]
    rw [eqEs_done hl (fun i h2=>hi i (by omega))]
theorem cPSameE:∀ (m:Nat) (a b:ExprR),SizeOf.sizeOf a<m→CPure Tryz.prog 63 [vexpr a,vexpr b] (vbool (eqE a b))
 | 0,e,_,h=>absurd h (Nat.not_lt_zero _)
 | m+1, .mk op media frame num den param text args, .mk op2 media2 frame2 num2 den2 param2 text2 args2,hm=>by
  have ih:∀ x∈args, ∀ y∈args2,CPure Tryz.prog 63 [vexpr x,vexpr y] (vbool (eqE x y)):=fun x hx y _=>cPSameE m x y (by have:=arg_lt hx op media frame num den param text;omega)
  rw [vexpr_mk,vexpr_mk]
  refine cpure_of Tryz.xen63 Tryz.func63 rfl Tryz.ntmps63 (by rw [Tryz.results63]) (aw_ok _ ?_)
  simp only [go_sem,simprocAttr]
  refine ⟨_,fun _=>cEqFE args args2 ih,?_⟩
  simp only [go_sem,simprocAttr]
  unfold eqE
  rfl
theorem cSameE (a b:ExprR):CPure Tryz.prog 63 [vexpr a,vexpr b] (vbool (eqE a b)):=cPSameE _ a b (Nat.lt_succ_self _)
theorem cValidE (e:ExprR) (h:e.fit):CPure Tryz.prog 113 [vexpr e] (vbool (validE e)):=cPValidE _ e (Nat.lt_succ_self _) h
open Go.RowKit
set_option maxRecDepth 4000
def opE:ExprR→Int
 | .mk op .. => op
def zeroE:ExprR := .mk 0 ⟨#[]⟩ 0 0 0 0 ⟨#[]⟩ []
def redE (op:Int) (media:ByteArray) (frame num den param:Int) (text:ByteArray) (args:List ExprR):ExprR :=
 match args with
 | [x,y]=>if eqE x y=true then x else if (op==4&&opE x==0)=true then (if decide (param > 16)=true then y else zeroE) else .mk op media frame num den param text [x,y]
 | args => .mk op media frame num den param text args
theorem redE_two (op:Int) (media:ByteArray) (frame num den param:Int) (text:ByteArray) (x y:ExprR):redE op media frame num den param text [x,y] =
  if eqE x y=true then x else if (op==4&&opE x==0)=true then (if decide (param > 16)=true then y else zeroE) else .mk op media frame num den param text [x,y]:=rfl
theorem pureW_zeroE {h:Heap}:pureW (vexpr zeroE) (.agg [vint 0,vstr ⟨#[]⟩,vint 0,vint 0,vint 0,vint 0,vstr ⟨#[]⟩, .t (.lit (.slice none 0 0))]) h:=by
 have e:V.lend h (.agg [vint 0,vstr ⟨#[]⟩,vint 0,vint 0,vint 0,vint 0,vstr ⟨#[]⟩, .t (.lit (.slice none 0 0))]) = .agg [vint 0,vstr ⟨#[]⟩,vint 0,vint 0,vint 0,vint 0,vstr ⟨#[]⟩, .t (.lit (.slice none 0 0))]:=rfl
 refine ⟨by rw [e];rfl,fun w E v hv=>?_⟩
 rw [e] at hv
 exact as_agg (by exact ⟨.inl rfl, .inl rfl, .inl rfl, .inl rfl, .inl rfl, .inl rfl, .inl rfl, .inr ⟨rfl,_,_,rfl⟩,trivial⟩) w E v hv
theorem cst0:((0:Nat):Int)=0:=rfl
theorem cst1:((1:Nat):Int)=1:=rfl
theorem cst2:((2:Nat):Int)=2:=rfl
theorem cw1:IntKind.i64.wrap 1=1:=by decide
theorem cw2:IntKind.i64.wrap 2=2:=by decide
theorem nth_1a (d a:List T):nth d [a] 0=a:=rfl
theorem nth2a (d a b:List T):nth d [a,b] 0=a:=rfl
theorem nth2b (d a b:List T):nth d [a,b] 1=b:=rfl
theorem cReduced2 (op:Int) (media:ByteArray) (frame num den param:Int) (text:ByteArray) (x y:ExprR) :
  CPure Tryz.prog 189 [vex op media frame num den param text [x,y]] (vexpr (redE op media frame num den param text [x,y])):=by
 obtain ⟨o1,m1,fr1,nu1,de1,pa1,te1,ar1⟩:=x
 obtain ⟨o2,m2,fr2,nu2,de2,pa2,te2,ar2⟩:=y
 refine cpure_ofW Tryz.xen189 Tryz.func189 rfl Tryz.ntmps189 (by rw [Tryz.results189]) (aw_ok _ ?_)
 simp only [go_sem,↓reduceIte,Nat.reduceAdd,Nat.reduceSub,reduceCtorEq,Bool.and_true,List.map_cons,List.map_nil,List.length_cons,List.length_nil,ExprR.c,cs_eq]
 refine ⟨fun h=>absurd h (by decide),fun _=>?_⟩
 unfold awS
 simp only [go_sem]
 refine drawR_of [0,1,2,3,4,5,6,7,8] .done rfl (by kernel_rfl) (by kernel_rfl) (by decide) ?_
 simp only [go_sem,↓reduceIte,Nat.reduceAdd,Nat.reduceLeDiff,reduceCtorEq,Int.reduceLE,Int.reduceToNat,Bool.and_true,nth2a,nth2b,ExprR.c,cs_eq]
 refine ⟨by decide,by decide,_,cSameE (.mk o1 m1 fr1 nu1 de1 pa1 te1 ar1) (.mk o2 m2 fr2 nu2 de2 pa2 te2 ar2),?_⟩
 simp only [go_sem]
 refine ⟨fun h1=>?_,fun h1=>?_⟩
 ·unfold awS
  simp only [go_sem,↓reduceIte,Nat.reduceAdd,Nat.reduceLeDiff,reduceCtorEq,Int.reduceLE,Int.reduceToNat,Bool.and_true,nth2a,ExprR.c,cs_eq]
  refine ⟨by decide,?_⟩
  rw [redE_two,if_pos h1]
  exact pureW_self rfl rfl
 ·unfold awS
  simp only [go_sem,↓reduceIte,Nat.reduceAdd,reduceCtorEq,Int.reduceLE,Int.reduceToNat,Bool.true_and,nth2a,ExprR.c,cs_eq]
  rw [redE_two,if_neg (by rw [h1];exact Bool.false_ne_true)]
  refine ⟨fun _=>by decide,fun h2=>?_,fun h2=>?_⟩
  ·rw [show (op==4&&opE (.mk o1 m1 fr1 nu1 de1 pa1 te1 ar1)==0)=true from h2,if_pos rfl]
   unfold awS
   simp only [go_sem,↓reduceIte,reduceCtorEq]
   refine ⟨fun h3=>?_,fun h3=>?_⟩
   ·rw [if_pos h3]
    unfold awS
    simp only [go_sem,↓reduceIte,Nat.reduceAdd,Nat.reduceLeDiff,reduceCtorEq,Int.reduceLE,Int.reduceToNat,Bool.and_true,nth2b,ExprR.c,cs_eq]
    refine ⟨by decide,?_⟩
    exact pureW_self rfl rfl
   ·rw [if_neg (by rw [h3];exact Bool.false_ne_true)]
    unfold awS
    simp only [go_sem,↓reduceIte,Nat.reduceAdd,Nat.reduceLeDiff,Bool.and_true]
    exact pureW_zeroE
  ·rw [show (op==4&&opE (.mk o1 m1 fr1 nu1 de1 pa1 te1 ar1)==0)=false from h2,if_neg Bool.false_ne_true]
   unfold awS
   simp only [go_sem,↓reduceIte,Nat.reduceAdd,Nat.reduceLeDiff,reduceCtorEq,Bool.and_true]
   exact pureW_self rfl rfl
theorem cReducedN (op:Int) (media:ByteArray) (frame num den param:Int) (text:ByteArray) (args:List ExprR) (h:args.length<2) :
  CPure Tryz.prog 189 [vex op media frame num den param text args] (vexpr (.mk op media frame num den param text args)):=by
 refine cpure_of Tryz.xen189 Tryz.func189 rfl Tryz.ntmps189 (by rw [Tryz.results189]) (aw_ok _ ?_)
 simp only [go_sem,↓reduceIte,Nat.reduceAdd,Nat.reduceSub,reduceCtorEq]
 refine ⟨fun _=>?_,fun h2=>?_⟩
 ·unfold awS
  simp only [go_sem,↓reduceIte,Nat.reduceAdd,Nat.reduceLeDiff,reduceCtorEq]
 ·exfalso
  simp only [bne_eq_false_iff_eq] at h2
  omega
mutual
def simE:ExprR→ExprR
 | .mk op media frame num den param text args=>redE op media frame num den param text (simEs args)
def simEs:List ExprR→List ExprR
 | []=>[]
 | e::es=>simE e::simEs es
end
theorem simE_one (op:Int) (media:ByteArray) (frame num den param:Int) (text:ByteArray) (a:ExprR):simE (.mk op media frame num den param text [a]) = .mk op media frame num den param text [simE a]:=by
 conv=>lhs;unfold simE
 simp only [simEs]
 rfl
theorem simE_two (op:Int) (media:ByteArray) (frame num den param:Int) (text:ByteArray) (a b:ExprR):simE (.mk op media frame num den param text [a,b])=redE op media frame num den param text [simE a,simE b]:=by
 conv=>lhs;unfold simE
 simp only [simEs]
theorem cSimple1:∀ (m:Nat) (e:ExprR),SizeOf.sizeOf e<m→e.fit→validE e=true→CPure Tryz.prog 114 [vexpr e] (vexpr (simE e))
 | 0,e,h,_,_=>absurd h (Nat.not_lt_zero _)
 | m+1, .mk op media frame num den param text args,hm,hfit,hv=>by
  simp only [ExprR.fit] at hfit
  obtain ⟨f1,f2,f3,f4,f5,f6⟩:=hfit
  unfold validE at hv
  rw [Bool.and_eq_true,validEs_eq,List.all_eq_true] at hv
  have hl:args.length≤2:=fields_len hv.1
  have ih:∀ e∈args,CPure Tryz.prog 114 [vexpr e] (vexpr (simE e)):=fun e he=>cSimple1 m e (by have:=arg_lt he op media frame num den param text;omega) (fits_mem f6 e he) (hv.2 e he)
  rw [vexpr_mk]
  match args,hl,ih with
  | [],_,_ =>
   refine cpure_ofW Tryz.xen114 Tryz.func114 rfl Tryz.ntmps114 (by rw [Tryz.results114]) (aw_ok _ ?_)
   simp only [go_sem,↓reduceIte,Nat.reduceAdd,Nat.reduceSub,reduceCtorEq,Bool.and_true,List.map_nil,List.length_nil]
   refine icall_of Tryz.xen188 Tryz.func188 rfl Tryz.ntmps188 (by rw [Tryz.results188]) (aw_ok _ ?_)
   simp only [go_sem,↓reduceIte,Nat.reduceSub,List.map_nil,List.length_nil]
   intro b
   refine ⟨fun _=>?_,fun _=>?_⟩
   ·unfold awS
    simp only [go_sem,↓reduceIte,Nat.reduceAdd,Nat.reduceLeDiff,reduceCtorEq,Bool.and_true,List.length_nil,cst0]
    refine awp_loopL ?_
    refine awpL_step (aw_ok _ ?_)
    simp only [go_sem,↓reduceIte,Nat.reduceAdd,Nat.reduceLeDiff,reduceCtorEq,Int.reduceLT,decide_false,Bool.and_true]
    refine ⟨_,cpure_as (.cons (as_agg (by exact ⟨.inl rfl, .inl rfl, .inl rfl, .inl rfl, .inl rfl, .inl rfl, .inl rfl, .inr ⟨rfl,_,_,rfl⟩,trivial⟩)) .nil) (cReducedN op media frame num den param text [] (by decide)),?_⟩
    simp only [go_sem,↓reduceIte,Nat.reduceAdd,Nat.reduceLeDiff,Bool.and_true]
    exact pureW_self rfl rfl
   ·unfold awS
    simp only [go_sem,Nat.reducePow,Nat.reduceLT,↓reduceIte,Nat.reduceAdd,Nat.reduceMul,Nat.reduceLeDiff,Nat.reduceEqDiff,reduceCtorEq,Bool.and_true,List.map_nil,List.length_nil,cst0]
    refine ⟨by decide,?_⟩
    refine awp_loopL ?_
    refine awpL_step (aw_ok _ ?_)
    simp only [go_sem,↓reduceIte,Nat.reduceAdd,Nat.reduceLeDiff,reduceCtorEq,Int.reduceLT,decide_false,Bool.and_true,Bool.and_false]
    refine lcall_give ?_
    simp only [go_sem,↓reduceIte,Nat.reduceAdd,Nat.reduceEqDiff,Bool.and_true]
    refine ⟨_,cReducedN op media frame num den param text [] (by decide),?_⟩
    simp only [go_sem,↓reduceIte,Nat.reduceAdd,Nat.reduceLeDiff,Bool.and_true]
    exact pureW_self rfl rfl
  | [a],_,ih =>
   have iha:=ih a (by simp)
   rcases hsa:simE a with ⟨o2,m2,fr2,nu2,de2,pa2,te2,ar2⟩
   have hsim:simE (.mk op media frame num den param text [a]) = .mk op media frame num den param text [simE a]:=simE_one ..
   rw [hsim,hsa]
   rw [hsa] at iha
   obtain ⟨o1,m1,fr1,nu1,de1,pa1,te1,ar1⟩:=a
   refine cpure_ofW Tryz.xen114 Tryz.func114 rfl Tryz.ntmps114 (by rw [Tryz.results114]) (aw_ok _ ?_)
   simp only [go_sem,↓reduceIte,Nat.reduceAdd,Nat.reduceSub,reduceCtorEq,Bool.and_true,List.map_nil,List.map_cons,List.length_cons,List.length_nil]
   refine icall_of Tryz.xen188 Tryz.func188 rfl Tryz.ntmps188 (by rw [Tryz.results188]) (aw_ok _ ?_)
   simp only [go_sem,↓reduceIte,Nat.reduceSub,reduceCtorEq,List.map_nil,List.map_cons,List.length_cons,List.length_nil,ExprR.c,cs_eq]
   intro b hnb
   refine ⟨fun hb=>absurd (hnb hb) (by simp),fun _=>?_⟩
   unfold awS
   simp only [go_sem,Nat.reducePow,Nat.reduceLT,↓reduceIte,Nat.reduceAdd,Nat.reduceMul,Nat.reduceLeDiff,Nat.reduceEqDiff,reduceCtorEq,Bool.and_true,List.map_nil,List.map_cons,List.length_cons,List.length_nil,ExprR.c,cs_eq,cst1]
   refine ⟨by decide,?_⟩
   refine awp_loopL ?_
   refine awpL_step (aw_ok _ ?_)
   simp only [go_sem,Nat.reduceLT,↓reduceIte,Int.reduceLT,Int.reduceLE,Int.reduceToNat,decide_true,cst1]
   refine ⟨by decide,?_⟩
   simp only [go_sem,↓reduceIte,Nat.reduceAdd,Nat.reduceLeDiff,Bool.and_true,nth_1a]
   refine drawC_of 7 .done rfl (by kernel_rfl) (by kernel_rfl) (by decide) ?_
   simp only [go_sem,↓reduceIte,Nat.reduceAdd,Nat.reduceLeDiff,reduceCtorEq,Bool.and_true]
   refine ⟨_,iha,?_⟩
   simp only [go_sem,Nat.reduceLT,↓reduceIte,Nat.reduceAdd,Nat.reduceLeDiff,Nat.reduceEqDiff,Int.reduceLT,Int.reduceLE,Int.reduceAdd,Int.reduceToNat,Bool.and_true,cst1,cw1]
   refine ⟨by kernel_rfl,?_⟩
   refine awpL_step (aw_ok _ ?_)
   simp only [go_sem,↓reduceIte,Nat.reduceAdd,Nat.reduceLeDiff,reduceCtorEq,Int.reduceLT,decide_false,Bool.and_true,Bool.and_false]
   refine lcall_give ?_
   simp only [go_sem,↓reduceIte,Nat.reduceAdd,Nat.reduceEqDiff,Bool.and_true,tRows,nth,Option.getD_some,List.getElem?_cons_zero,List.map_cons,List.map_nil,List.set_cons_zero,List.set_cons_succ,List.drop_succ_cons,List.drop_zero]
   have hc:=cReducedN op media frame num den param text [.mk o2 m2 fr2 nu2 de2 pa2 te2 ar2] (by simp)
   simp only [vex,texprs,List.map_cons,List.map_nil,ExprR.c,cs_eq] at hc
   refine ⟨_,hc,?_⟩
   simp only [go_sem,↓reduceIte,Nat.reduceAdd,Nat.reduceLeDiff,Bool.and_true]
   exact pureW_self rfl rfl
  | [a,b],_,ih =>
   have iha:=ih a (by simp)
   have ihb:=ih b (by simp)
   rcases hsa:simE a with ⟨o2,m2,fr2,nu2,de2,pa2,te2,ar2⟩
   rcases hsb:simE b with ⟨o4,m4,fr4,nu4,de4,pa4,te4,ar4⟩
   rw [simE_two,hsa,hsb]
   rw [hsa] at iha
   rw [hsb] at ihb
   obtain ⟨o1,m1,fr1,nu1,de1,pa1,te1,ar1⟩:=a
   obtain ⟨o3,m3,fr3,nu3,de3,pa3,te3,ar3⟩:=b
   refine cpure_ofW Tryz.xen114 Tryz.func114 rfl Tryz.ntmps114 (by rw [Tryz.results114]) (aw_ok _ ?_)
   simp only [go_sem,↓reduceIte,Nat.reduceAdd,Nat.reduceSub,reduceCtorEq,Bool.and_true,List.map_nil,List.map_cons,List.length_cons,List.length_nil]
   refine icall_of Tryz.xen188 Tryz.func188 rfl Tryz.ntmps188 (by rw [Tryz.results188]) (aw_ok _ ?_)
   simp only [go_sem,↓reduceIte,Nat.reduceSub,reduceCtorEq,List.map_nil,List.map_cons,List.length_cons,List.length_nil,ExprR.c,cs_eq]
   intro b hnb
   refine ⟨fun hb=>absurd (hnb hb) (by simp),fun _=>?_⟩
   unfold awS
   simp only [go_sem,Nat.reducePow,Nat.reduceLT,↓reduceIte,Nat.reduceAdd,Nat.reduceMul,Nat.reduceLeDiff,Nat.reduceEqDiff,reduceCtorEq,Bool.and_true,List.map_nil,List.map_cons,List.length_cons,List.length_nil,ExprR.c,cs_eq,cst2]
   refine ⟨by decide,?_⟩
   refine awp_loopL ?_
   refine awpL_step (aw_ok _ ?_)
   simp only [go_sem,Nat.reduceLT,↓reduceIte,Nat.reduceAdd,Int.reduceLT,Int.reduceLE,Int.reduceToNat,decide_true,cst2]
   refine ⟨by decide,?_⟩
   simp only [go_sem,↓reduceIte,Nat.reduceAdd,Nat.reduceLeDiff,Bool.and_true,nth2a]
   refine drawC_of 7 .done rfl (by kernel_rfl) (by kernel_rfl) (by decide) ?_
   simp only [go_sem,↓reduceIte,Nat.reduceAdd,Nat.reduceLeDiff,reduceCtorEq,Bool.and_true]
   refine ⟨_,iha,?_⟩
   simp only [go_sem,Nat.reduceLT,↓reduceIte,Nat.reduceAdd,Nat.reduceLeDiff,Nat.reduceEqDiff,Int.reduceLT,Int.reduceLE,Int.reduceAdd,Int.reduceToNat,Bool.and_true,cst2,cw1]
   refine ⟨by kernel_rfl,?_⟩
   refine awpL_step (aw_ok _ ?_)
   simp only [go_sem,Nat.reduceLT,↓reduceIte,Nat.reduceAdd,Nat.reduceLeDiff,Nat.reduceEqDiff,Int.reduceLT,Int.reduceLE,Int.reduceToNat,decide_true,Bool.and_true,cst2,tRows,nthV,nth,Option.getD_some,List.getElem?_cons_zero,List.getElem?_cons_succ,List.map_cons,List.map_nil,List.set_cons_zero,List.set_cons_succ,List.drop_succ_cons,List.drop_zero]
   refine drawC_of 7 .done rfl (by kernel_rfl) (by kernel_rfl) (by decide) ?_
   simp only [go_sem,↓reduceIte,Nat.reduceAdd,Nat.reduceLeDiff,reduceCtorEq,Bool.and_true]
   refine ⟨_,ihb,?_⟩
   simp only [go_sem,Nat.reduceLT,↓reduceIte,Nat.reduceAdd,Nat.reduceLeDiff,Nat.reduceEqDiff,Int.reduceLT,Int.reduceLE,Int.reduceAdd,Int.reduceToNat,Bool.and_true,cst2,cw2]
   refine ⟨by kernel_rfl,?_⟩
   refine awpL_step (aw_ok _ ?_)
   simp only [go_sem,↓reduceIte,Nat.reduceAdd,Nat.reduceLeDiff,reduceCtorEq,Int.reduceLT,decide_false,Bool.and_true,Bool.and_false]
   refine lcall_give ?_
   simp only [go_sem,↓reduceIte,Nat.reduceAdd,Nat.reduceEqDiff,Bool.and_true,nthV,Option.getD_some,List.getElem?_cons_zero,List.getElem?_cons_succ,List.map_cons,List.map_nil,List.set_cons_zero,List.set_cons_succ,List.drop_succ_cons,List.drop_zero]
   have hc:=cReduced2 op media frame num den param text (.mk o2 m2 fr2 nu2 de2 pa2 te2 ar2) (.mk o4 m4 fr4 nu4 de4 pa4 te4 ar4)
   simp only [vex,texprs,List.map_cons,List.map_nil,ExprR.c,cs_eq] at hc
   rcases hred:redE op media frame num den param text [.mk o2 m2 fr2 nu2 de2 pa2 te2 ar2, .mk o4 m4 fr4 nu4 de4 pa4 te4 ar4] with ⟨o5,m5,fr5,nu5,de5,pa5,te5,ar5⟩
   rw [hred] at hc
   refine ⟨_,hc,?_⟩
   simp only [go_sem,↓reduceIte,Nat.reduceAdd,Nat.reduceLeDiff,Bool.and_true]
   exact pureW_self rfl rfl
  | _::_::_::_,h,_=>simp at h
open Go.RowKit
set_option maxRecDepth 4000
theorem nopSimple:NopD Tryz.prog 112:=by
 refine ⟨Tryz.xen112,fun cap w=>callsDIn_of_wpSIn Tryz.func112 rfl trivial fun c₀ cs hu=>?_⟩
 have k1 : 1<cap.size+(4 - cap.size):=by omega
 have k2 : 2<cap.size+(4 - cap.size):=by omega
 have k3 : 1<max 4 cap.size:=by omega
 have k4 : 2<max 4 cap.size:=by omega
 apply wpSIn_seq
 apply wpSIn_region
 simp [wpOpsSIn,Fence.wide,go_sem,recoverD,hu,Tryz.ntmps112,Exit.thenS,k1,k2,k3,k4]
 refine wpSIn_cond (t:=false) (by simp [Act.eval,k2,k4]) ?_
 refine wpSIn_of_wpIn rfl (wpIn_skip ?_)
 refine ⟨rfl, .returning,by rw [← hu], .tuple #[],?_,⟨_,rfl⟩,rfl,rfl⟩
 simp [results,Tryz.results112,go_sem]
def simpE (e:ExprR):ExprR:=if validE e=true then simE e else zeroE
theorem cSimple (e:ExprR) (h:e.fit):CPure Tryz.prog 47 [vexpr e] (vexpr (simpE e)):=by
 have hV:=cValidE e h
 have hS:=fun hv=>cSimple1 _ e (Nat.lt_succ_self _) h hv
 unfold simpE
 obtain ⟨op,media,frame,num,den,param,text,args⟩:=e
 rw [vexpr_mk]
 refine cpure_ofW Tryz.xen47 Tryz.func47 rfl Tryz.ntmps47 (by rw [Tryz.results47]) (aw_ok _ ?_)
 simp only [go_sem,simprocAttr]
 refine ⟨_,hV,?_⟩
 simp only [go_sem,simprocAttr]
 refine ⟨fun h1=>?_,fun h1=>?_⟩
 ·unfold awS
  simp only [go_sem,simprocAttr]
  rw [if_neg (by rw [nt h1];exact Bool.false_ne_true)]
  exact ⟨nopSimple,pureW_zeroE⟩
 ·rw [if_pos (nf h1)]
  have hc:=hS (nf h1)
  rcases hs:simE (.mk op media frame num den param text args) with ⟨o2,m2,fr2,nu2,de2,pa2,te2,ar2⟩
  rw [hs] at hc
  unfold awS
  simp only [go_sem,simprocAttr]
  refine ⟨_,hc,?_⟩
  simp only [go_sem,simprocAttr]
  exact ⟨nopSimple,pureW_self rfl rfl⟩
end Go.Proofs.YtinobebofhbnnaaGreat
