/- Proved here: Expressions as plain data, and which are valid, for use in the proofs of the given statements; conditions stand in each theorem. -/
import Derived.Test.YtmbmmijdmdoalaaGreatZH
import Derived.Test.YtmbmmijdmdoalaaGreatZI
import Derived.Test.YtmbmmijdmdoalaaGreatZS
set_option linter.unusedSimpArgs false
set_option linter.unusedVariables false
set_option linter.unusedSectionVars false
set_option linter.unnecessarySimpa false
namespace Go.Proofs.YtmbmmijdmdoalaaGreat
open Go.RowKit
set_option maxRecDepth 4000
inductive ExprR where
 | mk (op:Int) (media:ByteArray) (frame num den param:Int) (text:ByteArray) (args:List ExprR)
instance:Inhabited ExprR:=⟨.mk 0 ⟨#[]⟩ 0 0 0 0 ⟨#[]⟩ []⟩
def zE:List T:=[ti 0,tstr ⟨#[]⟩,ti 0,ti 0,ti 0,ti 0,tstr ⟨#[]⟩, .lit (.slice none 0 0)]
mutual
def ExprR.c:ExprR→List T
 | .mk op media frame num den param text args=>[ti op,tstr media,ti frame,ti num,ti den,ti param,tstr text, .list 8 zE (ExprR.cs args)]
def ExprR.cs:List ExprR→List (List T)
 | []=>[]
 | e::es=>ExprR.c e::ExprR.cs es
end
theorem cs_eq:∀ l:List ExprR,ExprR.cs l=l.map ExprR.c
 | []=>by simp only [ExprR.cs,List.map_nil]
 | e::es=>by simp only [ExprR.cs,List.map_cons,cs_eq es]
abbrev texprs (l:List ExprR):T := .list 8 zE (l.map ExprR.c)
abbrev vex (op:Int) (media:ByteArray) (frame num den param:Int) (text:ByteArray) (args:List ExprR):V :=
 .agg [vint op,vstr media,vint frame,vint num,vint den,vint param,vstr text, .t (texprs args)]
def vexpr:ExprR→V
 | .mk op media frame num den param text args=>vex op media frame num den param text args
@[go_sem] theorem vexpr_mk (op:Int) (media:ByteArray) (frame num den param:Int) (text:ByteArray) (args:List ExprR):vexpr (.mk op media frame num den param text args)=vex op media frame num den param text args:=rfl
@[go_sem] theorem ExprR.cl:∀ e:ExprR,(ExprR.c e).length=8
 | .mk .. => by simp only [ExprR.c];rfl
@[go_sem] theorem ExprR.ct:∀ e:ExprR,V.agg ((ExprR.c e).map V.t)=vexpr e
 | .mk .. => by simp only [ExprR.c,cs_eq];rfl
mutual
def ExprR.fit:ExprR→Prop
 | .mk op _ frame num den param _ args=>I64 op∧I64 frame∧I64 num∧I64 den∧I64 param∧ExprR.fits args
def ExprR.fits:List ExprR→Prop
 | []=>True
 | e::es=>ExprR.fit e∧ExprR.fits es
end
theorem fits_mem:∀ {l:List ExprR},ExprR.fits l → ∀ e∈l,e.fit
 | [],_,e,h=>by cases h
 | x::l,hf,e,h=>by
  simp only [ExprR.fits] at hf
  rcases List.mem_cons.1 h with rfl | h
  ·exact hf.1
  ·exact fits_mem hf.2 e h
def shareB (num den:Int):Bool:=decide (num > 0)&&decide (num<den)&&decide (den≤2147483648)&&vRat ⟨num,den⟩
theorem cPText (s:ByteArray):CPure Tryz.prog 242 [vstr s] (vbool (vLine s)):=by
 refine cpure_of Tryz.xen242 Tryz.func242 rfl Tryz.ntmps242 (by rw [Tryz.results242]) (awp_facts fun hf=>aw_ok _ ?_)
 simp only [go_sem,simprocAttr,factsT] at hf
 have hl:s.size≤maxLen:=hf
 simp only [go_sem,simprocAttr]
 refine ⟨fun h=>?_,fun h=>?_⟩
 ·unfold awS
  simp only [go_sem,simprocAttr]
  have:vLine s=false:=by
   simp only [bxx] at h
   simp only [vLine,Bool.and_eq_false_iff,decide_eq_false_iff_not]
   omega
  rw [this]
 ·unfold awS
  simp only [go_sem,simprocAttr]
  refine awp_loop_f (fun (k:Nat) σ => setS 14 (vint k) (deadS [4,5,6,7,8,9,10,11,12] σ)) (fun k=>k≤s.size ∧ ∀ i,i<k→lnI (byteAt s i)=true) (fun k=>s.size - k) 0 (weak_self ?_) ⟨Nat.zero_le _,by omega⟩ ?_
  ·simp only [go_sem,simprocAttr]<;>rfl
  ·rintro k ⟨hk,hi⟩
   refine aw_ok _ ?_
   simp only [go_sem,simprocAttr]
   refine ⟨fun hlt=>?_,fun hge=>?_⟩
   all_goals simp only [decide_eq_true_eq,decide_eq_false_iff_not,Int.ofNat_lt] at *
   ·unfold awS
    simp only [go_sem,simprocAttr]
    refine ⟨⟨by omega,by omega⟩,fun _=>⟨by omega,by omega⟩,?_⟩
    refine brW (b := !lnI (byteAt s k)) ?_ ⟨fun hb=>?_,fun hb=>?_⟩
    ·unfold byteAt lnI
     rw [Bool.eq_iff_iff];simp only [bxx];omega
    ·unfold awS
     simp only [go_sem,simprocAttr]
     rw [vLine,bytes_hit hlt (by simpa using hb)]
     simp
    ·unfold awS
     simp only [go_sem,simprocAttr]
     refine ⟨k+1,weak_self ?_,⟨hlt,fun i h2=>?_⟩,by omega⟩
     ·simp only [go_sem,simprocAttr]<;>simp [wrap_of hlt hl]
     ·rcases Nat.lt_or_ge i k with h3 | h3
      ·exact hi i h3
      ·rw [show i=k from by omega];simpa using hb
   ·unfold awS
    simp only [go_sem,simprocAttr]
    rw [vLine,bytes_done (fun i h2=>hi i (by omega))]
    simp only [bxx] at h
    simp
    omega
theorem cPShare (op:Int) (media:ByteArray) (frame num den param:Int) (text:ByteArray) (args:List ExprR) (h:I64 num) (h':I64 den) :
  CPure Tryz.prog 241 [vex op media frame num den param text args] (vbool (shareB num den)):=by
 refine cpure_of Tryz.xen241 Tryz.func241 rfl Tryz.ntmps241 (by rw [Tryz.results241]) (aw_ok _ ?_)
 simp only [go_sem,simprocAttr]
 refine ⟨_,fun _=>cPRat ⟨num,den⟩ ⟨h,h'⟩,?_⟩
 simp only [go_sem,simprocAttr]<;>rfl
def noB (s:ByteArray):Bool:=s.toList==(⟨#[]⟩:ByteArray).toList
def fieldsOk (op:Int) (media:ByteArray) (frame num den param:Int) (text:ByteArray) (n:Int):Bool :=
 if (op==0)=true then noB media&&frame==0&&(num==0&&den==0)&&param==0&&noB text&&n==0
 else if (op==1)=true then vName media&&decide (frame ≥ 0)&&decide (frame≤2147483646)&&(num==0&&den==0)&&param==0&&noB text&&n==0
 else if (op==2)=true then noB media&&frame==0&&shareB num den&&param==0&&noB text&&n==2
 else if (op==3)=true then noB media&&frame==0&&shareB num den&&decide (param ≥ 0)&&decide (param≤3)&&noB text&&n==2
 else if (op==4)=true then noB media&&frame==0&&(num==0&&den==0)&&decide (param ≥ 0)&&decide (param≤255)&&noB text&&n==2
 else if (op==5)=true then noB media&&frame==0&&(num==0&&den==0)&&param==0&&vLine text&&n==1
 else false
theorem cPFields (op:Int) (media:ByteArray) (frame num den param:Int) (text:ByteArray) (args:List ExprR) (h:I64 num) (h':I64 den) :
  CPure Tryz.prog 196 [vex op media frame num den param text args] (vbool (fieldsOk op media frame num den param text args.length)):=by
 refine cpure_of Tryz.xen196 Tryz.func196 rfl Tryz.ntmps196 (by rw [Tryz.results196]) (aw_ok _ ?_)
 simp only [go_sem,simprocAttr]
 refine drawR_of [0,1,2,3,4,5,6,7] .done rfl (by kernel_rfl) (by kernel_rfl) (by decide) ?_
 simp only [go_sem,simprocAttr]
 refine ⟨fun h0=>?_,fun h0=>?_⟩
 ·unfold awS
  simp only [go_sem,simprocAttr]
  unfold fieldsOk
  rw [if_pos h0]
  rfl
 ·unfold awS
  simp only [go_sem,simprocAttr]
  refine ⟨fun h1=>?_,fun h1=>?_⟩
  ·unfold awS
   simp only [go_sem,simprocAttr]
   refine ⟨_,cPName media,?_⟩
   simp only [go_sem,simprocAttr]
   unfold fieldsOk
   rw [if_neg (by rw [h0];exact Bool.false_ne_true),if_pos h1]
   rfl
  ·unfold awS
   simp only [go_sem,simprocAttr]
   refine ⟨fun h2=>?_,fun h2=>?_⟩
   ·unfold awS
    simp only [go_sem,simprocAttr]
    refine ⟨_,fun _=>cPShare op media frame num den param text args h h',?_⟩
    simp only [go_sem,simprocAttr]
    unfold fieldsOk
    rw [if_neg (by rw [h0];exact Bool.false_ne_true),if_neg (by rw [h1];exact Bool.false_ne_true),if_pos h2]
    rfl
   ·unfold awS
    simp only [go_sem,simprocAttr]
    refine ⟨fun h3=>?_,fun h3=>?_⟩
    ·unfold awS
     simp only [go_sem,simprocAttr]
     refine ⟨_,fun _=>cPShare op media frame num den param text args h h',?_⟩
     simp only [go_sem,simprocAttr]
     unfold fieldsOk
     rw [if_neg (by rw [h0];exact Bool.false_ne_true),if_neg (by rw [h1];exact Bool.false_ne_true),if_neg (by rw [h2];exact Bool.false_ne_true),if_pos h3]
     rfl
    ·unfold awS
     simp only [go_sem,simprocAttr]
     refine ⟨fun h4=>?_,fun h4=>?_⟩
     ·unfold awS
      simp only [go_sem,simprocAttr]
      unfold fieldsOk
      rw [if_neg (by rw [h0];exact Bool.false_ne_true),if_neg (by rw [h1];exact Bool.false_ne_true),if_neg (by rw [h2];exact Bool.false_ne_true),if_neg (by rw [h3];exact Bool.false_ne_true),if_pos h4]
      rfl
     ·unfold awS
      simp only [go_sem,simprocAttr]
      refine ⟨fun h5=>?_,fun h5=>?_⟩
      ·unfold awS
       simp only [go_sem,simprocAttr]
       refine ⟨_,fun _=>cPText text,?_⟩
       simp only [go_sem,simprocAttr]
       unfold fieldsOk
       rw [if_neg (by rw [h0];exact Bool.false_ne_true),if_neg (by rw [h1];exact Bool.false_ne_true),if_neg (by rw [h2];exact Bool.false_ne_true),if_neg (by rw [h3];exact Bool.false_ne_true),if_neg (by rw [h4];exact Bool.false_ne_true),if_pos h5]
       rfl
      ·unfold awS
       simp only [go_sem,simprocAttr]
       unfold fieldsOk
       rw [if_neg (by rw [h0];exact Bool.false_ne_true),if_neg (by rw [h1];exact Bool.false_ne_true),if_neg (by rw [h2];exact Bool.false_ne_true),if_neg (by rw [h3];exact Bool.false_ne_true),if_neg (by rw [h4];exact Bool.false_ne_true),if_neg (by rw [h5];exact Bool.false_ne_true)]
mutual
def validE:ExprR→Bool
 | .mk op media frame num den param text args=>fieldsOk op media frame num den param text args.length&&validEs args
def validEs:List ExprR→Bool
 | []=>true
 | e::es=>validE e&&validEs es
end
theorem validEs_eq:∀ l:List ExprR,validEs l=l.all validE
 | []=>by simp only [validEs,List.all_nil]
 | e::es=>by simp only [validEs,List.all_cons,validEs_eq es]
theorem fields_len {op:Int} {media:ByteArray} {frame num den param:Int} {text:ByteArray} {n:Nat} (h:fieldsOk op media frame num den param text n=true):n≤2:=by
 unfold fieldsOk at h
 repeat' split at h
 all_goals first
  | (simp only [Bool.and_eq_true,beq_iff_eq] at h;omega)
  | cases h
theorem nth_expr (d:List T) {l:List ExprR} {k:Nat} (h:k<l.length):nth d (l.map ExprR.c) k=ExprR.c (l.getD k default):=by
 unfold nth
 rw [List.getElem?_map,List.getElem?_eq_getElem h,getD_of_lt h]
 rfl
theorem arg_lt {e:ExprR} {l:List ExprR} (h:e∈l) (op:Int) (media:ByteArray) (frame num den param:Int) (text:ByteArray):SizeOf.sizeOf e<SizeOf.sizeOf (ExprR.mk op media frame num den param text l):=by
 have:=List.sizeOf_lt_of_mem h
 simp only [ExprR.mk.sizeOf_spec]
 omega
theorem cPValidE:∀ (m:Nat) (e:ExprR),SizeOf.sizeOf e<m→e.fit→CPure Tryz.prog 134 [vexpr e] (vbool (validE e))
 | 0,e,h,_=>absurd h (Nat.not_lt_zero _)
 | m+1, .mk op media frame num den param text args,hm,hfit=>by
  simp only [ExprR.fit] at hfit
  obtain ⟨f1,f2,f3,f4,f5,f6⟩:=hfit
  have ih:∀ e∈args,CPure Tryz.prog 134 [vexpr e] (vbool (validE e)):=fun e he=>cPValidE m e (by have:=arg_lt he op media frame num den param text;omega) (fits_mem f6 e he)
  rw [vexpr_mk]
  refine cpure_of Tryz.xen134 Tryz.func134 rfl Tryz.ntmps134 (by rw [Tryz.results134]) (aw_ok _ ?_)
  simp only [go_sem,simprocAttr]
  refine ⟨_,cPFields op media frame num den param text args f3 f4,?_⟩
  simp only [go_sem,simprocAttr]
  refine ⟨fun h1=>?_,fun h1=>?_⟩
  ·unfold awS
   simp only [go_sem,simprocAttr]
   unfold validE
   rw [nt h1]
   rfl
  ·have hF:=nf h1
   have hv:validE (.mk op media frame num den param text args)=args.all validE:=by unfold validE;rw [hF,Bool.true_and,validEs_eq]
   have hl:args.length≤2:=fields_len hF
   rw [hv]
   unfold awS
   simp only [go_sem,simprocAttr]
   refine awp_loop_f (fun (k:Nat) σ => setS 11 (vint k) (deadS [4,12,13,14,15,16,17,18] (cleanS σ))) (fun k=>k≤args.length ∧ ∀ i,i<k→validE (args.getD i default)=true) (fun k=>args.length - k) 0 (weak_self ?_) ⟨Nat.zero_le _,by omega⟩ ?_
   ·simp only [go_sem,simprocAttr]<;>simp
   ·rintro k ⟨hk,hi⟩
    refine aw_ok _ ?_
    simp only [go_sem,simprocAttr]
    refine ⟨fun hlt=>?_,fun hge=>?_⟩
    ·simp only [bxx] at hlt
     have hmem:args.getD k default∈args:=by rw [getD_of_lt (by omega)];exact List.getElem_mem (by omega)
     have hn:=nth_expr zE (show k<args.length by omega)
     have ihk:=ih _ hmem
     have hall := @all_hit ExprR default validE args k (by omega)
     have hup:validE (args.getD k default)=true → ∀ i,i<k+1→validE (args.getD i default)=true:=fun h=>upto hi h
     rcases hx:args.getD k default with ⟨o2,m2,fr2,nu2,de2,pa2,te2,ar2⟩
     rw [hx] at hn ihk hall hup
     unfold awS
     simp only [go_sem,simprocAttr,hn,ExprR.c,cs_eq]
     refine ⟨⟨by omega,by omega⟩,_,ihk,?_⟩
     simp only [go_sem,simprocAttr]
     refine ⟨fun h2=>?_,fun h2=>?_⟩
     ·unfold awS
      simp only [go_sem,simprocAttr]
      rw [hall (nt h2)]
     ·unfold awS
      simp only [go_sem,simprocAttr]
      refine ⟨k+1,weak_self ?_,⟨by omega,hup (nf h2)⟩,by omega⟩
      simp only [go_sem,simprocAttr]<;>simp [wrap1 (show k<9223372036854775807 by omega)]
    ·simp only [bxx] at hge
     unfold awS
     simp only [go_sem,simprocAttr]
     rw [all_done (d:=default) (p:=validE) (fun i h2=>hi i (by omega))]
open Go.RowKit
set_option maxRecDepth 4000
mutual
def eqE:ExprR→ExprR→Bool
 | .mk op media frame num den param text args, .mk op2 media2 frame2 num2 den2 param2 text2 args2 =>
  op==op2&&(media.toList==media2.toList)&&frame==frame2&&num==num2&&den==den2&&param==param2&&(text.toList==text2.toList)&&eqEs args args2
def eqEs:List ExprR→List ExprR→Bool
 | [],[]=>true
 | x::xs,y::ys=>eqE x y&&eqEs xs ys
 | [],_::_=>false
 | _::_,[]=>false
end
mutual
theorem eqE_iff:∀ {a b:ExprR},eqE a b=true ↔ a=b
 | .mk op media frame num den param text args, .mk op2 media2 frame2 num2 den2 param2 text2 args2=>by
  simp only [eqE,Bool.and_eq_true,beq_bytesL,decide_eq_true_eq,beq_iff_eq,ExprR.mk.injEq,eqEs_iff (a:=args) (b:=args2),and_assoc]
theorem eqEs_iff:∀ {a b:List ExprR},eqEs a b=true ↔ a=b
 | [],[]=>by simp only [eqEs]
 | x::xs,y::ys=>by simp only [eqEs,Bool.and_eq_true,eqE_iff (a:=x) (b:=y),eqEs_iff (a:=xs) (b:=ys),List.cons.injEq]
 | [],_::_=>by simp [eqEs]
 | _::_,[]=>by simp [eqEs]
end
theorem eqEs_ne {a b:List ExprR} (h:a≠b):eqEs a b=false:=by rw [Bool.eq_false_iff,ne_eq,eqEs_iff];exact h
theorem eqEs_len {a b:List ExprR} (h:a.length≠b.length):eqEs a b=false:=eqEs_ne fun e=>h (by rw [e])
theorem eqEs_hit {a b:List ExprR} {k:Nat} (h2:eqE (a.getD k default) (b.getD k default)=false):eqEs a b=false:=by
 refine eqEs_ne ?_
 rintro rfl
 rw [Bool.eq_false_iff,ne_eq,eqE_iff] at h2
 exact h2 rfl
theorem eqEs_done {a b:List ExprR} (hl:a.length=b.length) (h:∀ i,i<a.length→eqE (a.getD i default) (b.getD i default)=true):eqEs a b=true:=by
 rw [eqEs_iff]
 refine List.ext_getElem hl fun i h1 h2=>?_
 have:=eqE_iff.1 (h i h1)
 rw [getD_of_lt h1,getD_of_lt h2] at this
 exact this
theorem asCloE (f:FuncId):∀ (w:World) (E:Env) v,RdV w E (.t (.lit (.func (.func f) #[] #[]))) v→RdV w E (.clo f []) v:=by
 intro w E v h
 obtain ⟨rfl,_⟩:=rdV_lit_inv h
 simp only [RdV]
 exact ⟨#[],rfl,by simp only [RdVs]⟩
theorem mem_getDE {l:List ExprR} {k:Nat} (h:k<l.length):l.getD k default∈l:=by rw [getD_of_lt h];exact List.getElem_mem h
theorem cEqFE (a b:List ExprR) (ih:∀ x∈a, ∀ y∈b,CPure Tryz.prog 37 [vexpr x,vexpr y] (vbool (eqE x y))) :
  CPure Tryz.prog 98 [.t (texprs a), .t (texprs b), .t (.lit (.func (.func 37) #[] #[]))] (vbool (eqEs a b)):=by
 refine cpure_as (.cons as_refl (.cons as_refl (.cons (asCloE _) .nil))) (args:=[.t (texprs a), .t (texprs b), .clo 37 []]) ?_
 refine cpure_of Tryz.xen98 Tryz.func98 rfl Tryz.ntmps98 (by rw [Tryz.results98]) (awp_facts fun hf=>aw_ok _ ?_)
 simp only [go_sem,simprocAttr,factsT] at hf
 have hla:a.length≤maxLen:=by first | exact hf.1 | exact hf.1.1 | exact hf.2.1
 simp only [go_sem,simprocAttr]
 refine ⟨fun h=>?_,fun h=>?_⟩
 ·simp only [bxx] at h
  unfold awS
  simp only [go_sem,simprocAttr]
  rw [eqEs_len (by omega)]
 ·have hl:a.length=b.length:=by simp only [bne_eq_false_iff_eq] at h;omega
  unfold awS
  simp only [go_sem,simprocAttr]
  refine awp_loop_f (fun (k:Nat) σ => setS 17 (vint k) (deadS [7,8,9,18,19,20,21,22,23,24,25,26,27,28,29,30,31] (cleanS σ))) (fun k=>k≤a.length ∧ ∀ i,i<k→eqE (a.getD i default) (b.getD i default)=true) (fun k=>a.length - k) 0 (weak_self ?_) ⟨Nat.zero_le _,by omega⟩ ?_
  ·simp only [go_sem,simprocAttr]<;>simp
  ·rintro k ⟨hk,hi⟩
   refine aw_ok _ ?_
   simp only [go_sem,simprocAttr]
   refine ⟨fun hlt=>?_,fun hge=>?_⟩
   ·simp only [bxx] at hlt
    have hn1:=nth_expr zE (show k<a.length by omega)
    have hn2:=nth_expr zE (show k<b.length by omega)
    have ihk:=ih _ (mem_getDE (show k<a.length by omega)) _ (mem_getDE (show k<b.length by omega))
    have hhit := @eqEs_hit a b k
    have hup:eqE (a.getD k default) (b.getD k default)=true → ∀ i,i<k+1→eqE (a.getD i default) (b.getD i default)=true:=fun h=>upto hi h
    rcases hx:a.getD k default with ⟨o1,m1,fr1,nu1,de1,pa1,te1,ar1⟩
    rcases hy:b.getD k default with ⟨o2,m2,fr2,nu2,de2,pa2,te2,ar2⟩
    rw [hx] at hn1 ihk hhit hup
    rw [hy] at hn2 ihk hhit hup
    unfold awS
    simp only [go_sem,simprocAttr,hn1,hn2,ExprR.c,cs_eq]
    refine ⟨⟨by omega,by omega⟩,⟨by omega,by omega⟩,?_⟩
    refine lcall_pure ihk rfl ?_
    simp only [go_sem,simprocAttr]
    refine ⟨fun h2=>?_,fun h2=>?_⟩
    ·unfold awS
     simp only [go_sem,simprocAttr]
     rw [hhit (by simpa using h2)]
    ·unfold awS
     simp only [go_sem,simprocAttr]
     refine ⟨k+1,weak_self ?_,⟨by omega,hup (by simpa using h2)⟩,by omega⟩
     simp only [go_sem,simprocAttr]<;>simp [wrap_of (show k<a.length by omega) hla]
   ·simp only [bxx] at hge
    unfold awS
    simp only [go_sem,simprocAttr]
    rw [eqEs_done hl (fun i h2=>hi i (by omega))]
theorem cPSameE:∀ (m:Nat) (a b:ExprR),SizeOf.sizeOf a<m→CPure Tryz.prog 37 [vexpr a,vexpr b] (vbool (eqE a b))
 | 0,e,_,h=>absurd h (Nat.not_lt_zero _)
 | m+1, .mk op media frame num den param text args, .mk op2 media2 frame2 num2 den2 param2 text2 args2,hm=>by
  have ih:∀ x∈args, ∀ y∈args2,CPure Tryz.prog 37 [vexpr x,vexpr y] (vbool (eqE x y)):=fun x hx y _=>cPSameE m x y (by have:=arg_lt hx op media frame num den param text;omega)
  rw [vexpr_mk,vexpr_mk]
  refine cpure_of Tryz.xen37 Tryz.func37 rfl Tryz.ntmps37 (by rw [Tryz.results37]) (aw_ok _ ?_)
  simp only [go_sem,simprocAttr]
  refine ⟨_,fun _=>cEqFE args args2 ih,?_⟩
  simp only [go_sem,simprocAttr]
  unfold eqE
  rfl
theorem cSameE (a b:ExprR):CPure Tryz.prog 37 [vexpr a,vexpr b] (vbool (eqE a b)):=cPSameE _ a b (Nat.lt_succ_self _)
theorem cValidE (e:ExprR) (h:e.fit):CPure Tryz.prog 134 [vexpr e] (vbool (validE e)):=cPValidE _ e (Nat.lt_succ_self _) h
end Go.Proofs.YtmbmmijdmdoalaaGreat
