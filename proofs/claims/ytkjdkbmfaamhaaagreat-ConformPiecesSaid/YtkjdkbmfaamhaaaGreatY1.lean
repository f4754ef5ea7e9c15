/- Proved here: Expressions as plain data, and which are valid, for use in the proofs of the given statements; conditions stand in each theorem. -/
import Derived.Test.YtkjdkbmfaamhaaaGreatZH
import Derived.Test.YtkjdkbmfaamhaaaGreatZI
import Derived.Test.YtkjdkbmfaamhaaaGreatZS
import Derived.Test.YtkjdkbmfaamhaaaGreatZU
set_option linter.unusedSimpArgs false
set_option linter.unusedVariables false
set_option linter.unusedSectionVars false
set_option linter.unnecessarySimpa false
namespace Go.Proofs.YtkjdkbmfaamhaaaGreat
open Go.RowKit
set_option maxRecDepth 4000
inductive ExprR where
 | mk (op:Int) (media:ByteArray) (frame num den param:Int) (text:ByteArray) (args:List ExprR)
instance:Inhabited ExprR:=⟨.mk 0 ⟨#[]⟩ 0 0 0 0 ⟨#[]⟩ []⟩
def zE:List T:=[ti 0,tstr ⟨#[]⟩,ti 0,ti 0,ti 0,ti 0,tstr ⟨#[]⟩, .lit (.slice none 0 0)]
mutual
def ExprR.c:ExprR→List T
 | .mk op media frame num den param text args=>[ti op,tstr media,ti frame,ti num,ti den,ti param,tstr text, .list 8 zE (ExprR.cs args)]
def ExprR.cs:List ExprR→List (List T)
 | []=>[]
 | e::es=>ExprR.c e::ExprR.cs es
end
theorem cs_eq:∀ l:List ExprR,ExprR.cs l=l.map ExprR.c
 | []=>by simp only [ExprR.cs,List.map_nil]
 | e::es=>by simp only [ExprR.cs,List.map_cons,cs_eq es]
abbrev texprs (l:List ExprR):T := .list 8 zE (l.map ExprR.c)
abbrev vex (op:Int) (media:ByteArray) (frame num den param:Int) (text:ByteArray) (args:List ExprR):V :=
 .agg [vint op,vstr media,vint frame,vint num,vint den,vint param,vstr text, .t (texprs args)]
def vexpr:ExprR→V
 | .mk op media frame num den param text args=>vex op media frame num den param text args
@[go_sem] theorem vexpr_mk (op:Int) (media:ByteArray) (frame num den param:Int) (text:ByteArray) (args:List ExprR):vexpr (.mk op media frame num den param text args)=vex op media frame num den param text args:=rfl
@[go_sem] theorem ExprR.cl:∀ e:ExprR,(ExprR.c e).length=8
 | .mk .. => by simp only [ExprR.c];rfl
@[go_sem] theorem ExprR.ct:∀ e:ExprR,V.agg ((ExprR.c e).map V.t)=vexpr e
 | .mk .. => by simp only [ExprR.c,cs_eq];rfl
mutual
def ExprR.fit:ExprR→Prop
 | .mk op _ frame num den param _ args=>I64 op∧I64 frame∧I64 num∧I64 den∧I64 param∧ExprR.fits args
def ExprR.fits:List ExprR→Prop
 | []=>True
 | e::es=>ExprR.fit e∧ExprR.fits es
end
def shareB (num den:Int):Bool:=decide (num > 0)&&decide (num<den)&&decide (den≤2147483648)&&vRat ⟨num,den⟩
def noB (s:ByteArray):Bool:=s.toList==(⟨#[]⟩:ByteArray).toList
def fieldsOk (op:Int) (media:ByteArray) (frame num den param:Int) (text:ByteArray) (n:Int):Bool :=
 if (op==0)=true then noB media&&frame==0&&(num==0&&den==0)&&param==0&&noB text&&n==0
 else if (op==1)=true then vName media&&decide (frame ≥ 0)&&decide (frame≤2147483646)&&(num==0&&den==0)&&param==0&&noB text&&n==0
 else if (op==2)=true then noB media&&frame==0&&shareB num den&&param==0&&noB text&&n==2
 else if (op==3)=true then noB media&&frame==0&&shareB num den&&decide (param ≥ 0)&&decide (param≤3)&&noB text&&n==2
 else if (op==4)=true then noB media&&frame==0&&(num==0&&den==0)&&decide (param ≥ 0)&&decide (param≤255)&&noB text&&n==2
 else if (op==5)=true then noB media&&frame==0&&(num==0&&den==0)&&param==0&&vLine text&&n==1
 else false
mutual
def validE:ExprR→Bool
 | .mk op media frame num den param text args=>fieldsOk op media frame num den param text args.length&&validEs args
def validEs:List ExprR→Bool
 | []=>true
 | e::es=>validE e&&validEs es
end
open Go.RowKit
set_option maxRecDepth 4000
mutual
def eqE:ExprR→ExprR→Bool
 | .mk op media frame num den param text args, .mk op2 media2 frame2 num2 den2 param2 text2 args2 =>
  op==op2&&(media.toList==media2.toList)&&frame==frame2&&num==num2&&den==den2&&param==param2&&(text.toList==text2.toList)&&eqEs args args2
def eqEs:List ExprR→List ExprR→Bool
 | [],[]=>true
 | x::xs,y::ys=>eqE x y&&eqEs xs ys
 | [],_::_=>false
 | _::_,[]=>false
end
mutual
theorem eqE_iff:∀ {a b:ExprR},eqE a b=true ↔ a=b
 | .mk op media frame num den param text args, .mk op2 media2 frame2 num2 den2 param2 text2 args2=>by
  simp only [eqE,Bool.and_eq_true,beq_bytesL,decide_eq_true_eq,beq_iff_eq,ExprR.mk.injEq,eqEs_iff (a:=args) (b:=args2),and_assoc]
theorem eqEs_iff:∀ {a b:List ExprR},eqEs a b=true ↔ a=b
 | [],[]=>by simp only [eqEs]
 | x::xs,y::ys=>by simp only [eqEs,Bool.and_eq_true,eqE_iff (a:=x) (b:=y),eqEs_iff (a:=xs) (b:=ys),List.cons.injEq]
 | [],_::_=>by simp [eqEs]
 | _::_,[]=>by simp [eqEs]
end
open Go.RowKit
set_option maxRecDepth 4000
def opE:ExprR→Int
 | .mk op .. => op
def zeroE:ExprR := .mk 0 ⟨#[]⟩ 0 0 0 0 ⟨#[]⟩ []
def redE (op:Int) (media:ByteArray) (frame num den param:Int) (text:ByteArray) (args:List ExprR):ExprR :=
 match args with
 | [x,y]=>if eqE x y=true then x else if (op==4&&opE x==0)=true then (if decide (param > 16)=true then y else zeroE) else .mk op media frame num den param text [x,y]
 | args => .mk op media frame num den param text args
mutual
def simE:ExprR→ExprR
 | .mk op media frame num den param text args=>redE op media frame num den param text (simEs args)
def simEs:List ExprR→List ExprR
 | []=>[]
 | e::es=>simE e::simEs es
end
open Go.RowKit
set_option maxRecDepth 4000
def simpE (e:ExprR):ExprR:=if validE e=true then simE e else zeroE
end Go.Proofs.YtkjdkbmfaamhaaaGreat
