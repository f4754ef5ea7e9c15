/- Proved here: Expressions as plain data, and which are valid; conditions stand in each theorem. -/
import Derived.Test.YtbfnemkngoaeeaaGreatQ07
import Derived.Test.YtbfnemkngoaeeaaGreatQ08
import Derived.Test.YtbfnemkngoaeeaaGreatQ11
import Derived.Test.YtbfnemkngoaeeaaGreatQ15
set_option linter.unusedSimpArgs false
set_option linter.unusedVariables false
set_option linter.unusedSectionVars false
set_option linter.unnecessarySimpa false
namespace Go.Proofs.YtbfnemkngoaeeaaGreat
open Go.RowKit
set_option maxRecDepth 4000
inductive ExprR where
 | mk (op:Int) (media:ByteArray) (frame num den param:Int) (text:ByteArray) (args:List ExprR)
instance:Inhabited ExprR:=⟨.mk 0 ⟨#[]⟩ 0 0 0 0 ⟨#[]⟩ []⟩
def zE:List T:=[ti 0,eX ⟨#[]⟩,ti 0,ti 0,ti 0,ti 0,eX ⟨#[]⟩, .lit (.slice none 0 0)]
mutual
def ExprR.c:ExprR→List T
 | .mk op media frame num den param text args=>[ti op,eX media,ti frame,ti num,ti den,ti param,eX text, .list 8 zE (ExprR.cs args)]
def ExprR.cs:List ExprR→List (List T)
 | []=>[]
 | e::es=>ExprR.c e::ExprR.cs es
end
theorem cs_eq:∀ l:List ExprR,ExprR.cs l=l.map ExprR.c
 | []=>by simp only [ExprR.cs,List.map_nil]
 | e::es=>by simp only [ExprR.cs,List.map_cons,cs_eq es]
abbrev texprs (l:List ExprR):T := .list 8 zE (l.map ExprR.c)
abbrev vex (op:Int) (media:ByteArray) (frame num den param:Int) (text:ByteArray) (args:List ExprR):V :=
 .agg [aC op,bP media,aC frame,aC num,aC den,aC param,bP text, .t (texprs args)]
def vexpr:ExprR→V
 | .mk op media frame num den param text args=>vex op media frame num den param text args
@[go_sem] theorem vexpr_mk (op:Int) (media:ByteArray) (frame num den param:Int) (text:ByteArray) (args:List ExprR):vexpr (.mk op media frame num den param text args)=vex op media frame num den param text args:=rfl
@[go_sem] theorem ExprR.cl:∀ e:ExprR,(ExprR.c e).length=8
 | .mk .. => by simp only [ExprR.c];rfl
@[go_sem] theorem ExprR.ct:∀ e:ExprR,V.agg ((ExprR.c e).map V.t)=vexpr e
 | .mk .. => by simp only [ExprR.c,cs_eq];rfl
mutual
def ExprR.fit:ExprR→Prop
 | .mk op _ frame num den param _ args=>I64 op∧I64 frame∧I64 num∧I64 den∧I64 param∧ExprR.fits args
def ExprR.fits:List ExprR→Prop
 | []=>True
 | e::es=>ExprR.fit e∧ExprR.fits es
end
def aB7 (num den:Int):Bool:=decide (num > 0)&&decide (num<den)&&decide (den≤2147483648)&&dL ⟨num,den⟩
def noB (s:ByteArray):Bool:=s.toList==(⟨#[]⟩:ByteArray).toList
def aM0 (op:Int) (media:ByteArray) (frame num den param:Int) (text:ByteArray) (n:Int):Bool :=
 if (op==0)=true then noB media&&frame==0&&(num==0&&den==0)&&param==0&&noB text&&n==0
 else if (op==1)=true then cG media&&decide (frame ≥ 0)&&decide (frame≤2147483646)&&(num==0&&den==0)&&param==0&&noB text&&n==0
 else if (op==2)=true then noB media&&frame==0&&aB7 num den&&param==0&&noB text&&n==2
 else if (op==3)=true then noB media&&frame==0&&aB7 num den&&decide (param ≥ 0)&&decide (param≤3)&&noB text&&n==2
 else if (op==4)=true then noB media&&frame==0&&(num==0&&den==0)&&decide (param ≥ 0)&&decide (param≤255)&&noB text&&n==2
 else if (op==5)=true then noB media&&frame==0&&(num==0&&den==0)&&param==0&&fS text&&n==1
 else false
mutual
def aAr:ExprR→Bool
 | .mk op media frame num den param text args=>aM0 op media frame num den param text args.length&&aCz args
def aCz:List ExprR→Bool
 | []=>true
 | e::es=>aAr e&&aCz es
end
open Go.RowKit
set_option maxRecDepth 4000
mutual
def eqE:ExprR→ExprR→Bool
 | .mk op media frame num den param text args, .mk op2 media2 frame2 vH den2 param2 text2 args2 =>
  op==op2&&(media.toList==media2.toList)&&frame==frame2&&num==vH&&den==den2&&param==param2&&(text.toList==text2.toList)&&aC9 args args2
def aC9:List ExprR→List ExprR→Bool
 | [],[]=>true
 | x::xs,y::ys=>eqE x y&&aC9 xs ys
 | [],_::_=>false
 | _::_,[]=>false
end
mutual
theorem eqE_iff:∀ {a b:ExprR},eqE a b=true ↔ a=b
 | .mk op media frame num den param text args, .mk op2 media2 frame2 vH den2 param2 text2 args2=>by
  simp only [eqE,Bool.and_eq_true,tY,decide_eq_true_eq,beq_iff_eq,ExprR.mk.injEq,Zv (a:=args) (b:=args2),and_assoc]
theorem Zv:∀ {a b:List ExprR},aC9 a b=true ↔ a=b
 | [],[]=>by simp only [aC9]
 | x::xs,y::ys=>by simp only [aC9,Bool.and_eq_true,eqE_iff (a:=x) (b:=y),Zv (a:=xs) (b:=ys),List.cons.injEq]
 | [],_::_=>by simp [aC9]
 | _::_,[]=>by simp [aC9]
end
open Go.RowKit
set_option maxRecDepth 4000
def opE:ExprR→Int
 | .mk op .. => op
def uM:ExprR := .mk 0 ⟨#[]⟩ 0 0 0 0 ⟨#[]⟩ []
def redE (op:Int) (media:ByteArray) (frame num den param:Int) (text:ByteArray) (args:List ExprR):ExprR :=
 match args with
 | [x,y]=>if eqE x y=true then x else if (op==4&&opE x==0)=true then (if decide (param > 16)=true then y else uM) else .mk op media frame num den param text [x,y]
 | args => .mk op media frame num den param text args
mutual
def simE:ExprR→ExprR
 | .mk op media frame num den param text args=>redE op media frame num den param text (simEs args)
def simEs:List ExprR→List ExprR
 | []=>[]
 | e::es=>simE e::simEs es
end
open Go.RowKit
set_option maxRecDepth 4000
def simpE (e:ExprR):ExprR:=if aAr e=true then simE e else uM
end Go.Proofs.YtbfnemkngoaeeaaGreat
