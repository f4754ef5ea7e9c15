/- Proved here: When two expressions are the same by the reference; conditions stand in each theorem. -/
import Derived.Test.YtbfnemkngoaeeaaGreatQ14
import Derived.Test.YtbfnemkngoaeeaaGreatQ09
set_option linter.unusedSimpArgs false
set_option linter.unusedVariables false
set_option linter.unusedSectionVars false
set_option linter.unnecessarySimpa false
namespace Go.Proofs.YtbfnemkngoaeeaaGreat
open Go.RowKit
set_option maxRecDepth 4000
def Ha (op:Int) (media:ByteArray) (frame num den param:Int) (text:ByteArray) (n:Int) (op2:Int) (media2:ByteArray) (frame2 tS den2 param2:Int) (text2:ByteArray) (n2:Int):Bool :=
 op==op2&&(media.toList==media2.toList)&&frame==frame2&&num==tS&&den==den2&&param==param2&&(text.toList==text2.toList)&&n==n2
theorem aG9 {op:Int} {media:ByteArray} {frame num den param:Int} {text:ByteArray} {args:List ExprR} {op2:Int} {media2:ByteArray} {frame2 tS den2 param2:Int} {text2:ByteArray} {args2:List ExprR} :
  eqE (.mk op media frame num den param text args) (.mk op2 media2 frame2 tS den2 param2 text2 args2)=(Ha op media frame num den param text args.length op2 media2 frame2 tS den2 param2 text2 args2.length&&Kj args args2):=by
 unfold eqE Ha
 by_cases h:args.length=args2.length
 ·have:((args.length:Int)==args2.length)=true:=by rw [beq_iff_eq,h]
  rw [this,Bool.and_true]
 ·rw [aG7 h,Bool.and_false,Bool.and_false]
theorem aH0:∀ (m:Nat) (a b:ExprR),SizeOf.sizeOf a<m→aM Tryz.prog 34 [cY a,cY b] (aS (eqE a b))
 | 0,e,_,h=>absurd h (Nat.not_lt_zero _)
 | m+1, .mk op media frame num den param text args, .mk op2 media2 frame2 tS den2 param2 text2 args2,hm=>by
  have ih:∀ x∈args, ∀ y∈args2,aM Tryz.prog 34 [cY x,cY y] (aS (eqE x y)):=fun x hx y _=>aH0 m x y (by have:=Ew hx op media frame num den param text;omega)
  rw [jQ,jQ];refine aH Tryz.X34 Tryz.func34 rfl Tryz.ntmps34 (by rw [Tryz.results34]) (fD fun hf=>aD _ ?_);simp only [go_sem,simprocAttr,kW,List.length_map] at hf;have hla:args.length≤maxLen:=by omega
  simp only [go_sem,simprocAttr];refine brW (b := !Ha op media frame num den param text args.length op2 media2 frame2 tS den2 param2 text2 args2.length) ?_ ⟨fun h1=>?_,fun h1=>?_⟩
  ·unfold Ha;simp only [bne,Bool.not_and]
  ·unfold awS;simp only [go_sem,simprocAttr];rw [aG9,nt h1];rfl
  ·unfold awS;simp only [go_sem,simprocAttr];have hH:=nf h1;have hl:args.length=args2.length:=by
    unfold Ha at hH;simp only [Bool.and_eq_true,beq_iff_eq] at hH;omega
   rw [aG9,hH,Bool.true_and];refine aF (fun (k:Nat) σ => cJ 5 (aC k) (bN [62,63,64,65,66,67,68,69,70,71,72,73,74,75,76,77,78,79,80] (bK σ))) (fun k=>k≤args.length ∧ ∀ i,i<k→eqE (args.getD i default) (args2.getD i default)=true) (fun k=>args.length - k) 0 (aB ?_) ⟨Nat.zero_le _,by omega⟩ ?_
   ·simp only [go_sem,simprocAttr]<;>simp
   ·rintro k ⟨hk,hi⟩;refine aD _ ?_;simp only [go_sem,simprocAttr];refine ⟨fun hlt=>?_,fun hge=>?_⟩
    ·simp only [bxx] at hlt;have hn1:=zR zE (show k<args.length by omega);have hn2:=zR zE (show k<args2.length by omega);have ihk:=ih _ (Bz (show k<args.length by omega)) _ (Bz (show k<args2.length by omega));have hhit := @aG8 args args2 k;have hup:eqE (args.getD k default) (args2.getD k default)=true → ∀ i,i<k+1→eqE (args.getD i default) (args2.getD i default)=true:=fun h=>upto hi h
     rcases hx:args.getD k default with ⟨o1,m1,fr1,nu1,de1,pa1,te1,ar1⟩;rcases hy:args2.getD k default with ⟨o2,m2,fr2,nu2,de2,pa2,te2,ar2⟩;rw [hx] at hn1 ihk hhit hup;rw [hy] at hn2 ihk hhit hup;unfold awS;simp only [go_sem,simprocAttr];refine cL [0,1,2,3,4,5,6,7,8,9,10,11] .done rfl (by kernel_rfl) (by kernel_rfl) (by decide) ?_;simp only [go_sem,simprocAttr,hn1,hn2,ExprR.c,jV];refine ⟨⟨by omega,by omega⟩,⟨by omega,by omega⟩,_,ihk,?_⟩;simp only [go_sem,simprocAttr];refine ⟨fun h2=>?_,fun h2=>?_⟩
     ·unfold awS;simp only [go_sem,simprocAttr];rw [hhit (by simpa using h2)]
     ·unfold awS;simp only [go_sem,simprocAttr];refine ⟨k+1,aB ?_,⟨by omega,hup (by simpa using h2)⟩,by omega⟩;simp only [go_sem,simprocAttr]<;>simp [dV (show k<args.length by omega) hla]
    ·simp only [bxx] at hge;unfold awS;simp only [go_sem,simprocAttr];rw [Yz hl (fun i h2=>hi i (by omega))]
open Go.RowKit
set_option maxRecDepth 4000
def bareB (op:Int) (media:ByteArray) (frame num den param:Int) (text:ByteArray):Bool :=
 !((!(op==1)&&(!(noB media)||frame != 0))||(!(op==2||op==3)&&(num != 0||den != 0)))&&((op==3||op==4||param==0)&&(op==5||noB text))
def opsOk (op:Int) (media:ByteArray) (frame num den param:Int) (text:ByteArray):Bool :=
 if (op==0)=true then true
 else if (op==1)=true then aT media&&decide (0≤frame)&&decide (frame<2147483647)
 else if (op==2||op==3)=true then zB num den&&decide (0≤param)&&decide (param≤3)
 else if (op==4)=true then decide (0≤param)&&decide (param≤255)
 else if (op==5)=true then kL text
 else false
def manyE (op:Int):Int:=if (op==2||op==3||op==4)=true then 2 else if (op==5)=true then 1 else 0
open Go.RowKit
set_option maxRecDepth 4000
theorem aTx {s:ByteArray} (h:noB s=true):s=⟨#[]⟩:=by
 unfold noB at h;exact tE (by simpa using h)
theorem fields_op0 {media:ByteArray} {frame num den param:Int} {text:ByteArray} {n:Int} (h:cS 0 media frame num den param text n=true) :
  media=⟨#[]⟩∧frame=0∧num=0∧den=0∧param=0∧text=⟨#[]⟩∧n=0:=by
 unfold cS at h;rw [if_pos (by rfl)] at h;simp only [Bool.and_eq_true,beq_iff_eq] at h;exact ⟨aTx h.1.1.1.1.1,h.1.1.1.1.2,h.1.1.1.2.1,h.1.1.1.2.2,h.1.1.2,aTx h.1.2,h.2⟩
theorem aA9 {op:Int} {media:ByteArray} {frame num den param:Int} {text:ByteArray} {args:List ExprR} (h:bR (.mk op media frame num den param text args)=true) :
  cS op media frame num den param text args.length=true ∧ ∀ e∈args,bR e=true:=by
 unfold bR at h;rw [Bool.and_eq_true,jA,List.all_eq_true] at h;exact h
theorem qP {op:Int} {media:ByteArray} {frame num den param:Int} {text:ByteArray} {args:List ExprR} (h:cS op media frame num den param text args.length=true) (h2:∀ e∈args,bR e=true) :
  bR (.mk op media frame num den param text args)=true:=by
 unfold bR;rw [Bool.and_eq_true,jA,List.all_eq_true];exact ⟨h,h2⟩
mutual
def Ae:ExprR→Bool
 | .mk op _ _ _ _ _ _ args => !((args.length==2&&eqE (args.getD 0 default) (args.getD 1 default))||(op==4&&opE (args.getD 0 default)==0))&&Cg args
def Cg:List ExprR→Bool
 | []=>true
 | e::es=>Ae e&&Cg es
end
theorem Kt:bR zeroE=true:=by simp [zeroE,bR,Bb,cS,noB]
theorem aFf:Ae zeroE=true:=by simp [zeroE,Ae,Cg]
theorem nQ:cQ zeroE=zeroE:=by simp only [zeroE,cQ,uP];rfl
theorem Sx {media:ByteArray} {frame num den param:Int} {text:ByteArray} {n:Int} (h:cS 4 media frame num den param text n=true):n=2:=by
 unfold cS at h;rw [if_neg (by decide),if_neg (by decide),if_neg (by decide),if_neg (by decide),if_pos (by decide)] at h;simp only [Bool.and_eq_true,beq_iff_eq] at h;exact h.2
theorem Wt:∀ (m:Nat) (e:ExprR),SizeOf.sizeOf e<m→bR e=true→bR (cQ e)=true∧Ae (cQ e)=true∧cQ (cQ e)=cQ e
 | 0,_,h,_=>absurd h (Nat.not_lt_zero _)
 | m+1, .mk op media frame num den param text args,hm,hv=>by
  obtain ⟨h1,h2⟩:=aA9 hv;have hl:=xW h1;have ih:∀ e∈args,bR (cQ e)=true∧Ae (cQ e)=true∧cQ (cQ e)=cQ e:=fun e he=>Wt m e (by have:=Ew he op media frame num den param text;omega) (h2 e he)
  match args,hl,ih,h1 with
  | [],_,_,h1 =>
   have e1:cQ (.mk op media frame num den param text []) = .mk op media frame num den param text []:=by
    conv=>lhs;unfold cQ
    simp only [uP];rfl
   rw [e1];refine ⟨qP h1 (by simp),?_,e1⟩;have h4:(op==4)=false:=by
    rw [Bool.eq_false_iff];intro h4;rw [beq_iff_eq] at h4;subst h4;have:=Sx h1;simp at this
   simp [Ae,Cg,h4]
  | [a],_,ih,h1 =>
   obtain ⟨i1,i2,i3⟩:=ih a (by simp);rw [Fr];refine ⟨qP h1 (by simpa using i1),?_,by rw [Fr,i3]⟩;have h4:(op==4)=false:=by
    rw [Bool.eq_false_iff];intro h4;rw [beq_iff_eq] at h4;subst h4;have:=Sx h1;simp at this
   simp [Ae,Cg,h4,i2]
  | [a,b],_,ih,h1 =>
   obtain ⟨i1,i2,i3⟩:=ih a (by simp);obtain ⟨j1,j2,j3⟩:=ih b (by simp);rw [Fq,tN];split
   ·exact ⟨i1,i2,i3⟩
   ·rename_i hne;split
    ·split
     ·exact ⟨j1,j2,j3⟩
     ·exact ⟨Kt,aFf,nQ⟩
    ·rename_i hk;refine ⟨qP h1 (by simp [i1,j1]),?_,?_⟩
     ·rw [Bool.not_eq_true] at hne hk;simp [Ae,Cg,i2,j2,hne,hk]
     ·rw [Fq,i3,j3,tN,if_neg hne,if_neg hk]
  | _::_::_::_,h,_,_=>simp at h
theorem Pp {e:ExprR} (h:bR e=true):bR (cQ e)=true:=(Wt _ e (Nat.lt_succ_self _) h).1
open Go.RowKit
set_option maxRecDepth 4000
theorem cRSameE (a b:ExprR):aM Tryz.prog 34 [cY a,cY b] (aS (eqE a b)):=aH0 _ a b (Nat.lt_succ_self _)
def gY:List ClipR→Nat→Int→Int×Int×Bool
 | [],_,_=>(0,0,false)
 | c::l,i,n=>if n<c.len then (i,n,true) else gY l (i+1) (n - c.len)
theorem rE (c:ClipR) (l:List ClipR) (i:Nat) (n:Int):gY (c::l) i n=if n<c.len then (↑i,n,true) else gY l (i+1) (n - c.len):=rfl
theorem Bd (c:ClipR) (l:List ClipR):bU (c::l)=c.len+bU l:=rfl
theorem Fg:bU []=0:=rfl
abbrev vfind (r:Int×Int×Bool):V := .tup [aC r.1,aC r.2.1,aS r.2.2]
def findT (t:List ClipR) (n:Int):Int×Int×Bool:=if bC t=true∧0≤n then gY t 0 n else (0,0,false)
theorem Zb {t:List ClipR} {k:Nat} (h:k<t.length):t.drop k=t.getD k default::t.drop (k+1):=by
 rw [aJ h,List.drop_eq_getElem_cons h]
end Go.Proofs.YtbfnemkngoaeeaaGreat
