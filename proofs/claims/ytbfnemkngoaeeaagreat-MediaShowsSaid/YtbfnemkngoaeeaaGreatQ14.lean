/- Proved here: Expressions as plain data, and which are valid; conditions stand in each theorem. -/
import Derived.Test.YtbfnemkngoaeeaaGreatQ07
import Derived.Test.YtbfnemkngoaeeaaGreatQ08
import Derived.Test.YtbfnemkngoaeeaaGreatQ10
import Derived.Test.YtbfnemkngoaeeaaGreatQ13
set_option linter.unusedSimpArgs false
set_option linter.unusedVariables false
set_option linter.unusedSectionVars false
set_option linter.unnecessarySimpa false
namespace Go.Proofs.YtbfnemkngoaeeaaGreat
open Go.RowKit
set_option maxRecDepth 4000
inductive ExprR where
 | mk (op:Int) (media:ByteArray) (frame num den param:Int) (text:ByteArray) (args:List ExprR)
instance:Inhabited ExprR:=⟨.mk 0 ⟨#[]⟩ 0 0 0 0 ⟨#[]⟩ []⟩
def zE:List T:=[ti 0,gJ ⟨#[]⟩,ti 0,ti 0,ti 0,ti 0,gJ ⟨#[]⟩, .lit (.slice none 0 0)]
mutual
def ExprR.c:ExprR→List T
 | .mk op media frame num den param text args=>[ti op,gJ media,ti frame,ti num,ti den,ti param,gJ text, .list 8 zE (ExprR.cs args)]
def ExprR.cs:List ExprR→List (List T)
 | []=>[]
 | e::es=>ExprR.c e::ExprR.cs es
end
theorem jV:∀ l:List ExprR,ExprR.cs l=l.map ExprR.c
 | []=>by simp only [ExprR.cs,List.map_nil]
 | e::es=>by simp only [ExprR.cs,List.map_cons,jV es]
abbrev pF (l:List ExprR):T := .list 8 zE (l.map ExprR.c)
abbrev vex (op:Int) (media:ByteArray) (frame num den param:Int) (text:ByteArray) (args:List ExprR):V :=
 .agg [aC op,bM media,aC frame,aC num,aC den,aC param,bM text, .t (pF args)]
def cY:ExprR→V
 | .mk op media frame num den param text args=>vex op media frame num den param text args
@[go_sem] theorem jQ (op:Int) (media:ByteArray) (frame num den param:Int) (text:ByteArray) (args:List ExprR):cY (.mk op media frame num den param text args)=vex op media frame num den param text args:=rfl
@[go_sem] theorem ExprR.cl:∀ e:ExprR,(ExprR.c e).length=8
 | .mk .. => by simp only [ExprR.c];rfl
@[go_sem] theorem ExprR.ct:∀ e:ExprR,V.agg ((ExprR.c e).map V.t)=cY e
 | .mk .. => by simp only [ExprR.c,jV];rfl
mutual
def ExprR.fit:ExprR→Prop
 | .mk op _ frame num den param _ args=>I64 op∧I64 frame∧I64 num∧I64 den∧I64 param∧ExprR.fits args
def ExprR.fits:List ExprR→Prop
 | []=>True
 | e::es=>ExprR.fit e∧ExprR.fits es
end
theorem Su:∀ {l:List ExprR},ExprR.fits l → ∀ e∈l,e.fit
 | [],_,e,h=>by cases h
 | x::l,hf,e,h=>by
  simp only [ExprR.fits] at hf;rcases List.mem_cons.1 h with rfl | h
  ·exact hf.1
  ·exact Su hf.2 e h
def zB (num den:Int):Bool:=decide (num > 0)&&decide (num<den)&&decide (den≤2147483648)&&gD ⟨num,den⟩
theorem cPText (s:ByteArray):aM Tryz.prog 223 [bM s] (aS (kL s)):=by
 refine aH Tryz.X223 Tryz.func223 rfl Tryz.ntmps223 (by rw [Tryz.results223]) (fD fun hf=>aD _ ?_);simp only [go_sem,simprocAttr,kW] at hf;have hl:s.size≤maxLen:=hf;simp only [go_sem,simprocAttr];refine ⟨fun h=>?_,fun h=>?_⟩
 ·unfold awS;simp only [go_sem,simprocAttr];have:kL s=false:=by
   simp only [bxx] at h;simp only [kL,Bool.and_eq_false_iff,decide_eq_false_iff_not];omega
  rw [this]
 ·unfold awS;simp only [go_sem,simprocAttr];refine aF (fun (k:Nat) σ => cJ 14 (aC k) (bN [4,5,6,7,8,9,10,11,12] σ)) (fun k=>k≤s.size ∧ ∀ i,i<k→lnI (mX s i)=true) (fun k=>s.size - k) 0 (aB ?_) ⟨Nat.zero_le _,by omega⟩ ?_
  ·simp only [go_sem,simprocAttr]<;>rfl
  ·rintro k ⟨hk,hi⟩;refine aD _ ?_;simp only [go_sem,simprocAttr];refine ⟨fun hlt=>?_,fun hge=>?_⟩
   all_goals simp only [decide_eq_true_eq,decide_eq_false_iff_not,Int.ofNat_lt] at *
   ·unfold awS;simp only [go_sem,simprocAttr];refine ⟨⟨by omega,by omega⟩,fun _=>⟨by omega,by omega⟩,?_⟩;refine brW (b := !lnI (mX s k)) ?_ ⟨fun hb=>?_,fun hb=>?_⟩
    ·unfold mX lnI;rw [Bool.eq_iff_iff];simp only [bxx];omega
    ·unfold awS;simp only [go_sem,simprocAttr];rw [kL,Cq hlt (by simpa using hb)];simp
    ·unfold awS;simp only [go_sem,simprocAttr];refine ⟨k+1,aB ?_,⟨hlt,fun i h2=>?_⟩,by omega⟩
     ·simp only [go_sem,simprocAttr]<;>simp [dV hlt hl]
     ·rcases Nat.lt_or_ge i k with h3 | h3
      ·exact hi i h3
      ·rw [show i=k from by omega];simpa using hb
   ·unfold awS;simp only [go_sem,simprocAttr];rw [kL,yE (fun i h2=>hi i (by omega))];simp only [bxx] at h;simp;omega
theorem aNc (op:Int) (media:ByteArray) (frame num den param:Int) (text:ByteArray) (args:List ExprR) (h:I64 num) (h':I64 den) :
  aM Tryz.prog 222 [vex op media frame num den param text args] (aS (zB num den)):=by
 refine aH Tryz.X222 Tryz.func222 rfl Tryz.ntmps222 (by rw [Tryz.results222]) (aD _ ?_);simp only [go_sem,simprocAttr];refine ⟨_,fun _=>Ug ⟨num,den⟩ ⟨h,h'⟩,?_⟩;simp only [go_sem,simprocAttr]<;>rfl
def noB (s:ByteArray):Bool:=s.toList==(⟨#[]⟩:ByteArray).toList
def cS (op:Int) (media:ByteArray) (frame num den param:Int) (text:ByteArray) (n:Int):Bool :=
 if (op==0)=true then noB media&&frame==0&&(num==0&&den==0)&&param==0&&noB text&&n==0
 else if (op==1)=true then aT media&&decide (frame ≥ 0)&&decide (frame≤2147483646)&&(num==0&&den==0)&&param==0&&noB text&&n==0
 else if (op==2)=true then noB media&&frame==0&&zB num den&&param==0&&noB text&&n==2
 else if (op==3)=true then noB media&&frame==0&&zB num den&&decide (param ≥ 0)&&decide (param≤3)&&noB text&&n==2
 else if (op==4)=true then noB media&&frame==0&&(num==0&&den==0)&&decide (param ≥ 0)&&decide (param≤255)&&noB text&&n==2
 else if (op==5)=true then noB media&&frame==0&&(num==0&&den==0)&&param==0&&kL text&&n==1
 else false
theorem aWe (op:Int) (media:ByteArray) (frame num den param:Int) (text:ByteArray) (args:List ExprR) (h:I64 num) (h':I64 den) :
  aM Tryz.prog 172 [vex op media frame num den param text args] (aS (cS op media frame num den param text args.length)):=by
 refine aH Tryz.X172 Tryz.func172 rfl Tryz.ntmps172 (by rw [Tryz.results172]) (aD _ ?_);simp only [go_sem,simprocAttr];refine cL [0,1,2,3,4,5,6,7] .done rfl (by kernel_rfl) (by kernel_rfl) (by decide) ?_;simp only [go_sem,simprocAttr];refine ⟨fun h0=>?_,fun h0=>?_⟩
 ·unfold awS;simp only [go_sem,simprocAttr];unfold cS;rw [if_pos h0];rfl
 ·unfold awS;simp only [go_sem,simprocAttr];refine ⟨fun h1=>?_,fun h1=>?_⟩
  ·unfold awS;simp only [go_sem,simprocAttr];refine ⟨_,vM media,?_⟩;simp only [go_sem,simprocAttr];unfold cS;rw [if_neg (by rw [h0];exact Bool.false_ne_true),if_pos h1];rfl
  ·unfold awS;simp only [go_sem,simprocAttr];refine ⟨fun h2=>?_,fun h2=>?_⟩
   ·unfold awS;simp only [go_sem,simprocAttr];refine ⟨_,fun _=>aNc op media frame num den param text args h h',?_⟩;simp only [go_sem,simprocAttr];unfold cS;rw [if_neg (by rw [h0];exact Bool.false_ne_true),if_neg (by rw [h1];exact Bool.false_ne_true),if_pos h2];rfl
   ·unfold awS;simp only [go_sem,simprocAttr];refine ⟨fun h3=>?_,fun h3=>?_⟩
    ·unfold awS;simp only [go_sem,simprocAttr];refine ⟨_,fun _=>aNc op media frame num den param text args h h',?_⟩;simp only [go_sem,simprocAttr];unfold cS;rw [if_neg (by rw [h0];exact Bool.false_ne_true),if_neg (by rw [h1];exact Bool.false_ne_true),if_neg (by rw [h2];exact Bool.false_ne_true),if_pos h3];rfl
    ·unfold awS;simp only [go_sem,simprocAttr];refine ⟨fun h4=>?_,fun h4=>?_⟩
     ·unfold awS;simp only [go_sem,simprocAttr];unfold cS;rw [if_neg (by rw [h0];exact Bool.false_ne_true),if_neg (by rw [h1];exact Bool.false_ne_true),if_neg (by rw [h2];exact Bool.false_ne_true),if_neg (by rw [h3];exact Bool.false_ne_true),if_pos h4];rfl
     ·unfold awS;simp only [go_sem,simprocAttr];refine ⟨fun h5=>?_,fun h5=>?_⟩
      ·unfold awS;simp only [go_sem,simprocAttr];refine ⟨_,fun _=>cPText text,?_⟩;simp only [go_sem,simprocAttr];unfold cS;rw [if_neg (by rw [h0];exact Bool.false_ne_true),if_neg (by rw [h1];exact Bool.false_ne_true),if_neg (by rw [h2];exact Bool.false_ne_true),if_neg (by rw [h3];exact Bool.false_ne_true),if_neg (by rw [h4];exact Bool.false_ne_true),if_pos h5];rfl
      ·unfold awS;simp only [go_sem,simprocAttr];unfold cS;rw [if_neg (by rw [h0];exact Bool.false_ne_true),if_neg (by rw [h1];exact Bool.false_ne_true),if_neg (by rw [h2];exact Bool.false_ne_true),if_neg (by rw [h3];exact Bool.false_ne_true),if_neg (by rw [h4];exact Bool.false_ne_true),if_neg (by rw [h5];exact Bool.false_ne_true)]
mutual
def bR:ExprR→Bool
 | .mk op media frame num den param text args=>cS op media frame num den param text args.length&&Bb args
def Bb:List ExprR→Bool
 | []=>true
 | e::es=>bR e&&Bb es
end
theorem jA:∀ l:List ExprR,Bb l=l.all bR
 | []=>by simp only [Bb,List.all_nil]
 | e::es=>by simp only [Bb,List.all_cons,jA es]
theorem xW {op:Int} {media:ByteArray} {frame num den param:Int} {text:ByteArray} {n:Nat} (h:cS op media frame num den param text n=true):n≤2:=by
 unfold cS at h
 repeat' split at h
 all_goals first
  | (simp only [Bool.and_eq_true,beq_iff_eq] at h;omega)
  | cases h
theorem zR (d:List T) {l:List ExprR} {k:Nat} (h:k<l.length):nth d (l.map ExprR.c) k=ExprR.c (l.getD k default):=by
 unfold nth;rw [List.getElem?_map,List.getElem?_eq_getElem h,aJ h];rfl
theorem Ew {e:ExprR} {l:List ExprR} (h:e∈l) (op:Int) (media:ByteArray) (frame num den param:Int) (text:ByteArray):SizeOf.sizeOf e<SizeOf.sizeOf (ExprR.mk op media frame num den param text l):=by
 have:=List.sizeOf_lt_of_mem h;simp only [ExprR.mk.sizeOf_spec];omega
theorem aH3:∀ (m:Nat) (e:ExprR),SizeOf.sizeOf e<m→e.fit→aM Tryz.prog 97 [cY e] (aS (bR e))
 | 0,e,h,_=>absurd h (Nat.not_lt_zero _)
 | m+1, .mk op media frame num den param text args,hm,hfit=>by
  simp only [ExprR.fit] at hfit;obtain ⟨f1,f2,f3,f4,f5,f6⟩:=hfit;have ih:∀ e∈args,aM Tryz.prog 97 [cY e] (aS (bR e)):=fun e he=>aH3 m e (by have:=Ew he op media frame num den param text;omega) (Su f6 e he)
  rw [jQ];refine aH Tryz.X97 Tryz.func97 rfl Tryz.ntmps97 (by rw [Tryz.results97]) (aD _ ?_);simp only [go_sem,simprocAttr];refine ⟨_,aWe op media frame num den param text args f3 f4,?_⟩;simp only [go_sem,simprocAttr];refine ⟨fun h1=>?_,fun h1=>?_⟩
  ·unfold awS;simp only [go_sem,simprocAttr];unfold bR;rw [nt h1];rfl
  ·have hF:=nf h1;have hv:bR (.mk op media frame num den param text args)=args.all bR:=by unfold bR;rw [hF,Bool.true_and,jA]
   have hl:args.length≤2:=xW hF;rw [hv];unfold awS;simp only [go_sem,simprocAttr];refine aF (fun (k:Nat) σ => cJ 11 (aC k) (bN [4,12,13,14,15,16,17,18] (bK σ))) (fun k=>k≤args.length ∧ ∀ i,i<k→bR (args.getD i default)=true) (fun k=>args.length - k) 0 (aB ?_) ⟨Nat.zero_le _,by omega⟩ ?_
   ·simp only [go_sem,simprocAttr]<;>simp
   ·rintro k ⟨hk,hi⟩;refine aD _ ?_;simp only [go_sem,simprocAttr];refine ⟨fun hlt=>?_,fun hge=>?_⟩
    ·simp only [bxx] at hlt;have hmem:args.getD k default∈args:=by rw [aJ (by omega)];exact List.getElem_mem (by omega)
     have hn:=zR zE (show k<args.length by omega);have ihk:=ih _ hmem;have hall := @gG ExprR default bR args k (by omega);have hup:bR (args.getD k default)=true → ∀ i,i<k+1→bR (args.getD i default)=true:=fun h=>upto hi h
     rcases hx:args.getD k default with ⟨o2,m2,fr2,nu2,de2,pa2,te2,ar2⟩;rw [hx] at hn ihk hall hup;unfold awS;simp only [go_sem,simprocAttr,hn,ExprR.c,jV];refine ⟨⟨by omega,by omega⟩,_,ihk,?_⟩;simp only [go_sem,simprocAttr];refine ⟨fun h2=>?_,fun h2=>?_⟩
     ·unfold awS;simp only [go_sem,simprocAttr];rw [hall (nt h2)]
     ·unfold awS;simp only [go_sem,simprocAttr];refine ⟨k+1,aB ?_,⟨by omega,hup (nf h2)⟩,by omega⟩;simp only [go_sem,simprocAttr]<;>simp [bX (show k<9223372036854775807 by omega)]
    ·simp only [bxx] at hge;unfold awS;simp only [go_sem,simprocAttr];rw [dE (d:=default) (p:=bR) (fun i h2=>hi i (by omega))]
open Go.RowKit
set_option maxRecDepth 4000
mutual
def eqE:ExprR→ExprR→Bool
 | .mk op media frame num den param text args, .mk op2 media2 frame2 tS den2 param2 text2 args2 =>
  op==op2&&(media.toList==media2.toList)&&frame==frame2&&num==tS&&den==den2&&param==param2&&(text.toList==text2.toList)&&Kj args args2
def Kj:List ExprR→List ExprR→Bool
 | [],[]=>true
 | x::xs,y::ys=>eqE x y&&Kj xs ys
 | [],_::_=>false
 | _::_,[]=>false
end
mutual
theorem xY:∀ {a b:ExprR},eqE a b=true ↔ a=b
 | .mk op media frame num den param text args, .mk op2 media2 frame2 tS den2 param2 text2 args2=>by
  simp only [eqE,Bool.and_eq_true,gA,decide_eq_true_eq,beq_iff_eq,ExprR.mk.injEq,Hh (a:=args) (b:=args2),and_assoc]
theorem Hh:∀ {a b:List ExprR},Kj a b=true ↔ a=b
 | [],[]=>by simp only [Kj]
 | x::xs,y::ys=>by simp only [Kj,Bool.and_eq_true,xY (a:=x) (b:=y),Hh (a:=xs) (b:=ys),List.cons.injEq]
 | [],_::_=>by simp [Kj]
 | _::_,[]=>by simp [Kj]
end
theorem aN2 {a b:List ExprR} (h:a≠b):Kj a b=false:=by rw [Bool.eq_false_iff,ne_eq,Hh];exact h
theorem aG7 {a b:List ExprR} (h:a.length≠b.length):Kj a b=false:=aN2 fun e=>h (by rw [e])
theorem aG8 {a b:List ExprR} {k:Nat} (h2:eqE (a.getD k default) (b.getD k default)=false):Kj a b=false:=by
 refine aN2 ?_;rintro rfl;rw [Bool.eq_false_iff,ne_eq,xY] at h2;exact h2 rfl
theorem Yz {a b:List ExprR} (hl:a.length=b.length) (h:∀ i,i<a.length→eqE (a.getD i default) (b.getD i default)=true):Kj a b=true:=by
 rw [Hh];refine List.ext_getElem hl fun i h1 h2=>?_
 have:=xY.1 (h i h1);rw [aJ h1,aJ h2] at this;exact this
theorem asCloE (f:FuncId):∀ (w:World) (E:Env) v,RdV w E (.t (.lit (.func (.func f) #[] #[]))) v→RdV w E (.clo f []) v:=by
 intro w E v h;obtain ⟨rfl,_⟩:=aG h;simp only [RdV];exact ⟨#[],rfl,by simp only [RdVs]⟩
theorem Bz {l:List ExprR} {k:Nat} (h:k<l.length):l.getD k default∈l:=by rw [aJ h];exact List.getElem_mem h
theorem cEqFE (a b:List ExprR) (ih:∀ x∈a, ∀ y∈b,aM Tryz.prog 53 [cY x,cY y] (aS (eqE x y))) :
  aM Tryz.prog 122 [.t (pF a), .t (pF b), .t (.lit (.func (.func 53) #[] #[]))] (aS (Kj a b)):=by
 refine sA (.cons cC (.cons cC (.cons (asCloE _) .nil))) (args:=[.t (pF a), .t (pF b), .clo 53 []]) ?_;refine aH Tryz.X122 Tryz.func122 rfl Tryz.ntmps122 (by rw [Tryz.results122]) (fD fun hf=>aD _ ?_);simp only [go_sem,simprocAttr,kW] at hf;have hla:a.length≤maxLen:=by first | exact hf.1 | exact hf.1.1 | exact hf.2.1
 simp only [go_sem,simprocAttr];refine ⟨fun h=>?_,fun h=>?_⟩
 ·simp only [bxx] at h;unfold awS;simp only [go_sem,simprocAttr];rw [aG7 (by omega)]
 ·have hl:a.length=b.length:=by simp only [bne_eq_false_iff_eq] at h;omega
  unfold awS;simp only [go_sem,simprocAttr];refine aF (fun (k:Nat) σ => cJ 17 (aC k) (bN [7,8,9,18,19,20,21,22,23,24,25,26,27,28,29,30,31] (bK σ))) (fun k=>k≤a.length ∧ ∀ i,i<k→eqE (a.getD i default) (b.getD i default)=true) (fun k=>a.length - k) 0 (aB ?_) ⟨Nat.zero_le _,by omega⟩ ?_
  ·simp only [go_sem,simprocAttr]<;>simp
  ·rintro k ⟨hk,hi⟩;refine aD _ ?_;simp only [go_sem,simprocAttr];refine ⟨fun hlt=>?_,fun hge=>?_⟩
   ·simp only [bxx] at hlt;have hn1:=zR zE (show k<a.length by omega);have hn2:=zR zE (show k<b.length by omega);have ihk:=ih _ (Bz (show k<a.length by omega)) _ (Bz (show k<b.length by omega));have hhit := @aG8 a b k;have hup:eqE (a.getD k default) (b.getD k default)=true → ∀ i,i<k+1→eqE (a.getD i default) (b.getD i default)=true:=fun h=>upto hi h
    rcases hx:a.getD k default with ⟨o1,m1,fr1,nu1,de1,pa1,te1,ar1⟩;rcases hy:b.getD k default with ⟨o2,m2,fr2,nu2,de2,pa2,te2,ar2⟩;rw [hx] at hn1 ihk hhit hup;rw [hy] at hn2 ihk hhit hup;unfold awS;simp only [go_sem,simprocAttr,hn1,hn2,ExprR.c,jV];refine ⟨⟨by omega,by omega⟩,⟨by omega,by omega⟩,?_⟩;refine jJ ihk rfl ?_;simp only [go_sem,simprocAttr];refine ⟨fun h2=>?_,fun h2=>?_⟩
    ·unfold awS;simp only [go_sem,simprocAttr];rw [hhit (by simpa using h2)]
    ·unfold awS;simp only [go_sem,simprocAttr];refine ⟨k+1,aB ?_,⟨by omega,hup (by simpa using h2)⟩,by omega⟩;simp only [go_sem,simprocAttr]<;>simp [dV (show k<a.length by omega) hla]
   ·simp only [bxx] at hge;unfold awS;simp only [go_sem,simprocAttr];rw [Yz hl (fun i h2=>hi i (by omega))]
theorem aNd:∀ (m:Nat) (a b:ExprR),SizeOf.sizeOf a<m→aM Tryz.prog 53 [cY a,cY b] (aS (eqE a b))
 | 0,e,_,h=>absurd h (Nat.not_lt_zero _)
 | m+1, .mk op media frame num den param text args, .mk op2 media2 frame2 tS den2 param2 text2 args2,hm=>by
  have ih:∀ x∈args, ∀ y∈args2,aM Tryz.prog 53 [cY x,cY y] (aS (eqE x y)):=fun x hx y _=>aNd m x y (by have:=Ew hx op media frame num den param text;omega)
  rw [jQ,jQ];refine aH Tryz.X53 Tryz.func53 rfl Tryz.ntmps53 (by rw [Tryz.results53]) (aD _ ?_);simp only [go_sem,simprocAttr];refine ⟨_,fun _=>cEqFE args args2 ih,?_⟩;simp only [go_sem,simprocAttr];unfold eqE;rfl
theorem cSameE (a b:ExprR):aM Tryz.prog 53 [cY a,cY b] (aS (eqE a b)):=aNd _ a b (Nat.lt_succ_self _)
theorem cValidE (e:ExprR) (h:e.fit):aM Tryz.prog 97 [cY e] (aS (bR e)):=aH3 _ e (Nat.lt_succ_self _) h
open Go.RowKit
set_option maxRecDepth 4000
def opE:ExprR→Int
 | .mk op .. => op
def zeroE:ExprR := .mk 0 ⟨#[]⟩ 0 0 0 0 ⟨#[]⟩ []
def uG (op:Int) (media:ByteArray) (frame num den param:Int) (text:ByteArray) (args:List ExprR):ExprR :=
 match args with
 | [x,y]=>if eqE x y=true then x else if (op==4&&opE x==0)=true then (if decide (param > 16)=true then y else zeroE) else .mk op media frame num den param text [x,y]
 | args => .mk op media frame num den param text args
theorem tN (op:Int) (media:ByteArray) (frame num den param:Int) (text:ByteArray) (x y:ExprR):uG op media frame num den param text [x,y] =
  if eqE x y=true then x else if (op==4&&opE x==0)=true then (if decide (param > 16)=true then y else zeroE) else .mk op media frame num den param text [x,y]:=rfl
theorem kT {h:Heap}:vW (cY zeroE) (.agg [aC 0,bM ⟨#[]⟩,aC 0,aC 0,aC 0,aC 0,bM ⟨#[]⟩, .t (.lit (.slice none 0 0))]) h:=by
 have e:V.lend h (.agg [aC 0,bM ⟨#[]⟩,aC 0,aC 0,aC 0,aC 0,bM ⟨#[]⟩, .t (.lit (.slice none 0 0))]) = .agg [aC 0,bM ⟨#[]⟩,aC 0,aC 0,aC 0,aC 0,bM ⟨#[]⟩, .t (.lit (.slice none 0 0))]:=rfl;refine ⟨by rw [e];rfl,fun w E v hv=>?_⟩;rw [e] at hv;exact aL3 (by exact ⟨.inl rfl, .inl rfl, .inl rfl, .inl rfl, .inl rfl, .inl rfl, .inl rfl, .inr ⟨rfl,_,_,rfl⟩,trivial⟩) w E v hv
theorem cst0:((0:Nat):Int)=0:=rfl
theorem cst1:((1:Nat):Int)=1:=rfl
theorem aVt:((2:Nat):Int)=2:=rfl
theorem cw1:IntKind.i64.wrap 1=1:=by decide
theorem cw2:IntKind.i64.wrap 2=2:=by decide
theorem nth_1a (d a:List T):nth d [a] 0=a:=rfl
theorem aMb (d a b:List T):nth d [a,b] 0=a:=rfl
theorem nth2b (d a b:List T):nth d [a,b] 1=b:=rfl
theorem tD (op:Int) (media:ByteArray) (frame num den param:Int) (text:ByteArray) (x y:ExprR) :
  aM Tryz.prog 174 [vex op media frame num den param text [x,y]] (cY (uG op media frame num den param text [x,y])):=by
 obtain ⟨o1,m1,fr1,nu1,de1,pa1,te1,ar1⟩:=x;obtain ⟨o2,m2,fr2,nu2,de2,pa2,te2,ar2⟩:=y;refine cR Tryz.X174 Tryz.func174 rfl Tryz.ntmps174 (by rw [Tryz.results174]) (aD _ ?_);simp only [go_sem,↓reduceIte,Nat.reduceAdd,Nat.reduceSub,reduceCtorEq,Bool.and_true,List.map_cons,List.map_nil,List.length_cons,List.length_nil,ExprR.c,jV];refine ⟨fun h=>absurd h (by decide),fun _=>?_⟩;unfold awS;simp only [go_sem];refine cL [0,1,2,3,4,5,6,7,8] .done rfl (by kernel_rfl) (by kernel_rfl) (by decide) ?_;simp only [go_sem,↓reduceIte,Nat.reduceAdd,Nat.reduceLeDiff,reduceCtorEq,Int.reduceLE,Int.reduceToNat,Bool.and_true,aMb,nth2b,ExprR.c,jV];refine ⟨by decide,by decide,_,cSameE (.mk o1 m1 fr1 nu1 de1 pa1 te1 ar1) (.mk o2 m2 fr2 nu2 de2 pa2 te2 ar2),?_⟩;simp only [go_sem];refine ⟨fun h1=>?_,fun h1=>?_⟩
 ·unfold awS;simp only [go_sem,↓reduceIte,Nat.reduceAdd,Nat.reduceLeDiff,reduceCtorEq,Int.reduceLE,Int.reduceToNat,Bool.and_true,aMb,ExprR.c,jV];refine ⟨by decide,?_⟩;rw [tN,if_pos h1];exact aU rfl rfl
 ·unfold awS;simp only [go_sem,↓reduceIte,Nat.reduceAdd,reduceCtorEq,Int.reduceLE,Int.reduceToNat,Bool.true_and,aMb,ExprR.c,jV];rw [tN,if_neg (by rw [h1];exact Bool.false_ne_true)];refine ⟨fun _=>by decide,fun h2=>?_,fun h2=>?_⟩
  ·rw [show (op==4&&opE (.mk o1 m1 fr1 nu1 de1 pa1 te1 ar1)==0)=true from h2,if_pos rfl];unfold awS;simp only [go_sem,↓reduceIte,reduceCtorEq];refine ⟨fun h3=>?_,fun h3=>?_⟩
   ·rw [if_pos h3];unfold awS;simp only [go_sem,↓reduceIte,Nat.reduceAdd,Nat.reduceLeDiff,reduceCtorEq,Int.reduceLE,Int.reduceToNat,Bool.and_true,nth2b,ExprR.c,jV];refine ⟨by decide,?_⟩;exact aU rfl rfl
   ·rw [if_neg (by rw [h3];exact Bool.false_ne_true)];unfold awS;simp only [go_sem,↓reduceIte,Nat.reduceAdd,Nat.reduceLeDiff,Bool.and_true];exact kT
  ·rw [show (op==4&&opE (.mk o1 m1 fr1 nu1 de1 pa1 te1 ar1)==0)=false from h2,if_neg Bool.false_ne_true];unfold awS;simp only [go_sem,↓reduceIte,Nat.reduceAdd,Nat.reduceLeDiff,reduceCtorEq,Bool.and_true];exact aU rfl rfl
theorem Kq (op:Int) (media:ByteArray) (frame num den param:Int) (text:ByteArray) (args:List ExprR) (h:args.length<2) :
  aM Tryz.prog 174 [vex op media frame num den param text args] (cY (.mk op media frame num den param text args)):=by
 refine aH Tryz.X174 Tryz.func174 rfl Tryz.ntmps174 (by rw [Tryz.results174]) (aD _ ?_);simp only [go_sem,simprocAttr];refine ⟨fun _=>?_,fun h2=>?_⟩
 ·unfold awS;simp only [go_sem,simprocAttr]
 ·exfalso;simp only [bne_eq_false_iff_eq] at h2;omega
mutual
def cQ:ExprR→ExprR
 | .mk op media frame num den param text args=>uG op media frame num den param text (uP args)
def uP:List ExprR→List ExprR
 | []=>[]
 | e::es=>cQ e::uP es
end
theorem Fr (op:Int) (media:ByteArray) (frame num den param:Int) (text:ByteArray) (a:ExprR):cQ (.mk op media frame num den param text [a]) = .mk op media frame num den param text [cQ a]:=by
 conv=>lhs;unfold cQ
 simp only [uP];rfl
theorem Fq (op:Int) (media:ByteArray) (frame num den param:Int) (text:ByteArray) (a b:ExprR):cQ (.mk op media frame num den param text [a,b])=uG op media frame num den param text [cQ a,cQ b]:=by
 conv=>lhs;unfold cQ
 simp only [uP]
theorem aGx:∀ (m:Nat) (e:ExprR),SizeOf.sizeOf e<m→e.fit→bR e=true→aM Tryz.prog 98 [cY e] (cY (cQ e))
 | 0,e,h,_,_=>absurd h (Nat.not_lt_zero _)
 | m+1, .mk op media frame num den param text args,hm,hfit,hv=>by
  simp only [ExprR.fit] at hfit;obtain ⟨f1,f2,f3,f4,f5,f6⟩:=hfit;unfold bR at hv;rw [Bool.and_eq_true,jA,List.all_eq_true] at hv;have hl:args.length≤2:=xW hv.1;have ih:∀ e∈args,aM Tryz.prog 98 [cY e] (cY (cQ e)):=fun e he=>aGx m e (by have:=Ew he op media frame num den param text;omega) (Su f6 e he) (hv.2 e he)
  rw [jQ]
  match args,hl,ih with
  | [],_,_ =>
   refine cR Tryz.X98 Tryz.func98 rfl Tryz.ntmps98 (by rw [Tryz.results98]) (aD _ ?_);simp only [go_sem,simprocAttr,Bool.and_true,List.map_nil,List.length_nil];refine kV Tryz.X173 Tryz.func173 rfl Tryz.ntmps173 (by rw [Tryz.results173]) (aD _ ?_);simp only [go_sem,simprocAttr,List.map_nil,List.length_nil];intro b;refine ⟨fun _=>?_,fun _=>?_⟩
   ·unfold awS;simp only [go_sem,simprocAttr,Bool.and_true,List.length_nil,cst0];refine dH ?_;refine aV (aD _ ?_);simp only [go_sem,simprocAttr,decide_false,Bool.and_true];refine ⟨_,sA (.cons (aL3 (by exact ⟨.inl rfl, .inl rfl, .inl rfl, .inl rfl, .inl rfl, .inl rfl, .inl rfl, .inr ⟨rfl,_,_,rfl⟩,trivial⟩)) .nil) (Kq op media frame num den param text [] (by decide)),?_⟩;simp only [go_sem,simprocAttr,Bool.and_true];exact aU rfl rfl
   ·unfold awS;simp only [go_sem,simprocAttr,Bool.and_true,List.map_nil,List.length_nil,cst0];refine ⟨by decide,?_⟩;refine dH ?_;refine aV (aD _ ?_);simp only [go_sem,simprocAttr,decide_false,Bool.and_true,Bool.and_false];refine jK ?_;simp only [go_sem,simprocAttr,Bool.and_true];refine ⟨_,Kq op media frame num den param text [] (by decide),?_⟩;simp only [go_sem,simprocAttr,Bool.and_true];exact aU rfl rfl
  | [a],_,ih =>
   have iha:=ih a (by simp);rcases hsa:cQ a with ⟨o2,m2,fr2,nu2,de2,pa2,te2,ar2⟩;have hsim:cQ (.mk op media frame num den param text [a]) = .mk op media frame num den param text [cQ a]:=Fr ..;rw [hsim,hsa];rw [hsa] at iha;obtain ⟨o1,m1,fr1,nu1,de1,pa1,te1,ar1⟩:=a;refine cR Tryz.X98 Tryz.func98 rfl Tryz.ntmps98 (by rw [Tryz.results98]) (aD _ ?_);simp only [go_sem,simprocAttr,Bool.and_true,List.map_nil,List.map_cons,List.length_cons,List.length_nil];refine kV Tryz.X173 Tryz.func173 rfl Tryz.ntmps173 (by rw [Tryz.results173]) (aD _ ?_);simp only [go_sem,simprocAttr,List.map_nil,List.map_cons,List.length_cons,List.length_nil,ExprR.c,jV];intro b hnb;refine ⟨fun hb=>absurd (hnb hb) (by simp),fun _=>?_⟩;unfold awS;simp only [go_sem,simprocAttr,Bool.and_true,List.map_nil,List.map_cons,List.length_cons,List.length_nil,ExprR.c,jV,cst1];refine ⟨by decide,?_⟩;refine dH ?_;refine aV (aD _ ?_);simp only [go_sem,simprocAttr,decide_true,cst1];refine ⟨by decide,?_⟩;simp only [go_sem,simprocAttr,Bool.and_true,nth_1a];refine aK 7 .done rfl (by kernel_rfl) (by kernel_rfl) (by decide) ?_;simp only [go_sem,simprocAttr,Bool.and_true];refine ⟨_,iha,?_⟩;simp only [go_sem,simprocAttr,Bool.and_true,cst1,cw1];refine ⟨by kernel_rfl,?_⟩;refine aV (aD _ ?_);simp only [go_sem,simprocAttr,decide_false,Bool.and_true,Bool.and_false];refine jK ?_;simp only [go_sem,simprocAttr,Bool.and_true,aL,nth,Option.getD_some,List.getElem?_cons_zero,List.map_cons,List.map_nil,List.set_cons_zero,List.set_cons_succ,List.drop_succ_cons,List.drop_zero];have hc:=Kq op media frame num den param text [.mk o2 m2 fr2 nu2 de2 pa2 te2 ar2] (by simp);simp only [vex,pF,List.map_cons,List.map_nil,ExprR.c,jV] at hc;refine ⟨_,hc,?_⟩;simp only [go_sem,simprocAttr,Bool.and_true];exact aU rfl rfl
  | [a,b],_,ih =>
   have iha:=ih a (by simp);have ihb:=ih b (by simp);rcases hsa:cQ a with ⟨o2,m2,fr2,nu2,de2,pa2,te2,ar2⟩;rcases hsb:cQ b with ⟨o4,m4,fr4,nu4,de4,pa4,te4,ar4⟩;rw [Fq,hsa,hsb];rw [hsa] at iha;rw [hsb] at ihb;obtain ⟨o1,m1,fr1,nu1,de1,pa1,te1,ar1⟩:=a;obtain ⟨o3,m3,fr3,nu3,de3,pa3,te3,ar3⟩:=b;refine cR Tryz.X98 Tryz.func98 rfl Tryz.ntmps98 (by rw [Tryz.results98]) (aD _ ?_);simp only [go_sem,simprocAttr,Bool.and_true,List.map_nil,List.map_cons,List.length_cons,List.length_nil];refine kV Tryz.X173 Tryz.func173 rfl Tryz.ntmps173 (by rw [Tryz.results173]) (aD _ ?_);simp only [go_sem,simprocAttr,List.map_nil,List.map_cons,List.length_cons,List.length_nil,ExprR.c,jV];intro b hnb;refine ⟨fun hb=>absurd (hnb hb) (by simp),fun _=>?_⟩;unfold awS;simp only [go_sem,simprocAttr,Bool.and_true,List.map_nil,List.map_cons,List.length_cons,List.length_nil,ExprR.c,jV,aVt];refine ⟨by decide,?_⟩;refine dH ?_;refine aV (aD _ ?_);simp only [go_sem,simprocAttr,decide_true,aVt];refine ⟨by decide,?_⟩;simp only [go_sem,simprocAttr,Bool.and_true,aMb];refine aK 7 .done rfl (by kernel_rfl) (by kernel_rfl) (by decide) ?_;simp only [go_sem,simprocAttr,Bool.and_true];refine ⟨_,iha,?_⟩;simp only [go_sem,simprocAttr,Bool.and_true,aVt,cw1];refine ⟨by kernel_rfl,?_⟩;refine aV (aD _ ?_);simp only [go_sem,simprocAttr,decide_true,Bool.and_true,aVt,aL,qD,nth,Option.getD_some,List.getElem?_cons_zero,List.getElem?_cons_succ,List.map_cons,List.map_nil,List.set_cons_zero,List.set_cons_succ,List.drop_succ_cons,List.drop_zero];refine aK 7 .done rfl (by kernel_rfl) (by kernel_rfl) (by decide) ?_;simp only [go_sem,simprocAttr,Bool.and_true];refine ⟨_,ihb,?_⟩;simp only [go_sem,simprocAttr,Bool.and_true,aVt,cw2];refine ⟨by kernel_rfl,?_⟩;refine aV (aD _ ?_);simp only [go_sem,simprocAttr,decide_false,Bool.and_true,Bool.and_false];refine jK ?_;simp only [go_sem,simprocAttr,Bool.and_true,qD,Option.getD_some,List.getElem?_cons_zero,List.getElem?_cons_succ,List.map_cons,List.map_nil,List.set_cons_zero,List.set_cons_succ,List.drop_succ_cons,List.drop_zero];have hc:=tD op media frame num den param text (.mk o2 m2 fr2 nu2 de2 pa2 te2 ar2) (.mk o4 m4 fr4 nu4 de4 pa4 te4 ar4);simp only [vex,pF,List.map_cons,List.map_nil,ExprR.c,jV] at hc;rcases hred:uG op media frame num den param text [.mk o2 m2 fr2 nu2 de2 pa2 te2 ar2, .mk o4 m4 fr4 nu4 de4 pa4 te4 ar4] with ⟨o5,m5,fr5,nu5,de5,pa5,te5,ar5⟩;rw [hred] at hc;refine ⟨_,hc,?_⟩;simp only [go_sem,simprocAttr,Bool.and_true];exact aU rfl rfl
  | _::_::_::_,h,_=>simp at h
open Go.RowKit
set_option maxRecDepth 4000
theorem Xr:aHn Tryz.prog 96:=by
 refine ⟨Tryz.X96,fun cap w=>callsDIn_of_wpSIn Tryz.func96 rfl trivial fun c₀ cs hu=>?_⟩;have k1 : 1<cap.size+(4 - cap.size):=by omega
 have k2 : 2<cap.size+(4 - cap.size):=by omega
 have k3 : 1<max 4 cap.size:=by omega
 have k4 : 2<max 4 cap.size:=by omega
 apply wpSIn_seq;apply wpSIn_region;simp [wpOpsSIn,Fence.wide,go_sem,recoverD,hu,Tryz.ntmps96,Exit.thenS,k1,k2,k3,k4];refine wpSIn_cond (t:=false) (by simp [Act.eval,k2,k4]) ?_;refine wpSIn_of_wpIn rfl (wpIn_skip ?_);refine ⟨rfl, .returning,by rw [← hu], .tuple #[],?_,⟨_,rfl⟩,rfl,rfl⟩;simp [results,Tryz.results96,go_sem]
def aDf (e:ExprR):ExprR:=if bR e=true then cQ e else zeroE
theorem cSimple (e:ExprR) (h:e.fit):aM Tryz.prog 35 [cY e] (cY (aDf e)):=by
 have hV:=cValidE e h;have hS:=fun hv=>aGx _ e (Nat.lt_succ_self _) h hv
 unfold aDf;obtain ⟨op,media,frame,num,den,param,text,args⟩:=e;rw [jQ];refine cR Tryz.X35 Tryz.func35 rfl Tryz.ntmps35 (by rw [Tryz.results35]) (aD _ ?_);simp only [go_sem,simprocAttr];refine ⟨_,hV,?_⟩;simp only [go_sem,simprocAttr];refine ⟨fun h1=>?_,fun h1=>?_⟩
 ·unfold awS;simp only [go_sem,simprocAttr];rw [if_neg (by rw [nt h1];exact Bool.false_ne_true)];exact ⟨Xr,kT⟩
 ·rw [if_pos (nf h1)];have hc:=hS (nf h1);rcases hs:cQ (.mk op media frame num den param text args) with ⟨o2,m2,fr2,nu2,de2,pa2,te2,ar2⟩;rw [hs] at hc;unfold awS;simp only [go_sem,simprocAttr];refine ⟨_,hc,?_⟩;simp only [go_sem,simprocAttr];exact ⟨Xr,aU rfl rfl⟩
end Go.Proofs.YtbfnemkngoaeeaaGreat
