/- Proved here: Tracks above each other, in plain Lean, and the calls of the statement about them; conditions stand in each theorem. -/
import Derived.Test.YtbfnemkngoaeeaaGreatQ50
import Derived.Test.YtbfnemkngoaeeaaGreatQ06
import Derived.Test.YtbfnemkngoaeeaaGreatQ49
import Derived.Test.YtbfnemkngoaeeaaGreatQ20
import Derived.Test.YtbfnemkngoaeeaaGreatQ10
import Derived.Test.YtbfnemkngoaeeaaGreatQ15
import Derived.Test.YtbfnemkngoaeeaaGreatQ09
import Derived.Test.YtbfnemkngoaeeaaGreatQ14
import Derived.Test.YtbfnemkngoaeeaaGreatQ46
set_option linter.unusedSimpArgs false
set_option linter.unusedVariables false
set_option linter.unusedSectionVars false
set_option linter.unnecessarySimpa false
namespace Go.Proofs.YtbfnemkngoaeeaaGreat
open Go.RowKit
set_option maxRecDepth 4000
def trkL (p:ProjR) (ts:List (List ClipR)) (n:Nat):List ExprR:=(List.range n).map fun k:Nat=>trkE p ts k
def seenB (u:List ClipR) (i:Int):Bool:=(gY u 0 i).2.2&&((u.getD (gY u 0 i).1.toNat default).kind != 0)
theorem aFy (u:List ClipR):∀ (l:List ClipR) (i:Nat) (n:Int),(gY l i n).2.2=true → ∃ j:Nat,j<l.length∧(gY l i n).1=((i+j:Nat):Int)
 | [],i,n,h=>by cases h
 | c::l,i,n,h=>by
  rw [rE] at h ⊢
  by_cases hc:n<c.len
  ·rw [if_pos hc];exact ⟨0,by simp,rfl⟩
  ·rw [if_neg hc] at h ⊢;obtain ⟨j,h1,h2⟩:=aFy u l (i+1) (n - c.len) h;exact ⟨j+1,by simpa using h1,by rw [h2];congr 1;omega⟩
open Go.RowKit
set_option maxRecDepth 4000
def frE (p:ProjR) (x:ClipR):ExprR:=if x.kind=0 then zeroE else kJ dM (kH p (fJ dM p 4)) x 0
def frsE (p:ProjR) (l:List ClipR) (i:Int):ExprR:=if i<0 then zeroE else match l[i.toNat]? with
 | some x=>frE p x
 | none=>zeroE
open Go.RowKit
set_option maxRecDepth 4000
structure CliP (p:ProjR) (c:ClipR):Prop where
 sil:pJ c=true
 a:SrcP p c.a
 b:SrcP p c.b
open Go.RowKit
set_option maxRecDepth 4000
open Go.RowKit
set_option maxRecDepth 4000
def aXb (G:List ClipR):Prop := ∀ x∈G,x.kind=0
theorem aVq {c:ClipR} (h:c.kind=0):aXb (frC c):=fun x hx=>by
 unfold frC at hx;obtain ⟨k,_,rfl⟩:=List.mem_map.1 hx;exact h
theorem aW0 (o:List ClipR):∃ G,aXb G∧fr o=fr (kX o)++G:=by
 cases hg:nG o with
 | false=>exact ⟨[],fun x hx=>(by cases hx),by rw [aVz hg,List.append_nil]⟩
 | true =>
  have e:kX o=o.take (o.length - 1):=by unfold kX;rw [if_pos hg]
  rw [e];rcases List.eq_nil_or_concat o with rfl | ⟨i,c,rfl⟩
  ·exact ⟨[],fun x hx=>(by cases hx),rfl⟩
  ·rw [List.concat_eq_append] at *;rw [xV] at hg;have e2:(i ++ [c]).take ((i ++ [c]).length - 1)=i:=by simp
   rw [e2,Yr];refine ⟨fr [c],?_,rfl⟩;show aXb (frC c ++ [])
   rw [List.append_nil];exact aVq (by simpa using hg)
theorem aMc {t:List ClipR} (hv:bC t=true) (hfit:∀ c∈t,c.fit):∃ G,aXb G∧fr t=fr (jU t)++G:=by
 obtain ⟨h1,h2,h3⟩:=jX hv;have e:pN t=pk t:=by
  unfold pN;rw [if_pos hv];exact aEh hv hfit
 obtain ⟨G,hG,hGe⟩:=aW0 (pk t);refine ⟨G,hG,?_⟩;rw [fr_pk h2 h3] at hGe;unfold jU;rw [e];exact hGe
def frsL (p:ProjR) (F:List ClipR) (n:Nat):List ExprR:=(List.range n).map fun k:Nat=>frsE p F k
def dens3:List Int:=[4,5,7]
def texts2:List ByteArray:=[⟨#[65]⟩,⟨#[69,78,68,32,50]⟩]
def aMw (L:List Int) (k d:Nat):Int×Nat :=
 if (decide ((d:Int)<1)&&decide (aA L k 8 > 3))=true then (1+aA L (k+1) 3,k+2) else (aA L k 8,k+1)
def srcE (L:List Int) (k:Nat):ExprR×Nat:=(.mk 1 (cX ⟨#[109]⟩ (aA L k 3)) (aA L (k+1) 8) 0 0 0 ⟨#[]⟩ [],k+2)
def aJv (n:Int):Int:=if (n==2)=true then 3 else n
def mixE (rec:Nat→ExprR×Nat) (L:List Int) (op num den param:Int) (k:Nat):ExprR×Nat :=
 if 0<aA L (rec k).2 4 then (.mk op ⟨#[]⟩ 0 num den param ⟨#[]⟩ [(rec k).1,(rec ((rec k).2+1)).1],(rec ((rec k).2+1)).2)
 else (.mk op ⟨#[]⟩ 0 num den param ⟨#[]⟩ [(rec k).1,(rec k).1],(rec k).2+1)
def aG3 (rec:Nat→ExprR×Nat) (L:List Int) (q:Int) (k:Nat):ExprR×Nat :=
 if q=0 then (zeroE,k)
 else if q=4 then mixE rec L 2 (aJv (1+aA L k 3)) (dens3.getD (aA L (k+1) 3).toNat 0) 0 (k+2)
 else if q=5 then mixE rec L 3 (aJv (1+aA L k 3)) (dens3.getD (aA L (k+1) 3).toNat 0) (aA L (k+2) 4) (k+3)
 else if q=6 then (.mk 4 ⟨#[]⟩ 0 0 0 (aA L k 256) ⟨#[]⟩ [(rec (k+1)).1,(rec (rec (k+1)).2).1],(rec (rec (k+1)).2).2)
 else if q=7 then (.mk 5 ⟨#[]⟩ 0 0 0 0 (texts2.getD (aA L k 2).toNat ⟨#[]⟩) [(rec (k+1)).1],(rec (k+1)).2)
 else srcE L k
def exprAt (L:List Int):Nat→Nat→ExprR×Nat
 | 0,k=>aG3 (fun k=>(zeroE,k)) L (aMw L k 0).1 (aMw L k 0).2
 | d+1,k=>aG3 (exprAt L d) L (aMw L k (d+1)).1 (aMw L k (d+1)).2
def vexZ (op:Int) (media:ByteArray) (frame num den param:Int) (text:ByteArray) (args:List ExprR):V :=
 match args with
 | [] => .agg [aC op,bM media,aC frame,aC num,aC den,aC param,bM text, .t (.lit (.slice none 0 0))]
 | a::l=>vex op media frame num den param text (a::l)
def vexprZ:ExprR→V
 | .mk op media frame num den param text args=>vexZ op media frame num den param text args
open Go.RowKit
set_option maxRecDepth 4000
def bndE:Nat→Nat
 | 0=>6
 | d+1=>26+2*bndE d
open Go.ChangeShapes Go.WideShapes
def OpensAt {α : Type} (P:Program) (t:TypeId) (c : α → List T) (n:Nat):Prop :=
 ∀ (H:Type) (enc:TypeId×Value→H) (w:World) (spare:Nat→Bool) (held:Bool) (cs:List Value) (x:DataW H×List MemPlace),DataW.trod enc P w 0 spare held n t cs=some x → ∃ a,RdTs w (aC8 w) (c a) cs
section
variable {P:Program} {t:TypeId} {α β : Type}
theorem OpensAt.map {n:Nat} {c : α → List T} {c' : β → List T} (g : α → β) (h:∀ a,c' (g a)=c a) (ho:OpensAt P t c n):OpensAt P t c' n:=by
 intro H enc w spare held cs x hx;obtain ⟨a,ha⟩:=ho H enc w spare held cs x hx;exact ⟨g a,by rw [h];exact ha⟩
def OpensFAt (P:Program) (fs:List Field) (c : α → List T) (n:Nat):Prop :=
 ∀ (H:Type) (enc:TypeId×Value→H) (w:World) (spare:Nat→Bool) (held:Bool) (cs:List Value),(∀ f∈fs, ∃ x,DataW.trod enc P w 0 spare held n f.type ((cs.drop f.offset).take (P.cellsOf f.type))=some x) →
  ∀ o e,aUr P fs o=some e → ∃ a,RdTs w (aC8 w) (c a) ((cs.drop o).take (e - o))
end
abbrev ExprF := { e:ExprR // e.fit }
theorem aFv:∀ {l:List ExprR},(∀ e∈l,e.fit)→ExprR.fits l
 | [],_=>by simp only [ExprR.fits]
 | x::l,h=>by
  simp only [ExprR.fits];exact ⟨h x (by simp),aFv fun e he=>h e (by simp [he])⟩
def mkExprF (op:I64s) (media:ByteArray) (frame num den param:I64s) (text:ByteArray) (args:List ExprF):ExprF :=
 ⟨.mk op.1 media frame.1 num.1 den.1 param.1 text (args.map (·.1)),by
  simp only [ExprR.fit];exact ⟨op.2,frame.2,num.2,den.2,param.2,aFv fun e he=>by obtain ⟨x,_,rfl⟩:=List.mem_map.1 he;exact x.2⟩⟩
abbrev ExprsF := { l:List ExprR // ∀ e∈l,e.fit }
mutual
theorem aDg:∀ e:ExprR,e.fit→(cQ e).fit
 | .mk op media frame num den param text args,h=>by
  simp only [ExprR.fit] at h;have hs:=Ws args h.2.2.2.2.2;unfold cQ;generalize uP args=as' at hs;have key:(ExprR.mk op media frame num den param text as').fit:=by
   simp only [ExprR.fit];exact ⟨h.1,h.2.1,h.2.2.1,h.2.2.2.1,h.2.2.2.2.1,hs⟩
  unfold uG;split
  ·simp only [ExprR.fits] at hs;split
   ·exact hs.1
   ·split
    ·split
     ·exact hs.2.1
     ·exact aNx
    ·exact key
  ·exact key
theorem Ws:∀ l:List ExprR,ExprR.fits l→ExprR.fits (uP l)
 | [],_=>by simp only [uP,ExprR.fits]
 | e::es,h=>by
  simp only [ExprR.fits] at h;simp only [uP,ExprR.fits];exact ⟨aDg e h.1,Ws es h.2⟩
end
end Go.Proofs.YtbfnemkngoaeeaaGreat
