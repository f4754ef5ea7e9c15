/- Proved here: Regions that draw their order: calls that yield one block of one's own; conditions stand in each theorem. -/
import Derived.Test.YtbfnemkngoaeeaaGreatQ06
import Derived.Test.YtbfnemkngoaeeaaGreatQ37
import Derived.Test.YtbfnemkngoaeeaaGreatQ16
set_option linter.unusedSimpArgs false
set_option linter.unusedVariables false
set_option linter.unusedSectionVars false
set_option linter.unnecessarySimpa false
namespace Go.Proofs.YtbfnemkngoaeeaaGreat
open Go.RowKit
set_option maxRecDepth 4000
def FCall (P:Program) (m:Nat) (σ : St) (d:Option Tmp) (f:FuncId) (xs:List V) (K:St→Prop):Prop :=
 ∃ r nb,V.pures xs=true∧CIO P f 0 [] xs r [(0,nb)] 1∧K (({ σ with h:=(m,nb.ren (fun _=>m)) :: σ.h }:St).put d (r.ren (fun _=>m)))
def noGd (g:Option (Nat×Bool)):Prop :=
 match g with
 | none=>True
 | some _=>False
def fsC (P:Program) (m:Nat) (σ : St) (o:Oper) (K:St→Prop):Prop :=
 noGd o.guard∧match o.op with
 | .call { callee := .value (.func f),args, .. }=>dC true (args.toList.map σ.ev) fun xs=>FCall P m σ o.dst f xs K
 | _=>False
def aD3 (P:Program) (l:List Oper) (n0 i:Nat) (σ : St) (o:Oper) (b c:Bool) (K:CK→St→Prop):Prop :=
 match b,c with
 | true,_=>bsC P l σ o (K .new)
 | false,true=>fsC P (n0+i) σ o (K .new)
 | false,false=>wG P l n0 i σ o.dst o.op o.guard (ckind P o.op o.guard) (K (ckind P o.op o.guard))
def aEq (P:Program) (pu fs:List Nat) (l:List Oper) (n0:Nat) (fin:St→Prop):Nat→List Oper→Log→St→Prop
 | _,[],L, σ => Fq l n0 L=true∧fin σ
 | i,o::os,L, σ => aD3 P l n0 i σ o (pu.contains i) (fs.contains i) (fun k=>aEq P pu fs l n0 fin (i+1) os (fJ i σ k (mZ o.op) L))
section
variable {P:Program} {pu fs:List Nat} {l:List Oper} {n0 i:Nat} {fin:St→Prop} {L:Log} {σ : St}
@[go_sem] theorem cRunF_nil:aEq P pu fs l n0 fin i [] L σ = (Fq l n0 L=true∧fin σ):=rfl
@[go_sem] theorem cRunF_cons {o:Oper} {os:List Oper}:aEq P pu fs l n0 fin i (o::os) L σ = aD3 P l n0 i σ o (pu.contains i) (fs.contains i) (fun k=>aEq P pu fs l n0 fin (i+1) os (fJ i σ k (mZ o.op) L)):=rfl
@[go_sem] theorem stepF_ft {o:Oper} {K:CK→St→Prop}:aD3 P l n0 i σ o false true K=fsC P (n0+i) σ o (K .new):=rfl
@[go_sem] theorem stepF_false {o:Oper} {K:CK→St→Prop}:aD3 P l n0 i σ o false false K=wG P l n0 i σ o.dst o.op o.guard (ckind P o.op o.guard) (K (ckind P o.op o.guard)):=rfl
end
attribute [go_sem] fsC noGd
abbrev vstep (r:StateR×List OutR×Int):V := .tup [vstate r.1, .t (touts r.2.1),aC r.2.2]
@[go_sem] abbrev RowO (l:List OutR):Blk := .row 140 2 (OutR.c default) (aK (l.map OutR.c))
open Go.RowKit
set_option maxRecDepth 4000
@[go_sem] abbrev Row23 (l:List Int):Blk := .row 40 1 (Be 0) (aK (l.map Be))
@[go_sem] abbrev GoodF (acc:StateR×List OutR×List Int) (k:Nat) (s:StateR) (σ : St):St :=
 {fr:=(((σ.fr.take 15++List.replicate (σ.fr.length - 15) V.dead).set 7 (.own 4)).set 8 (.own 3)).set 11 (aC k),
  h:=[(4, .row 140 2 (OutR.c default) (aK (acc.2.1.map OutR.c))),(3,Row23 acc.2.2),(2, .box [.t (Cd acc.1.files), .t (Cc acc.1.links)]),(1, .box [.t (Cd []), .t (Cc [])]),(0, .box [.t (Cd s.files), .t (Cc s.links)])],nx:=5 }
open Go.RowKit
set_option maxRecDepth 4000
def bF0:ByteArray:=⟨#[102,48]⟩
def bF1:ByteArray:=⟨#[102,49]⟩
def bF2:ByteArray:=⟨#[102,50]⟩
def bM0:ByteArray:=⟨#[109,48]⟩
def bM1:ByteArray:=⟨#[109,49]⟩
def bM2:ByteArray:=⟨#[109,50]⟩
def Mj:ByteArray:=⟨#[115,112,97,114,101]⟩
def zR:ByteArray:=⟨#[]⟩
def pickI (l:List Int) (n:Int):Int:=l.getD n.toNat 0
def aKm (l:List ByteArray) (n:Int):ByteArray:=l.getD n.toNat zR
def ev1 (L:List Int) (k:Nat):EventR×Nat :=
 let kind:=pickI [1,1,1,2,3,3,3,4,5] (aB L k 9)
 let f:=aKm [bF0,bF1,bF2] (aB L (k+1) 3)
 let m:=aKm [bM0,bM1,bM2,Mj] (aB L (k+2) 4)
 let p:=aKm [zR,Mj,bM1,Mj] (aB L (k+3) 4)
 if kind=1 then (⟨1,zR,f,zR,1+aB L (k+4) 2⟩,k+5)
 else if kind=2 then (⟨2,zR,f,zR,0⟩,k+4)
 else if kind=5 then (⟨5,m,zR,p,0⟩,k+4)
 else (⟨kind,m,f,zR,0⟩,k+4)
def evGo (L:List Int):Nat→Nat→List EventR×Nat
 | 0,k=>([],k)
 | c+1,k=>((ev1 L k).1::(evGo L c (ev1 L k).2).1,(evGo L c (ev1 L k).2).2)
def evsL (L:List Int) (k:Nat) (n:Int):List EventR×Nat:=evGo L (aB L k (n+1)).toNat (k+1)
abbrev StE (L:List Int) (c:Nat) (es:List EventR) (k:Nat) (σ : St):St :=
 {fr:=(σ.fr.set 5 (.own 1)).set 6 (aC c),h:=[(1, .row 69 5 (EventR.c default) (aK (es.map EventR.c))),(0, .box [.t (bN L),aC k])],nx:=2 }
end Go.Proofs.YtbfnemkngoaeeaaGreat
