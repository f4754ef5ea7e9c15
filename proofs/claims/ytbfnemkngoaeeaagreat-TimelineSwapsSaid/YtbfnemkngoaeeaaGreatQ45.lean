/- Proved here: What an event does to a state of media, in the program; conditions stand in each theorem. -/
import Derived.Test.YtbfnemkngoaeeaaGreatQ37
import Derived.Test.YtbfnemkngoaeeaaGreatQ36
import Derived.Test.YtbfnemkngoaeeaaGreatQ27
import Derived.Test.YtbfnemkngoaeeaaGreatQ39
import Derived.Test.YtbfnemkngoaeeaaGreatQ38
import Derived.Test.YtbfnemkngoaeeaaGreatQ41
import Derived.Test.YtbfnemkngoaeeaaGreatQ06
import Derived.Test.YtbfnemkngoaeeaaGreatQ40
set_option linter.unusedSimpArgs false
set_option linter.unusedVariables false
set_option linter.unusedSectionVars false
set_option linter.unnecessarySimpa false
namespace Go.Proofs.YtbfnemkngoaeeaaGreat
open Go.RowKit
set_option maxRecDepth 4000
abbrev stHs (s:StateR):Heap:=stH s
open Go.RowKit
set_option maxRecDepth 4000
open Go.RowKit
set_option maxRecDepth 4000
@[go_sem] abbrev ErrF (acc:StateR×List OutR×List Int) (d:Nat) (k:Nat) (σ : St):St :=
 (fun τ : St => { τ with h:=(11,RowO acc.2.1)::(((τ.h.del 8).del 5).set 2 (Row23 (acc.2.2++List.replicate d 0))).set 0 (.box [.t (Cd acc.1.files), .t (Cc acc.1.links)]),nx:=12 }) (bL 9 (.own 11) (bL 41 (aC k) (aX [10,11,12,13,14,42,43,44,45,46,47,48,49,50,51,52,53,54,55,56,57,58,59,60,61,62,63] (bF σ))))
def yX (a b:MediumR):MediumR := { b with seq:=a.seq,frames:=a.frames,channels:=a.channels,samples:=a.samples }
def aGd (M:List MediumR):List MediumR:=if 1<M.length then M.set 1 (yX (M.getD 0 default) (M.getD 1 default)) else M
def proj36 (L:List Int):ProjR:=⟨aGd (dY L).media ++ [{ (dY L).media.getD 0 default with name:=Hm }],(dY L).seqs⟩
theorem aL1 {α : Type} [Inhabited α] {c : α → List T} {l:List α} {k:Nat} (h:k<l.length) (d:List T):nth d (l.map c) k=c (l.getD k default):=by
 unfold nth;rw [List.getElem?_map,List.getD_eq_getElem?_getD,List.getElem?_eq_getElem h];rfl
theorem as_dW {k:Nat} {d d':List T} {xs:List (List T)}:∀ (w:World) (E:Env) v,RdV w E (.t (.list k d xs)) v→RdV w E (.t (.list k d' xs)) v:=by
 intro w E v h;simp only [RdV] at h ⊢;cases h with
 | list _ _ _ A c hm hc hn hk hb hr=>exact .list k d' xs A c hm hc hn hk hb hr
def vsq (m:MediumR):List V:=m.seq.c.map V.t
theorem vmed_s (m:MediumR):List.take 135 (List.drop 2 (dA m))=vsq m:=(Eq.refl _).trans rfl
theorem vsq_len (m:MediumR):(vsq m).length=135:=(Eq.refl _).trans rfl
theorem vput_s (b a:MediumR):List.take 2 (dA b)++vsq a++List.drop 137 (dA b)=dA { b with seq:=a.seq }:=(Eq.refl _).trans rfl
theorem aJ1 (b:MediumR) (x:Int):List.take 137 (dA b) ++ [V.t (.lit (.int .i64 x))]++List.drop 138 (dA b)=dA { b with frames:=x }:=(Eq.refl _).trans rfl
theorem aJ0 (b:MediumR) (x:Int):List.take 138 (dA b) ++ [V.t (.lit (.int .i64 x))]++List.drop 139 (dA b)=dA { b with channels:=x }:=(Eq.refl _).trans rfl
theorem aHz (b:MediumR) (x:Int):List.take 139 (dA b) ++ [V.t (.lit (.int .i64 x))]++List.drop 140 (dA b)=dA { b with samples:=x }:=(Eq.refl _).trans rfl
theorem aHy (m:MediumR):(vsq m).all V.isCell=true:=by
 rw [List.all_eq_true];intro x hx;unfold vsq at hx;obtain ⟨t,_,rfl⟩:=List.mem_map.1 hx;rfl
theorem aJs (a b:MediumR):dA { b with seq:=a.seq,frames:=a.frames,channels:=a.channels,samples:=a.samples }=(MediumR.c (yX a b)).map V.t:=by
 unfold yX dA;rfl
open Go.RowKit
set_option maxRecDepth 4000
def nF:ByteArray:=⟨#[102]⟩
def nA:ByteArray:=⟨#[97]⟩
def e0:ByteArray:=⟨#[]⟩
def aEs:List EventR:=[⟨1,e0,nF,e0,7⟩,⟨3,nA,nF,e0,0⟩,⟨2,e0,nF,e0,0⟩,⟨1,e0,nF,e0,7⟩]
def aSt:StateR:=⟨[⟨nF,7,true⟩],[⟨nA,nF,7,e0⟩]⟩
open Go.RowKit
set_option maxRecDepth 4000
def LinkG (l:LinkR):Prop:=(l.file=bF0∨l.file=bF1∨l.file=bF2)∧(l.proxy=zR∨l.proxy=Mj∨l.proxy=bM1)
def EvG (e:EventR):Prop:=(e.kind≠5→(e.file=bF0∨e.file=bF1∨e.file=bF2))∧(e.kind≤5)∧(e.proxy=zR∨e.proxy=Mj∨e.proxy=bM1)
def madeS (L:List Int):StateR:=(aD9 ⟨[],[]⟩ (evsL L 0 14).1).1
def Tj:ByteArray:=⟨#[111,116,104,101,114]⟩
def aNw:ByteArray:=⟨#[97,108,105,101,110]⟩
def oEs (sum:Int):List EventR:=[⟨1,zR,Tj,zR,sum⟩,⟨3,aNw,Tj,zR,0⟩,⟨2,zR,Tj,zR,0⟩]
structure SameBut (s t:StateR):Prop where
 ok:Ok t
 lk:∀ n,n≠aNw→Qp t.links n=Qp s.links n
 fl:∀ n,n≠Tj→aLz t.files n=aLz s.files n
def s0N:ByteArray:=⟨#[115,48]⟩
end Go.Proofs.YtbfnemkngoaeeaaGreat
