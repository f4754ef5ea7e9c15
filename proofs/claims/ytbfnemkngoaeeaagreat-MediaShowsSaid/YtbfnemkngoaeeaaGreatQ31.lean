/- Proved here: Arguments whose nil slices, at any depth, are read as empty lists; conditions stand in each theorem. -/
import Derived.Test.YtbfnemkngoaeeaaGreatQ10
import Derived.Test.YtbfnemkngoaeeaaGreatQ13
import Derived.Test.YtbfnemkngoaeeaaGreatQ14
set_option linter.unusedSimpArgs false
set_option linter.unusedVariables false
set_option linter.unusedSectionVars false
set_option linter.unnecessarySimpa false
namespace Go.Proofs.YtbfnemkngoaeeaaGreat
open Go.RowKit
set_option maxRecDepth 4000
def Imp (x y:T):Prop := ∀ (w:World) (S:Nat→Prop) (v:Value),RdT w S x v→RdT w S y v
theorem imp_nil {k:Nat} {d:List T}:Imp (.lit (.slice none 0 0)) (.list k d []):=by
 intro w S v h;cases h;exact .list _ _ _ none 0 (Nat.zero_le _) (Nat.zero_le _) (fun _=>rfl) (by simp) (by simp) (by simp)
def ImpL:List T→List T→Prop
 | [],[]=>True
 | x::xs,y::ys=>Imp x y∧ImpL xs ys
 | _,_=>False
def ImpR:List (List T)→List (List T)→Prop
 | [],[]=>True
 | x::xs,y::ys=>ImpL x y∧ImpR xs ys
 | _,_=>False
theorem as_imp {x y:T} (h:Imp x y):∀ (w:World) (E:Env) v,RdV w E (.t x) v→RdV w E (.t y) v:=by
 intro w E v hv;simp only [RdV] at hv ⊢;exact h _ _ _ hv
def ImpV:List V→List V→Prop
 | [],[]=>True
 | x::xs,y::ys=>(∀ (w:World) (E:Env) v,RdV w E x v→RdV w E y v)∧ImpV xs ys
 | _,_=>False
theorem aBr {w:World} {E:Env}:∀ {xs ys:List V} {vs:List Value},ImpV xs ys→RdVs w E xs vs→RdVs w E ys vs
 | [],[],_,_,h=>h
 | x::xs,y::ys,[],_,h=>by simp only [RdVs] at h
 | x::xs,y::ys,v::vs,hn,h=>by
  simp only [RdVs] at h ⊢;exact ⟨hn.1 _ _ _ h.1,aBr hn.2 h.2⟩
 | [],_::_,_,hn,_=>hn.elim
 | _::_,[],_,hn,_=>hn.elim
theorem jZ {xs ys:List V} (ha:ImpV xs ys):∀ (w:World) (E:Env) v,RdV w E (.agg xs) v→RdV w E (.agg ys) v:=by
 intro w E v h;simp only [RdV] at h ⊢;obtain ⟨vs,rfl,q1,q2⟩:=h;exact ⟨vs,rfl,aBr ha q1,q2⟩
open Go.RowKit
set_option maxRecDepth 4000
theorem rR {r r' x:V} {h:Heap} (e:x.lend h=r') (hp:r'.pure=true) (ha:∀ (w:World) (E:Env) v,RdV w E r' v→RdV w E r v):vW r x h :=
 ⟨by rw [e];exact hp,fun w E v hv=>by rw [e] at hv;exact ha _ _ _ hv⟩
theorem tF {xs ys:List V} (ha:ImpV xs ys):∀ (w:World) (E:Env) v,RdV w E (.tup xs) v→RdV w E (.tup ys) v:=by
 intro w E v h;simp only [RdV] at h ⊢;obtain ⟨vs,rfl,q1⟩:=h;exact ⟨vs,rfl,aBr ha q1⟩
theorem eN {k:Nat} {d:List T}:∀ (w:World) (E:Env) v,RdV w E (.t (.lit (.slice none 0 0))) v→RdV w E (.t (.list k d [])) v:=as_imp imp_nil
def aNy:SequenceR:=⟨⟨#[]⟩,⟨0,0⟩,0,0,[],[],[],0⟩
def yL (l:List SequenceR) (n:ByteArray):Option SequenceR:=l.find? fun s=>s.name.toList==n.toList
def Yu (p:ProjR) (n:ByteArray):SequenceR×Int :=
 if (bT p != 0)=true then (aNy,bT p) else
 match yL p.seqs n with
 | some s=>(s,0)
 | none=>(aNy,7)
abbrev vse (r:SequenceR×Int):V := .tup [nP r.1,aC r.2]
abbrev zSeqV:List V:=[bM ⟨#[]⟩,aC 0,aC 0,aC 0,aC 0, .t (.lit (.slice none 0 0)), .t (.lit (.slice none 0 0)), .t (.lit (.slice none 0 0)),aC 0]
theorem Qg (k:Int) {h:Heap}:vW (vse (aNy,k)) (.tup [.agg zSeqV,aC k]) h:=by
 refine rR (r' := .tup [.agg zSeqV,aC k]) rfl rfl (tF ⟨jZ (by exact ⟨cC,cC,cC,cC,cC,eN,eN,eN,cC,trivial⟩),cC,trivial⟩)
theorem aR2 {l:List SequenceR} {n:ByteArray} {k:Nat} (h:k<l.length) (hn:∀ i,i<k→((l.getD i default).name.toList==n.toList)=false) (hk:((l.getD k default).name.toList==n.toList)=true):yL l n=some (l.getD k default):=by
 unfold yL;rw [List.find?_eq_some_iff_getElem];refine ⟨hk,k,h,by rw [aJ h],fun j hj=>?_⟩;have:=hn j hj;rw [aJ (by omega)] at this;simpa using this
theorem aKf {l:List SequenceR} {n:ByteArray} (hn:∀ i,i<l.length→((l.getD i default).name.toList==n.toList)=false):yL l n=none:=by
 unfold yL;rw [List.find?_eq_none];intro s hs;obtain ⟨i,hi,rfl⟩:=List.mem_iff_getElem.1 hs;have:=hn i hi;rw [aJ hi] at this;simpa using this
theorem uM {p:ProjR} (h:bT p=0):p.media.length≤16∧p.seqs.length≤16 ∧ ∀ s∈p.seqs,dQ s=true:=by
 unfold bT at h;split at h
 ·cases h
 ·rename_i h1;rw [Bool.not_eq_false] at h1;unfold dC at h1;simp only [Bool.and_eq_true,decide_eq_true_eq,List.all_eq_true] at h1;refine ⟨by omega,by omega,fun s hs=>h1.2 s hs⟩
theorem aWm (p:ProjR) (n:ByteArray) (h:p.fit):aM Tryz.prog 92 [rN p,bM n] (vse (Yu p n)):=by
 refine cR Tryz.X92 Tryz.func92 rfl Tryz.ntmps92 (by rw [Tryz.results92]) (aD _ ?_);simp only [go_sem,simprocAttr];refine ⟨_,aKv p h,?_⟩;simp only [go_sem,simprocAttr];refine ⟨fun h1=>?_,fun h1=>?_⟩
 ·unfold awS;simp only [go_sem,simprocAttr];unfold Yu;rw [if_pos h1];exact Qg _
 ·have hR:Yu p n=(match yL p.seqs n with
   | some s=>(s,0)
   | none=>(aNy,7)):=by unfold Yu;rw [if_neg (by rw [h1];exact Bool.false_ne_true)]
  rw [hR];have hz:bT p=0:=by simpa using h1
  have h16:=(uM hz).2.1;unfold awS;simp only [go_sem,simprocAttr];refine aF (fun (k:Nat) σ => cJ 18 (aC k) (bN [8,19,20,21,22,23,24,25,26,27,28] (bK σ))) (fun k=>k≤p.seqs.length ∧ ∀ i,i<k→((p.seqs.getD i default).name.toList==n.toList)=false) (fun k=>p.seqs.length - k) 0 (aB ?_) ⟨Nat.zero_le _,by omega⟩ ?_
  ·simp only [go_sem,simprocAttr]<;>simp
  ·rintro k ⟨hk,hi⟩;refine aD _ ?_;simp only [go_sem,simprocAttr];refine ⟨fun hlt=>?_,fun hge=>?_⟩
   ·simp only [bxx] at hlt;have hkl:k<p.seqs.length:=by omega
    unfold awS;simp only [go_sem,simprocAttr];refine ⟨⟨by omega,by omega⟩,fun h2=>?_,fun h2=>?_⟩
    ·unfold awS;simp only [go_sem,simprocAttr];rw [aR2 hkl hi h2];exact aU rfl rfl
    ·unfold awS;simp only [go_sem,simprocAttr];refine ⟨k+1,aB ?_,⟨by omega,fun i h3=>?_⟩,by omega⟩
     ·simp only [go_sem,simprocAttr]<;>simp [bX (show k<9223372036854775807 by omega)]
     ·rcases Nat.lt_or_ge i k with h4 | h4
      ·exact hi i h4
      ·rw [show i=k from by omega];exact h2
   ·simp only [bxx] at hge;unfold awS;simp only [go_sem,simprocAttr];rw [aKf (fun i h2=>hi i (by omega))];exact Qg _
end Go.Proofs.YtbfnemkngoaeeaaGreat
