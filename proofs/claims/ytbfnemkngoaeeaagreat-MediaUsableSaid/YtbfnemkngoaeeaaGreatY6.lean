/- Proved here: Arguments whose nil slices, at any depth, are read as empty lists, for use in the proofs of the given statements; conditions stand in each theorem. -/
import Derived.Test.YtbfnemkngoaeeaaGreatZS
import Derived.Test.YtbfnemkngoaeeaaGreatZU
import Derived.Test.YtbfnemkngoaeeaaGreatY1
set_option linter.unusedSimpArgs false
set_option linter.unusedVariables false
set_option linter.unusedSectionVars false
set_option linter.unnecessarySimpa false
namespace Go.Proofs.YtbfnemkngoaeeaaGreat
open Go.RowKit
set_option maxRecDepth 4000
def Imp (x y:T):Prop := ∀ (w:World) (S:Nat→Prop) (v:Value),RdT w S x v→RdT w S y v
theorem imp_nil {k:Nat} {d:List T}:Imp (.lit (.slice none 0 0)) (.list k d []):=by
 intro w S v h
 cases h
 exact .list _ _ _ none 0 (Nat.zero_le _) (Nat.zero_le _) (fun _=>rfl) (by simp) (by simp) (by simp)
def ImpL:List T→List T→Prop
 | [],[]=>True
 | x::xs,y::ys=>Imp x y∧ImpL xs ys
 | _,_=>False
def ImpR:List (List T)→List (List T)→Prop
 | [],[]=>True
 | x::xs,y::ys=>ImpL x y∧ImpR xs ys
 | _,_=>False
theorem as_imp {x y:T} (h:Imp x y):∀ (w:World) (E:Env) v,RdV w E (.t x) v→RdV w E (.t y) v:=by
 intro w E v hv
 simp only [RdV] at hv ⊢
 exact h _ _ _ hv
def ImpV:List V→List V→Prop
 | [],[]=>True
 | x::xs,y::ys=>(∀ (w:World) (E:Env) v,RdV w E x v→RdV w E y v)∧ImpV xs ys
 | _,_=>False
theorem impV_rd {w:World} {E:Env}:∀ {xs ys:List V} {vs:List Value},ImpV xs ys→RdVs w E xs vs→RdVs w E ys vs
 | [],[],_,_,h=>h
 | x::xs,y::ys,[],_,h=>by simp only [RdVs] at h
 | x::xs,y::ys,v::vs,hn,h=>by
  simp only [RdVs] at h ⊢
  exact ⟨hn.1 _ _ _ h.1,impV_rd hn.2 h.2⟩
 | [],_::_,_,hn,_=>hn.elim
 | _::_,[],_,hn,_=>hn.elim
theorem as_impAgg {xs ys:List V} (ha:ImpV xs ys):∀ (w:World) (E:Env) v,RdV w E (.agg xs) v→RdV w E (.agg ys) v:=by
 intro w E v h
 simp only [RdV] at h ⊢
 obtain ⟨vs,rfl,q1,q2⟩:=h
 exact ⟨vs,rfl,impV_rd ha q1,q2⟩
open Go.RowKit
set_option maxRecDepth 4000
theorem pureW_as {r r' x:V} {h:Heap} (e:x.lend h=r') (hp:r'.pure=true) (ha:∀ (w:World) (E:Env) v,RdV w E r' v→RdV w E r v):pureW r x h :=
 ⟨by rw [e];exact hp,fun w E v hv=>by rw [e] at hv;exact ha _ _ _ hv⟩
theorem as_impTup {xs ys:List V} (ha:ImpV xs ys):∀ (w:World) (E:Env) v,RdV w E (.tup xs) v→RdV w E (.tup ys) v:=by
 intro w E v h
 simp only [RdV] at h ⊢
 obtain ⟨vs,rfl,q1⟩:=h
 exact ⟨vs,rfl,impV_rd ha q1⟩
theorem as_nilL {k:Nat} {d:List T}:∀ (w:World) (E:Env) v,RdV w E (.t (.lit (.slice none 0 0))) v→RdV w E (.t (.list k d [])) v:=as_imp imp_nil
def zSeq:SequenceR:=⟨⟨#[]⟩,⟨0,0⟩,0,0,[],[],[],0⟩
def findS (l:List SequenceR) (n:ByteArray):Option SequenceR:=l.find? fun s=>s.name.toList==n.toList
def findR (p:ProjR) (n:ByteArray):SequenceR×Int :=
 if (validP p != 0)=true then (zSeq,validP p) else
 match findS p.seqs n with
 | some s=>(s,0)
 | none=>(zSeq,7)
abbrev vse (r:SequenceR×Int):V := .tup [vsequence r.1,vint r.2]
abbrev zSeqV:List V:=[vstr ⟨#[]⟩,vint 0,vint 0,vint 0,vint 0, .t (.lit (.slice none 0 0)), .t (.lit (.slice none 0 0)), .t (.lit (.slice none 0 0)),vint 0]
theorem valid_small {p:ProjR} (h:validP p=0):p.media.length≤16∧p.seqs.length≤16 ∧ ∀ s∈p.seqs,seqSmall s=true:=by
 unfold validP at h
 split at h
 ·cases h
 ·rename_i h1
  rw [Bool.not_eq_false] at h1
  unfold smallB at h1
  simp only [Bool.and_eq_true,decide_eq_true_eq,List.all_eq_true] at h1
  refine ⟨by omega,by omega,fun s hs=>h1.2 s hs⟩
end Go.Proofs.YtbfnemkngoaeeaaGreat
