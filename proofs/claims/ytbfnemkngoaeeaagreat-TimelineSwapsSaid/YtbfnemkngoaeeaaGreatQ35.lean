/- Proved here: Arguments whose nil slices, at any depth, are read as empty lists; conditions stand in each theorem. -/
import Derived.Test.YtbfnemkngoaeeaaGreatQ11
import Derived.Test.YtbfnemkngoaeeaaGreatQ15
import Derived.Test.YtbfnemkngoaeeaaGreatQ28
set_option linter.unusedSimpArgs false
set_option linter.unusedVariables false
set_option linter.unusedSectionVars false
set_option linter.unnecessarySimpa false
namespace Go.Proofs.YtbfnemkngoaeeaaGreat
open Go.RowKit
set_option maxRecDepth 4000
def Imp (x y:T):Prop := ∀ (w:World) (S:Nat→Prop) (v:Value),RdT w S x v→RdT w S y v
theorem aJ {x:T}:Imp x x:=fun _ _ _ h=>h
theorem xQ {k:Nat} {d:List T}:Imp (.lit (.slice none 0 0)) (.list k d []):=by
 intro w S v h;cases h;exact .list _ _ _ none 0 (Nat.zero_le _) (Nat.zero_le _) (fun _=>rfl) (by simp) (by simp) (by simp)
def aAg:List T→List T→Prop
 | [],[]=>True
 | x::xs,y::ys=>Imp x y∧aAg xs ys
 | _,_=>False
def Bx:List (List T)→List (List T)→Prop
 | [],[]=>True
 | x::xs,y::ys=>aAg x y∧Bx xs ys
 | _,_=>False
theorem Ga:∀ {xs ys:List T},aAg xs ys→xs.length=ys.length ∧ ∀ (j:Nat) y,ys[j]? = some y → ∃ x,xs[j]? = some x∧Imp x y
 | [],[],_=>by simp
 | x::xs,y::ys,h=>by
  obtain ⟨h1,h2⟩:=Ga h.2;refine ⟨by simp [h1],fun j z hz=>?_⟩;cases j with
  | zero=>simp at hz;subst hz;exact ⟨x,by simp,h.1⟩
  | succ j =>
   obtain ⟨u,q1,q2⟩:=h2 j z (by simpa using hz);exact ⟨u,by simpa using q1,q2⟩
 | [],_::_,h=>h.elim
 | _::_,[],h=>h.elim
theorem aE9:∀ {xs ys:List (List T)},Bx xs ys→xs.length=ys.length ∧ ∀ (j:Nat) y,ys[j]? = some y → ∃ x,xs[j]? = some x∧aAg x y
 | [],[],_=>by simp
 | x::xs,y::ys,h=>by
  obtain ⟨h1,h2⟩:=aE9 h.2;refine ⟨by simp [h1],fun j z hz=>?_⟩;cases j with
  | zero=>simp at hz;subst hz;exact ⟨x,by simp,h.1⟩
  | succ j =>
   obtain ⟨u,q1,q2⟩:=h2 j z (by simpa using hz);exact ⟨u,by simpa using q1,q2⟩
 | [],_::_,h=>h.elim
 | _::_,[],h=>h.elim
theorem gE {k:Nat} {d d':List T} {xs ys:List (List T)} (ha:Bx xs ys):Imp (.list k d xs) (.list k d' ys):=by
 intro w S v h;obtain ⟨hl,hat⟩:=aE9 ha;cases h with
 | list _ _ _ A c hm hc hn hk hb hr =>
  rw [hl];refine .list _ _ _ A c (by omega) (by omega) hn ?_ ?_ ?_
  ·intro e he;obtain ⟨i,hi,rfl⟩:=List.mem_iff_getElem.1 he;obtain ⟨x,q1,q2⟩:=hat i _ (List.getElem?_eq_getElem hi);rw [← (Ga q2).1];exact hk x (List.mem_of_getElem? q1)
  ·intro i e he;obtain ⟨x,q1,q2⟩:=hat i e he;obtain ⟨b,off,q3,q4,q5⟩:=hb i x q1;refine ⟨b,off,q3,q4,fun j y hy=>?_⟩;obtain ⟨u,q6,_⟩:=(Ga q2).2 j y hy;exact q5 j u q6
  ·intro i e j y b off u he hy hA hu;obtain ⟨x,q1,q2⟩:=hat i e he;obtain ⟨z,q6,q7⟩:=(Ga q2).2 j y hy;exact q7 _ _ _ (hr i x j z b off u q1 q6 hA hu)
theorem aCq {x y:T} (h:Imp x y):∀ (w:World) (E:Env) v,RdV w E (.t x) v→RdV w E (.t y) v:=by
 intro w E v hv;simp only [RdV] at hv ⊢;exact h _ _ _ hv
def ImpV:List V→List V→Prop
 | [],[]=>True
 | x::xs,y::ys=>(∀ (w:World) (E:Env) v,RdV w E x v→RdV w E y v)∧ImpV xs ys
 | _,_=>False
theorem Uf {w:World} {E:Env}:∀ {xs ys:List V} {vs:List Value},ImpV xs ys→RdVs w E xs vs→RdVs w E ys vs
 | [],[],_,_,h=>h
 | x::xs,y::ys,[],_,h=>by simp only [RdVs] at h
 | x::xs,y::ys,v::vs,hn,h=>by
  simp only [RdVs] at h ⊢;exact ⟨hn.1 _ _ _ h.1,Uf hn.2 h.2⟩
 | [],_::_,_,hn,_=>hn.elim
 | _::_,[],_,hn,_=>hn.elim
theorem Rv {xs ys:List V} (ha:ImpV xs ys):∀ (w:World) (E:Env) v,RdV w E (.agg xs) v→RdV w E (.agg ys) v:=by
 intro w E v h;simp only [RdV] at h ⊢;obtain ⟨vs,rfl,q1,q2⟩:=h;exact ⟨vs,rfl,Uf ha q1,q2⟩
open Go.RowKit
set_option maxRecDepth 4000
theorem Xk {r r' x:V} {h:Heap} (e:x.lend h=r') (hp:r'.pure=true) (ha:∀ (w:World) (E:Env) v,RdV w E r' v→RdV w E r v):Jk r x h :=
 ⟨by rw [e];exact hp,fun w E v hv=>by rw [e] at hv;exact ha _ _ _ hv⟩
theorem aHj {xs ys:List V} (ha:ImpV xs ys):∀ (w:World) (E:Env) v,RdV w E (.tup xs) v→RdV w E (.tup ys) v:=by
 intro w E v h;simp only [RdV] at h ⊢;obtain ⟨vs,rfl,q1⟩:=h;exact ⟨vs,rfl,Uf ha q1⟩
theorem aF1 {k:Nat} {d:List T}:∀ (w:World) (E:Env) v,RdV w E (.t (.lit (.slice none 0 0))) v→RdV w E (.t (.list k d [])) v:=aCq xQ
def zSeq:SequenceR:=⟨⟨#[]⟩,⟨0,0⟩,0,0,[],[],[],0⟩
def findS (l:List SequenceR) (n:ByteArray):Option SequenceR:=l.find? fun s=>s.name.toList==n.toList
def findR (p:ProjR) (n:ByteArray):SequenceR×Int :=
 if (cB p != 0)=true then (zSeq,cB p) else
 match findS p.seqs n with
 | some s=>(s,0)
 | none=>(zSeq,7)
abbrev vse (r:SequenceR×Int):V := .tup [fN r.1,aC r.2]
abbrev zSeqV:List V:=[bP ⟨#[]⟩,aC 0,aC 0,aC 0,aC 0, .t (.lit (.slice none 0 0)), .t (.lit (.slice none 0 0)), .t (.lit (.slice none 0 0)),aC 0]
theorem Dg {p:ProjR} (h:cB p=0):p.media.length≤16∧p.seqs.length≤16 ∧ ∀ s∈p.seqs,cR s=true:=by
 unfold cB at h;split at h
 ·cases h
 ·rename_i h1;rw [Bool.not_eq_false] at h1;unfold cK at h1;simp only [Bool.and_eq_true,decide_eq_true_eq,List.all_eq_true] at h1;refine ⟨by omega,by omega,fun s hs=>h1.2 s hs⟩
end Go.Proofs.YtbfnemkngoaeeaaGreat
