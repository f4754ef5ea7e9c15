/- Proved here: Arguments whose nil slices, at any depth, are read as empty lists, for use in the proofs of the given statements; conditions stand in each theorem. -/
import Derived.Test.YtkjdkbmfaamhaaaGreatZS
import Derived.Test.YtkjdkbmfaamhaaaGreatZU
import Derived.Test.YtkjdkbmfaamhaaaGreatY1
set_option linter.unusedSimpArgs false
set_option linter.unusedVariables false
set_option linter.unusedSectionVars false
set_option linter.unnecessarySimpa false
namespace Go.Proofs.YtkjdkbmfaamhaaaGreat
open Go.RowKit
set_option maxRecDepth 4000
def Imp (x y:T):Prop := ∀ (w:World) (S:Nat→Prop) (v:Value),RdT w S x v→RdT w S y v
theorem imp_refl {x:T}:Imp x x:=fun _ _ _ h=>h
theorem imp_nil {k:Nat} {d:List T}:Imp (.lit (.slice none 0 0)) (.list k d []):=by
 intro w S v h
 cases h
 exact .list _ _ _ none 0 (Nat.zero_le _) (Nat.zero_le _) (fun _=>rfl) (by simp) (by simp) (by simp)
def ImpL:List T→List T→Prop
 | [],[]=>True
 | x::xs,y::ys=>Imp x y∧ImpL xs ys
 | _,_=>False
def ImpR:List (List T)→List (List T)→Prop
 | [],[]=>True
 | x::xs,y::ys=>ImpL x y∧ImpR xs ys
 | _,_=>False
theorem impL_at:∀ {xs ys:List T},ImpL xs ys→xs.length=ys.length ∧ ∀ (j:Nat) y,ys[j]? = some y → ∃ x,xs[j]? = some x∧Imp x y
 | [],[],_=>by simp
 | x::xs,y::ys,h=>by
  obtain ⟨h1,h2⟩:=impL_at h.2
  refine ⟨by simp [h1],fun j z hz=>?_⟩
  cases j with
  | zero=>simp at hz;subst hz;exact ⟨x,by simp,h.1⟩
  | succ j =>
   obtain ⟨u,q1,q2⟩:=h2 j z (by simpa using hz)
   exact ⟨u,by simpa using q1,q2⟩
 | [],_::_,h=>h.elim
 | _::_,[],h=>h.elim
theorem impR_at:∀ {xs ys:List (List T)},ImpR xs ys→xs.length=ys.length ∧ ∀ (j:Nat) y,ys[j]? = some y → ∃ x,xs[j]? = some x∧ImpL x y
 | [],[],_=>by simp
 | x::xs,y::ys,h=>by
  obtain ⟨h1,h2⟩:=impR_at h.2
  refine ⟨by simp [h1],fun j z hz=>?_⟩
  cases j with
  | zero=>simp at hz;subst hz;exact ⟨x,by simp,h.1⟩
  | succ j =>
   obtain ⟨u,q1,q2⟩:=h2 j z (by simpa using hz)
   exact ⟨u,by simpa using q1,q2⟩
 | [],_::_,h=>h.elim
 | _::_,[],h=>h.elim
theorem imp_list {k:Nat} {d d':List T} {xs ys:List (List T)} (ha:ImpR xs ys):Imp (.list k d xs) (.list k d' ys):=by
 intro w S v h
 obtain ⟨hl,hat⟩:=impR_at ha
 cases h with
 | list _ _ _ A c hm hc hn hk hb hr =>
  rw [hl]
  refine .list _ _ _ A c (by omega) (by omega) hn ?_ ?_ ?_
  ·intro e he
   obtain ⟨i,hi,rfl⟩:=List.mem_iff_getElem.1 he
   obtain ⟨x,q1,q2⟩:=hat i _ (List.getElem?_eq_getElem hi)
   rw [← (impL_at q2).1]
   exact hk x (List.mem_of_getElem? q1)
  ·intro i e he
   obtain ⟨x,q1,q2⟩:=hat i e he
   obtain ⟨b,off,q3,q4,q5⟩:=hb i x q1
   refine ⟨b,off,q3,q4,fun j y hy=>?_⟩
   obtain ⟨u,q6,_⟩:=(impL_at q2).2 j y hy
   exact q5 j u q6
  ·intro i e j y b off u he hy hA hu
   obtain ⟨x,q1,q2⟩:=hat i e he
   obtain ⟨z,q6,q7⟩:=(impL_at q2).2 j y hy
   exact q7 _ _ _ (hr i x j z b off u q1 q6 hA hu)
theorem as_imp {x y:T} (h:Imp x y):∀ (w:World) (E:Env) v,RdV w E (.t x) v→RdV w E (.t y) v:=by
 intro w E v hv
 simp only [RdV] at hv ⊢
 exact h _ _ _ hv
def ImpV:List V→List V→Prop
 | [],[]=>True
 | x::xs,y::ys=>(∀ (w:World) (E:Env) v,RdV w E x v→RdV w E y v)∧ImpV xs ys
 | _,_=>False
theorem impV_rd {w:World} {E:Env}:∀ {xs ys:List V} {vs:List Value},ImpV xs ys→RdVs w E xs vs→RdVs w E ys vs
 | [],[],_,_,h=>h
 | x::xs,y::ys,[],_,h=>by simp only [RdVs] at h
 | x::xs,y::ys,v::vs,hn,h=>by
  simp only [RdVs] at h ⊢
  exact ⟨hn.1 _ _ _ h.1,impV_rd hn.2 h.2⟩
 | [],_::_,_,hn,_=>hn.elim
 | _::_,[],_,hn,_=>hn.elim
theorem as_impAgg {xs ys:List V} (ha:ImpV xs ys):∀ (w:World) (E:Env) v,RdV w E (.agg xs) v→RdV w E (.agg ys) v:=by
 intro w E v h
 simp only [RdV] at h ⊢
 obtain ⟨vs,rfl,q1,q2⟩:=h
 exact ⟨vs,rfl,impV_rd ha q1,q2⟩
open Go.RowKit
set_option maxRecDepth 4000
theorem pureW_as {r r' x:V} {h:Heap} (e:x.lend h=r') (hp:r'.pure=true) (ha:∀ (w:World) (E:Env) v,RdV w E r' v→RdV w E r v):pureW r x h :=
 ⟨by rw [e];exact hp,fun w E v hv=>by rw [e] at hv;exact ha _ _ _ hv⟩
theorem as_nilL {k:Nat} {d:List T}:∀ (w:World) (E:Env) v,RdV w E (.t (.lit (.slice none 0 0))) v→RdV w E (.t (.list k d [])) v:=as_imp imp_nil
def zSeq:SequenceR:=⟨⟨#[]⟩,⟨0,0⟩,0,0,[],[],[],0⟩
def findS (l:List SequenceR) (n:ByteArray):Option SequenceR:=l.find? fun s=>s.name.toList==n.toList
def findR (p:ProjR) (n:ByteArray):SequenceR×Int :=
 if (validP p != 0)=true then (zSeq,validP p) else
 match findS p.seqs n with
 | some s=>(s,0)
 | none=>(zSeq,7)
abbrev vse (r:SequenceR×Int):V := .tup [vsequence r.1,vint r.2]
abbrev zSeqV:List V:=[vstr ⟨#[]⟩,vint 0,vint 0,vint 0,vint 0, .t (.lit (.slice none 0 0)), .t (.lit (.slice none 0 0)), .t (.lit (.slice none 0 0)),vint 0]
end Go.Proofs.YtkjdkbmfaamhaaaGreat
