/- Proved here: What is collected is what can be reached, in plain Lean; conditions stand in each theorem. -/
import Derived.Test.YtbfnemkngoaeeaaGreatQ32
import Derived.Test.YtbfnemkngoaeeaaGreatQ42
import Derived.Test.YtbfnemkngoaeeaaGreatQ41
import Derived.Test.YtbfnemkngoaeeaaGreatQ28
set_option linter.unusedSimpArgs false
set_option linter.unusedVariables false
set_option linter.unusedSectionVars false
set_option linter.unnecessarySimpa false
namespace Go.Proofs.YtbfnemkngoaeeaaGreat
open Go.RowKit
set_option maxRecDepth 4000
def StpU (p:ProjR):Nat→ByteArray→ByteArray→Prop
 | 0,n,m=>n=m
 | k+1,n,m => ∃ x∈eH p n,StpU p k x m
def RchU (p:ProjR) (n m:ByteArray):Prop := ∃ k,StpU p k n m
theorem RchU.refl {p:ProjR} (n:ByteArray):RchU p n n:=⟨0,rfl⟩
theorem RchU.step {p:ProjR} {n x m:ByteArray} (h:x∈eH p n) (hr:RchU p x m):RchU p n m:=by
 obtain ⟨k,hk⟩:=hr;exact ⟨k+1,x,h,hk⟩
abbrev Pr:=List ByteArray×List ByteArray
structure CollOk (p:ProjR) (l:List ByteArray) (r r':Pr):Prop where
 s1:∀ x∈r.1,x∈r'.1
 s2:∀ x∈r.2,x∈r'.2
 all:∀ n∈l,n∈r'.2
 cl:∀ x∈r'.2,x∈r.2∨(∀ y∈eH p x,y∈r'.2) ∧ ∀ m∈uQ p x 1,m∈r'.1
 r2:∀ x∈r'.2,x∈r.2 ∨ ∃ n∈l,RchU p n x
 r1:∀ m∈r'.1,m∈r.1 ∨ ∃ n∈l, ∃ x,RchU p n x∧m∈uQ p x 1
theorem aKq (p:ProjR) (r:Pr):CollOk p [] r r:=⟨fun _ h=>h,fun _ h=>h,fun _ h=>(by cases h),fun _ h => .inl h,fun _ h => .inl h,fun _ h => .inl h⟩
theorem aGm {p:ProjR} {n:ByteArray} {l:List ByteArray} {a b c:Pr} (h1:CollOk p [n] a b) (h2:CollOk p l b c):CollOk p (n::l) a c:=by
 refine ⟨fun x hx=>h2.s1 x (h1.s1 x hx),fun x hx=>h2.s2 x (h1.s2 x hx),fun x hx=>?_,fun x hx=>?_,fun x hx=>?_,fun m hm=>?_⟩
 ·rcases List.mem_cons.1 hx with rfl | hx
  ·exact h2.s2 _ (h1.all _ (by simp))
  ·exact h2.all x hx
 ·rcases h2.cl x hx with h | h
  ·rcases h1.cl x h with h | h
   ·exact .inl h
   ·exact .inr ⟨fun y hy=>h2.s2 y (h.1 y hy),fun m hm=>h2.s1 m (h.2 m hm)⟩
  ·exact .inr h
 ·rcases h2.r2 x hx with h | ⟨k,hk,hr⟩
  ·rcases h1.r2 x h with h | ⟨k,hk,hr⟩
   ·exact .inl h
   ·exact .inr ⟨n,by simp,by simp only [List.mem_cons,List.not_mem_nil,or_false] at hk;rwa [← hk]⟩
  ·exact .inr ⟨k,by simp [hk],hr⟩
 ·rcases h2.r1 m hm with h | ⟨k,hk,hr⟩
  ·rcases h1.r1 m h with h | ⟨k,hk,hr⟩
   ·exact .inl h
   ·exact .inr ⟨n,by simp,by simp only [List.mem_cons,List.not_mem_nil,or_false] at hk;rwa [← hk]⟩
  ·exact .inr ⟨k,by simp [hk],hr⟩
theorem Mf {p:ProjR} {g:Pr→ByteArray→Pr}:∀ (l:List ByteArray) (r:Pr),(∀ n∈l, ∀ r,CollOk p [n] r (g r n))→CollOk p l r (l.foldl g r)
 | [],r,_=>aKq p r
 | n::l,r,h=>aGm (h n (by simp) r) (Mf l (g r n) fun x hx=>h x (by simp [hx]))
theorem aN6 {p:ProjR}:∀ (f:Nat) (n:ByteArray) (r:Pr), ¬ Wk p f n→CollOk p [n] r (gS p f n r)
 | 0,n,r,h=>absurd trivial h
 | f+1,n,r,h=>by
  unfold gS;split
  ·rename_i hm;have hm:=Gp.1 hm;exact ⟨fun _ h=>h,fun _ h=>h,fun x hx=>by simp only [List.mem_cons,List.not_mem_nil,or_false] at hx;rw [hx];exact hm,fun _ h => .inl h,fun _ h => .inl h,fun _ h => .inl h⟩
  ·have hf:=Mf (p:=p) (g:=fun r x=>gS p f x r) (uQ p n 2) (r.1++uQ p n 1,r.2 ++ [n]) fun x hx r=>aN6 f x r (Nu h hx)
   generalize (uQ p n 2).foldl (fun r x=>gS p f x r) (r.1++uQ p n 1,r.2 ++ [n])=q at hf ⊢;have hn:n∈q.2:=hf.s2 n (by simp);refine ⟨fun x hx=>hf.s1 x (by simp [hx]),fun x hx=>hf.s2 x (by simp [hx]),fun x hx=>by simp only [List.mem_cons,List.not_mem_nil,or_false] at hx;rw [hx];exact hn,fun x hx=>?_,fun x hx=>?_,fun m hm=>?_⟩
   ·rcases hf.cl x hx with h1 | h1
    ·simp only [List.mem_append,List.mem_cons,List.not_mem_nil,or_false] at h1;rcases h1 with h1 | rfl
     ·exact .inl h1
     ·exact .inr ⟨fun y hy=>hf.all y hy,fun m hm=>hf.s1 m (by simp [hm])⟩
    ·exact .inr h1
   ·rcases hf.r2 x hx with h1 | ⟨k,hk,hr⟩
    ·simp only [List.mem_append,List.mem_cons,List.not_mem_nil,or_false] at h1;rcases h1 with h1 | rfl
     ·exact .inl h1
     ·exact .inr ⟨_,by simp,RchU.refl _⟩
    ·exact .inr ⟨n,by simp,hr.step hk⟩
   ·rcases hf.r1 m hm with h1 | ⟨k,hk,x,hr,hx⟩
    ·simp only [List.mem_append] at h1;rcases h1 with h1 | h1
     ·exact .inl h1
     ·exact .inr ⟨n,by simp,n,RchU.refl n,h1⟩
    ·exact .inr ⟨n,by simp,x,hr.step hk,hx⟩
theorem aVx {p:ProjR} {f:Nat} {n m:ByteArray} (h : ¬ Wk p f n):m∈(gS p f n ([],[])).1 ↔ ∃ x,RchU p n x∧m∈uQ p x 1:=by
 have hc:=aN6 f n ([],[]) h;generalize gS p f n ([],[])=q at hc ⊢;constructor
 ·intro hm;rcases hc.r1 m hm with h1 | ⟨k,hk,x,hr,hx⟩
  ·cases h1
  ·simp only [List.mem_cons,List.not_mem_nil,or_false] at hk;rw [hk] at hr;exact ⟨x,hr,hx⟩
 ·rintro ⟨x,⟨k,hk⟩,hx⟩;have key:∀ (k:Nat) (n x:ByteArray),n∈q.2→StpU p k n x→x∈q.2:=by
   intro k
   induction k with
   | zero=>intro n x hn hs;rw [← (show n=x from hs)];exact hn
   | succ k ih =>
    rintro n x hn ⟨y,hy,hs⟩;rcases hc.cl n hn with h1 | h1
    ·cases h1
    ·exact ih y x (h1.1 y hy) hs
  have hxq:=key k n x (hc.all n (by simp)) hk;rcases hc.cl x hxq with h1 | h1
  ·cases h1
  ·exact h1.2 m hx
theorem aJ2 {p:ProjR} {f g:ByteArray} (h:(mP p f g).2=0):(mP p f g).1=kP p f g:=by
 unfold mP at h ⊢;split
 ·rename_i h1;rw [if_pos h1] at h;exact absurd h h1
 ·rename_i h1;rw [if_neg h1] at h;split
  ·rename_i a b e1 e2;simp only [e1,e2] at h;split
   ·rfl
   ·rename_i h2;rw [if_neg h2] at h;exact absurd h (by decide)
  ·rename_i h2;exfalso;revert h;split
   ·rename_i a b e1 e2;exact absurd e2 (fun e2=>h2 a b e1 e2)
   ·intro h;exact absurd h (by decide)
theorem aAq {s:StateR} {p:ProjR} {M N:Nat} (hs:Ok s) (h:SpareP p M N):(jS s p s0N).2.2=0∧(jS s p s0N).1=(qC s p (cU (qQ s (dN p s0N).1))).1∧(jS s p s0N).2.1=cU (qC s p (cU (qQ s (dN p s0N).1))).2:=by
 unfold jS;rw [(Eb s).2 hs,if_neg (by decide),if_neg (by rw [h.uses0];decide)];exact ⟨rfl,rfl,rfl⟩
open Go.RowKit
set_option maxRecDepth 4000
theorem aMj {k:Int} {l:List ClipR} {m:ByteArray}:m∈dG k l ↔ ∃ c∈l, ∃ x,(x=c.a∨x=c.b)∧x.kind=k∧x.name=m:=by
 unfold dG;simp only [List.mem_map,List.mem_filter,List.mem_flatMap,List.mem_cons,List.not_mem_nil,or_false,beq_iff_eq];constructor
 ·rintro ⟨x,⟨⟨c,hc,hx⟩,hk⟩,hn⟩;exact ⟨c,hc,x,hx,hk,hn⟩
 ·rintro ⟨c,hc,x,hx,hk,hn⟩;exact ⟨x,⟨⟨c,hc,hx⟩,hk⟩,hn⟩
theorem xM (f g:ByteArray):∀ (l:List SequenceR) (n:ByteArray),bL (l.map (Ua f g)) n=(bL l n).map (Ua f g)
 | [],n=>rfl
 | s::l,n=>by
  have ih:=xM f g l n;unfold bL at ih ⊢;simp only [List.map_cons,eU,ih];cases eU SequenceR.name n l with
  | some y=>rfl
  | none =>
   simp only [Option.map_none];show (if n=s.name then some (Ua f g s) else none)=_
   split<;>rfl
theorem aU6 {p:ProjR} {name n:ByteArray} (h:p.fit) (h0:(dN p name).2=0):n∈(dN p name).1 ↔ ∃ x,RchU p name x∧n∈uQ p x 1:=by
 obtain ⟨hok,_⟩:=wP h h0;unfold dN at h0 ⊢;split
 ·rename_i hv;rw [if_pos hv] at h0;exact absurd h0 hv
 ·rename_i hv;rw [if_neg hv] at h0;cases hs:bL p.seqs name with
  | none=>rw [hs] at h0;simp at h0
  | some s =>
   have hw:=hok.wk s (cV hs).1;rw [show s.name=name from (cV hs).2] at hw;simp only;rw [(cK _).mem_iff,rT,aVx hw]
theorem aPb {p:ProjR} {f g:ByteArray} (h:(mP p f g).2=0):∃ a b,nC p.media f=some a∧nC p.media g=some b∧wT a b=true:=by
 unfold mP at h;split at h
 ·rename_i h1;exact absurd h h1
 ·split at h
  ·rename_i a b e1 e2;split at h
   ·rename_i h2;exact ⟨a,b,e1,e2,h2⟩
   ·exact absurd h (by decide)
  ·exact absurd h (by decide)
structure UInv (s:StateR) (p:ProjR) (K1:List ByteArray) (a:ProjR×List ByteArray):Prop where
 lay:Layered a.1
 fit:a.1.fit
 med:a.1.media=p.media
 seq:(bL a.1.seqs s0N).isSome=true
 on:∀ n∈(dN a.1 s0N).1,status s n=1∨n∈(dN p s0N).1
 lf:∀ n∈(dN a.1 s0N).1,n∈K1→n∈a.2
 sub:∀ n∈a.2,n∈K1
def Vs (n:ByteArray) (l:List ByteArray):Bool:=l.any fun x=>x.toList==n.toList
theorem aRq (n:ByteArray) {l:List ByteArray} {j:Nat} (h:j<l.length):Vs n (l.take (j+1))=(Vs n (l.take j)||((l.getD j default).toList==n.toList)):=by
 unfold Vs;rw [cA h,List.any_append];simp
theorem aX4 {n:ByteArray} {l:List ByteArray}:Vs n l=true ↔ n∈l:=by
 unfold Vs;rw [List.any_eq_true];constructor
 ·rintro ⟨x,hx,e⟩;have:x=n:=toList_eq.1 e;exact this ▸ hx
 ·exact fun h=>⟨n,h,beq_self_eq_true _⟩
end Go.Proofs.YtbfnemkngoaeeaaGreat
