/- Proved here: What is collected is what can be reached, in plain Lean, for use in the proofs of the given statements; conditions stand in each theorem. -/
import Derived.Test.YtbfnemkngoaeeaaGreatZUS1
set_option linter.unusedSimpArgs false
set_option linter.unusedVariables false
set_option linter.unusedSectionVars false
set_option linter.unnecessarySimpa false
namespace Go.Proofs.YtbfnemkngoaeeaaGreat
open Go.RowKit
set_option maxRecDepth 4000
def StpU (p:ProjR):Nat→ByteArray→ByteArray→Prop
 | 0,n,m=>n=m
 | k+1,n,m => ∃ x∈inner p n,StpU p k x m
def RchU (p:ProjR) (n m:ByteArray):Prop := ∃ k,StpU p k n m
theorem RchU.refl {p:ProjR} (n:ByteArray):RchU p n n:=⟨0,rfl⟩
theorem RchU.step {p:ProjR} {n x m:ByteArray} (h:x∈inner p n) (hr:RchU p x m):RchU p n m:=by
 obtain ⟨k,hk⟩:=hr
 exact ⟨k+1,x,h,hk⟩
abbrev Pr:=List ByteArray×List ByteArray
structure CollOk (p:ProjR) (l:List ByteArray) (r r':Pr):Prop where
 s1:∀ x∈r.1,x∈r'.1
 s2:∀ x∈r.2,x∈r'.2
 all:∀ n∈l,n∈r'.2
 cl:∀ x∈r'.2,x∈r.2∨(∀ y∈inner p x,y∈r'.2) ∧ ∀ m∈shown p x 1,m∈r'.1
 r2:∀ x∈r'.2,x∈r.2 ∨ ∃ n∈l,RchU p n x
 r1:∀ m∈r'.1,m∈r.1 ∨ ∃ n∈l, ∃ x,RchU p n x∧m∈shown p x 1
theorem collOk_nil (p:ProjR) (r:Pr):CollOk p [] r r:=⟨fun _ h=>h,fun _ h=>h,fun _ h=>(by cases h),fun _ h => .inl h,fun _ h => .inl h,fun _ h => .inl h⟩
theorem collOk_cons {p:ProjR} {n:ByteArray} {l:List ByteArray} {a b c:Pr} (h1:CollOk p [n] a b) (h2:CollOk p l b c):CollOk p (n::l) a c:=by
 refine ⟨fun x hx=>h2.s1 x (h1.s1 x hx),fun x hx=>h2.s2 x (h1.s2 x hx),fun x hx=>?_,fun x hx=>?_,fun x hx=>?_,fun m hm=>?_⟩
 ·rcases List.mem_cons.1 hx with rfl | hx
  ·exact h2.s2 _ (h1.all _ (by simp))
  ·exact h2.all x hx
 ·rcases h2.cl x hx with h | h
  ·rcases h1.cl x h with h | h
   ·exact .inl h
   ·exact .inr ⟨fun y hy=>h2.s2 y (h.1 y hy),fun m hm=>h2.s1 m (h.2 m hm)⟩
  ·exact .inr h
 ·rcases h2.r2 x hx with h | ⟨k,hk,hr⟩
  ·rcases h1.r2 x h with h | ⟨k,hk,hr⟩
   ·exact .inl h
   ·exact .inr ⟨n,by simp,by simp only [List.mem_cons,List.not_mem_nil,or_false] at hk;rwa [← hk]⟩
  ·exact .inr ⟨k,by simp [hk],hr⟩
 ·rcases h2.r1 m hm with h | ⟨k,hk,hr⟩
  ·rcases h1.r1 m h with h | ⟨k,hk,hr⟩
   ·exact .inl h
   ·exact .inr ⟨n,by simp,by simp only [List.mem_cons,List.not_mem_nil,or_false] at hk;rwa [← hk]⟩
  ·exact .inr ⟨k,by simp [hk],hr⟩
theorem collOk_fold {p:ProjR} {g:Pr→ByteArray→Pr}:∀ (l:List ByteArray) (r:Pr),(∀ n∈l, ∀ r,CollOk p [n] r (g r n))→CollOk p l r (l.foldl g r)
 | [],r,_=>collOk_nil p r
 | n::l,r,h=>collOk_cons (h n (by simp) r) (collOk_fold l (g r n) fun x hx=>h x (by simp [hx]))
theorem coll_ok {p:ProjR}:∀ (f:Nat) (n:ByteArray) (r:Pr), ¬ Wk p f n→CollOk p [n] r (collF p f n r)
 | 0,n,r,h=>absurd trivial h
 | f+1,n,r,h=>by
  unfold collF
  split
  ·rename_i hm
   have hm:=memB_iff.1 hm
   exact ⟨fun _ h=>h,fun _ h=>h,fun x hx=>by simp only [List.mem_cons,List.not_mem_nil,or_false] at hx;rw [hx];exact hm,fun _ h => .inl h,fun _ h => .inl h,fun _ h => .inl h⟩
  ·have hf:=collOk_fold (p:=p) (g:=fun r x=>collF p f x r) (shown p n 2) (r.1++shown p n 1,r.2 ++ [n]) fun x hx r=>coll_ok f x r (wk_inner h hx)
   generalize (shown p n 2).foldl (fun r x=>collF p f x r) (r.1++shown p n 1,r.2 ++ [n])=q at hf ⊢
   have hn:n∈q.2:=hf.s2 n (by simp)
   refine ⟨fun x hx=>hf.s1 x (by simp [hx]),fun x hx=>hf.s2 x (by simp [hx]),fun x hx=>by simp only [List.mem_cons,List.not_mem_nil,or_false] at hx;rw [hx];exact hn,fun x hx=>?_,fun x hx=>?_,fun m hm=>?_⟩
   ·rcases hf.cl x hx with h1 | h1
    ·simp only [List.mem_append,List.mem_cons,List.not_mem_nil,or_false] at h1
     rcases h1 with h1 | rfl
     ·exact .inl h1
     ·exact .inr ⟨fun y hy=>hf.all y hy,fun m hm=>hf.s1 m (by simp [hm])⟩
    ·exact .inr h1
   ·rcases hf.r2 x hx with h1 | ⟨k,hk,hr⟩
    ·simp only [List.mem_append,List.mem_cons,List.not_mem_nil,or_false] at h1
     rcases h1 with h1 | rfl
     ·exact .inl h1
     ·exact .inr ⟨_,by simp,RchU.refl _⟩
    ·exact .inr ⟨n,by simp,hr.step hk⟩
   ·rcases hf.r1 m hm with h1 | ⟨k,hk,x,hr,hx⟩
    ·simp only [List.mem_append] at h1
     rcases h1 with h1 | h1
     ·exact .inl h1
     ·exact .inr ⟨n,by simp,n,RchU.refl n,h1⟩
    ·exact .inr ⟨n,by simp,x,hr.step hk,hx⟩
theorem coll_iff {p:ProjR} {f:Nat} {n m:ByteArray} (h : ¬ Wk p f n):m∈(collF p f n ([],[])).1 ↔ ∃ x,RchU p n x∧m∈shown p x 1:=by
 have hc:=coll_ok f n ([],[]) h
 generalize collF p f n ([],[])=q at hc ⊢
 constructor
 ·intro hm
  rcases hc.r1 m hm with h1 | ⟨k,hk,x,hr,hx⟩
  ·cases h1
  ·simp only [List.mem_cons,List.not_mem_nil,or_false] at hk
   rw [hk] at hr
   exact ⟨x,hr,hx⟩
 ·rintro ⟨x,⟨k,hk⟩,hx⟩
  have key:∀ (k:Nat) (n x:ByteArray),n∈q.2→StpU p k n x→x∈q.2:=by
   intro k
   induction k with
   | zero=>intro n x hn hs;rw [← (show n=x from hs)];exact hn
   | succ k ih =>
    rintro n x hn ⟨y,hy,hs⟩
    rcases hc.cl n hn with h1 | h1
    ·cases h1
    ·exact ih y x (h1.1 y hy) hs
  have hxq:=key k n x (hc.all n (by simp)) hk
  rcases hc.cl x hxq with h1 | h1
  ·cases h1
  ·exact h1.2 m hx
end Go.Proofs.YtbfnemkngoaeeaaGreat
