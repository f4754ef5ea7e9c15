/- Proved here: 'MediaOthers' returns true, for use in the proofs of the given statements; conditions stand in each theorem. -/
import Derived.Test.YtbfnemkngoaeeaaGreatMG
import Derived.Test.YtbfnemkngoaeeaaGreatMF
import Derived.Test.YtbfnemkngoaeeaaGreatTB
import Derived.Test.YtbfnemkngoaeeaaGreatZUS2
set_option linter.unusedSimpArgs false
set_option linter.unusedVariables false
set_option linter.unusedSectionVars false
set_option linter.unnecessarySimpa false
namespace Go.Proofs.YtbfnemkngoaeeaaGreat
open Go.RowKit
set_option maxRecDepth 4000
theorem swapP_zero {p:ProjR} {f g:ByteArray} (h:(swapP p f g).2=0):(swapP p f g).1=swapT p f g:=by
 unfold swapP at h ⊢
 split
 ·rename_i h1
  rw [if_pos h1] at h
  exact absurd h h1
 ·rename_i h1
  rw [if_neg h1] at h
  split
  ·rename_i a b e1 e2
   simp only [e1,e2] at h
   split
   ·rfl
   ·rename_i h2
    rw [if_neg h2] at h
    exact absurd h (by decide)
  ·rename_i h2
   exfalso
   revert h
   split
   ·rename_i a b e1 e2
    exact absurd e2 (fun e2=>h2 a b e1 e2)
   ·intro h
    exact absurd h (by decide)
theorem resolve_zero {s:StateR} {p:ProjR} {M N:Nat} (hs:Ok s) (h:SpareP p M N):(resolveP s p s0N).2.2=0∧(resolveP s p s0N).1=(resF s p (sortN (unus s (usesP p s0N).1))).1∧(resolveP s p s0N).2.1=sortN (resF s p (sortN (unus s (usesP p s0N).1))).2:=by
 unfold resolveP
 rw [(ok_iff s).2 hs,if_neg (by decide),if_neg (by rw [h.uses0];decide)]
 exact ⟨rfl,rfl,rfl⟩
open Go.RowKit
set_option maxRecDepth 4000
theorem mem_nmK {k:Int} {l:List ClipR} {m:ByteArray}:m∈namesK k l ↔ ∃ c∈l, ∃ x,(x=c.a∨x=c.b)∧x.kind=k∧x.name=m:=by
 unfold namesK
 simp only [List.mem_map,List.mem_filter,List.mem_flatMap,List.mem_cons,List.not_mem_nil,or_false,beq_iff_eq]
 constructor
 ·rintro ⟨x,⟨⟨c,hc,hx⟩,hk⟩,hn⟩
  exact ⟨c,hc,x,hx,hk,hn⟩
 ·rintro ⟨c,hc,x,hx,hk,hn⟩
  exact ⟨x,⟨⟨c,hc,hx⟩,hk⟩,hn⟩
theorem clips_chg (f g:ByteArray) (s:SequenceR):clipsOf (chgQ f g s)=(clipsOf s).map (chgC f g):=by
 unfold clipsOf chgQ chgT
 simp only
 rw [← List.map_append,List.map_flatten]
theorem lastOf_chg (f g:ByteArray):∀ (l:List SequenceR) (n:ByteArray),seqOf (l.map (chgQ f g)) n=(seqOf l n).map (chgQ f g)
 | [],n=>rfl
 | s::l,n=>by
  have ih:=lastOf_chg f g l n
  unfold seqOf at ih ⊢
  simp only [List.map_cons,lastOf,ih]
  cases lastOf SequenceR.name n l with
  | some y=>rfl
  | none =>
   simp only [Option.map_none]
   show (if n=s.name then some (chgQ f g s) else none)=_
   split<;>rfl
theorem src_chg (f g:ByteArray) (c:ClipR) (x:SourceR):(x=(chgC f g c).a∨x=(chgC f g c).b) ↔ ∃ y,(y=c.a∨y=c.b)∧x=chgS f g y:=by
 rw [chgC_eq]
 constructor
 ·rintro (h | h)
  ·exact ⟨c.a, .inl rfl,h⟩
  ·exact ⟨c.b, .inr rfl,h⟩
 ·rintro ⟨y,h | h,hx⟩
  ·subst h;exact .inl hx
  ·subst h;exact .inr hx
theorem names_chg2 {f g:ByteArray} {l:List ClipR} {m:ByteArray}:m∈namesK 2 (l.map (chgC f g)) ↔ m∈namesK 2 l:=by
 rw [mem_nmK,mem_nmK]
 constructor
 ·rintro ⟨c,hc,x,hx,hk,hn⟩
  obtain ⟨d,hd,rfl⟩:=List.mem_map.1 hc
  obtain ⟨y,hy,rfl⟩:=(src_chg f g d x).1 hx
  rw [(chgS_kind f g y).1] at hk
  have e:chgS f g y=y:=chgS_no (fun h=>by omega)
  rw [e] at hn
  exact ⟨d,hd,y,hy,hk,hn⟩
 ·rintro ⟨c,hc,y,hy,hk,hn⟩
  have e:chgS f g y=y:=chgS_no (fun h=>by omega)
  exact ⟨chgC f g c,List.mem_map.2 ⟨c,hc,rfl⟩,y,(src_chg f g c y).2 ⟨y,hy,e.symm⟩,hk,hn⟩
theorem names_chg1 {f g:ByteArray} {l:List ClipR} {m:ByteArray} (h:m∈namesK 1 (l.map (chgC f g))):m=g∨(m∈namesK 1 l∧m≠f):=by
 rw [mem_nmK] at h
 obtain ⟨c,hc,x,hx,hk,hn⟩:=h
 obtain ⟨d,hd,rfl⟩:=List.mem_map.1 hc
 obtain ⟨y,hy,rfl⟩:=(src_chg f g d x).1 hx
 rw [(chgS_kind f g y).1] at hk
 by_cases hf:y.name=f
 ·rw [chgS_yes ⟨hk,hf⟩] at hn
  exact .inl hn.symm
 ·rw [chgS_no (fun h=>hf h.2)] at hn
  exact .inr ⟨mem_nmK.2 ⟨d,hd,y,hy,hk,hn⟩,by rw [← hn];exact hf⟩
theorem shown_swap2 {p:ProjR} {f g n m:ByteArray}:m∈shown (swapT p f g) n 2 ↔ m∈shown p n 2:=by
 unfold shown swapT
 simp only
 rw [lastOf_chg,mem_namedS,mem_namedS]
 cases seqOf p.seqs n with
 | none=>rfl
 | some s =>
  simp only [Option.map_some,Option.getD_some]
  rw [clips_chg,names_chg2]
theorem shown_swap1 {p:ProjR} {f g n m:ByteArray} (h:m∈shown (swapT p f g) n 1):m=g∨(m∈shown p n 1∧m≠f):=by
 unfold shown swapT at h
 simp only at h
 rw [lastOf_chg,mem_namedS] at h
 unfold shown
 rw [mem_namedS]
 cases e:seqOf p.seqs n with
 | none =>
  rw [e] at h
  simp only [Option.map_none,Option.getD_none] at h
  have h0:namesK 1 (clipsOf default) = []:=rfl
  rw [h0] at h
  cases h
 | some s =>
  rw [e] at h
  simp only [Option.map_some,Option.getD_some] at h ⊢
  rw [clips_chg] at h
  exact names_chg1 h
theorem stp_swap {p:ProjR} {f g:ByteArray}:∀ {k:Nat} {n m:ByteArray},StpU (swapT p f g) k n m→StpU p k n m
 | 0,_,_,h=>h
 | k+1,_,_,⟨x,hx,h⟩=>⟨x,shown_swap2.1 hx,stp_swap h⟩
theorem mem_uses {p:ProjR} {name n:ByteArray} (h:p.fit) (h0:(usesP p name).2=0):n∈(usesP p name).1 ↔ ∃ x,RchU p name x∧n∈shown p x 1:=by
 obtain ⟨hok,_⟩:=uses_names h h0
 unfold usesP at h0 ⊢
 split
 ·rename_i hv
  rw [if_pos hv] at h0
  exact absurd h0 hv
 ·rename_i hv
  rw [if_neg hv] at h0
  cases hs:seqOf p.seqs name with
  | none=>rw [hs] at h0;simp at h0
  | some s =>
   have hw:=hok.wk s (lastOf_mem hs).1
   rw [show s.name=name from (lastOf_mem hs).2] at hw
   simp only
   rw [(sortN_perm _).mem_iff,mem_once,coll_iff hw]
theorem uses_zero {p:ProjR} (h:Layered p) {name:ByteArray} (hs:(seqOf p.seqs name).isSome=true):(usesP p name).2=0:=by
 unfold usesP
 rw [layered_valid h]
 cases e:seqOf p.seqs name with
 | none=>rw [e] at hs;cases hs
 | some s=>rfl
theorem swapP_med {p:ProjR} {f g:ByteArray} (h:(swapP p f g).2=0):∃ a b,medOf p.media f=some a∧medOf p.media g=some b∧sameMed a b=true:=by
 unfold swapP at h
 split at h
 ·rename_i h1
  exact absurd h h1
 ·split at h
  ·rename_i a b e1 e2
   split at h
   ·rename_i h2
    exact ⟨a,b,e1,e2,h2⟩
   ·exact absurd h (by decide)
  ·exact absurd h (by decide)
structure UInv (s:StateR) (p:ProjR) (K1:List ByteArray) (a:ProjR×List ByteArray):Prop where
 lay:Layered a.1
 fit:a.1.fit
 med:a.1.media=p.media
 seq:(seqOf a.1.seqs s0N).isSome=true
 on:∀ n∈(usesP a.1 s0N).1,status s n=1∨n∈(usesP p s0N).1
 lf:∀ n∈(usesP a.1 s0N).1,n∈K1→n∈a.2
 sub:∀ n∈a.2,n∈K1
theorem uinv_step {s:StateR} {p:ProjR} {K1:List ByteArray} {a:ProjR×List ByteArray} {n:ByteArray} (h:UInv s p K1 a) (hK:∀ x∈K1 ++ [n],status s x≠1) (hm:∀ y∈p.media,vName y.name=true) :
  UInv s p (K1 ++ [n]) (resStep s a n):=by
 unfold resStep
 split
 ·rename_i hc
  rw [swapP_zero hc.2]
  obtain ⟨x,y,e1,e2,e3⟩:=swapP_med hc.2
  obtain ⟨y1,y2⟩:=lastOf_mem e2
  obtain ⟨i,hi,hy⟩:=mem_at y1
  have hg:vName (proxyOf s n)=true:=by
   have:=hm y (by rw [← h.med];exact y1)
   rw [show y.name=proxyOf s n from y2] at this
   exact this
  have hl:Layered (swapT a.1 n (proxyOf s n)):=layered_swap h.lay hg ⟨i,hi,by rw [hy];exact y2⟩
  have hf:=swapT_fit h.fit n (proxyOf s n)
  have hs:(seqOf (swapT a.1 n (proxyOf s n)).seqs s0N).isSome=true:=by
   unfold swapT
   simp only
   rw [lastOf_chg,Option.isSome_map]
   exact h.seq
  have z0:=uses_zero h.lay h.seq
  have z1:=uses_zero hl hs
  have hu:∀ m∈(usesP (swapT a.1 n (proxyOf s n)) s0N).1,m=proxyOf s n∨(m∈(usesP a.1 s0N).1∧m≠n):=fun m hm=>by
   obtain ⟨x,⟨k,hk⟩,hx⟩:=(mem_uses hf z1).1 hm
   rcases shown_swap1 hx with h1 | ⟨h1,h2⟩
   ·exact .inl h1
   ·exact .inr ⟨(mem_uses h.fit z0).2 ⟨x,⟨k,stp_swap hk⟩,h1⟩,h2⟩
  refine ⟨hl,hf,h.med,hs,fun m hm=>?_,fun m hm hk=>?_,fun m hm=>List.mem_append.2 (.inl (h.sub m hm))⟩
  ·rcases hu m hm with rfl | ⟨h1,h2⟩
   ·exact .inl hc.1
   ·exact h.on m h1
  ·rcases hu m hm with rfl | ⟨h1,h2⟩
   ·exact absurd hc.1 (hK _ hk)
   ·rcases List.mem_append.1 hk with hk | hk
    ·exact h.lf m h1 hk
    ·exact absurd (List.mem_singleton.1 hk) h2
 ·refine ⟨h.lay,h.fit,h.med,h.seq,h.on,fun m hm hk=>?_,fun m hm=>?_⟩
  ·rcases List.mem_append.1 hk with hk | hk
   ·exact List.mem_append.2 (.inl (h.lf m hm hk))
   ·exact List.mem_append.2 (.inr hk)
  ·rcases List.mem_append.1 hm with hm | hm
   ·exact List.mem_append.2 (.inl (h.sub m hm))
   ·exact List.mem_append.2 (.inr hm)
theorem uinv_run {s:StateR} {p:ProjR} (hm:∀ y∈p.media,vName y.name=true):∀ (K K1:List ByteArray) (a:ProjR×List ByteArray),UInv s p K1 a→(∀ x∈K1++K,status s x≠1)→UInv s p (K1++K) (K.foldl (resStep s) a)
 | [],K1,a,h,_=>by rw [List.append_nil];exact h
 | n::K,K1,a,h,hK=>by
  have h1:=uinv_step h (n:=n) (fun x hx=>hK x (by rcases List.mem_append.1 hx with h | h<;>simp_all)) hm
  have h2:=uinv_run hm K (K1 ++ [n]) (resStep s a n) h1 (fun x hx=>hK x (by simpa using hx))
  simpa using h2
theorem usable_law {s:StateR} {p:ProjR} {M N:Nat} (h:SpareP p M N):(usesP (resF s p (sortN (unus s (usesP p s0N).1))).1 s0N).2=0 ∧
  ∀ n∈(usesP (resF s p (sortN (unus s (usesP p s0N).1))).1 s0N).1,(n∈sortN (resF s p (sortN (unus s (usesP p s0N).1))).2 ↔ status s n≠1):=by
 have hmv:∀ y∈p.media,vName y.name=true:=fun y hy=>by
  obtain ⟨i,hi,rfl⟩:=mem_at hy
  have hm:=h.hm
  have:=(h.mok (x:=i) (by omega)).1
  unfold medOk at this
  simp only [Bool.and_eq_true] at this
  exact this.1.1.1.1.1
 have hs0:(seqOf p.seqs s0N).isSome=true:=by
  have hn:=h.hn
  have h1:=h.n1
  have hl:lastOf SequenceR.name (p.seqs.getD 0 default).name p.seqs=_:=lastOf_at h.lay.ns (by omega)
  rw [(h.seq 0 (by omega)).name,s0_eq] at hl
  unfold seqOf
  rw [hl]
  rfl
 have hKs:∀ x∈sortN (unus s (usesP p s0N).1),x∈(usesP p s0N).1∧status s x≠1:=fun x hx=>by
  have:=List.mem_filter.1 ((sortN_perm _).mem_iff.1 hx)
  exact ⟨this.1,of_decide_eq_true this.2⟩
 have h0:UInv s p [] (p,[]):=⟨h.lay,h.fit,rfl,hs0,fun n hn => .inr hn,fun n _ hn=>(by cases hn),fun n hn=>(by cases hn)⟩
 have hR:=uinv_run hmv (sortN (unus s (usesP p s0N).1)) [] (p,[]) h0 (fun x hx=>(hKs x (by simpa using hx)).2)
 rw [List.nil_append] at hR
 unfold resF
 refine ⟨uses_zero hR.lay hR.seq,fun n hn=>?_⟩
 rw [(sortN_perm _).mem_iff]
 constructor
 ·intro hm
  exact (hKs n (hR.sub n hm)).2
 ·intro hst
  refine hR.lf n hn ((sortN_perm _).mem_iff.2 (List.mem_filter.2 ⟨?_,decide_eq_true hst⟩))
  rcases hR.on n hn with h1 | h1
  ·exact absurd h1 hst
  ·exact h1
end Go.Proofs.YtbfnemkngoaeeaaGreat
