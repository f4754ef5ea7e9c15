/- Proved here: What the reference asks of media, sequences and a project's sizes. -/
import Derived.Test.YtbfnemkngoaeeaaGreatQ06
set_option linter.unusedSimpArgs false
set_option linter.unusedVariables false
set_option linter.unnecessarySimpa false
namespace Go.Proofs.YtbfnemkngoaeeaaGreat
open Go.RowKit
set_option maxRecDepth 4000
def Ep {α : Type} (q : α → Bool) (l:List α):Int:=if l.any q then (l.findIdx q:Nat) else -1
theorem aRn {α : Type} [Inhabited α] {q : α → Bool} {l:List α} {k:Nat} (hk:k<l.length) (hi:∀ i,i<k→q (l.getD i default)=false) (h:q (l.getD k default)=true):Ep q l=(k:Int):=by
 have h1:l.any q=true:=by
  rw [List.any_eq_true];exact ⟨_,aP hk,h⟩
 unfold Ep;rw [if_pos h1];congr 1;have:=tY (l:=l) (p:=fun m => !q m) (k:=k) hk (fun i h'=>by rw [hi i h'];rfl) (by rw [h];rfl);simpa using this
def Hc (l:List ClipR):List SourceR:=(l.flatMap fun c=>[c.a,c.b]).filter fun x => !x.isZ
def gA (s:SequenceR):List SourceR:=Hc (dL s)
abbrev tsrcs (l:List SourceR):T := .list 7 (SourceR.c default) (l.map SourceR.c)
abbrev RowS (l:List SourceR):Blk := .row 101 7 (SourceR.c default) (aS (l.map SourceR.c))
abbrev RowTr (l:List (List (List ClipR))):Blk := .row 112 1 [.lit (.slice none 0 0)] (aS (l.map fun x=>[mV x]))
abbrev IM:=List Int
def iE (K:IM):List (Value×V):=K.map fun e=>(Value.int .i64 e,aX true)
def aPm (n:Int):IM→IM
 | []=>[n]
 | e::K=>if n=e then n::K else e::aPm n K
theorem look_I (n:Int):∀ K:IM,sM (.int .i64 n) (iE K)=if n∈K then some (aX true) else none
 | []=>rfl
 | e::K=>by
  have h:=look_I n K;unfold iE at h ⊢;simp only [List.map_cons,sM,tD,decide_eq_true_eq,h,List.mem_cons]
  by_cases h1:n=e
  ·rw [if_pos h1,if_pos (Or.inl h1)]
  ·rw [if_neg h1]
   by_cases h2:n∈K
   ·rw [if_pos h2,if_pos (Or.inr h2)]
   ·rw [if_neg h2,if_neg (fun h=>h.elim h1 h2)]
theorem aJ2:∀ K:IM,kN (.int .i64) (iE K)=true
 | []=>rfl
 | e::K=>by
  have h:=aJ2 K;unfold iE at h ⊢;simp only [List.map_cons,kN,gT,h,Bool.and_true];rfl
theorem Vm:∀ K:IM,uL (iE K)=True
 | []=>rfl
 | e::K=>by
  have h:=Vm K;unfold iE at h ⊢;simp only [List.map_cons,uL,h,and_true];exact eq_true rfl
theorem aM0 (K:IM):(iE K).length=K.length:=List.length_map ..
attribute [go_sem] aJ2 Vm aM0
theorem aCf {n m:Int}:∀ {K:IM},m∈aPm n K ↔ m=n∨m∈K
 | []=>by simp [aPm]
 | e::K=>by
  have ih:=aCf (n:=n) (m:=m) (K:=K);unfold aPm;split
  ·rename_i h;subst h;simp
  ·simp only [List.mem_cons,ih];constructor
   ·rintro (h | h | h)
    ·exact .inr (.inl h)
    ·exact .inl h
    ·exact .inr (.inr h)
   ·rintro (h | h | h)
    ·exact .inr (.inl h)
    ·exact .inl h
    ·exact .inr (.inr h)
def By (p:ProjR) (n:ByteArray):Int:=Ep (fun s:SequenceR=>s.name.toList==n.toList) p.seqs
def lvlS (p:ProjR) (N:IM) (x:SourceR):IM:=if x.kind=2 then aPm (By p x.name) N else N
def lvlI (p:ProjR) (K:IM) (N:IM) (i:Nat):IM:=if (i:Int)∈K then (gA (p.seqs.getD i default)).foldl (lvlS p) N else N
def lvl (p:ProjR) (K:IM):Nat→IM
 | 0=>[]
 | i+1=>lvlI p K (lvl p K i) i
def yN (p:ProjR) (n:Int):Nat→IM
 | 0=>[n]
 | d+1=>lvl p (yN p n d) p.seqs.length
def aA3 (g:Nat→Bool):Nat→Nat→Nat
 | 0,d=>d
 | f+1,d=>if g d=true then d else aA3 g f (d+1)
theorem Ws (g:Nat→Bool):∀ (f d:Nat),d≤aA3 g f d∧aA3 g f d≤d+f∧(∀ e,d≤e→e<aA3 g f d→g e=false)∧(g (aA3 g f d)=true∨aA3 g f d=d+f)
 | 0,d=>⟨Nat.le_refl _,Nat.le_refl _,fun e h1 h2=>absurd h2 (by unfold aA3;omega), .inr rfl⟩
 | f+1,d=>by
  unfold aA3;split
  ·rename_i h;exact ⟨Nat.le_refl _,by omega,fun e h1 h2=>by omega, .inl h⟩
  ·rename_i h;obtain ⟨a1,a2,a3,a4⟩:=Ws g f (d+1);refine ⟨by omega,by omega,fun e h1 h2=>?_,?_⟩
   ·rcases Nat.lt_or_ge d e with h3 | h3
    ·exact a3 e (by omega) h2
    ·have:e=d:=by omega
     subst this;simpa using h
   ·rcases a4 with a4 | a4
    ·exact .inl a4
    ·exact .inr (by omega)
def uT (p:ProjR) (n:Int):Nat:=aA3 (fun d=>(yN p n d).isEmpty) (p.seqs.length+1) 0
def aF9 (p:ProjR) (n:ByteArray):Int:=Ep (fun s:MediumR=>s.name.toList==n.toList) p.media
def Fk (p:ProjR) (x:SourceR):Bool := !((x.kind==1&&decide (aF9 p x.name<0))||(x.kind==2&&decide (By p x.name<0)))
def sY (p:ProjR) (s:SequenceR):Bool:=(gA s).all (Fk p)
def Db (p:ProjR) (i:Nat):Bool:=aF9 p (p.media.getD i default).name==(i:Int)
def Da (p:ProjR) (i:Nat):Bool:=By p (p.seqs.getD i default).name==(i:Int)
structure RefSays (p:ProjR) (r:Int):Prop where
 s5:dQ p=false→r=5
 s1:dQ p=true→(p.media.all fF&&p.seqs.all eK)=false→r=1
 s8:dQ p=true→(p.media.all fF&&p.seqs.all eK)=true→(∃ i,i<p.media.length∧Db p i=false)∨(∃ i,i<p.seqs.length∧Da p i=false)→r=8
 s7:dQ p=true→(p.media.all fF&&p.seqs.all eK)=true→(∀ i,i<p.media.length→Db p i=true)→(∀ i,i<p.seqs.length→Da p i=true)→p.seqs.all (sY p)=false→r=7
 s16:dQ p=true→(p.media.all fF&&p.seqs.all eK)=true→(∀ i,i<p.media.length→Db p i=true)→(∀ i,i<p.seqs.length→Da p i=true)→p.seqs.all (sY p)=true→(∃ i,i<p.seqs.length∧p.seqs.length<uT p (i:Int))→r=16
 s18:dQ p=true→(p.media.all fF&&p.seqs.all eK)=true→(∀ i,i<p.media.length→Db p i=true)→(∀ i,i<p.seqs.length→Da p i=true)→p.seqs.all (sY p)=true→(∀ i,i<p.seqs.length→uT p (i:Int)≤p.seqs.length)→(∃ i,i<p.seqs.length∧5<uT p (i:Int))→r=18
 s0:dQ p=true→(p.media.all fF&&p.seqs.all eK)=true→(∀ i,i<p.media.length→Db p i=true)→(∀ i,i<p.seqs.length→Da p i=true)→p.seqs.all (sY p)=true→(∀ i,i<p.seqs.length→uT p (i:Int)≤p.seqs.length)→(∀ i,i<p.seqs.length→uT p (i:Int)≤5)→r=0
def deepF (p:ProjR):Nat→Bool
 | 0=>false
 | k+1=>deepF p k||decide (5<uT p (k:Int))
theorem bq (a b:ByteArray):(a.toList==b.toList)=true ↔ a=b:=by
 rw [xA,decide_eq_true_eq]
theorem bqf (a b:ByteArray):(a.toList==b.toList)=false ↔ a≠b:=by
 rw [xA,decide_eq_false_iff_not]
theorem aD5 {α : Type} [Inhabited α] {q : α → Bool} {l:List α} (h : 0≤Ep q l):∃ k,k<l.length∧Ep q l=(k:Int)∧q (l.getD k default)=true:=by
 unfold Ep at h ⊢
 by_cases h1:l.any q=true
 ·rw [if_pos h1];obtain ⟨x,hx,hq⟩:=List.any_eq_true.1 h1;have hlt:l.findIdx q<l.length:=List.findIdx_lt_length_of_exists ⟨x,hx,hq⟩;refine ⟨l.findIdx q,hlt,rfl,?_⟩;rw [aU hlt];exact List.findIdx_getElem
 ·rw [if_neg h1] at h;omega
theorem aD6 {α : Type} [Inhabited α] {nm : α → ByteArray} {n:ByteArray} {l:List α}:Ep (fun x=>(nm x).toList==n.toList) l<0 ↔ gY nm n l=none:=by
 rw [gH];constructor
 ·intro h x hx hn;have h1:l.any (fun x=>(nm x).toList==n.toList)=true:=List.any_eq_true.2 ⟨x,hx,(bq _ _).2 hn⟩;unfold Ep at h;rw [if_pos h1] at h;omega
 ·intro h;rcases Int.lt_or_le (Ep (fun x=>(nm x).toList==n.toList) l) 0 with h1 | h1
  ·exact h1
  ·obtain ⟨k,h2,_,h3⟩:=aD5 h1;exact absurd ((bq _ _).1 h3) (h _ (aP h2))
theorem gM {α : Type} [Inhabited α] {nm : α → ByteArray} {l:List α} (h:(l.map nm).Nodup) {i:Nat} (hi:i<l.length):Ep (fun x=>(nm x).toList==(nm (l.getD i default)).toList) l=(i:Int):=by
 refine aRn hi (fun j hj=>?_) ((bq _ _).2 rfl);rw [bqf];intro e;rw [aU hi,aU (show j<l.length by omega)] at e;have:=(List.pairwise_iff_getElem.1 h) j i (by simpa using (show j<l.length by omega)) (by simpa using hi) hj;simp only [List.getElem_map] at this;exact this e
theorem Pf {α : Type} [Inhabited α] {nm : α → ByteArray} {l:List α} (h:∀ i,i<l.length→Ep (fun x=>(nm x).toList==(nm (l.getD i default)).toList) l=(i:Int)):(l.map nm).Nodup:=by
 refine List.pairwise_iff_getElem.2 fun i j hi hj hij e=>?_
 rw [List.length_map] at hi hj;simp only [List.getElem_map] at e;have h1:=h i hi;have h2:=h j hj;rw [aU hj] at h2;rw [aU hi,e,h2] at h1;omega
theorem Cz (p:ProjR):Ba p=true ↔ (p.media.map MediumR.name).Nodup∧(p.seqs.map SequenceR.name).Nodup:=by
 unfold Ba Ty Se;rw [Eb,Eb];have h1:=xF (p.media.map MediumR.name);have h2:=xF (p.seqs.map SequenceR.name);rw [List.length_map] at h1 h2;simp only [Bool.not_eq_true',Bool.or_eq_false_iff,decide_eq_false_iff_not,Int.ofNat_lt,h1,h2,Classical.not_not]
theorem Lw {p:ProjR} (h:(p.media.map MediumR.name).Nodup) {i:Nat} (hi:i<p.media.length):Db p i=true:=by
 unfold Db aF9;rw [gM h hi,beq_self_eq_true]
theorem Lv {p:ProjR} (h:(p.seqs.map SequenceR.name).Nodup) {i:Nat} (hi:i<p.seqs.length):Da p i=true:=by
 unfold Da By;rw [gM h hi,beq_self_eq_true]
theorem aAv (p:ProjR) (x:SourceR):Fk p x=cM p x:=by
 unfold Fk cM aF9 By;have h1:decide (Ep (fun s:MediumR=>s.name.toList==x.name.toList) p.media<0)=(vG p.media x.name).isNone:=by
  rw [Bool.eq_iff_iff,decide_eq_true_eq,Option.isNone_iff_eq_none];exact aD6
 have h2:decide (Ep (fun s:SequenceR=>s.name.toList==x.name.toList) p.seqs<0)=(bZ p.seqs x.name).isNone:=by
  rw [Bool.eq_iff_iff,decide_eq_true_eq,Option.isNone_iff_eq_none];exact aD6
 rw [h1,h2]
theorem yS {x:SourceR} (h:x.isZ=true):x.kind=0:=by
 unfold SourceR.isZ SourceR.eqb at h;simp only [Bool.and_eq_true,beq_iff_eq] at h;exact h.1.1.1.1.1.1
theorem aDh (p:ProjR) (s:SequenceR):sY p s=gZ p s:=by
 rw [Bool.eq_iff_iff];unfold sY gZ gA Hc;rw [List.all_eq_true,List.all_eq_true];constructor
 ·intro h c hc;have key:∀ x:SourceR,(x=c.a∨x=c.b)→cM p x=true:=fun x hx=>by
   rcases hz:x.isZ with _ | _
   ·rw [← aAv];refine h x (List.mem_filter.2 ⟨List.mem_flatMap.2 ⟨c,hc,by simpa using hx⟩,by rw [hz];rfl⟩)
   ·unfold cM;rw [yS hz];rfl
  unfold dB;rw [key _ (.inl rfl),key _ (.inr rfl)];rfl
 ·intro h x hx;obtain ⟨c,hc,hx⟩:=List.mem_flatMap.1 (List.mem_filter.1 hx).1;have:=h c hc;unfold dB at this;rw [Bool.and_eq_true] at this;rw [aAv];simp only [List.mem_cons,List.not_mem_nil,or_false] at hx;rcases hx with rfl | rfl
  ·exact this.1
  ·exact this.2
def Wk (p:ProjR):Nat→ByteArray→Prop
 | 0,_=>True
 | d+1,n => ∃ m,m∈fS p n∧Wk p d m
theorem aK6 {p:ProjR}:∀ {d e:Nat} {n:ByteArray},d≤e→Wk p e n→Wk p d n
 | 0,_,_,_,_=>trivial
 | d+1,0,_,h,_=>absurd h (by omega)
 | d+1,e+1,n,h,⟨m,h1,h2⟩=>⟨m,h1,aK6 (by omega) h2⟩
inductive Rch (p:ProjR):ByteArray→ByteArray→Prop
 | one {m n:ByteArray}:n∈fS p m→Rch p m n
 | snoc {m k n:ByteArray}:Rch p m k→n∈fS p k→Rch p m n
theorem Rch.first {p:ProjR} {m n:ByteArray} (h:Rch p m n):∃ k,k∈fS p m∧(k=n∨Rch p k n):=by
 induction h with
 | one h=>exact ⟨_,h, .inl rfl⟩
 | snoc _ h ih =>
  obtain ⟨k,h1,h2⟩:=ih;rcases h2 with rfl | h2
  ·exact ⟨k,h1, .inr (.one h)⟩
  ·exact ⟨k,h1, .inr (.snoc h2 h)⟩
theorem aE2 {p:ProjR} {n:ByteArray} (h:Rch p n n):∀ (d:Nat) (m:ByteArray),(m=n∨Rch p m n)→Wk p d m
 | 0,_,_=>trivial
 | d+1,m,hm=>by
  have h1:Rch p m n:=by rcases hm with rfl | hm<;>assumption
  obtain ⟨k,h2,h3⟩:=h1.first
  exact ⟨k,h2,aE2 h d k h3⟩
def Cyc (p:ProjR):Prop := ∃ s∈p.seqs, ∀ d,Wk p d s.name
def Fw (l:List SequenceR) (K:KM):Nat:=(l.filter fun s=>decide (0<dP s.name K)).length
theorem Kn {K K':KM} (h:∀ n,0<dP n K→0<dP n K'):∀ l:List SequenceR,Fw l K≤Fw l K'
 | []=>Nat.le_refl _
 | s::l=>by
  have ih:=Kn h l;unfold Fw at ih ⊢;simp only [List.filter_cons]
  by_cases h2 : 0<dP s.name K
  ·rw [decide_eq_true h2,decide_eq_true (h _ h2)];simpa using ih
  ·rw [decide_eq_false h2]
   by_cases h3 : 0<dP s.name K'
   ·rw [decide_eq_true h3];simp;omega
   ·rw [decide_eq_false h3];simpa using ih
theorem aHd {K K':KM} (h:∀ n,0<dP n K→0<dP n K') {n:ByteArray} (h1 : ¬ 0<dP n K) (h2 : 0<dP n K'):∀ {l:List SequenceR},(∃ s∈l,s.name=n)→Fw l K<Fw l K'
 | [],hx=>by obtain ⟨s,hs,_⟩:=hx;cases hs
 | s::l,hx=>by
  have hle:=Kn h l;have ih:=fun h'=>aHd h h1 h2 (l:=l) h'
  unfold Fw at ih hle ⊢;simp only [List.filter_cons]
  by_cases hs:s.name=n
  ·rw [hs,decide_eq_false h1,decide_eq_true h2];simp;omega
  ·have h':∃ s∈l,s.name=n:=by
    obtain ⟨s',h1,h2⟩:=hx;rcases List.mem_cons.1 h1 with rfl | h1
    ·exact absurd h2 hs
    ·exact ⟨s',h1,h2⟩
   have ih:=ih h'
   by_cases h3 : 0<dP s.name K
   ·rw [decide_eq_true h3,decide_eq_true (h _ h3)];simpa using ih
   ·rw [decide_eq_false h3]
    by_cases h4 : 0<dP s.name K'
    ·rw [decide_eq_true h4];simp;omega
    ·rw [decide_eq_false h4];simpa using ih
structure GoodK (p:ProjR) (K:KM):Prop where
 up:∀ n,0<dP n K→Wk p ((dP n K).toNat - 1) n
 dn:∀ n,0<dP n K → ¬ Wk p (dP n K).toNat n
 le:∀ n,0<dP n K→dP n K≤Fw p.seqs K
structure Stp (K K':KM):Prop where
 pos:∀ n,0<dP n K→0<dP n K'
 neg:∀ n,dP n K'<0 ↔ dP n K<0
theorem Stp.refl (K:KM):Stp K K:=⟨fun _ h=>h,fun _=>Iff.rfl⟩
theorem Stp.trans {a b c:KM} (h:Stp a b) (h':Stp b c):Stp a c:=⟨fun n hn=>h'.pos n (h.pos n hn),fun n=>(h'.neg n).trans (h.neg n)⟩
def SpecF (p:ProjR) (n:ByteArray) (K:KM) (r:Int×KM):Prop:=(r.1=0→Cyc p)∧(r.1≠0→0<r.1∧r.1=dP n r.2∧GoodK p r.2∧Stp K r.2)
theorem Js {p:ProjR} (hlen:p.seqs.length≤16) {f:Nat} (hgo:∀ x K,(bZ p.seqs x).isSome=true→unk p.seqs K<f→GoodK p K→(∀ m,dP m K<0→Rch p m x)→SpecF p x K (bE p f x K)) :
  ∀ (xs:List ByteArray) (K:KM) (l:Int),(∀ x∈xs,(bZ p.seqs x).isSome=true)→unk p.seqs K<f→GoodK p K→(∀ m,dP m K<0 → ∀ x∈xs,Rch p m x)→1≤l→l≤Fw p.seqs K+1 →
  ((bH (bE p f) xs K l).1=false→Cyc p)∧((bH (bE p f) xs K l).1=true →
   GoodK p (bH (bE p f) xs K l).2.2∧Stp K (bH (bE p f) xs K l).2.2∧l≤(bH (bE p f) xs K l).2.1∧(bH (bE p f) xs K l).2.1≤Fw p.seqs (bH (bE p f) xs K l).2.2+1 ∧
   (∀ x∈xs, ∃ v:Nat, ¬ Wk p v x∧(v:Int)+1≤(bH (bE p f) xs K l).2.1) ∧
   ((bH (bE p f) xs K l).2.1=l ∨ ∃ x∈xs,2≤(bH (bE p f) xs K l).2.1∧Wk p ((bH (bE p f) xs K l).2.1.toNat - 2) x))
 | [],K,l,_,_,hG,_,h1,h2=>by
  refine ⟨fun h=>(by cases h),fun _=>⟨hG,Stp.refl K,Int.le_refl _,h2,fun x hx=>(by cases hx), .inl rfl⟩⟩
 | x::xs,K,l,hS,hu,hG,hR,h1,h2=>by
  obtain ⟨s1,s2⟩:=hgo x K (hS x (by simp)) hu hG (fun m hm=>hR m hm x (by simp));obtain ⟨r,hr⟩:∃ r,r=bE p f x K:=⟨_,rfl⟩
  have hgr:grows K r.2:=by rw [hr];exact rL p f x K
  rw [← hr] at s1 s2;unfold bH;rw [← hr]
  by_cases h0:r.1=0
  ·rw [if_pos h0];exact ⟨fun _=>s1 h0,fun h=>by cases h⟩
  ·rw [if_neg h0];obtain ⟨t1,t2,t3,t4⟩:=s2 h0;have hv : 0<dP x r.2:=by omega
   have hle:=t3.le x hv;have hpl:Fw p.seqs r.2≤16:=Nat.le_trans (List.length_filter_le _ _) hlen;have hmono:Fw p.seqs K≤Fw p.seqs r.2:=Kn t4.pos _;have hw:IntKind.i64.wrap (r.1+1)=r.1+1:=wrap64 (by omega) (by omega);rw [hw];obtain ⟨c1,c2⟩:=Js hlen hgo xs r.2 (max l (r.1+1)) (fun y hy=>hS y (by simp [hy])) (Nat.lt_of_le_of_lt (Lu hgr _) hu) t3
    (fun m hm y hy=>hR m ((t4.neg m).1 hm) y (by simp [hy])) (by omega) (by omega)
   refine ⟨c1,fun h=>?_⟩;obtain ⟨d1,d2,d3,d4,d5,d6⟩:=c2 h;have hx0 : ¬ Wk p r.1.toNat x:=by have:=t3.dn x hv;rw [← t2] at this;exact this
   have hx1:Wk p (r.1.toNat - 1) x:=by have:=t3.up x hv;rw [← t2] at this;exact this
   refine ⟨d1,t4.trans d2,by omega,d4,fun y hy=>?_,?_⟩
   ·rcases List.mem_cons.1 hy with rfl | hy
    ·exact ⟨r.1.toNat,hx0,by omega⟩
    ·exact d5 y hy
   ·rcases d6 with d6 | ⟨y,hy,d6,d7⟩
    ·rcases Int.le_total (r.1+1) l with h3 | h3
     ·exact .inl (by omega)
     ·refine .inr ⟨x,by simp,by omega,?_⟩;have e:(bH (bE p f) xs r.2 (max l (r.1+1))).2.1.toNat - 2=r.1.toNat - 1:=by omega
      rw [e];exact hx1
    ·exact .inr ⟨y,by simp [hy],d6,d7⟩
theorem Jt {p:ProjR} (hlen:p.seqs.length≤16) (hp:ShownOk p):∀ (f:Nat) (n:ByteArray) (K:KM),(bZ p.seqs n).isSome=true→unk p.seqs K<f→GoodK p K→(∀ m,dP m K<0→Rch p m n)→SpecF p n K (bE p f n K)
 | 0,_,_,_,h,_,_=>absurd h (Nat.not_lt_zero _)
 | f+1,n,K,hs,hu,hG,hR=>by
  obtain ⟨s,hsn⟩:=Option.isSome_iff_exists.1 hs;obtain ⟨hsm,hsname⟩:=jS hsn;have hin:fS p n=uN s 2:=by unfold fS;rw [hsn];rfl
  have hthere:∀ x∈fS p n,(bZ p.seqs x).isSome=true:=fun x hx=>hp.there s hsm x (wN.1 (hin ▸ hx))
  unfold bE
  by_cases hv:dP n K=0
  ·rw [if_neg (fun h=>h hv)];obtain ⟨K1,hK1⟩:∃ K1,K1=pD n (-1) K:=⟨_,rfl⟩
   have hval:∀ m,dP m K1=if m=n then -1 else dP m K:=fun m=>by rw [hK1,xQ]
   have hu1:unk p.seqs K1<f:=by rw [hK1];exact Nat.lt_of_lt_of_le (Xs (by decide) hv ⟨s,hsm,hsname⟩) (Nat.le_of_lt_succ hu)
   have hp1:∀ m,0<dP m K→0<dP m K1:=fun m hm=>by
    rw [hval,if_neg (fun e=>by subst e;omega)];exact hm
   have hp1':∀ m,0<dP m K1→m≠n∧dP m K1=dP m K:=fun m hm=>by
    rw [hval] at hm ⊢
    by_cases e:m=n
    ·rw [if_pos e] at hm;omega
    ·rw [if_neg e];exact ⟨e,rfl⟩
   have hG1:GoodK p K1:=by
    refine ⟨fun m hm=>?_,fun m hm=>?_,fun m hm=>?_⟩
    ·obtain ⟨_,e⟩:=hp1' m hm;rw [e] at hm ⊢;exact hG.up m hm
    ·obtain ⟨_,e⟩:=hp1' m hm;rw [e] at hm ⊢;exact hG.dn m hm
    ·obtain ⟨_,e⟩:=hp1' m hm;rw [e] at hm ⊢;have a1:=hG.le m hm;have a2:=Kn hp1 p.seqs;omega
   rw [← hK1];obtain ⟨c1,c2⟩:=Js hlen (Jt hlen hp f) (fS p n) K1 1 hthere hu1 hG1 (fun m hm x hx=>by
    rw [hval] at hm
    by_cases e:m=n
    ·subst e;exact .one hx
    ·rw [if_neg e] at hm;exact .snoc (hR m hm) hx) (Int.le_refl _) (by omega)
   obtain ⟨c,hc⟩:∃ c,c=bH (bE p f) (fS p n) K1 1:=⟨_,rfl⟩
   rw [← hc] at c1 c2;rw [← hc]
   by_cases h1:c.1=true
   ·rw [if_pos h1];obtain ⟨d1,d2,d3,d4,d5,d6⟩:=c2 h1;refine ⟨fun h=>by simp only at h;omega,fun _=>?_⟩;have hval2:∀ m,dP m (pD n c.2.1 c.2.2)=if m=n then c.2.1 else dP m c.2.2:=fun m=>by rw [xQ]
    have hneg:dP n c.2.2<0:=(d2.neg n).2 (by rw [hval,if_pos rfl];decide);have hpp:∀ m,0<dP m c.2.2→0<dP m (pD n c.2.1 c.2.2):=fun m hm=>by
     rw [hval2];split
     ·omega
     ·exact hm
    have hlt:=aHd hpp (n:=n) (by omega) (by rw [hval2,if_pos rfl];omega) (l:=p.seqs) ⟨s,hsm,hsname⟩;have hup:Wk p (c.2.1.toNat - 1) n:=by
     rcases d6 with d6 | ⟨x,hx,d6,d7⟩
     ·rw [d6];exact trivial
     ·have e:c.2.1.toNat - 1=(c.2.1.toNat - 2)+1:=by omega
      rw [e];exact ⟨x,hx,d7⟩
    have hdn : ¬ Wk p c.2.1.toNat n:=by
     have e:c.2.1.toNat=(c.2.1.toNat - 1)+1:=by omega
     rw [e];rintro ⟨x,hx,hw⟩;obtain ⟨v,hv1,hv2⟩:=d5 x hx;exact hv1 (aK6 (by omega) hw)
    refine ⟨by simp only;omega,by simp only;rw [hval2,if_pos rfl],⟨fun m hm=>?_,fun m hm=>?_,fun m hm=>?_⟩,⟨fun m hm=>?_,fun m=>?_⟩⟩
    ·simp only at hm ⊢;rw [hval2] at hm ⊢
     by_cases e:m=n
     ·rw [if_pos e,e];exact hup
     ·rw [if_neg e] at hm ⊢; exact d1.up m hm
    ·simp only at hm ⊢;rw [hval2] at hm ⊢
     by_cases e:m=n
     ·rw [if_pos e,e];exact hdn
     ·rw [if_neg e] at hm ⊢; exact d1.dn m hm
    ·simp only at hm ⊢;rw [hval2] at hm ⊢
     by_cases e:m=n
     ·rw [if_pos e];omega
     ·rw [if_neg e] at hm ⊢;have:=d1.le m hm;omega
    ·exact hpp m (d2.pos m (hp1 m hm))
    ·simp only;rw [hval2]
     by_cases e:m=n
     ·rw [if_pos e,e];omega
     ·rw [if_neg e,d2.neg m,hval,if_neg e]
   ·rw [if_neg h1];exact ⟨fun _=>c1 (by simpa using h1),fun h=>absurd rfl h⟩
  ·rw [if_pos hv];refine ⟨fun h=>?_,fun h=>?_⟩
   ·simp only at h;have h1:dP n K<0:=by omega
    exact ⟨s,hsm,fun d=>by rw [hsname];exact aE2 (hR n h1) d n (.inl rfl)⟩
   ·simp only at h ⊢;exact ⟨by omega,by omega,hG,Stp.refl K⟩
theorem zB {p:ProjR} (hlen:p.seqs.length≤16) (hp:ShownOk p):∀ (xs:List SequenceR) (K:KM),(∀ s∈xs,s∈p.seqs)→GoodK p K→(∀ m, ¬ dP m K<0) →
  ((cH p xs K).1=false→Cyc p)∧((cH p xs K).1=true→GoodK p (cH p xs K).2∧Stp K (cH p xs K).2 ∧ ∀ s∈xs,0<dP s.name (cH p xs K).2)
 | [],K,_,hG,_=>⟨fun h=>(by cases h),fun _=>⟨hG,Stp.refl K,fun s hs=>(by cases hs)⟩⟩
 | s::xs,K,hm,hG,hN=>by
  have hseq:(bZ p.seqs s.name).isSome=true:=by
   cases h9:bZ p.seqs s.name with
   | none=>exact absurd rfl (gH.1 h9 s (hm s (by simp)))
   | some _=>rfl
  obtain ⟨s1,s2⟩:=Jt hlen hp (p.seqs.length+1) s.name K hseq (Nat.lt_succ_of_le (List.length_filter_le _ _)) hG (fun m h=>absurd h (hN m));unfold cH
  by_cases h0:(bE p (p.seqs.length+1) s.name K).1=0
  ·rw [if_pos h0];exact ⟨fun _=>s1 h0,fun h=>by cases h⟩
  ·rw [if_neg h0];obtain ⟨t1,t2,t3,t4⟩:=s2 h0;obtain ⟨c1,c2⟩:=zB hlen hp xs _ (fun s hs=>hm s (by simp [hs])) t3 (fun m h=>hN m ((t4.neg m).1 h));refine ⟨c1,fun h=>?_⟩;obtain ⟨d1,d2,d3⟩:=c2 h;refine ⟨d1,t4.trans d2,fun y hy=>?_⟩;rcases List.mem_cons.1 hy with rfl | hy
   ·exact d2.pos _ (by omega)
   ·exact d3 y hy
theorem yL {p:ProjR} {j:Int}:∀ {L:List SourceR} {N:IM},j∈L.foldl (lvlS p) N ↔ j∈N ∨ ∃ x∈L,x.kind=2∧j=By p x.name
 | [],N=>by simp
 | x::L,N=>by
  rw [List.foldl_cons,yL (L:=L)];unfold lvlS
  by_cases h:x.kind=2
  ·rw [if_pos h,aCf];constructor
   ·rintro ((h1 | h1) | ⟨y,h1,h2⟩)
    ·exact .inr ⟨x,by simp,h,h1⟩
    ·exact .inl h1
    ·exact .inr ⟨y,by simp [h1],h2⟩
   ·rintro (h1 | ⟨y,h1,h2⟩)
    ·exact .inl (.inr h1)
    ·rcases List.mem_cons.1 h1 with rfl | h1
     ·exact .inl (.inl h2.2)
     ·exact .inr ⟨y,h1,h2⟩
  ·rw [if_neg h];constructor
   ·rintro (h1 | ⟨y,h1,h2⟩)
    ·exact .inl h1
    ·exact .inr ⟨y,by simp [h1],h2⟩
   ·rintro (h1 | ⟨y,h1,h2⟩)
    ·exact .inl h1
    ·rcases List.mem_cons.1 h1 with rfl | h1
     ·exact absurd h2.1 h
     ·exact .inr ⟨y,h1,h2⟩
theorem Kr {p:ProjR} {K:IM} {j:Int}:∀ {n:Nat},j∈lvl p K n ↔ ∃ i,i<n∧(i:Int)∈K ∧ ∃ x∈gA (p.seqs.getD i default),x.kind=2∧j=By p x.name
 | 0=>by
  constructor
  ·intro h;cases h
  ·rintro ⟨i,h,_⟩;omega
 | n+1=>by
  have ih:=Kr (p:=p) (K:=K) (j:=j) (n:=n);unfold lvl lvlI
  by_cases h:(n:Int)∈K
  ·rw [if_pos h,yL,ih];constructor
   ·rintro (⟨i,h1,h2⟩ | h2)
    ·exact ⟨i,by omega,h2⟩
    ·exact ⟨n,by omega,h,h2⟩
   ·rintro ⟨i,h1,h2,h3⟩;rcases Nat.lt_or_ge i n with h4 | h4
    ·exact .inl ⟨i,h4,h2,h3⟩
    ·have:i=n:=by omega
     subst this;exact .inr h3
  ·rw [if_neg h,ih];constructor
   ·rintro ⟨i,h1,h2⟩;exact ⟨i,by omega,h2⟩
   ·rintro ⟨i,h1,h2,h3⟩;rcases Nat.lt_or_ge i n with h4 | h4
    ·exact ⟨i,h4,h2,h3⟩
    ·have:i=n:=by omega
     subst this;exact absurd h2 h
theorem Vy {s:SequenceR} {m:ByteArray}:m∈dX 2 (dL s) ↔ ∃ x∈gA s,x.kind=2∧x.name=m:=by
 unfold dX gA Hc;rw [List.mem_map];constructor
 ·rintro ⟨x,h1,h2⟩;rw [List.mem_filter] at h1;have hk:x.kind=2:=by simpa using h1.2
  refine ⟨x,List.mem_filter.2 ⟨h1.1,?_⟩,hk,h2⟩;rcases hz:x.isZ with _ | _
  ·rfl
  ·rw [yS hz] at hk;cases hk
 ·rintro ⟨x,h1,h2,h3⟩;rw [List.mem_filter] at h1;exact ⟨x,List.mem_filter.2 ⟨h1.1,by rw [h2];rfl⟩,h3⟩
structure NetOk (p:ProjR):Prop where
 nd:(p.seqs.map SequenceR.name).Nodup
 th:∀ s∈p.seqs, ∀ x∈gA s,x.kind=2→0≤By p x.name
theorem aP4 {p:ProjR} (h:NetOk p) {i:Nat} (hi:i<p.seqs.length):bZ p.seqs (p.seqs.getD i default).name=some (p.seqs.getD i default):=by
 cases e:bZ p.seqs (p.seqs.getD i default).name with
 | none=>exact absurd rfl (gH.1 e _ (aP hi))
 | some s =>
  obtain ⟨h1,h2⟩:=jS e;obtain ⟨j,hj,rfl⟩:=List.getElem_of_mem h1;have a1:=gM h.nd hi;have a2:=gM h.nd hj;rw [aU hj,h2,a1] at a2;have:i=j:=by omega
  subst this;rw [aU hi]
theorem Ae {p:ProjR} (h:NetOk p) {i:Nat} (hi:i<p.seqs.length) {m:ByteArray}:m∈fS p (p.seqs.getD i default).name ↔ ∃ x∈gA (p.seqs.getD i default),x.kind=2∧x.name=m:=by
 unfold fS;rw [aP4 h hi,wN];exact Vy
theorem Yb {p:ProjR} {n:ByteArray} (h : 0≤By p n):∃ k,k<p.seqs.length∧By p n=(k:Int)∧(p.seqs.getD k default).name=n:=by
 unfold By at h ⊢;obtain ⟨k,h1,h2,h3⟩:=aD5 h;exact ⟨k,h1,h2,(bq _ _).1 h3⟩
def aB4 (p:ProjR) (K:IM) (d:Nat):Prop := ∃ i,i<p.seqs.length∧(i:Int)∈K∧Wk p d (p.seqs.getD i default).name
theorem aEj {p:ProjR} (h:NetOk p) {K:IM} {d:Nat}:aB4 p K (d+1) ↔ aB4 p (lvl p K p.seqs.length) d:=by
 constructor
 ·rintro ⟨i,hi,hK,m,hm,hw⟩;obtain ⟨x,hx,hk,rfl⟩:=(Ae h hi).1 hm;obtain ⟨k,h1,h2,h3⟩:=Yb (h.th _ (aP hi) x hx hk);exact ⟨k,h1,Kr.2 ⟨i,hi,hK,x,hx,hk,h2.symm⟩,by rw [h3];exact hw⟩
 ·rintro ⟨k,hk,hL,hw⟩;obtain ⟨i,hi,hK,x,hx,hk2,he⟩:=Kr.1 hL;obtain ⟨k',h1,h2,h3⟩:=Yb (h.th _ (aP hi) x hx hk2);have:k=k':=by omega
  subst this;exact ⟨i,hi,hK,x.name,(Ae h hi).2 ⟨x,hx,hk2,rfl⟩,by rw [← h3];exact hw⟩
theorem aCn {p:ProjR} (h:NetOk p) (n:Int):∀ (e d:Nat),aB4 p (yN p n 0) (d+e) ↔ aB4 p (yN p n e) d
 | 0,d=>Iff.rfl
 | e+1,d=>by
  rw [show d+(e+1)=(d+1)+e by omega,aCn h n e (d+1),aEj h];rfl
theorem Wc {p:ProjR} (h:NetOk p) {i:Nat} (hi:i<p.seqs.length) (e:Nat):yN p (i:Int) e ≠ [] ↔ Wk p e (p.seqs.getD i default).name:=by
 have h0:aB4 p (yN p (i:Int) 0) e ↔ Wk p e (p.seqs.getD i default).name:=by
  constructor
  ·rintro ⟨k,_,hk,hw⟩;have:k=i:=by have:=List.mem_singleton.1 hk;omega
   subst this;exact hw
  ·intro hw;exact ⟨i,hi,by simp [yN],hw⟩
 rw [← h0];have h1:=aCn h (i:Int) e 0;rw [Nat.zero_add] at h1;rw [h1];constructor
 ·intro hne;obtain ⟨j,hj⟩:=List.exists_mem_of_ne_nil _ hne;have hv:∃ k:Nat,k<p.seqs.length∧j=(k:Int):=by
   cases e with
   | zero =>
    have:j=(i:Int):=List.mem_singleton.1 hj;exact ⟨i,hi,this⟩
   | succ e =>
    obtain ⟨i',hi',_,x,hx,hk2,he⟩:=Kr.1 hj;obtain ⟨k,a1,a2,_⟩:=Yb (h.th _ (aP hi') x hx hk2);exact ⟨k,a1,by omega⟩
  obtain ⟨k,hk,rfl⟩:=hv;exact ⟨k,hk,hj,trivial⟩
 ·rintro ⟨k,_,hk,_⟩ hnil;rw [hnil] at hk;cases hk
theorem wY {p:ProjR} (h:NetOk p) {i:Nat} (hi:i<p.seqs.length):(∀ e,e<uT p (i:Int)→Wk p e (p.seqs.getD i default).name)∧uT p (i:Int)≤p.seqs.length+1∧(¬ Wk p (uT p (i:Int)) (p.seqs.getD i default).name∨uT p (i:Int)=p.seqs.length+1):=by
 obtain ⟨_,a2,a3,a4⟩:=Ws (fun d=>(yN p (i:Int) d).isEmpty) (p.seqs.length+1) 0;refine ⟨fun e he=>(Wc h hi e).1 fun h0=>?_,by unfold uT;omega,?_⟩
 ·have:=a3 e (Nat.zero_le _) he;rw [h0] at this;cases this
 ·rcases a4 with a4 | a4
  ·refine .inl fun hw=>(Wc h hi _).2 hw (List.isEmpty_iff.1 a4)
  ·exact .inr (by unfold uT;omega)
theorem aCx (p:ProjR):GoodK p []:=⟨fun _ h=>absurd h (Int.lt_irrefl 0),fun _ h=>absurd h (Int.lt_irrefl 0),fun _ h=>absurd h (Int.lt_irrefl 0)⟩
theorem aH5 (p:ProjR):RefSays p (cK p):=by
 have small:dQ p=true→p.seqs.length≤16:=fun h=>by
  unfold dQ at h;simp only [Bool.and_eq_true,decide_eq_true_eq] at h;omega
 have uq:(∀ i,i<p.media.length→Db p i=true)→(∀ i,i<p.seqs.length→Da p i=true)→Ba p=true:=fun h1 h2=>by
  rw [Cz];refine ⟨Pf fun i hi=>?_,Pf fun i hi=>?_⟩
  ·have:=h1 i hi;unfold Db aF9 at this;simpa using this
  ·have:=h2 i hi;unfold Da By at this;simpa using this
 have cc:sY p=gZ p:=funext (aDh p);have net:dQ p=true→(p.media.all fF&&p.seqs.all eK)=true→Ba p=true→p.seqs.all (gZ p)=true→NetOk p:=fun hS hO hU hC=>by
  refine ⟨((Cz p).1 hU).2,fun s hs x hx hk=>?_⟩;have h1:=List.all_eq_true.1 hC s hs;rw [← aDh] at h1;have h2:=List.all_eq_true.1 h1 x hx;unfold Fk at h2;rw [hk] at h2;simp only [Bool.not_eq_true',Bool.or_eq_false_iff,Bool.and_eq_false_iff,decide_eq_false_iff_not] at h2;rcases h2.2 with h3 | h3
  ·cases h3
  ·omega
 have chains:dQ p=true→(p.media.all fF&&p.seqs.all eK)=true→Ba p=true→p.seqs.all (gZ p)=true →
   ((cH p p.seqs []).1=false → ∃ i,i<p.seqs.length∧p.seqs.length<uT p (i:Int)) ∧
   ((cH p p.seqs []).1=true → ∀ i,i<p.seqs.length→(uT p (i:Int):Int)=dP (p.seqs.getD i default).name (cH p p.seqs []).2∧uT p (i:Int)≤p.seqs.length):=fun hS hO hU hC=>by
  have hN:=net hS hO hU hC;have hSh:=Mp hS hO hC;obtain ⟨c1,c2⟩:=zB (small hS) hSh p.seqs [] (fun s hs=>hs) (aCx p) (fun _ h=>absurd h (Int.lt_irrefl 0));refine ⟨fun h=>?_,fun h i hi=>?_⟩
  ·obtain ⟨s,hs,hw⟩:=c1 h;obtain ⟨i,hi,rfl⟩:=List.getElem_of_mem hs;obtain ⟨d1,d2,d3⟩:=wY hN hi;rw [aU hi] at d3;refine ⟨i,hi,?_⟩;rcases d3 with d3 | d3
   ·exact absurd (hw _) d3
   ·omega
  ·obtain ⟨e1,e2,e3⟩:=c2 h;obtain ⟨d1,d2,d3⟩:=wY hN hi;have hv:=e3 (p.seqs.getD i default) (aP hi);have g1:=e1.up _ hv;have g2:=e1.dn _ hv;have g3:=e1.le _ hv;have g4:Fw p.seqs (cH p p.seqs []).2≤p.seqs.length:=List.length_filter_le _ _;obtain ⟨v,hvv⟩:∃ v,v=dP (p.seqs.getD i default).name (cH p p.seqs []).2:=⟨_,rfl⟩
   rw [← hvv] at hv g1 g2 g3 ⊢;have k1:uT p (i:Int)≤v.toNat:=Nat.le_of_not_lt fun hlt=>g2 (d1 _ hlt)
   have k2:v.toNat≤uT p (i:Int):=by
    rcases d3 with d3 | d3
    ·exact Nat.le_of_not_lt fun hlt=>d3 (aK6 (by omega) g1)
    ·omega
   omega
 refine ⟨fun h=>?_,fun hS h=>?_,fun hS hO h=>?_,fun hS hO h1 h2 h=>?_,fun hS hO h1 h2 h3 h=>?_,fun hS hO h1 h2 h3 h4 h=>?_,fun hS hO h1 h2 h3 h4 h=>?_⟩
 ·unfold cK;rw [if_pos h]
 ·unfold cK;rw [hS,h];rfl
 ·have hU:Ba p=false:=by
   cases e:Ba p with
   | false=>rfl
   | true =>
    obtain ⟨n1,n2⟩:=(Cz p).1 e;rcases h with ⟨i,hi,h⟩ | ⟨i,hi,h⟩
    ·rw [Lw n1 hi] at h;cases h
    ·rw [Lv n2 hi] at h;cases h
  unfold cK;rw [hS,hO,hU];rfl
 ·rw [cc] at h;unfold cK;rw [hS,hO,uq h1 h2,h];rfl
 ·rw [cc] at h3;obtain ⟨i,hi,h⟩:=h;obtain ⟨c1,c2⟩:=chains hS hO (uq h1 h2) h3;have hA:(cH p p.seqs []).1=false:=by
   cases e:(cH p p.seqs []).1 with
   | false=>rfl
   | true=>have:=(c2 e i hi).2;omega
  unfold cK;rw [hS,hO,uq h1 h2,h3,hA];rfl
 ·rw [cc] at h3;obtain ⟨i,hi,h⟩:=h;obtain ⟨c1,c2⟩:=chains hS hO (uq h1 h2) h3;have hA:(cH p p.seqs []).1=true:=by
   cases e:(cH p p.seqs []).1 with
   | true=>rfl
   | false=>obtain ⟨j,hj,hj2⟩:=c1 e;have:=h4 j hj;omega
  have hD:p.seqs.all (yX (cH p p.seqs []).2)=false:=by
   refine fY (d:=default) (k:=i) hi ?_;unfold yX;rw [← (c2 hA i hi).1,decide_eq_false_iff_not];omega
  unfold cK;rw [hS,hO,uq h1 h2,h3,hA,hD];rfl
 ·rw [cc] at h3;obtain ⟨c1,c2⟩:=chains hS hO (uq h1 h2) h3;have hA:(cH p p.seqs []).1=true:=by
   cases e:(cH p p.seqs []).1 with
   | true=>rfl
   | false=>obtain ⟨j,hj,hj2⟩:=c1 e;have:=h4 j hj;omega
  have hD:p.seqs.all (yX (cH p p.seqs []).2)=true:=by
   refine cU (d:=default) fun i hi=>?_
   unfold yX;rw [← (c2 hA i hi).1,decide_eq_true_eq];have:=h i hi;omega
  unfold cK;rw [hS,hO,uq h1 h2,h3,hA,hD];rfl
def aMe (s:SourceR):Nat:=s.pos.den.toNat
def aMd (s:SourceR):Nat:=s.speed.den.toNat
def aW (s:SourceR):Nat:=Nat.lcm (aMe s) (aMd s)
def atS (s:SourceR):Int:=s.pos.num*((aW s / aMe s:Nat):Int)
def mH (s:SourceR):Int:=s.speed.num*((aW s / aMd s:Nat):Int)
def dJ (s:SourceR) (k:Int):Int:=atS s+k*mH s
def Zt (num den:Int):Int:=((Nat.gcd num.natAbs den.natAbs:Nat):Int)
def eM:ExprR→ExprR
 | .mk op media frame num den param text args=>Ka op media frame num den param text args
def pA (op param num den:Int) (a b:ExprR):ExprR := .mk op ⟨#[]⟩ 0 (num / Zt num den) (den / Zt num den) param ⟨#[]⟩ [a,b]
def fC (R:ExprR→ExprR) (F:SourceR→Int→ExprR) (s:SourceR) (k:Int):ExprR :=
 if s.kind=0 then hZ
 else if s.smooth=true∧dJ s k % (aW s:Int)≠0 then
  R (pA 2 0 (dJ s k % (aW s:Int)) (aW s) (F s (dJ s k / (aW s:Int))) (F s (dJ s k / (aW s:Int)+1)))
 else F s (dJ s k / (aW s:Int))
def mQ (R:ExprR→ExprR) (F:SourceR→Int→ExprR) (c:ClipR) (k:Int):ExprR :=
 if c.kind=1 then fC R F c.a k
 else if c.kind=5 then .mk 5 ⟨#[]⟩ 0 0 0 0 c.text [fC R F c.a k]
 else if c.kind=4 then R (.mk 4 ⟨#[]⟩ 0 0 0 c.param ⟨#[]⟩ [fC R F c.a k,fC R F c.b k])
 else R (pA c.kind c.param (c.off+k+1) (c.total+1) (fC R F c.a k) (fC R F c.b k))
def Az (t:List ClipR) (n:Int):Option (ClipR×Int) :=
 if 0≤n∧(dZ t 0 n).2.2=true∧(t.getD (dZ t 0 n).1.toNat default).kind≠0 then some (t.getD (dZ t 0 n).1.toNat default,(dZ t 0 n).2.1) else none
def uX (n:Int):List (List ClipR)→Option (ClipR×Int)
 | []=>none
 | t::ts=>match Az t n with
  | some r=>some r
  | none=>uX n ts
def aQj (p:ProjR) (n:ByteArray):Int:=match vG p.media n with
 | some m=>m.frames
 | none=>0
def kU (p:ProjR) (G:ByteArray→Int→ExprR) (s:SourceR) (i:Int):ExprR :=
 if s.kind=2 then G s.name i
 else if i<0∨aQj p s.name≤i then hZ else .mk 1 s.name i 0 0 0 ⟨#[]⟩ []
def Bc (R:ExprR→ExprR) (F:SourceR→Int→ExprR):Option (ClipR×Int)→ExprR
 | some x=>mQ R F x.1 x.2
 | none=>hZ
def rV (p:ProjR) (n:ByteArray):List (List ClipR):=((bZ p.seqs n).getD default).video
def nY (R:ExprR→ExprR) (p:ProjR):Nat→ByteArray→Int→ExprR
 | 0,_,_=>hZ
 | d+1,name,n=>Bc R (kU p (nY R p d)) (uX n (rV p name).reverse)
def goodE (e:ExprR):Prop:=aE7 e=true∧e.fit
theorem posS_eq {s:SourceR} {p d:Nat} (h:SrcOk s p d) (k:Int):aW s=Nat.lcm p d∧dJ s k=Dx s k p d:=by
 have e1:aMe s=p:=by unfold aMe;rw [h.hp];rfl
 have e2:aMd s=d:=by unfold aMd;rw [h.hd];rfl
 refine ⟨by unfold aW;rw [e1,e2],?_⟩;unfold dJ atS mH Dx aW;rw [e1,e2,Int.mul_assoc]
theorem Zd {s:SourceR} (hv:aY s=true) (h:s.kind≠0):∃ p d,SrcOk s p d:=jN hv (by
 cases hz:s.isZ with
 | false=>rfl
 | true=>exact absurd (yS hz) h)
theorem aR3 {t:List ClipR} {n:Int} {c:ClipR} {k:Int} (hv:∀ c∈t,1≤c.len) (h:Az t n=some (c,k)):c∈t∧c.kind≠0∧0≤k∧k<c.len:=by
 have key:∀ (l:List ClipR) (i:Nat) (n:Int),(∀ c∈l,1≤c.len)→0≤n→(dZ l i n).2.2=true → ∃ j,j<l.length∧(dZ l i n).1=((i+j:Nat):Int)∧0≤(dZ l i n).2.1∧(dZ l i n).2.1<(l.getD j default).len:=by
  intro l
  induction l with
  | nil=>intro i n _ _ h;cases h
  | cons x l ih =>
   intro i n hl hn h;rw [sU] at h ⊢
   by_cases hx:n<x.len
   ·rw [if_pos hx];exact ⟨0,by simp,rfl,hn,by simpa using hx⟩
   ·rw [if_neg hx] at h ⊢;obtain ⟨j,h1,h2,h3,h4⟩:=ih (i+1) (n - x.len) (fun c hc=>hl c (by simp [hc])) (by omega) h;exact ⟨j+1,by simpa using h1,by rw [h2];congr 1;omega,h3,by simpa using h4⟩
 unfold Az at h;split at h
 ·rename_i hh;obtain ⟨h0,h1,h2⟩:=hh;obtain ⟨j,q1,q2,q3,q4⟩:=key t 0 n hv h0 h1;have e:(dZ t 0 n).1.toNat=j:=by omega
  rw [e] at h h2;injection h with h;injection h with h3 h4;subst h3 h4;exact ⟨aP q1,h2,q3,q4⟩
 ·cases h
theorem Mb {n:Int} {c:ClipR} {k:Int}:∀ {l:List (List ClipR)},(∀ t∈l, ∀ c∈t,1≤c.len)→uX n l=some (c,k)→(∃ t∈l,c∈t)∧c.kind≠0∧0≤k∧k<c.len
 | [],_,h=>by cases h
 | t::l,hv,h=>by
  unfold uX at h;split at h
  ·rename_i r hr;injection h with h;subst h;obtain ⟨h1,h2⟩:=aR3 (hv t (by simp)) hr;exact ⟨⟨t,by simp,h1⟩,h2⟩
  ·obtain ⟨⟨t',h1,h2⟩,h3⟩:=Mb (fun t ht=>hv t (by simp [ht])) h;exact ⟨⟨t',by simp [h1],h2⟩,h3⟩
structure FilmOk (p:ProjR):Prop where
 small:dQ p=true
 fit:p.fit
 med:∀ m∈p.media,fF m=true
 seq:∀ s∈p.seqs,eK s=true
 compl:∀ s∈p.seqs,gZ p s=true
 uniq:(p.media.map MediumR.name).Nodup∧(p.seqs.map SequenceR.name).Nodup
 wk:∀ s∈p.seqs, ¬ Wk p 5 s.name
theorem Gh {p:ProjR} (hf:p.fit) (h:cK p=0):FilmOk p:=by
 unfold cK at h;split at h
 ·cases h
 ·rename_i a1;split at h
  ·cases h
  ·rename_i a2;split at h
   ·cases h
   ·rename_i a3;split at h
    ·cases h
    ·rename_i a4;split at h
     ·cases h
     ·rename_i a5;split at h
      ·cases h
      ·rename_i a6;rw [Bool.not_eq_false] at a1 a2 a3 a4 a5 a6;have hO:=a2;rw [Bool.and_eq_true,List.all_eq_true,List.all_eq_true] at a2;have hlen:p.seqs.length≤16:=by
        have:=a1;unfold dQ at this;simp only [Bool.and_eq_true,decide_eq_true_eq] at this;omega
       refine ⟨a1,hf,a2.1,a2.2,fun s hs=>List.all_eq_true.1 a4 s hs,(Cz p).1 a3,fun s hs hw=>?_⟩;obtain ⟨c1,c2⟩:=zB hlen (Mp a1 hO a4) p.seqs [] (fun s hs=>hs) (aCx p) (fun _ h=>absurd h (Int.lt_irrefl 0));obtain ⟨e1,e2,e3⟩:=c2 a5;have hv:=e3 s hs;have hd:=List.all_eq_true.1 a6 s hs;unfold yX at hd;rw [decide_eq_true_eq] at hd;exact e1.dn _ hv (aK6 (by omega) hw)
theorem uY {p:ProjR} {n:ByteArray} {s:SequenceR} (h:bZ p.seqs n=some s):s∈p.seqs∧s.name=n:=jS h
theorem aGu {p:ProjR} (h:FilmOk p) (n:ByteArray):∀ t∈rV p n,bB t=true ∧ ∀ c∈t,aN c=true:=by
 intro t ht;unfold rV at ht;cases e:bZ p.seqs n with
 | none=>rw [e] at ht;cases ht
 | some s =>
  rw [e] at ht;have hs:=h.seq s (uY e).1;have:=Fb hs t (List.mem_append_left _ ht);refine ⟨this,fun c hc=>?_⟩;unfold bB at this;simp only [Bool.and_eq_true] at this;exact List.all_eq_true.1 this.1.2 c hc
theorem aJj {p:ProjR} {n:ByteArray} {t:List ClipR} {c:ClipR} {s:SequenceR} (hs:bZ p.seqs n=some s) (ht:t∈s.video) (hc:c∈t):c∈dL s:=by
 unfold dL;exact List.mem_flatten.2 ⟨t,List.mem_append_left _ ht,hc⟩
theorem aR1 {p:ProjR} (h:FilmOk p) {n:ByteArray} {s:SequenceR} (hs:bZ p.seqs n=some s) {t:List ClipR} (ht:t∈s.video) {c:ClipR} (hc:c∈t) {x:SourceR} (hx:x=c.a∨x=c.b) (hk:x.kind=2) :
  x.name∈fS p n∧(bZ p.seqs x.name).isSome=true:=by
 have hcs:=aJj hs ht hc;constructor
 ·unfold fS;rw [hs];show x.name∈uN s 2
  rw [wN,Vy];refine ⟨x,?_,hk,rfl⟩;unfold gA Hc;refine List.mem_filter.2 ⟨List.mem_flatMap.2 ⟨c,hcs,by simpa using hx⟩,?_⟩;cases hz:x.isZ with
  | false=>rfl
  | true=>rw [yS hz] at hk;cases hk
 ·have:=List.all_eq_true.1 (h.compl s (uY hs).1) c hcs;unfold dB at this;rw [Bool.and_eq_true] at this;have hx2:cM p x=true:=by rcases hx with rfl | rfl;exact this.1;exact this.2
  unfold cM at hx2;rw [hk] at hx2;cases e:bZ p.seqs x.name with
  | none=>rw [e] at hx2;cases hx2
  | some _=>rfl
theorem aN9 {p:ProjR} {d:Nat} {n m:ByteArray} (h : ¬ Wk p (d+1) n) (hm:m∈fS p n) : ¬ Wk p d m:=fun hw=>h ⟨m,hm,hw⟩
theorem mem_at0 {α : Type} [Inhabited α] {l:List α} {x : α} (h:x∈l):∃ i,i<l.length∧l.getD i default=x:=by
 obtain ⟨i,hi,rfl⟩:=List.getElem_of_mem h;exact ⟨i,hi,aU hi⟩
structure Layered (p:ProjR):Prop where
 small:dQ p=true
 ok:(p.media.all fF&&p.seqs.all eK)=true
 nm:(p.media.map MediumR.name).Nodup
 ns:(p.seqs.map SequenceR.name).Nodup
 le:p.seqs.length≤5
 m1:∀ j,j<p.seqs.length → ∀ x∈gA (p.seqs.getD j default),x.kind=1 → ∃ i,i<p.media.length∧(p.media.getD i default).name=x.name
 s2:∀ j,j<p.seqs.length → ∀ x∈gA (p.seqs.getD j default),x.kind=2 → ∃ i,i<j∧(p.seqs.getD i default).name=x.name
theorem Je {p:ProjR} (h:Layered p):NetOk p:=by
 refine ⟨h.ns,fun s hs x hx hk=>?_⟩;obtain ⟨j,hj,rfl⟩:=mem_at0 hs;obtain ⟨i,hi,hn⟩:=h.s2 j hj x hx hk;have e:By p (p.seqs.getD i default).name=(i:Int):=gM h.ns (by omega);rw [← hn,e];omega
theorem Zc {p:ProjR} (h:Layered p):∀ (d j:Nat),j<p.seqs.length→Wk p d (p.seqs.getD j default).name→d≤j:=by
 intro d
 induction d with
 | zero=>intro j _ _;omega
 | succ d ih =>
  rintro j hj ⟨m,hm,hw⟩;obtain ⟨x,hx,hk,rfl⟩:=(Ae (Je h) hj).1 hm;obtain ⟨i,hi,hn⟩:=h.s2 j hj x hx hk;rw [← hn] at hw;have:=ih i (by omega) hw;omega
theorem Ts {p:ProjR} (h:Layered p):cK p=0:=by
 have hN:=Je h;have hC:p.seqs.all (sY p)=true:=by
  refine cU (d:=default) fun j hj=>?_
  unfold sY;refine List.all_eq_true.2 fun x hx=>?_
  unfold Fk
  by_cases k1:x.kind=1
  ·obtain ⟨i,hi,hn⟩:=h.m1 j hj x hx k1;have e:aF9 p (p.media.getD i default).name=(i:Int):=gM h.nm hi;rw [← hn,e,k1];have : ¬ (i:Int)<0:=by omega
   simp [this]
  ·by_cases k2:x.kind=2
   ·obtain ⟨i,hi,hn⟩:=h.s2 j hj x hx k2;have e:By p (p.seqs.getD i default).name=(i:Int):=gM h.ns (by omega);rw [← hn,e,k2];have : ¬ (i:Int)<0:=by omega
    simp [this]
   ·simp [k1,k2]
 have dep:∀ j,j<p.seqs.length→uT p (j:Int)≤j+1:=fun j hj=>by
  obtain ⟨d1,_,_⟩:=wY hN hj;rcases Nat.lt_or_ge (j+1) (uT p (j:Int)) with h1 | h1
  ·have:=Zc h (j+1) j hj (d1 (j+1) h1);omega
  ·exact h1
 have hle:=h.le;exact (aH5 p).s0 h.small h.ok (fun i hi=>Lw h.nm hi) (fun i hi=>Lv h.ns hi) hC (fun i hi=>by have:=dep i hi;omega) (fun i hi=>by have:=dep i hi;omega)
theorem Vs {R:ExprR→ExprR} {F G:SourceR→Int→ExprR} {s:SourceR} {k:Int} (h:s.kind≠0 → ∀ i,F s i=G s i):fC R F s k=fC R G s k:=by
 unfold fC
 by_cases h0:s.kind=0
 ·rw [if_pos h0,if_pos h0]
 ·simp only [if_neg h0,h h0]
theorem aFw {R:ExprR→ExprR} {F G:SourceR→Int→ExprR} {c:ClipR} {k:Int} (h:∀ s,(s=c.a∨s=c.b)→s.kind≠0 → ∀ i,F s i=G s i):mQ R F c k=mQ R G c k:=by
 unfold mQ;rw [Vs (h c.a (.inl rfl)),Vs (h c.b (.inr rfl))]
theorem Mq {R:ExprR→ExprR} {F G:SourceR→Int→ExprR} {o:Option (ClipR×Int)} (h:∀ c k,o=some (c,k) → ∀ s,(s=c.a∨s=c.b)→s.kind≠0 → ∀ i,F s i=G s i):Bc R F o=Bc R G o:=by
 cases o with
 | none=>rfl
 | some x=>exact aFw (h x.1 x.2 rfl)
def rB (n:ByteArray) (ts:List (List ClipR)):SequenceR:=⟨n,⟨25,1⟩,16,16,ts,[],[],0⟩
def aGz (L:List Int) (k:Nat):Int:=if k<L.length then L.getD k 0 else (k:Int)*7+3
def aB (L:List Int) (k:Nat) (n:Int):Int:=((aGz L k).tmod n+n).tmod n
theorem aAu (v:Int) {n:Int} (h1 : 1≤n) : -n<v.tmod n∧v.tmod n<n:=by
 have h3:=Int.tmod_lt_of_pos v (show 0<n by omega);have h4:=Int.tmod_lt_of_pos (-v) (show 0<n by omega);rw [Int.neg_tmod] at h4;omega
theorem aD {L:List Int} {k:Nat} {n:Int} (h1 : 1≤n) : 0≤aB L k n∧aB L k n<n:=by
 have h3:=aAu (aGz L k) h1;exact ⟨Int.tmod_nonneg _ (by omega),Int.tmod_lt_of_pos _ (by omega)⟩
theorem Uq {v n:Int} (h1 : 1≤n) (h2:n≤1048576):IntKind.i64.wrap (v.tmod n+n)=v.tmod n+n:=by
 have h3:=aAu v h1;exact wrap64 (by omega) (by omega)
abbrev tapeB (L:List Int) (k:Nat):List V:=[.t (bS L),aA (k:Int)]
theorem bD (L:List Int) (k:Nat) (n:Int) (hk:k≤1048576) (h1 : 1≤n) (h2:n≤1048576):xB Tryz.prog 28 [.t (bS L),aA k] [aA n] (aA (aB L k n)) [.t (bS L),aA ((k+1:Nat):Int)]:=by
 refine pZ Tryz.X28 Tryz.func28 rfl Tryz.ntmps28 (by rw [Tryz.results28]) (dV fun hf=>aC _ ?_);have w1:IntKind.i64.wrap ((k:Int)*7)=(k:Int)*7:=wrap64 (by omega) (by omega);have w2:IntKind.i64.wrap ((k:Int)*7+3)=(k:Int)*7+3:=wrap64 (by omega) (by omega);have w3:IntKind.i64.wrap ((k:Int)+1)=(k:Int)+1:=wrap64 (by omega) (by omega);have hn0:n≠0:=by omega
 simp only [go_sem,simprocAttr];refine ⟨fun h=>?_,fun _=>?_⟩
 ·simp only [decide_eq_true_eq] at h;omega
 ·unfold awS;simp only [go_sem,simprocAttr,w1,w2];refine bT [0,1,2,3,4,5,6,7,8,9] .done rfl (by kernel_rfl) (by kernel_rfl) (by decide) ?_;simp only [go_sem,simprocAttr];refine ⟨fun h=>?_,fun h=>?_⟩
  all_goals simp only [decide_eq_true_eq,decide_eq_false_iff_not,Int.ofNat_lt] at h
  ·unfold awS;simp only [go_sem,simprocAttr];refine bT [0,1,2,3,4,5,6,7,8,9,10] .done rfl (by kernel_rfl) (by kernel_rfl) (by decide) ?_;simp only [go_sem,simprocAttr,w3,Uq h1 h2];refine ⟨⟨by omega,by omega⟩,hn0,hn0,?_,?_⟩
   ·simp [aB,aGz,if_pos h]
   ·simp
  ·unfold awS;simp only [go_sem,simprocAttr,w3,Uq h1 h2];refine ⟨hn0,hn0,?_,?_⟩
   ·simp [aB,aGz,if_neg h]
   ·simp
def dens:List Int:=[1,1,1,2,3,1001]
def ratR (p q:Int):RatR:=if p=0 then ⟨0,1⟩ else ⟨p / (Nat.gcd p.natAbs q.natAbs:Nat),q / (Nat.gcd p.natAbs q.natAbs:Nat)⟩
def Nk (L:List Int) (k:Nat) (n:Int):RatR:=ratR (aB L k n) (dens.getD (aB L (k+1) 6).toNat 0)
theorem cRatT (L:List Int) (k:Nat) (n:Int) (hk:k≤1000000) (h1 : 1≤n) (h2:n≤1048576):xB Tryz.prog 175 [.t (bS L),aA k] [aA n] (Ax (Nk L k n)) [.t (bS L),aA ((k+2:Nat):Int)]:=by
 refine pZ Tryz.X175 Tryz.func175 rfl Tryz.ntmps175 (by rw [Tryz.results175]) (aC _ ?_);simp only [go_sem,simprocAttr];refine aQ 10 .done rfl (by kernel_rfl) (by kernel_rfl) (by decide) ?_;simp only [go_sem,simprocAttr];refine gV (bD L k n (by omega) h1 h2) rfl rfl rfl ?_;simp only [go_sem,simprocAttr];refine gV (bD L (k+1) 6 (by omega) (by omega) (by omega)) rfl rfl rfl ?_;have t6:=aD (L:=L) (k:=k+1) (n:=6) (by omega);have t40:=aD (L:=L) (k:=k) (n:=n) (by omega);obtain ⟨P,hP⟩:∃ P:Nat,aB L k n=P:=⟨(aB L k n).toNat,by omega⟩
 obtain ⟨Q,hQ,hQ1,hQ2⟩:∃ Q:Nat,dens.getD (aB L (k+1) 6).toNat 0=(Q:Int)∧1≤Q∧Q≤1001:=by
  have:(aB L (k+1) 6).toNat=0∨(aB L (k+1) 6).toNat=1∨(aB L (k+1) 6).toNat=2∨(aB L (k+1) 6).toNat=3∨(aB L (k+1) 6).toNat=4∨(aB L (k+1) 6).toNat=5:=by omega
  rcases this with h | h | h | h | h | h<;>rw [h]
  ·exact ⟨1,rfl,by omega,by omega⟩
  ·exact ⟨1,rfl,by omega,by omega⟩
  ·exact ⟨1,rfl,by omega,by omega⟩
  ·exact ⟨2,rfl,by omega,by omega⟩
  ·exact ⟨3,rfl,by omega,by omega⟩
  ·exact ⟨1001,rfl,by omega,by omega⟩
 have hQ':=hQ;unfold dens at hQ';have hr:Nk L k n=ratR P Q:=by unfold Nk;rw [hP,hQ]
 rw [hr];simp only [go_sem,simprocAttr,hQ',hP];refine ⟨⟨by omega,by omega⟩,by omega,by kernel_rfl,?_⟩;refine aJ (fun (x:Nat×Nat) σ => dW 7 (aA x.1) (dW 8 (aA x.2) σ)) (fun x=>Nat.gcd x.1 x.2=Nat.gcd P Q) (fun x=>x.2) (P,Q) (aE ?_) rfl ?_
 ·simp only [go_sem,simprocAttr]<;>simp
 ·rintro ⟨x,y⟩ hg;simp only at hg;refine aC _ ?_;simp only [go_sem,simprocAttr];refine brW (b := !decide (y=0)) ?_ ⟨fun hb=>?_,fun hb=>?_⟩
  ·rw [Bool.eq_iff_iff];simp only [bxx];omega
  ·unfold awS;simp only [go_sem,simprocAttr];have hy:y≠0:=by simpa using hb
   refine bT [0,1,2,3,4,5] .done rfl (by kernel_rfl) (by kernel_rfl) (by decide) ?_;simp only [go_sem,simprocAttr];refine ⟨by omega,(y,x % y),aE ?_,?_,Nat.mod_lt _ (by omega)⟩
   ·simp only [go_sem,simprocAttr,xU]<;>simp
   ·simp only;rw [← hg,Nat.gcd_comm x y,Nat.gcd_rec y x,Nat.gcd_comm]
  ·unfold awS;simp only [go_sem,simprocAttr];have hy:y=0:=by simpa using hb
   subst hy;rw [Nat.gcd_zero_right] at hg;subst hg;have hg0 : 0<Nat.gcd P Q:=Nat.gcd_pos_of_pos_right _ (by omega);refine brW (b:=decide (P=0)) ?_ ⟨fun h0=>?_,fun h0=>?_⟩
   ·rw [Bool.eq_iff_iff];simp only [bxx];omega
   ·unfold awS;simp only [go_sem,simprocAttr];have hp0:P=0:=by simpa using h0
    subst hp0;rfl
   ·have hp0:P≠0:=by simpa using h0
    have k1:P / Nat.gcd P Q≤P:=Nat.div_le_self _ _;have k2:Q / Nat.gcd P Q≤Q:=Nat.div_le_self _ _;unfold awS;simp only [go_sem,simprocAttr];refine aQ 8 .done rfl (by kernel_rfl) (by kernel_rfl) (by decide) ?_;simp only [go_sem,simprocAttr,kT,gE (n:=P / Nat.gcd P Q) (by omega),gE (n:=Q / Nat.gcd P Q) (by omega)];refine ⟨by omega,by omega,by kernel_rfl,?_⟩;unfold ratR;rw [if_neg (by omega)];rfl
def speeds:List (Int×Int):=[(1,1),(1,1),(1,1),(0,1),(-1,1),(1,2),(2,1),(800,1001),(-3,2)]
def pW (L:List Int) (k:Nat):RatR:=⟨(speeds.getD (aB L k 9).toNat (0,0)).1,(speeds.getD (aB L k 9).toNat (0,0)).2⟩
theorem aSe (L:List Int) (k:Nat) (hk:k≤1000000):xB Tryz.prog 39 [.t (bS L),aA k] [] (Ax (pW L k)) [.t (bS L),aA ((k+1:Nat):Int)]:=by
 refine pZ Tryz.X39 Tryz.func39 rfl Tryz.ntmps39 (by rw [Tryz.results39]) (aC _ ?_);simp only [go_sem,simprocAttr];refine aH (bD L k 9 (by omega) (by omega) (by omega)) rfl rfl rfl ?_;have t9:=aD (L:=L) (k:=k) (n:=9) (by omega);simp only [go_sem,simprocAttr];exact ⟨⟨by omega,by omega⟩,by omega,rfl⟩
def cX (p:ByteArray) (i:Int):ByteArray:=p++Utf8.encode (48+i)
theorem aJu (p:ByteArray) (i:Int) (h0 : 0≤i) (h1:i<64) (hp:p.size≤1000):aK Tryz.prog 41 [bY p,aA i] (bY (cX p i)):=by
 refine aG Tryz.X41 Tryz.func41 rfl Tryz.ntmps41 (by rw [Tryz.results41]) (aC _ ?_);simp only [go_sem,simprocAttr];have e:IntKind.i32.wrap (IntKind.i64.wrap (48+i))=48+i:=by
  rw [wrap64 (by omega) (by omega)];have e1:(2:Int) ^ IntKind.i32.bits=4294967296:=by decide
  have e2:(2:Int) ^ (IntKind.i32.bits - 1)=2147483648:=by decide
  unfold IntKind.wrap;simp only [IntKind.signed,e1,e2,Bool.true_and,decide_eq_true_eq];split<;>omega
 have hz:=Jm (48+i);rw [e];refine ⟨?_,rfl⟩;have:IntKind.i64.max=9223372036854775807:=by decide
 rw [this];omega
theorem aG8 (xs:List Int) (hl:xs.length≤65536):aK Tryz.prog 119 [.t (bS xs)] (.t (bS xs)):=by
 refine eD Tryz.X119 Tryz.func119 rfl Tryz.ntmps119 (by rw [Tryz.results119]) (aC _ ?_);simp only [go_sem,simprocAttr];intro b hn;refine ⟨fun hb=>?_,fun hb=>?_⟩
 ·have e:List.map sS xs = []:=hn hb;unfold awS;simp only [go_sem,simprocAttr];rw [e];exact Vj
 ·unfold awS;simp only [go_sem,simprocAttr];refine ⟨⟨Nat.le_trans hl (by decide),by omega⟩,bJ ?_ rfl⟩;simp only [go_sem,simprocAttr]<;>rfl
theorem aA7 (c:ClipR) (hl:c.chan.length≤65536):aK Tryz.prog 163 [mF c] (mF c):=by
 refine aG Tryz.X163 Tryz.func163 rfl Tryz.ntmps163 (by rw [Tryz.results163]) (aC _ ?_);simp only [go_sem,simprocAttr];refine ⟨_,aG8 c.chan hl,?_⟩;simp only [go_sem,simprocAttr]
theorem gG {s:SourceR} (hf:s.fit) (hv:aY s=true) {n:Int} (hn:n.natAbs≤2147483648):(aR s n).fit∧((aR s n).isZ||Ls (aR s n).pos 1099511627776)=bU (aR s n):=by
 cases hb:s.isZ with
 | true =>
  have e1:aR s n=s:=by unfold aR;rw [if_pos hb]
  rw [e1];exact ⟨hf,by unfold bU;rw [hb];rfl⟩
 | false =>
  obtain ⟨p,d,ok⟩:=jN hv hb;obtain ⟨m3,m4⟩:=wL ok hn;have mok:=aCa ok hn;have hms:aR s n = { s with pos:=ofQ (bM s n) }:=by unfold aR;rw [hb];rfl
  have hlp : 0<Nat.lcm p d:=Nat.lcm_pos ok.p1 ok.d1;have hdl:=Nat.le_trans (Nat.le_of_dvd hlp m4) ok.lcm;have hd0 : 0<(bM s n).den:=(bM s n).den_pos;have hpos:(aR s n).pos=ofQ (bM s n):=by rw [hms]
  refine ⟨by rw [hms];exact ⟨hf.kind,⟨⟨by simp only [rF];omega,by simp only [rF];omega⟩,⟨by simp only [pX];omega,by simp only [pX];omega⟩⟩,hf.speed⟩,?_⟩;unfold bU;have:Ls (aR s n).pos 1099511627776=kH (aR s n).pos 1099511627776:=by
   rw [hpos];unfold Ls kH;rw [mok,Bool.true_and,pX,rF];rw [Bool.eq_iff_iff];simp only [bxx];omega
  rw [this]
def aGm:ClipR:=⟨0,0,zSource,zSource,0,0,0,⟨#[]⟩,0,[]⟩
def shK (k:Int):Bool:=k==2||k==3
def cV (c:ClipR) (n:Int):ClipR := { c with len:=c.len - n,a:=aR c.a n,b:=aR c.b n,off:=if shK c.kind=true then c.off+n else c.off }
def aDz (c:ClipR) (n:Int):Bool:=aN c&&decide (0≤n)&&decide (n<c.len)
def Ua (c:ClipR) (n:Int):ClipR×Int:=if aDz c n=true then (if (bU (aR c.a n)&&bU (aR c.b n))=true then (cV c n,0) else (aGm,2)) else (aGm,1)
abbrev vce (r:ClipR×Int):V := .tup [mF r.1,aA r.2]
theorem rN {c:ClipR} (h:aN c=true) (hs:shK c.kind=true) : 0≤c.off∧c.off+c.len≤c.total∧c.total≤2147483647:=by
 obtain ⟨_,_,_,_,_,_,_,hk⟩:=bF h;unfold shK at hs;unfold cF at hk;have:c.kind=2∨c.kind=3:=by simpa using hs
 rcases this with e | e<;>rw [e] at hk<;>simp [fE] at hk<;>omega
def zVs:List V:=[aA 0,aA 0,aA 0,bY ⟨#[]⟩,aA 0,aA 0,aA 0,aA 0,aX false,aA 0,bY ⟨#[]⟩,aA 0,aA 0,aA 0,aA 0,aX false,aA 0,aA 0,aA 0,bY ⟨#[]⟩,aA 0, .t (.lit (.slice none 0 0))]
theorem zVs_as:aHm zVs [aA 0,aA 0,aA 0,bY ⟨#[]⟩,aA 0,aA 0,aA 0,aA 0,aX false,aA 0,bY ⟨#[]⟩,aA 0,aA 0,aA 0,aA 0,aX false,aA 0,aA 0,aA 0,bY ⟨#[]⟩,aA 0, .t (bS [])] :=
 ⟨.inl rfl, .inl rfl, .inl rfl, .inl rfl, .inl rfl, .inl rfl, .inl rfl, .inl rfl, .inl rfl, .inl rfl, .inl rfl, .inl rfl, .inl rfl, .inl rfl, .inl rfl, .inl rfl, .inl rfl, .inl rfl, .inl rfl, .inl rfl, .inl rfl, .inr ⟨rfl,_,_,rfl⟩,trivial⟩
theorem Ca (k:Int) {h:Heap}:tQ (vce (aGm,k)) (.tup [.agg zVs,aA k]) h:=by
 have e:V.lend h (.tup [.agg zVs,aA k]) = .tup [.agg zVs,aA k]:=rfl;refine ⟨by rw [e];rfl,fun w E v hv=>?_⟩;rw [e] at hv;simp only [RdV] at hv ⊢;obtain ⟨vs,rfl,hvs⟩:=hv;refine ⟨vs,rfl,?_⟩;rcases hl:vs.toList with _ | ⟨u,_ | ⟨u2,_ | ⟨u3,us⟩⟩⟩<;>rw [hl] at hvs<;>simp only [RdVs,and_false] at hvs ⊢
 refine ⟨?_,hvs.2⟩;have h1:=hvs.1;simp only [RdV] at h1 ⊢;obtain ⟨vs,rfl,q1,q2⟩:=h1;exact ⟨vs,rfl,Ph zVs_as q1,q2⟩
theorem aT5 (c:ClipR) (n:Int) (h:c.fit) (hn:I64 n):aK Tryz.prog 89 [mF c,aA n] (vce (Ua c n)):=by
 refine eD Tryz.X89 Tryz.func89 rfl Tryz.ntmps89 (by rw [Tryz.results89]) (aC _ ?_);simp only [go_sem,simprocAttr];refine ⟨_,aG3 c h,?_⟩;simp only [go_sem,simprocAttr];refine brW (b := !aDz c n) ?_ ⟨fun hb=>?_,fun hb=>?_⟩
 ·unfold aDz;cases hv:aN c with
  | false=>rfl
  | true =>
   obtain ⟨v1,v2,_⟩:=bF hv;rw [wrap64 (x:=c.len - 1) (by omega) (by omega)];simp only [Bool.not_true,Bool.false_or,Bool.true_and];rw [Bool.eq_iff_iff];simp only [bxx];omega
 ·unfold awS;simp only [go_sem,simprocAttr];unfold Ua;rw [nt hb];exact Ca 1
 ·have ha:=nf hb;have ha2:=ha;unfold aDz at ha2;simp only [Bool.and_eq_true,decide_eq_true_eq] at ha2;obtain ⟨⟨hv,n0⟩,n1⟩:=ha2;obtain ⟨v1,v2,_,_,v5,v6,v7,v8⟩:=bF hv;have hch:c.chan.length≤65536:=by unfold fU at v5;simp only [Bool.and_eq_true,decide_eq_true_eq] at v5;omega
  have hna:n.natAbs≤2147483648:=by omega
  obtain ⟨fa,pa⟩:=gG h.a v6 hna;obtain ⟨fb,pb⟩:=gG h.b v7 hna;have hso:=rN hv;unfold awS;simp only [go_sem,simprocAttr];refine ⟨_,aA7 c hch,?_⟩;simp only [go_sem,simprocAttr,wrap64 (x:=c.len - n) (by omega) (by omega)];refine aQ 12 .done rfl (by kernel_rfl) (by kernel_rfl) (by decide) ?_;simp only [go_sem,simprocAttr];refine ⟨_,aA5 c.a n h.a v6 hna,?_⟩;simp only [go_sem,simprocAttr];refine ⟨_,aA5 c.b n h.b v7 hna,?_⟩;simp only [go_sem,simprocAttr];refine ⟨by kernel_rfl,_,Xc c.kind,?_⟩;simp only [go_sem,simprocAttr];refine ⟨fun hs=>?_,fun hs=>?_⟩
  ·have hs1:shK c.kind=true:=hs;have hso1:=hso hs1;unfold awS;simp only [go_sem,simprocAttr,wrap64 (x:=c.off+n) (by omega) (by omega)];refine ⟨_,Kz (aR c.a n) fa,?_⟩;rw [pa];simp only [go_sem,simprocAttr];refine ⟨_,fun _=>Kz (aR c.b n) fb,?_⟩;rw [pb];simp only [go_sem,simprocAttr];refine brW (b := !(bU (aR c.a n)&&bU (aR c.b n))) ?_ ⟨fun hp=>?_,fun hp=>?_⟩
   ·cases bU (aR c.a n)<;>cases bU (aR c.b n)<;>rfl
   ·unfold awS;simp only [go_sem,simprocAttr];unfold Ua;rw [ha,nt hp];exact Ca 2
   ·unfold awS;simp only [go_sem,simprocAttr];unfold Ua;rw [ha,nf hp];refine bJ ?_ rfl;unfold cV;rw [if_pos hs1];rfl
  ·have hs1:shK c.kind=false:=hs;unfold awS;simp only [go_sem,simprocAttr];refine ⟨_,Kz (aR c.a n) fa,?_⟩;rw [pa];simp only [go_sem,simprocAttr];refine ⟨_,fun _=>Kz (aR c.b n) fb,?_⟩;rw [pb];simp only [go_sem,simprocAttr];refine brW (b := !(bU (aR c.a n)&&bU (aR c.b n))) ?_ ⟨fun hp=>?_,fun hp=>?_⟩
   ·cases bU (aR c.a n)<;>cases bU (aR c.b n)<;>rfl
   ·unfold awS;simp only [go_sem,simprocAttr];unfold Ua;rw [ha,nt hp];exact Ca 2
   ·unfold awS;simp only [go_sem,simprocAttr];unfold Ua;rw [ha,nf hp];refine bJ ?_ rfl;unfold cV;rw [hs1];rfl
abbrev vcb (c:ClipR) (b:Bool):V := .tup [mF c,aX b]
def kL (c:ClipR) (n:Int):ClipR := { c with a:=aR c.a n,b:=aR c.b n,off:=if shK c.kind=true then c.off+n else c.off }
def headOk (c:ClipR) (n:Int):Bool:=aN c&&decide (1≤n)&&decide (n≤c.len)
def headC (c:ClipR) (n:Int):ClipR×Int:=if headOk c n=true then ({ c with len:=n },0) else (aGm,1)
def intsEq (a b:List Int):Bool:=a==b
theorem aFe {a b:List Int} {k:Nat} (h1:k<a.length) (h2:a.getD k 0≠b.getD k 0):(a==b)=false:=by
 rw [beq_eq_false_iff_ne];rintro rfl;exact h2 rfl
theorem aCv {a b:List Int} (hl:a.length=b.length) (h:∀ i,i<a.length→a.getD i 0=b.getD i 0):(a==b)=true:=by
 rw [beq_iff_eq];refine List.ext_getElem hl fun i h1 h2=>?_
 have:=h i h1;rw [List.getD_eq_getElem?_getD,List.getD_eq_getElem?_getD,List.getElem?_eq_getElem h1,List.getElem?_eq_getElem h2] at this;simpa using this
theorem cEqual (a b:List Int):aK Tryz.prog 267 [.t (bS a), .t (bS b)] (aX (a==b)):=by
 refine aG Tryz.X267 Tryz.func267 rfl Tryz.ntmps267 (by rw [Tryz.results267]) (dV fun hf=>aC _ ?_);simp only [go_sem,simprocAttr,nN] at hf;have hla:a.length≤maxLen:=by first | exact hf.1 | exact hf.1.1 | exact hf.2.1
 simp only [go_sem,simprocAttr];refine ⟨fun h=>?_,fun h=>?_⟩
 ·simp only [bxx] at h;unfold awS;simp only [go_sem,simprocAttr];have:(a==b)=false:=by
   rw [beq_eq_false_iff_ne];rintro rfl;exact h rfl
  rw [this]
 ·have hl:a.length=b.length:=by simp only [bne_eq_false_iff_eq] at h;omega
  unfold awS;simp only [go_sem,simprocAttr];refine aJ (fun (k:Nat) σ => dW 13 (aA k) σ) (fun k=>k≤a.length ∧ ∀ i,i<k→a.getD i 0=b.getD i 0) (fun k=>a.length - k) 0 (aE ?_) ⟨Nat.zero_le _,by omega⟩ ?_
  ·simp only [go_sem,simprocAttr]<;>rfl
  ·rintro k ⟨hk,hi⟩;refine aC _ ?_;simp only [go_sem,simprocAttr];refine ⟨fun hlt=>?_,fun hge=>?_⟩
   ·simp only [bxx] at hlt;unfold awS;simp only [go_sem,simprocAttr];refine bT [0,1,2,3,4,5,6,7,8] .done rfl (by kernel_rfl) (by kernel_rfl) (by decide) ?_;simp only [go_sem,simprocAttr];refine ⟨⟨by omega,by omega⟩,⟨by omega,by omega⟩,?_⟩;refine ⟨fun h2=>?_,fun h2=>?_⟩
    ·unfold awS;simp only [go_sem,simprocAttr];rw [aFe (k:=k) (by omega) (by simpa using h2)]
    ·unfold awS;simp only [go_sem,simprocAttr];refine ⟨k+1,aE ?_,⟨by omega,upto hi (by simpa using h2)⟩,by omega⟩;simp only [go_sem,simprocAttr]<;>simp [tG (show k<a.length by omega) hla]
   ·simp only [bxx] at hge;unfold awS;simp only [go_sem,simprocAttr];rw [aCv hl (fun i h2=>hi i (by omega))]
def ClipR.eqb (a b:ClipR):Bool:=a.len==b.len&&a.kind==b.kind&&SourceR.eqb a.a b.a&&SourceR.eqb a.b b.b&&a.off==b.off&&a.total==b.total&&a.param==b.param&&(a.text.toList==b.text.toList)&&a.gain==b.gain&&(a.chan==b.chan)
theorem aJs (a b:ClipR):aK Tryz.prog 250 [mF a,mF b] (aX (a.eqb b)):=by
 refine aG Tryz.X250 Tryz.func250 rfl Tryz.ntmps250 (by rw [Tryz.results250]) (aC _ ?_);simp only [go_sem,simprocAttr];simp only [go_sem,simprocAttr,List.append];refine ⟨_,fun _=>jT a.a b.a,_,fun _=>jT a.b b.b,_,fun _=>cEqual a.chan b.chan,?_⟩;simp only [go_sem,simprocAttr]<;>rfl
theorem SourceR.eqb_iff {a b:SourceR}:a.eqb b=true ↔ a=b:=by
 unfold SourceR.eqb;simp only [Bool.and_eq_true,beq_iff_eq];refine ⟨fun ⟨⟨⟨⟨⟨⟨h1,h2⟩,h3⟩,h4⟩,h5⟩,h6⟩,h7⟩=>?_,fun h=>by rw [h];exact ⟨⟨⟨⟨⟨⟨rfl,rfl⟩,rfl⟩,rfl⟩,rfl⟩,rfl⟩,rfl⟩⟩;obtain ⟨k,n,⟨p1,p2⟩,⟨q1,q2⟩,m⟩:=a;obtain ⟨k',n',⟨p1',p2'⟩,⟨q1',q2'⟩,m'⟩:=b;simp only at h1 h2 h3 h4 h5 h6 h7;rw [h1,pP h2,h3,h4,h5,h6,h7]
theorem ClipR.eqb_iff {a b:ClipR}:a.eqb b=true ↔ a=b:=by
 unfold ClipR.eqb;simp only [Bool.and_eq_true,beq_iff_eq,SourceR.eqb_iff];refine ⟨fun ⟨⟨⟨⟨⟨⟨⟨⟨⟨h1,h2⟩,h3⟩,h4⟩,h5⟩,h6⟩,h7⟩,h8⟩,h9⟩,h10⟩=>?_,fun h=>by rw [h];exact ⟨⟨⟨⟨⟨⟨⟨⟨⟨rfl,rfl⟩,rfl⟩,rfl⟩,rfl⟩,rfl⟩,rfl⟩,rfl⟩,rfl⟩,rfl⟩⟩;cases a;cases b;simp only at h1 h2 h3 h4 h5 h6 h7 h8 h9 h10;rw [h1,h2,h3,h4,h5,h6,h7,pP h8,h9,h10]
structure Mild (c:ClipR):Prop where
 fit:c.fit
 chan:c.chan.length≤65536
 a:aY c.a=true
 b:aY c.b=true
 len : 0≤c.len∧c.len≤2147483647
 off:shK c.kind=true → -2147483648≤c.off∧c.off≤2147483648
theorem Kq {c:ClipR} (h:c.fit) (hv:aN c=true):Mild c:=by
 obtain ⟨v1,v2,_,_,v5,v6,v7,v8⟩:=bF hv;have hch:c.chan.length≤65536:=by unfold fU at v5;simp only [Bool.and_eq_true,decide_eq_true_eq] at v5;omega
 exact ⟨h,hch,v6,v7,by omega,fun hs=>by have:=rN hv hs;omega⟩
def eL (p q:ClipR):Bool:=if (p.kind==0&&q.kind==0)=true then true else q.eqb { kL p p.len with len:=q.len }
theorem Ss (p q:ClipR) (h:Mild p):aK Tryz.prog 225 [mF q,mF p] (aX (eL p q)):=by
 have hna:p.len.natAbs≤2147483648:=by have:=h.len;omega
 refine aG Tryz.X225 Tryz.func225 rfl Tryz.ntmps225 (by rw [Tryz.results225]) (aC _ ?_);simp only [go_sem,simprocAttr];refine ⟨fun hk=>?_,fun hk=>?_⟩
 ·unfold awS;simp only [go_sem,simprocAttr];unfold eL;rw [if_pos hk]
 ·unfold awS;simp only [go_sem,simprocAttr];refine aQ 14 .done rfl (by kernel_rfl) (by kernel_rfl) (by decide) ?_;simp only [go_sem,simprocAttr];refine ⟨_,aA5 p.a p.len h.fit.a h.a hna,?_⟩;simp only [go_sem,simprocAttr];refine ⟨_,aA5 p.b p.len h.fit.b h.b hna,?_⟩;simp only [go_sem,simprocAttr];refine ⟨by kernel_rfl,_,Xc p.kind,?_⟩;simp only [go_sem,simprocAttr];refine ⟨fun hs=>?_,fun hs=>?_⟩
  ·have hs1:shK p.kind=true:=hs;have ho:=h.off hs1;have hl:=h.len;unfold awS;simp only [go_sem,simprocAttr,wrap64 (x:=p.off+p.len) (by omega) (by omega)];refine ⟨_,aJs q ⟨q.len,p.kind,aR p.a p.len,aR p.b p.len,p.off+p.len,p.total,p.param,p.text,p.gain,p.chan⟩,?_⟩;simp only [go_sem,simprocAttr];unfold eL kL;rw [hk,if_pos hs1];try rfl
  ·have hs1:shK p.kind=false:=hs;unfold awS;simp only [go_sem,simprocAttr];refine ⟨_,aJs q ⟨q.len,p.kind,aR p.a p.len,aR p.b p.len,p.off,p.total,p.param,p.text,p.gain,p.chan⟩,?_⟩;simp only [go_sem,simprocAttr];unfold eL kL;rw [hk,hs1];try rfl
def uE:List ClipR→Int→List ClipR
 | [],_=>[]
 | [c],n=>[{ c with len:=c.len+n }]
 | c::d::l,n=>c::uE (d::l) n
theorem gN (c:ClipR) (n:Int):∀ l:List ClipR,uE (l ++ [c]) n=l ++ [{ c with len:=c.len+n }]
 | []=>rfl
 | [d]=>rfl
 | d::e::l=>by
  have:=gN c n (e::l);simp only [List.cons_append,uE] at this ⊢;rw [this]
theorem zT {α : Type}:∀ {l:List α},l ≠ [] → ∃ i c,l=i ++ [c]
 | [],h=>(h rfl).elim
 | [c],_=>⟨[],c,rfl⟩
 | c::d::l,_=>by
  obtain ⟨i,e,h⟩:=zT (l:=d::l) (by simp);exact ⟨c::i,e,by rw [h];rfl⟩
theorem gQ:∀ (l m:List ClipR),totL (l++m)=totL l+totL m
 | [],m=>by simp [totL]
 | c::l,m=>by simp only [List.cons_append,totL,gQ l m];omega
theorem mW (c:ClipR):totL [c]=c.len:=by simp [totL]
def vD (t:List ClipR) (k:Nat):Bool:=decide (0<k)&&eL (t.getD (k - 1) default) (t.getD k default)
def dE (t:List ClipR):Nat→List ClipR
 | 0=>[]
 | k+1=>if vD t k=true then uE (dE t k) (t.getD k default).len else dE t k ++ [t.getD k default]
def sE (t:List ClipR):List ClipR:=dE t t.length
theorem kA {t:List ClipR} (hi:∀ i,i<t.length→aN (t.getD i default)=true):∀ k,k≤t.length→(dE t k).length≤k∧(0<k→dE t k ≠ [])∧totL (dE t k)=totL (t.take k) ∧ ∀ c∈dE t k,1≤c.len
 | 0,_=>by simp [dE,totL]
 | k+1,h=>by
  obtain ⟨h1,h2,h3,h4⟩:=kA hi k (by omega);have hl:=aL (hi k (by omega));have ht:=dU t k (by omega);unfold dE;cases hb:vD t k with
  | true =>
   have hk : 0<k:=by unfold vD at hb;simp only [Bool.and_eq_true,decide_eq_true_eq] at hb;exact hb.1
   obtain ⟨i,c,e⟩:=zT (h2 hk);rw [if_pos rfl,e,gN];rw [e] at h1 h3 h4;rw [gQ,mW] at h3;simp only [List.length_append,List.length_cons,List.length_nil] at h1 ⊢;refine ⟨by omega,fun _=>by simp,?_,fun d hd=>?_⟩
   ·rw [gQ,mW,ht, ← h3];simp only;omega
   ·rcases List.mem_append.1 hd with hd | hd
    ·exact h4 d (by simp [hd])
    ·have:=h4 c (by simp);simp only [List.mem_cons,List.not_mem_nil,or_false] at hd;rw [hd];simp only;omega
  | false =>
   rw [if_neg (by simp)];simp only [List.length_append,List.length_cons,List.length_nil];refine ⟨by omega,fun _=>by simp,?_,fun d hd=>?_⟩
   ·rw [gQ,mW,ht, ← h3]
   ·rcases List.mem_append.1 hd with hd | hd
    ·exact h4 d hd
    ·simp only [List.mem_cons,List.not_mem_nil,or_false] at hd;rw [hd];omega
theorem cL:∀ (l:List ClipR),(∀ c∈l,1≤c.len)→0≤totL l
 | [],_=>by simp [totL]
 | c::l,h=>by
  have:=cL l fun d hd=>h d (by simp [hd])
  have:=h c (by simp);simp only [totL];omega
theorem mU {t:List ClipR} (h:bB t=true):t.length≤64∧(∀ i,i<t.length→aN (t.getD i default)=true)∧totL t≤2147483647:=by
 unfold bB at h;simp only [Bool.and_eq_true,decide_eq_true_eq,List.all_eq_true] at h;exact ⟨h.1.1,fun i hi=>h.1.2 _ (aP hi),h.2⟩
theorem pM {α : Type} (i:List α) (c d : α):(i ++ [c]).getD i.length d=c:=by simp [List.getD_eq_getElem?_getD]
theorem Lx (i:List ClipR) (c:ClipR) (n:Int):(aS (List.map ClipR.c (i ++ [c]))).set i.length [aA n,aA c.kind,aA c.a.kind,bY c.a.name,aA c.a.pos.num,aA c.a.pos.den,aA c.a.speed.num,aA c.a.speed.den,aX c.a.smooth,
 aA c.b.kind,bY c.b.name,aA c.b.pos.num,aA c.b.pos.den,aA c.b.speed.num,aA c.b.speed.den,aX c.b.smooth,aA c.off,aA c.total,aA c.param,bY c.text,aA c.gain, .t (bS c.chan)]=aS (List.map ClipR.c (i ++ [{ c with len:=n }])):=by
 have e:∀ d:ClipR,aS (List.map ClipR.c (i ++ [d]))=aS (List.map ClipR.c i) ++ [(ClipR.c d).map .t]:=fun d=>by simp [aS]
 have hl:i.length=(aS (List.map ClipR.c i)).length:=by simp [aS]
 rw [e,e,hl,List.set_append_right _ _ (Nat.le_refl _),Nat.sub_self];rfl
abbrev tB (l:List ClipR):Blk := .row 103 22 (ClipR.c default) (aS (l.map ClipR.c))
theorem cPack1 (t:List ClipR) (hfit:∀ c∈t,c.fit) (hv:bB t=true):aK Tryz.prog 181 [.t (aM t)] (.t (aM (sE t))):=by
 obtain ⟨h64,hi,htot⟩:=mU hv;have hM:∀ i,i<t.length→Mild (t.getD i default):=fun i h=>Kq (hfit _ (aP h)) (hi i h)
 refine aG Tryz.X181 Tryz.func181 rfl Tryz.ntmps181 (by rw [Tryz.results181]) (aC _ ?_);simp only [go_sem,↓reduceIte,Nat.reduceSub];refine aJ (fun (k:Nat) σ => { fr:=(σ.fr.set 3 (.own 0)).set 8 (aA k),h:=[(0,tB (dE t k))],nx:=1 }) (fun k=>k≤t.length) (fun k=>t.length - k) 0 (aT [(0,none)] ?_) (Nat.zero_le _) ?_
 ·simp only [go_sem,Nat.reduceLT,↓reduceIte,Nat.reduceLeDiff];exact ⟨rfl,rfl⟩
 ·intro k hk;obtain ⟨f1,f2,f3,f4⟩:=kA hi k hk;refine aC _ ?_;simp only [go_sem,↓reduceIte];refine ⟨fun hlt=>?_,fun hge=>?_⟩
  ·simp only [decide_eq_true_eq] at hlt;have hkl:k<t.length:=by omega
   have w1:IntKind.i64.wrap ((k:Int) - 1)=(k:Int) - 1:=wrap64 (by omega) (by omega);have w2:((k:Int) - 1).toNat=k - 1:=by omega
   have hlk:=aL (hi k hkl);have htk:=dU t k hkl;have htr:=Up (t:=t) (k:=k+1) (by omega) h64 (fun i h=>hi i (by omega));have hn1:=cL _ f4;unfold awS;simp only [go_sem,↓reduceIte,Nat.reduceAdd,Nat.reduceLeDiff];refine ⟨⟨by omega,by omega⟩,?_⟩;refine bT [0,1,2,3,4,5,6,7,8,9,10] .done rfl (by kernel_rfl) (by kernel_rfl) (by decide) ?_;simp only [go_sem,↓reduceIte,Nat.reduceAdd,Nat.reduceLeDiff,w1,w2];refine ⟨fun h=>?_,_,fun _=>Ss (t.getD (k - 1) default) (t.getD k default) (hM (k - 1) (by omega)),?_⟩
   ·simp only [decide_eq_true_eq] at h;omega
   simp only [go_sem,↓reduceIte];refine brW (b:=vD t k) ?_ ⟨fun hb=>?_,fun hb=>?_⟩
   ·unfold vD;have:decide ((k:Int) > 0)=decide (0<k):=by rw [Bool.eq_iff_iff];simp only [decide_eq_true_eq];omega
    rw [this]
   ·have hk0 : 0<k:=by unfold vD at hb;simp only [Bool.and_eq_true,decide_eq_true_eq] at hb;exact hb.1
    obtain ⟨i,c,e⟩:=zT (f2 hk0);have f3':=f3;have f4':=f4;rw [e] at f1 f3 f4;rw [gQ,mW] at f3;have hl1:=f4 c (by simp);have hin:=cL i fun d hd=>f4 d (by simp [hd])
    have hil:i.length+1≤k:=by simpa using f1
    unfold awS;rw [e];have hlen:(List.map ClipR.c (i ++ [c])).length=i.length+1:=by simp
    simp only [go_sem];have hL:(i ++ [c]).length=i.length+1:=by simp
    have w3:IntKind.i64.wrap (((i.length+1:Nat):Int) - 1)=(i.length:Int):=by rw [wrap64 (by omega) (by omega)];omega
    have w4:IntKind.i64.wrap ((i.length:Int)+1 - 1)=(i.length:Int):=by rw [wrap64 (by omega) (by omega)];omega
    refine aQ 13 .done rfl (by kernel_rfl) (by kernel_rfl) (by decide) ?_;have w5:IntKind.i64.wrap (c.len+(t.getD k default).len)=c.len+(t.getD k default).len:=wrap64 (by omega) (by omega);simp only [go_sem,↓reduceIte,Nat.reduceAdd,Nat.reduceLeDiff,reduceCtorEq,hL,w3,dC (show k<9223372036854775807 by omega),pM,w5,Lx];refine ⟨⟨by omega,by omega⟩,by omega,⟨by omega,by omega⟩,by omega,by kernel_rfl,k+1,aT [(0,some 0)] ?_,by omega,by omega⟩;simp only [go_sem,Nat.reduceLT,↓reduceIte,Nat.reduceLeDiff,reduceCtorEq];refine ⟨⟨by simp,?_⟩,rfl⟩;unfold dE;rw [if_pos hb,e,gN]
   ·unfold awS;simp only [go_sem,↓reduceIte,Nat.reduceAdd,Nat.reduceLeDiff];refine ⟨_,aA7 (t.getD k default) (hM k hkl).chan,?_⟩;simp only [go_sem,Nat.reducePow,Nat.reduceLT,↓reduceIte,Nat.reduceAdd,Nat.reduceMul,Nat.reduceLeDiff,reduceCtorEq,dC (show k<9223372036854775807 by omega)];refine ⟨⟨by unfold maxLen;omega,by omega⟩,k+1,aT [(0,some 3)] ?_,by omega,by omega⟩;simp only [go_sem,Nat.reduceLT,↓reduceIte,Nat.reduceLeDiff,reduceCtorEq];refine ⟨⟨by simp,?_⟩,rfl⟩;have e:dE t (k+1)=dE t k ++ [t.getD k default]:=by rw [dE,if_neg (by rw [hb];simp)]
    rw [e,List.map_append];rfl
  ·simp only [decide_eq_false_iff_not] at hge;have:k=t.length:=by omega
   subst this;unfold awS;simp only [go_sem,↓reduceIte]<;>rfl
theorem Xt (n:Int):toQ ⟨n,1⟩=(n:Rat):=by
 unfold toQ;simp only [Int.toNat_one];rw [Rat.mkRat_one]
theorem aNc (s:SourceR) (n m:Int):jF s n+jF s m=jF s (n+m):=by
 unfold jF;rw [Xt,Xt,Xt, ← Rat.add_mul,Rat.intCast_add]
theorem Qh {s:SourceR} (h:s.kind≠0):s.isZ=false:=by
 unfold SourceR.isZ;rw [Bool.eq_false_iff,ne_eq,SourceR.eqb_iff];rintro rfl;exact h rfl
theorem jQ {s:SourceR} (hv:aY s=true) (n m:Int):aR (aR s n) m=aR s (n+m):=by
 cases hb:s.isZ with
 | true =>
  have e:∀ n,aR s n=s:=fun n=>by unfold aR;rw [if_pos hb]
  rw [e,e,e]
 | false =>
  obtain ⟨p,d,ok⟩:=jN hv hb;have e:∀ n,aR s n = { s with pos:=ofQ (bM s n) }:=fun n=>by unfold aR;rw [hb];rfl
  have hk:s.kind≠0:=by rcases ok.kind with h | h<;>omega
  have hz:SourceR.isZ { s with pos:=ofQ (bM s n) }=false:=Qh hk;rw [e n,e (n+m)];unfold aR;rw [hz];have:bM { s with pos:=ofQ (bM s n) } m=bM s (n+m):=by
   unfold bM;simp only;rw [Kk,Rat.add_assoc];have:jF { s with pos:=ofQ (toQ s.pos+jF s n) } m=jF s m:=rfl;rw [this,aNc]
  simp only [Bool.false_eq_true,if_false,this]
theorem aEk {c:ClipR} (ha:aY c.a=true) (hb:aY c.b=true) (n m l:Int):kL { kL c n with len:=l } m = { kL c (n+m) with len:=l }:=by
 unfold kL;simp only [jQ ha,jQ hb];cases hs:shK c.kind with
 | true=>simp only [if_true];congr 1;omega
 | false=>simp only [Bool.false_eq_true,if_false]
theorem Rs {c q:ClipR} (ha:aY c.a=true) (hb:aY c.b=true) (h:eL c q=true) (r:ClipR):eL { c with len:=c.len+q.len } r=eL q r:=by
 unfold eL at h;split at h
 ·rename_i hk;simp only [Bool.and_eq_true,beq_iff_eq] at hk;have e:∀ d:ClipR,d.kind=0→eL d r=(r.kind==0):=fun d hd=>by
   unfold eL
   by_cases hr:r.kind=0
   ·rw [if_pos (by rw [hd,hr];rfl),hr];rfl
   ·have hn : ¬ (d.kind==0&&r.kind==0)=true:=by simp [hr]
    have hf:(r.kind==0)=false:=by simp [hr]
    rw [if_neg hn,hf,Bool.eq_false_iff,ne_eq,ClipR.eqb_iff];intro h;have:r.kind=d.kind:=by rw [h];rfl
    exact hr (this.trans hd)
  rw [e _ hk.2];exact e _ hk.1
 ·rename_i hk;rw [ClipR.eqb_iff] at h;have hq:q.kind=c.kind:=by rw [h];rfl
  have key : { kL { c with len:=c.len+q.len } (c.len+q.len) with len:=r.len } = { kL q q.len with len:=r.len }:=by
   have e1:kL { c with len:=c.len+q.len } (c.len+q.len) = { kL c (c.len+q.len) with len:=c.len+q.len }:=rfl;have e2:kL q q.len = { kL c (c.len+q.len) with len:=q.len }:=by
    have:=aEk ha hb c.len q.len q.len;rw [← h] at this;exact this
   rw [e1,e2]
  unfold eL;simp only [hq];rw [key]
theorem aQr (c:ClipR):∀ (l:List ClipR),c∈l→(∀ d∈l,1≤d.len)→c.len≤totL l:=by
 intro l
 induction l with
 | nil=>intro h;simp at h
 | cons d l ih =>
  intro h hl;have hn:=cL l fun e he=>hl e (by simp [he])
  have hd:=hl d (by simp);rcases List.mem_cons.1 h with e | h
  ·rw [e];simp only [totL];omega
  ·have:=ih h fun e he=>hl e (by simp [he])
   simp only [totL];omega
theorem aAq {t:List ClipR} (hi:∀ i,i<t.length→aN (t.getD i default)=true) (k:Nat):totL (t.take k)≤totL t:=by
 have h:=gQ (t.take k) (t.drop k);rw [List.take_append_drop] at h;have:=cL (t.drop k) fun c hc=>by
  obtain ⟨i,hi2,rfl⟩:=List.mem_iff_getElem.1 (List.mem_of_mem_drop hc);have:=aL (hi i hi2);rw [aU hi2] at this;exact this.1
 omega
theorem Hs {t:List ClipR}:∀ k,k≤t.length → ∀ c∈dE t k, ∃ j,j<t.length∧c = { t.getD j default with len:=c.len }
 | 0,_,c,hc=>by simp [dE] at hc
 | k+1,h,c,hc=>by
  have ih:=Hs (t:=t) k (by omega);rw [dE] at hc;split at hc
  ·rename_i hb;rcases hp:dE t k with _ | ⟨d,l⟩
   ·rw [hp] at hc;simp [uE] at hc
   ·obtain ⟨i,e,he⟩:=zT (l:=dE t k) (by rw [hp];simp);rw [he,gN] at hc;rcases List.mem_append.1 hc with hc | hc
    ·exact ih c (by rw [he];simp [hc])
    ·simp only [List.mem_cons,List.not_mem_nil,or_false] at hc;obtain ⟨j,hj,hj2⟩:=ih e (by rw [he];simp);refine ⟨j,hj,?_⟩;rw [hc]
     conv=>lhs;rw [hj2]
  ·rcases List.mem_append.1 hc with hc | hc
   ·exact ih c hc
   ·simp only [List.mem_cons,List.not_mem_nil,or_false] at hc;exact ⟨k,by omega,by rw [hc]⟩
theorem aC0 {t:List ClipR} (hv:bB t=true) (hfit:∀ c∈t,c.fit) {k:Nat} (hk:k≤t.length) {c:ClipR} (hc:c∈dE t k):Mild c:=by
 obtain ⟨h64,hi,htot⟩:=mU hv;obtain ⟨f1,f2,f3,f4⟩:=kA hi k hk;obtain ⟨j,hj,e⟩:=Hs k hk c hc;have m:=Kq (hfit _ (aP hj)) (hi j hj);have h1:=f4 c hc;have h2:=aQr c _ hc f4;have h3:=aAq hi k;rw [f3] at h2;have hl : 0≤c.len∧c.len≤2147483647:=by omega
 rw [e];have e2 : { t.getD j default with len:=c.len }.len=c.len:=rfl;exact ⟨⟨⟨by simp only;omega,by simp only;omega⟩,m.fit.kind,m.fit.a,m.fit.b,m.fit.off,m.fit.total,m.fit.param,m.fit.gain⟩,m.chan,m.a,m.b,hl,m.off⟩
theorem Hr {t:List ClipR} (hv:bB t=true) (hfit:∀ c∈t,c.fit):∀ k,k≤t.length → ∀ i c,dE t k=i ++ [c] → ∀ q,eL c q=eL (t.getD (k - 1) default) q
 | 0,_,i,c,h,_=>by simp [dE] at h
 | k+1,hk,i,c,h,q=>by
  have ih:=Hr hv hfit k (by omega);rw [dE] at h;split at h
  ·rename_i hb;unfold vD at hb;simp only [Bool.and_eq_true,decide_eq_true_eq] at hb;obtain ⟨i2,c2,h2⟩:=zT ((kA (mU hv).2.1 k (by omega)).2.1 hb.1);rw [h2,gN] at h;have hc:=(List.append_inj' h rfl).2;simp only [List.cons.injEq,and_true] at hc;have m:=aC0 hv hfit (k:=k) (by omega) (c:=c2) (by rw [h2];simp);have h4:=ih i2 c2 h2 (t.getD k default);rw [hb.2] at h4;rw [← hc,Rs m.a m.b h4];rfl
  ·have hc:=(List.append_inj' h rfl).2;simp only [List.cons.injEq,and_true] at hc;rw [← hc];rfl
def sD (t:List ClipR):List ClipR:=if bB t=true then sE t else []
theorem cPack (t:List ClipR) (hfit:∀ c∈t,c.fit):aK Tryz.prog 104 [.t (aM t)] (.t (aM (sD t))):=by
 refine eD Tryz.X104 Tryz.func104 rfl Tryz.ntmps104 (by rw [Tryz.results104]) (aC _ ?_);simp only [go_sem,simprocAttr];refine ⟨_,kX t hfit,?_⟩;simp only [go_sem];refine ⟨fun h=>?_,fun h=>?_⟩
 ·unfold awS;simp only [go_sem,simprocAttr];unfold sD;rw [nt h];exact Vj
 ·unfold awS;simp only [go_sem,simprocAttr];refine ⟨_,cPack1 t hfit (nf h),?_⟩;simp only [go_sem];unfold sD;rw [if_pos (nf h)];exact bJ rfl rfl
def nL (o:List ClipR):Bool:=decide (0<o.length)&&(o.getD (o.length - 1) default).kind==0
def jU (o:List ClipR):List ClipR:=if nL o=true then o.take (o.length - 1) else o
def gR (t:List ClipR):List ClipR:=jU (sD t)
theorem aLb (t:List ClipR):(sD t).length≤64:=by
 unfold sD;split
 ·rename_i h;obtain ⟨h64,hi,htot⟩:=mU h;have:=(kA hi t.length (Nat.le_refl _)).1;unfold sE;omega
 ·simp
theorem As (t:List ClipR) (hfit:∀ c∈t,c.fit):aK Tryz.prog 47 [.t (aM t)] (.t (aM (gR t))):=by
 have h64:=aLb t;refine eD Tryz.X47 Tryz.func47 rfl Tryz.ntmps47 (by rw [Tryz.results47]) (aC _ ?_);simp only [go_sem,↓reduceIte,Nat.reduceSub];refine ⟨_,cPack t hfit,?_⟩;have ho:sD t=sD t:=rfl;rw [← ho] at h64;have hn:gR t=jU (sD t):=by unfold gR;rw [ho]
 rw [hn];generalize sD t=o at h64;clear ho hn;have w1:IntKind.i64.wrap ((o.length:Int) - 1)=(o.length:Int) - 1:=wrap64 (by omega) (by omega);have w2:((o.length:Int) - 1).toNat=o.length - 1:=by omega
 simp only [go_sem,↓reduceIte,w1,w2];refine ⟨fun h=>?_,?_⟩
 ·simp only [decide_eq_true_eq] at h;omega
 refine brW (b:=nL o) ?_ ⟨fun hb=>?_,fun hb=>?_⟩
 ·unfold nL;have:decide ((o.length:Int) > 0)=decide (0<o.length):=by rw [Bool.eq_iff_iff];simp only [decide_eq_true_eq];omega
  rw [this]
 ·have hb2:=hb;unfold nL at hb2;simp only [Bool.and_eq_true,decide_eq_true_eq] at hb2;unfold awS;simp only [go_sem,↓reduceIte,w1,w2];refine ⟨⟨by omega,by omega,by omega⟩,bJ ?_ rfl⟩;unfold jU;rw [if_pos hb,Int.toNat_zero,List.drop_zero, ← List.map_take];rfl
 ·unfold awS;simp only [go_sem];unfold jU;rw [hb];exact bJ rfl rfl
def bA:ByteArray:=⟨#[97]⟩
def awS1:SourceR:=⟨1,⟨#[97]⟩,⟨10,1⟩,⟨1,2⟩,false⟩
def awC1:ClipR:=⟨3,1,awS1,zSource,0,0,0,⟨#[]⟩,0,[]⟩
def awG (n:Int) (k:Int):ClipR:=⟨n,k,zSource,zSource,0,0,0,⟨#[]⟩,0,[]⟩
theorem i0:I64 0:=⟨by decide,by decide⟩
theorem xN:zSource.fit:=⟨⟨by decide,by decide⟩,⟨⟨by decide,by decide⟩,⟨by decide,by decide⟩⟩,⟨⟨by decide,by decide⟩,⟨by decide,by decide⟩⟩⟩
