/- Proved here: What the reference's Chain answers, for use in the proofs of the given statements; conditions stand in each theorem. -/
import Derived.Test.YtkjdkbmfaamhaaaGreatYC
set_option linter.unusedSimpArgs false
set_option linter.unusedVariables false
set_option linter.unusedSectionVars false
set_option linter.unnecessarySimpa false
namespace Go.Proofs.YtkjdkbmfaamhaaaGreat
open Go.RowKit
set_option maxRecDepth 4000
abbrev IM:=List Int
def iE (K:IM):List (Value×V):=K.map fun e=>(Value.int .i64 e,vbool true)
def putI (n:Int):IM→IM
 | []=>[n]
 | e::K=>if n=e then n::K else e::putI n K
theorem look_I (n:Int):∀ K:IM,lookE (.int .i64 n) (iE K)=if n∈K then some (vbool true) else none
 | []=>rfl
 | e::K=>by
  have h:=look_I n K
  unfold iE at h ⊢
  simp only [List.map_cons,lookE,keyB,decide_eq_true_eq,h,List.mem_cons]
  by_cases h1:n=e
  ·rw [if_pos h1,if_pos (Or.inl h1)]
  ·rw [if_neg h1]
   by_cases h2:n∈K
   ·rw [if_pos h2,if_pos (Or.inr h2)]
   ·rw [if_neg h2,if_neg (fun h=>h.elim h1 h2)]
theorem kinds_I:∀ K:IM,kindsB (.int .i64) (iE K)=true
 | []=>rfl
 | e::K=>by
  have h:=kinds_I K
  unfold iE at h ⊢
  simp only [List.map_cons,kindsB,kindB,h,Bool.and_true]
  rfl
theorem pureEs_iE:∀ K:IM,pureEs (iE K)=True
 | []=>rfl
 | e::K=>by
  have h:=pureEs_iE K
  unfold iE at h ⊢
  simp only [List.map_cons,pureEs,h,and_true]
  exact eq_true rfl
theorem iE_length (K:IM):(iE K).length=K.length:=List.length_map ..
attribute [go_sem] kinds_I pureEs_iE iE_length
theorem mem_putI {n m:Int}:∀ {K:IM},m∈putI n K ↔ m=n∨m∈K
 | []=>by simp [putI]
 | e::K=>by
  have ih:=mem_putI (n:=n) (m:=m) (K:=K)
  unfold putI
  split
  ·rename_i h
   subst h
   simp
  ·simp only [List.mem_cons,ih]
   constructor
   ·rintro (h | h | h)
    ·exact .inr (.inl h)
    ·exact .inl h
    ·exact .inr (.inr h)
   ·rintro (h | h | h)
    ·exact .inr (.inl h)
    ·exact .inl h
    ·exact .inr (.inr h)
def sIdx (p:ProjR) (n:ByteArray):Int:=fIdx (fun s:SequenceR=>s.name.toList==n.toList) p.seqs
def lvlS (p:ProjR) (N:IM) (x:SourceR):IM:=if x.kind=2 then putI (sIdx p x.name) N else N
def lvlI (p:ProjR) (K:IM) (N:IM) (i:Nat):IM:=if (i:Int)∈K then (srcsOf (p.seqs.getD i default)).foldl (lvlS p) N else N
def lvl (p:ProjR) (K:IM):Nat→IM
 | 0=>[]
 | i+1=>lvlI p K (lvl p K i) i
def levels (p:ProjR) (n:Int):Nat→IM
 | 0=>[n]
 | d+1=>lvl p (levels p n d) p.seqs.length
open Go.RowKit
set_option maxRecDepth 4000
def depG (g:Nat→Bool):Nat→Nat→Nat
 | 0,d=>d
 | f+1,d=>if g d=true then d else depG g f (d+1)
theorem depG_spec (g:Nat→Bool):∀ (f d:Nat),d≤depG g f d∧depG g f d≤d+f∧(∀ e,d≤e→e<depG g f d→g e=false)∧(g (depG g f d)=true∨depG g f d=d+f)
 | 0,d=>⟨Nat.le_refl _,Nat.le_refl _,fun e h1 h2=>absurd h2 (by unfold depG;omega), .inr rfl⟩
 | f+1,d=>by
  unfold depG
  split
  ·rename_i h
   exact ⟨Nat.le_refl _,by omega,fun e h1 h2=>by omega, .inl h⟩
  ·rename_i h
   obtain ⟨a1,a2,a3,a4⟩:=depG_spec g f (d+1)
   refine ⟨by omega,by omega,fun e h1 h2=>?_,?_⟩
   ·rcases Nat.lt_or_ge d e with h3 | h3
    ·exact a3 e (by omega) h2
    ·have:e=d:=by omega
     subst this
     simpa using h
   ·rcases a4 with a4 | a4
    ·exact .inl a4
    ·exact .inr (by omega)
def depR (p:ProjR) (n:Int):Nat:=depG (fun d=>(levels p n d).isEmpty) (p.seqs.length+1) 0
def mIdx (p:ProjR) (n:ByteArray):Int:=fIdx (fun s:MediumR=>s.name.toList==n.toList) p.media
def thereR (p:ProjR) (x:SourceR):Bool := !((x.kind==1&&decide (mIdx p x.name<0))||(x.kind==2&&decide (sIdx p x.name<0)))
def complR (p:ProjR) (s:SequenceR):Bool:=(srcsOf s).all (thereR p)
def uniqM (p:ProjR) (i:Nat):Bool:=mIdx p (p.media.getD i default).name==(i:Int)
def uniqS (p:ProjR) (i:Nat):Bool:=sIdx p (p.seqs.getD i default).name==(i:Int)
structure RefSays (p:ProjR) (r:Int):Prop where
 s5:smallB p=false→r=5
 s1:smallB p=true→(p.media.all medOk&&p.seqs.all seqOk)=false→r=1
 s8:smallB p=true→(p.media.all medOk&&p.seqs.all seqOk)=true→(∃ i,i<p.media.length∧uniqM p i=false)∨(∃ i,i<p.seqs.length∧uniqS p i=false)→r=8
 s7:smallB p=true→(p.media.all medOk&&p.seqs.all seqOk)=true→(∀ i,i<p.media.length→uniqM p i=true)→(∀ i,i<p.seqs.length→uniqS p i=true)→p.seqs.all (complR p)=false→r=7
 s16:smallB p=true→(p.media.all medOk&&p.seqs.all seqOk)=true→(∀ i,i<p.media.length→uniqM p i=true)→(∀ i,i<p.seqs.length→uniqS p i=true)→p.seqs.all (complR p)=true→(∃ i,i<p.seqs.length∧p.seqs.length<depR p (i:Int))→r=16
 s18:smallB p=true→(p.media.all medOk&&p.seqs.all seqOk)=true→(∀ i,i<p.media.length→uniqM p i=true)→(∀ i,i<p.seqs.length→uniqS p i=true)→p.seqs.all (complR p)=true→(∀ i,i<p.seqs.length→depR p (i:Int)≤p.seqs.length)→(∃ i,i<p.seqs.length∧5<depR p (i:Int))→r=18
 s0:smallB p=true→(p.media.all medOk&&p.seqs.all seqOk)=true→(∀ i,i<p.media.length→uniqM p i=true)→(∀ i,i<p.seqs.length→uniqS p i=true)→p.seqs.all (complR p)=true→(∀ i,i<p.seqs.length→depR p (i:Int)≤p.seqs.length)→(∀ i,i<p.seqs.length→depR p (i:Int)≤5)→r=0
def deepF (p:ProjR):Nat→Bool
 | 0=>false
 | k+1=>deepF p k||decide (5<depR p (k:Int))
open Go.RowKit
set_option maxRecDepth 4000
theorem bq (a b:ByteArray):(a.toList==b.toList)=true ↔ a=b:=by
 rw [beq_bytesL,decide_eq_true_eq]
theorem bqf (a b:ByteArray):(a.toList==b.toList)=false ↔ a≠b:=by
 rw [beq_bytesL,decide_eq_false_iff_not]
theorem fIdx_pos {α : Type} [Inhabited α] {q : α → Bool} {l:List α} (h : 0≤fIdx q l):∃ k,k<l.length∧fIdx q l=(k:Int)∧q (l.getD k default)=true:=by
 unfold fIdx at h ⊢
 by_cases h1:l.any q=true
 ·rw [if_pos h1]
  obtain ⟨x,hx,hq⟩:=List.any_eq_true.1 h1
  have hlt:l.findIdx q<l.length:=List.findIdx_lt_length_of_exists ⟨x,hx,hq⟩
  refine ⟨l.findIdx q,hlt,rfl,?_⟩
  rw [getD_of_lt hlt]
  exact List.findIdx_getElem
 ·rw [if_neg h1] at h
  omega
theorem fIdx_neg {α : Type} [Inhabited α] {nm : α → ByteArray} {n:ByteArray} {l:List α}:fIdx (fun x=>(nm x).toList==n.toList) l<0 ↔ lastOf nm n l=none:=by
 rw [lastOf_none]
 constructor
 ·intro h x hx hn
  have h1:l.any (fun x=>(nm x).toList==n.toList)=true:=List.any_eq_true.2 ⟨x,hx,(bq _ _).2 hn⟩
  unfold fIdx at h
  rw [if_pos h1] at h
  omega
 ·intro h
  rcases Int.lt_or_le (fIdx (fun x=>(nm x).toList==n.toList) l) 0 with h1 | h1
  ·exact h1
  ·obtain ⟨k,h2,_,h3⟩:=fIdx_pos h1
   exact absurd ((bq _ _).1 h3) (h _ (mem_getD h2))
theorem fIdx_nodup {α : Type} [Inhabited α] {nm : α → ByteArray} {l:List α} (h:(l.map nm).Nodup) {i:Nat} (hi:i<l.length):fIdx (fun x=>(nm x).toList==(nm (l.getD i default)).toList) l=(i:Int):=by
 refine fIdx_hit hi (fun j hj=>?_) ((bq _ _).2 rfl)
 rw [bqf]
 intro e
 rw [getD_of_lt hi,getD_of_lt (show j<l.length by omega)] at e
 have:=(List.pairwise_iff_getElem.1 h) j i (by simpa using (show j<l.length by omega)) (by simpa using hi) hj
 simp only [List.getElem_map] at this
 exact this e
theorem nodup_fIdx {α : Type} [Inhabited α] {nm : α → ByteArray} {l:List α} (h:∀ i,i<l.length→fIdx (fun x=>(nm x).toList==(nm (l.getD i default)).toList) l=(i:Int)):(l.map nm).Nodup:=by
 refine List.pairwise_iff_getElem.2 fun i j hi hj hij e=>?_
 rw [List.length_map] at hi hj
 simp only [List.getElem_map] at e
 have h1:=h i hi
 have h2:=h j hj
 rw [getD_of_lt hj] at h2
 rw [getD_of_lt hi,e,h2] at h1
 omega
theorem uniq_iff (p:ProjR):uniqB p=true ↔ (p.media.map MediumR.name).Nodup∧(p.seqs.map SequenceR.name).Nodup:=by
 unfold uniqB catM catS
 rw [mapOf_length,mapOf_length]
 have h1:=once_length_iff (p.media.map MediumR.name)
 have h2:=once_length_iff (p.seqs.map SequenceR.name)
 rw [List.length_map] at h1 h2
 simp only [Bool.not_eq_true',Bool.or_eq_false_iff,decide_eq_false_iff_not,Int.ofNat_lt,h1,h2,Classical.not_not]
theorem uniqM_of {p:ProjR} (h:(p.media.map MediumR.name).Nodup) {i:Nat} (hi:i<p.media.length):uniqM p i=true:=by
 unfold uniqM mIdx
 rw [fIdx_nodup h hi,beq_self_eq_true]
theorem uniqS_of {p:ProjR} (h:(p.seqs.map SequenceR.name).Nodup) {i:Nat} (hi:i<p.seqs.length):uniqS p i=true:=by
 unfold uniqS sIdx
 rw [fIdx_nodup h hi,beq_self_eq_true]
theorem there_eq (p:ProjR) (x:SourceR):thereR p x=srcThere p x:=by
 unfold thereR srcThere mIdx sIdx
 have h1:decide (fIdx (fun s:MediumR=>s.name.toList==x.name.toList) p.media<0)=(medOf p.media x.name).isNone:=by
  rw [Bool.eq_iff_iff,decide_eq_true_eq,Option.isNone_iff_eq_none]
  exact fIdx_neg
 have h2:decide (fIdx (fun s:SequenceR=>s.name.toList==x.name.toList) p.seqs<0)=(seqOf p.seqs x.name).isNone:=by
  rw [Bool.eq_iff_iff,decide_eq_true_eq,Option.isNone_iff_eq_none]
  exact fIdx_neg
 rw [h1,h2]
theorem kind_isZ {x:SourceR} (h:x.isZ=true):x.kind=0:=by
 unfold SourceR.isZ SourceR.eqb at h
 simp only [Bool.and_eq_true,beq_iff_eq] at h
 exact h.1.1.1.1.1.1
theorem compl_eq (p:ProjR) (s:SequenceR):complR p s=complS p s:=by
 rw [Bool.eq_iff_iff]
 unfold complR complS srcsOf srcsF
 rw [List.all_eq_true,List.all_eq_true]
 constructor
 ·intro h c hc
  have key:∀ x:SourceR,(x=c.a∨x=c.b)→srcThere p x=true:=fun x hx=>by
   rcases hz:x.isZ with _ | _
   ·rw [← there_eq]
    refine h x (List.mem_filter.2 ⟨List.mem_flatMap.2 ⟨c,hc,by simpa using hx⟩,by rw [hz];rfl⟩)
   ·unfold srcThere
    rw [kind_isZ hz]
    rfl
  unfold clipThere
  rw [key _ (.inl rfl),key _ (.inr rfl)]
  rfl
 ·intro h x hx
  obtain ⟨c,hc,hx⟩:=List.mem_flatMap.1 (List.mem_filter.1 hx).1
  have:=h c hc
  unfold clipThere at this
  rw [Bool.and_eq_true] at this
  rw [there_eq]
  simp only [List.mem_cons,List.not_mem_nil,or_false] at hx
  rcases hx with rfl | rfl
  ·exact this.1
  ·exact this.2
def Wk (p:ProjR):Nat→ByteArray→Prop
 | 0,_=>True
 | d+1,n => ∃ m,m∈inner p n∧Wk p d m
theorem Wk_le {p:ProjR}:∀ {d e:Nat} {n:ByteArray},d≤e→Wk p e n→Wk p d n
 | 0,_,_,_,_=>trivial
 | d+1,0,_,h,_=>absurd h (by omega)
 | d+1,e+1,n,h,⟨m,h1,h2⟩=>⟨m,h1,Wk_le (by omega) h2⟩
inductive Rch (p:ProjR):ByteArray→ByteArray→Prop
 | one {m n:ByteArray}:n∈inner p m→Rch p m n
 | snoc {m k n:ByteArray}:Rch p m k→n∈inner p k→Rch p m n
theorem Rch.first {p:ProjR} {m n:ByteArray} (h:Rch p m n):∃ k,k∈inner p m∧(k=n∨Rch p k n):=by
 induction h with
 | one h=>exact ⟨_,h, .inl rfl⟩
 | snoc _ h ih =>
  obtain ⟨k,h1,h2⟩:=ih
  rcases h2 with rfl | h2
  ·exact ⟨k,h1, .inr (.one h)⟩
  ·exact ⟨k,h1, .inr (.snoc h2 h)⟩
theorem Wk_cycle {p:ProjR} {n:ByteArray} (h:Rch p n n):∀ (d:Nat) (m:ByteArray),(m=n∨Rch p m n)→Wk p d m
 | 0,_,_=>trivial
 | d+1,m,hm=>by
  have h1:Rch p m n:=by rcases hm with rfl | hm<;>assumption
  obtain ⟨k,h2,h3⟩:=h1.first
  exact ⟨k,h2,Wk_cycle h d k h3⟩
def Cyc (p:ProjR):Prop := ∃ s∈p.seqs, ∀ d,Wk p d s.name
def posK (l:List SequenceR) (K:KM):Nat:=(l.filter fun s=>decide (0<valK s.name K)).length
theorem posK_le {K K':KM} (h:∀ n,0<valK n K→0<valK n K'):∀ l:List SequenceR,posK l K≤posK l K'
 | []=>Nat.le_refl _
 | s::l=>by
  have ih:=posK_le h l
  unfold posK at ih ⊢
  simp only [List.filter_cons]
  by_cases h2 : 0<valK s.name K
  ·rw [decide_eq_true h2,decide_eq_true (h _ h2)]
   simpa using ih
  ·rw [decide_eq_false h2]
   by_cases h3 : 0<valK s.name K'
   ·rw [decide_eq_true h3]
    simp
    omega
   ·rw [decide_eq_false h3]
    simpa using ih
theorem posK_lt {K K':KM} (h:∀ n,0<valK n K→0<valK n K') {n:ByteArray} (h1 : ¬ 0<valK n K) (h2 : 0<valK n K'):∀ {l:List SequenceR},(∃ s∈l,s.name=n)→posK l K<posK l K'
 | [],hx=>by obtain ⟨s,hs,_⟩:=hx;cases hs
 | s::l,hx=>by
  have hle:=posK_le h l
  have ih:=fun h'=>posK_lt h h1 h2 (l:=l) h'
  unfold posK at ih hle ⊢
  simp only [List.filter_cons]
  by_cases hs:s.name=n
  ·rw [hs,decide_eq_false h1,decide_eq_true h2]
   simp
   omega
  ·have h':∃ s∈l,s.name=n:=by
    obtain ⟨s',h1,h2⟩:=hx
    rcases List.mem_cons.1 h1 with rfl | h1
    ·exact absurd h2 hs
    ·exact ⟨s',h1,h2⟩
   have ih:=ih h'
   by_cases h3 : 0<valK s.name K
   ·rw [decide_eq_true h3,decide_eq_true (h _ h3)]
    simpa using ih
   ·rw [decide_eq_false h3]
    by_cases h4 : 0<valK s.name K'
    ·rw [decide_eq_true h4]
     simp
     omega
    ·rw [decide_eq_false h4]
     simpa using ih
structure GoodK (p:ProjR) (K:KM):Prop where
 up:∀ n,0<valK n K→Wk p ((valK n K).toNat - 1) n
 dn:∀ n,0<valK n K → ¬ Wk p (valK n K).toNat n
 le:∀ n,0<valK n K→valK n K≤posK p.seqs K
structure Stp (K K':KM):Prop where
 pos:∀ n,0<valK n K→0<valK n K'
 neg:∀ n,valK n K'<0 ↔ valK n K<0
theorem Stp.refl (K:KM):Stp K K:=⟨fun _ h=>h,fun _=>Iff.rfl⟩
theorem Stp.trans {a b c:KM} (h:Stp a b) (h':Stp b c):Stp a c:=⟨fun n hn=>h'.pos n (h.pos n hn),fun n=>(h'.neg n).trans (h.neg n)⟩
def SpecF (p:ProjR) (n:ByteArray) (K:KM) (r:Int×KM):Prop:=(r.1=0→Cyc p)∧(r.1≠0→0<r.1∧r.1=valK n r.2∧GoodK p r.2∧Stp K r.2)
theorem chainL_spec {p:ProjR} (hlen:p.seqs.length≤16) {f:Nat} (hgo:∀ x K,(seqOf p.seqs x).isSome=true→unk p.seqs K<f→GoodK p K→(∀ m,valK m K<0→Rch p m x)→SpecF p x K (chainF p f x K)) :
  ∀ (xs:List ByteArray) (K:KM) (l:Int),(∀ x∈xs,(seqOf p.seqs x).isSome=true)→unk p.seqs K<f→GoodK p K→(∀ m,valK m K<0 → ∀ x∈xs,Rch p m x)→1≤l→l≤posK p.seqs K+1 →
  ((chainL (chainF p f) xs K l).1=false→Cyc p)∧((chainL (chainF p f) xs K l).1=true →
   GoodK p (chainL (chainF p f) xs K l).2.2∧Stp K (chainL (chainF p f) xs K l).2.2∧l≤(chainL (chainF p f) xs K l).2.1∧(chainL (chainF p f) xs K l).2.1≤posK p.seqs (chainL (chainF p f) xs K l).2.2+1 ∧
   (∀ x∈xs, ∃ v:Nat, ¬ Wk p v x∧(v:Int)+1≤(chainL (chainF p f) xs K l).2.1) ∧
   ((chainL (chainF p f) xs K l).2.1=l ∨ ∃ x∈xs,2≤(chainL (chainF p f) xs K l).2.1∧Wk p ((chainL (chainF p f) xs K l).2.1.toNat - 2) x))
 | [],K,l,_,_,hG,_,h1,h2=>by
  refine ⟨fun h=>(by cases h),fun _=>⟨hG,Stp.refl K,Int.le_refl _,h2,fun x hx=>(by cases hx), .inl rfl⟩⟩
 | x::xs,K,l,hS,hu,hG,hR,h1,h2=>by
  obtain ⟨s1,s2⟩:=hgo x K (hS x (by simp)) hu hG (fun m hm=>hR m hm x (by simp))
  obtain ⟨r,hr⟩:∃ r,r=chainF p f x K:=⟨_,rfl⟩
  have hgr:grows K r.2:=by rw [hr];exact chainF_grows p f x K
  rw [← hr] at s1 s2
  unfold chainL
  rw [← hr]
  by_cases h0:r.1=0
  ·rw [if_pos h0]
   exact ⟨fun _=>s1 h0,fun h=>by cases h⟩
  ·rw [if_neg h0]
   obtain ⟨t1,t2,t3,t4⟩:=s2 h0
   have hv : 0<valK x r.2:=by omega
   have hle:=t3.le x hv
   have hpl:posK p.seqs r.2≤16:=Nat.le_trans (List.length_filter_le _ _) hlen
   have hmono:posK p.seqs K≤posK p.seqs r.2:=posK_le t4.pos _
   have hw:IntKind.i64.wrap (r.1+1)=r.1+1:=wrap64 (by omega) (by omega)
   rw [hw]
   obtain ⟨c1,c2⟩:=chainL_spec hlen hgo xs r.2 (max l (r.1+1)) (fun y hy=>hS y (by simp [hy])) (Nat.lt_of_le_of_lt (unk_le hgr _) hu) t3
    (fun m hm y hy=>hR m ((t4.neg m).1 hm) y (by simp [hy])) (by omega) (by omega)
   refine ⟨c1,fun h=>?_⟩
   obtain ⟨d1,d2,d3,d4,d5,d6⟩:=c2 h
   have hx0 : ¬ Wk p r.1.toNat x:=by have:=t3.dn x hv;rw [← t2] at this;exact this
   have hx1:Wk p (r.1.toNat - 1) x:=by have:=t3.up x hv;rw [← t2] at this;exact this
   refine ⟨d1,t4.trans d2,by omega,d4,fun y hy=>?_,?_⟩
   ·rcases List.mem_cons.1 hy with rfl | hy
    ·exact ⟨r.1.toNat,hx0,by omega⟩
    ·exact d5 y hy
   ·rcases d6 with d6 | ⟨y,hy,d6,d7⟩
    ·rcases Int.le_total (r.1+1) l with h3 | h3
     ·exact .inl (by omega)
     ·refine .inr ⟨x,by simp,by omega,?_⟩
      have e:(chainL (chainF p f) xs r.2 (max l (r.1+1))).2.1.toNat - 2=r.1.toNat - 1:=by omega
      rw [e]
      exact hx1
    ·exact .inr ⟨y,by simp [hy],d6,d7⟩
theorem chainF_spec {p:ProjR} (hlen:p.seqs.length≤16) (hp:ShownOk p):∀ (f:Nat) (n:ByteArray) (K:KM),(seqOf p.seqs n).isSome=true→unk p.seqs K<f→GoodK p K→(∀ m,valK m K<0→Rch p m n)→SpecF p n K (chainF p f n K)
 | 0,_,_,_,h,_,_=>absurd h (Nat.not_lt_zero _)
 | f+1,n,K,hs,hu,hG,hR=>by
  obtain ⟨s,hsn⟩:=Option.isSome_iff_exists.1 hs
  obtain ⟨hsm,hsname⟩:=lastOf_mem hsn
  have hin:inner p n=namedS s 2:=by unfold inner;rw [hsn];rfl
  have hthere:∀ x∈inner p n,(seqOf p.seqs x).isSome=true:=fun x hx=>hp.there s hsm x (mem_namedS.1 (hin ▸ hx))
  unfold chainF
  by_cases hv:valK n K=0
  ·rw [if_neg (fun h=>h hv)]
   obtain ⟨K1,hK1⟩:∃ K1,K1=putK n (-1) K:=⟨_,rfl⟩
   have hval:∀ m,valK m K1=if m=n then -1 else valK m K:=fun m=>by rw [hK1,valK_put]
   have hu1:unk p.seqs K1<f:=by rw [hK1];exact Nat.lt_of_lt_of_le (unk_put (by decide) hv ⟨s,hsm,hsname⟩) (Nat.le_of_lt_succ hu)
   have hp1:∀ m,0<valK m K→0<valK m K1:=fun m hm=>by
    rw [hval,if_neg (fun e=>by subst e;omega)]
    exact hm
   have hp1':∀ m,0<valK m K1→m≠n∧valK m K1=valK m K:=fun m hm=>by
    rw [hval] at hm ⊢
    by_cases e:m=n
    ·rw [if_pos e] at hm;omega
    ·rw [if_neg e]
     exact ⟨e,rfl⟩
   have hG1:GoodK p K1:=by
    refine ⟨fun m hm=>?_,fun m hm=>?_,fun m hm=>?_⟩
    ·obtain ⟨_,e⟩:=hp1' m hm
     rw [e] at hm ⊢
     exact hG.up m hm
    ·obtain ⟨_,e⟩:=hp1' m hm
     rw [e] at hm ⊢
     exact hG.dn m hm
    ·obtain ⟨_,e⟩:=hp1' m hm
     rw [e] at hm ⊢
     have a1:=hG.le m hm
     have a2:=posK_le hp1 p.seqs
     omega
   rw [← hK1]
   obtain ⟨c1,c2⟩:=chainL_spec hlen (chainF_spec hlen hp f) (inner p n) K1 1 hthere hu1 hG1 (fun m hm x hx=>by
    rw [hval] at hm
    by_cases e:m=n
    ·subst e;exact .one hx
    ·rw [if_neg e] at hm;exact .snoc (hR m hm) hx) (Int.le_refl _) (by omega)
   obtain ⟨c,hc⟩:∃ c,c=chainL (chainF p f) (inner p n) K1 1:=⟨_,rfl⟩
   rw [← hc] at c1 c2
   rw [← hc]
   by_cases h1:c.1=true
   ·rw [if_pos h1]
    obtain ⟨d1,d2,d3,d4,d5,d6⟩:=c2 h1
    refine ⟨fun h=>by simp only at h;omega,fun _=>?_⟩
    have hval2:∀ m,valK m (putK n c.2.1 c.2.2)=if m=n then c.2.1 else valK m c.2.2:=fun m=>by rw [valK_put]
    have hneg:valK n c.2.2<0:=(d2.neg n).2 (by rw [hval,if_pos rfl];decide)
    have hpp:∀ m,0<valK m c.2.2→0<valK m (putK n c.2.1 c.2.2):=fun m hm=>by
     rw [hval2]
     split
     ·omega
     ·exact hm
    have hlt:=posK_lt hpp (n:=n) (by omega) (by rw [hval2,if_pos rfl];omega) (l:=p.seqs) ⟨s,hsm,hsname⟩
    have hup:Wk p (c.2.1.toNat - 1) n:=by
     rcases d6 with d6 | ⟨x,hx,d6,d7⟩
     ·rw [d6];exact trivial
     ·have e:c.2.1.toNat - 1=(c.2.1.toNat - 2)+1:=by omega
      rw [e]
      exact ⟨x,hx,d7⟩
    have hdn : ¬ Wk p c.2.1.toNat n:=by
     have e:c.2.1.toNat=(c.2.1.toNat - 1)+1:=by omega
     rw [e]
     rintro ⟨x,hx,hw⟩
     obtain ⟨v,hv1,hv2⟩:=d5 x hx
     exact hv1 (Wk_le (by omega) hw)
    refine ⟨by simp only;omega,by simp only;rw [hval2,if_pos rfl],⟨fun m hm=>?_,fun m hm=>?_,fun m hm=>?_⟩,⟨fun m hm=>?_,fun m=>?_⟩⟩
    ·simp only at hm ⊢
     rw [hval2] at hm ⊢
     by_cases e:m=n
     ·rw [if_pos e,e];exact hup
     ·rw [if_neg e] at hm ⊢; exact d1.up m hm
    ·simp only at hm ⊢
     rw [hval2] at hm ⊢
     by_cases e:m=n
     ·rw [if_pos e,e];exact hdn
     ·rw [if_neg e] at hm ⊢; exact d1.dn m hm
    ·simp only at hm ⊢
     rw [hval2] at hm ⊢
     by_cases e:m=n
     ·rw [if_pos e];omega
     ·rw [if_neg e] at hm ⊢
      have:=d1.le m hm
      omega
    ·exact hpp m (d2.pos m (hp1 m hm))
    ·simp only
     rw [hval2]
     by_cases e:m=n
     ·rw [if_pos e,e]
      omega
     ·rw [if_neg e,d2.neg m,hval,if_neg e]
   ·rw [if_neg h1]
    exact ⟨fun _=>c1 (by simpa using h1),fun h=>absurd rfl h⟩
  ·rw [if_pos hv]
   refine ⟨fun h=>?_,fun h=>?_⟩
   ·simp only at h
    have h1:valK n K<0:=by omega
    exact ⟨s,hsm,fun d=>by rw [hsname];exact Wk_cycle (hR n h1) d n (.inl rfl)⟩
   ·simp only at h ⊢
    exact ⟨by omega,by omega,hG,Stp.refl K⟩
theorem chainA_spec {p:ProjR} (hlen:p.seqs.length≤16) (hp:ShownOk p):∀ (xs:List SequenceR) (K:KM),(∀ s∈xs,s∈p.seqs)→GoodK p K→(∀ m, ¬ valK m K<0) →
  ((chainA p xs K).1=false→Cyc p)∧((chainA p xs K).1=true→GoodK p (chainA p xs K).2∧Stp K (chainA p xs K).2 ∧ ∀ s∈xs,0<valK s.name (chainA p xs K).2)
 | [],K,_,hG,_=>⟨fun h=>(by cases h),fun _=>⟨hG,Stp.refl K,fun s hs=>(by cases hs)⟩⟩
 | s::xs,K,hm,hG,hN=>by
  have hseq:(seqOf p.seqs s.name).isSome=true:=by
   cases h9:seqOf p.seqs s.name with
   | none=>exact absurd rfl (lastOf_none.1 h9 s (hm s (by simp)))
   | some _=>rfl
  obtain ⟨s1,s2⟩:=chainF_spec hlen hp (p.seqs.length+1) s.name K hseq (Nat.lt_succ_of_le (List.length_filter_le _ _)) hG (fun m h=>absurd h (hN m))
  unfold chainA
  by_cases h0:(chainF p (p.seqs.length+1) s.name K).1=0
  ·rw [if_pos h0]
   exact ⟨fun _=>s1 h0,fun h=>by cases h⟩
  ·rw [if_neg h0]
   obtain ⟨t1,t2,t3,t4⟩:=s2 h0
   obtain ⟨c1,c2⟩:=chainA_spec hlen hp xs _ (fun s hs=>hm s (by simp [hs])) t3 (fun m h=>hN m ((t4.neg m).1 h))
   refine ⟨c1,fun h=>?_⟩
   obtain ⟨d1,d2,d3⟩:=c2 h
   refine ⟨d1,t4.trans d2,fun y hy=>?_⟩
   rcases List.mem_cons.1 hy with rfl | hy
   ·exact d2.pos _ (by omega)
   ·exact d3 y hy
open Go.RowKit
set_option maxRecDepth 4000
theorem mem_foldl_lvlS {p:ProjR} {j:Int}:∀ {L:List SourceR} {N:IM},j∈L.foldl (lvlS p) N ↔ j∈N ∨ ∃ x∈L,x.kind=2∧j=sIdx p x.name
 | [],N=>by simp
 | x::L,N=>by
  rw [List.foldl_cons,mem_foldl_lvlS (L:=L)]
  unfold lvlS
  by_cases h:x.kind=2
  ·rw [if_pos h,mem_putI]
   constructor
   ·rintro ((h1 | h1) | ⟨y,h1,h2⟩)
    ·exact .inr ⟨x,by simp,h,h1⟩
    ·exact .inl h1
    ·exact .inr ⟨y,by simp [h1],h2⟩
   ·rintro (h1 | ⟨y,h1,h2⟩)
    ·exact .inl (.inr h1)
    ·rcases List.mem_cons.1 h1 with rfl | h1
     ·exact .inl (.inl h2.2)
     ·exact .inr ⟨y,h1,h2⟩
  ·rw [if_neg h]
   constructor
   ·rintro (h1 | ⟨y,h1,h2⟩)
    ·exact .inl h1
    ·exact .inr ⟨y,by simp [h1],h2⟩
   ·rintro (h1 | ⟨y,h1,h2⟩)
    ·exact .inl h1
    ·rcases List.mem_cons.1 h1 with rfl | h1
     ·exact absurd h2.1 h
     ·exact .inr ⟨y,h1,h2⟩
theorem mem_lvl {p:ProjR} {K:IM} {j:Int}:∀ {n:Nat},j∈lvl p K n ↔ ∃ i,i<n∧(i:Int)∈K ∧ ∃ x∈srcsOf (p.seqs.getD i default),x.kind=2∧j=sIdx p x.name
 | 0=>by
  constructor
  ·intro h;cases h
  ·rintro ⟨i,h,_⟩;omega
 | n+1=>by
  have ih:=mem_lvl (p:=p) (K:=K) (j:=j) (n:=n)
  unfold lvl lvlI
  by_cases h:(n:Int)∈K
  ·rw [if_pos h,mem_foldl_lvlS,ih]
   constructor
   ·rintro (⟨i,h1,h2⟩ | h2)
    ·exact ⟨i,by omega,h2⟩
    ·exact ⟨n,by omega,h,h2⟩
   ·rintro ⟨i,h1,h2,h3⟩
    rcases Nat.lt_or_ge i n with h4 | h4
    ·exact .inl ⟨i,h4,h2,h3⟩
    ·have:i=n:=by omega
     subst this
     exact .inr h3
  ·rw [if_neg h,ih]
   constructor
   ·rintro ⟨i,h1,h2⟩
    exact ⟨i,by omega,h2⟩
   ·rintro ⟨i,h1,h2,h3⟩
    rcases Nat.lt_or_ge i n with h4 | h4
    ·exact ⟨i,h4,h2,h3⟩
    ·have:i=n:=by omega
     subst this
     exact absurd h2 h
theorem mem_srcs2 {s:SequenceR} {m:ByteArray}:m∈namesK 2 (clipsOf s) ↔ ∃ x∈srcsOf s,x.kind=2∧x.name=m:=by
 unfold namesK srcsOf srcsF
 rw [List.mem_map]
 constructor
 ·rintro ⟨x,h1,h2⟩
  rw [List.mem_filter] at h1
  have hk:x.kind=2:=by simpa using h1.2
  refine ⟨x,List.mem_filter.2 ⟨h1.1,?_⟩,hk,h2⟩
  rcases hz:x.isZ with _ | _
  ·rfl
  ·rw [kind_isZ hz] at hk;cases hk
 ·rintro ⟨x,h1,h2,h3⟩
  rw [List.mem_filter] at h1
  exact ⟨x,List.mem_filter.2 ⟨h1.1,by rw [h2];rfl⟩,h3⟩
structure NetOk (p:ProjR):Prop where
 nd:(p.seqs.map SequenceR.name).Nodup
 th:∀ s∈p.seqs, ∀ x∈srcsOf s,x.kind=2→0≤sIdx p x.name
theorem seqOf_nd {p:ProjR} (h:NetOk p) {i:Nat} (hi:i<p.seqs.length):seqOf p.seqs (p.seqs.getD i default).name=some (p.seqs.getD i default):=by
 cases e:seqOf p.seqs (p.seqs.getD i default).name with
 | none=>exact absurd rfl (lastOf_none.1 e _ (mem_getD hi))
 | some s =>
  obtain ⟨h1,h2⟩:=lastOf_mem e
  obtain ⟨j,hj,rfl⟩:=List.getElem_of_mem h1
  have a1:=fIdx_nodup h.nd hi
  have a2:=fIdx_nodup h.nd hj
  rw [getD_of_lt hj,h2,a1] at a2
  have:i=j:=by omega
  subst this
  rw [getD_of_lt hi]
theorem mem_inner {p:ProjR} (h:NetOk p) {i:Nat} (hi:i<p.seqs.length) {m:ByteArray}:m∈inner p (p.seqs.getD i default).name ↔ ∃ x∈srcsOf (p.seqs.getD i default),x.kind=2∧x.name=m:=by
 unfold inner
 rw [seqOf_nd h hi,mem_namedS]
 exact mem_srcs2
theorem sIdx_at {p:ProjR} {n:ByteArray} (h : 0≤sIdx p n):∃ k,k<p.seqs.length∧sIdx p n=(k:Int)∧(p.seqs.getD k default).name=n:=by
 unfold sIdx at h ⊢
 obtain ⟨k,h1,h2,h3⟩:=fIdx_pos h
 exact ⟨k,h1,h2,(bq _ _).1 h3⟩
def someW (p:ProjR) (K:IM) (d:Nat):Prop := ∃ i,i<p.seqs.length∧(i:Int)∈K∧Wk p d (p.seqs.getD i default).name
theorem someW_step {p:ProjR} (h:NetOk p) {K:IM} {d:Nat}:someW p K (d+1) ↔ someW p (lvl p K p.seqs.length) d:=by
 constructor
 ·rintro ⟨i,hi,hK,m,hm,hw⟩
  obtain ⟨x,hx,hk,rfl⟩:=(mem_inner h hi).1 hm
  obtain ⟨k,h1,h2,h3⟩:=sIdx_at (h.th _ (mem_getD hi) x hx hk)
  exact ⟨k,h1,mem_lvl.2 ⟨i,hi,hK,x,hx,hk,h2.symm⟩,by rw [h3];exact hw⟩
 ·rintro ⟨k,hk,hL,hw⟩
  obtain ⟨i,hi,hK,x,hx,hk2,he⟩:=mem_lvl.1 hL
  obtain ⟨k',h1,h2,h3⟩:=sIdx_at (h.th _ (mem_getD hi) x hx hk2)
  have:k=k':=by omega
  subst this
  exact ⟨i,hi,hK,x.name,(mem_inner h hi).2 ⟨x,hx,hk2,rfl⟩,by rw [← h3];exact hw⟩
theorem levels_W {p:ProjR} (h:NetOk p) (n:Int):∀ (e d:Nat),someW p (levels p n 0) (d+e) ↔ someW p (levels p n e) d
 | 0,d=>Iff.rfl
 | e+1,d=>by
  rw [show d+(e+1)=(d+1)+e by omega,levels_W h n e (d+1),someW_step h]
  rfl
theorem levels_ne {p:ProjR} (h:NetOk p) {i:Nat} (hi:i<p.seqs.length) (e:Nat):levels p (i:Int) e ≠ [] ↔ Wk p e (p.seqs.getD i default).name:=by
 have h0:someW p (levels p (i:Int) 0) e ↔ Wk p e (p.seqs.getD i default).name:=by
  constructor
  ·rintro ⟨k,_,hk,hw⟩
   have:k=i:=by have:=List.mem_singleton.1 hk;omega
   subst this
   exact hw
  ·intro hw
   exact ⟨i,hi,by simp [levels],hw⟩
 rw [← h0]
 have h1:=levels_W h (i:Int) e 0
 rw [Nat.zero_add] at h1
 rw [h1]
 constructor
 ·intro hne
  obtain ⟨j,hj⟩:=List.exists_mem_of_ne_nil _ hne
  have hv:∃ k:Nat,k<p.seqs.length∧j=(k:Int):=by
   cases e with
   | zero =>
    have:j=(i:Int):=List.mem_singleton.1 hj
    exact ⟨i,hi,this⟩
   | succ e =>
    obtain ⟨i',hi',_,x,hx,hk2,he⟩:=mem_lvl.1 hj
    obtain ⟨k,a1,a2,_⟩:=sIdx_at (h.th _ (mem_getD hi') x hx hk2)
    exact ⟨k,a1,by omega⟩
  obtain ⟨k,hk,rfl⟩:=hv
  exact ⟨k,hk,hj,trivial⟩
 ·rintro ⟨k,_,hk,_⟩ hnil
  rw [hnil] at hk
  cases hk
theorem depR_facts {p:ProjR} (h:NetOk p) {i:Nat} (hi:i<p.seqs.length):(∀ e,e<depR p (i:Int)→Wk p e (p.seqs.getD i default).name)∧depR p (i:Int)≤p.seqs.length+1∧(¬ Wk p (depR p (i:Int)) (p.seqs.getD i default).name∨depR p (i:Int)=p.seqs.length+1):=by
 obtain ⟨_,a2,a3,a4⟩:=depG_spec (fun d=>(levels p (i:Int) d).isEmpty) (p.seqs.length+1) 0
 refine ⟨fun e he=>(levels_ne h hi e).1 fun h0=>?_,by unfold depR;omega,?_⟩
 ·have:=a3 e (Nat.zero_le _) he
  rw [h0] at this
  cases this
 ·rcases a4 with a4 | a4
  ·refine .inl fun hw=>(levels_ne h hi _).2 hw (List.isEmpty_iff.1 a4)
  ·exact .inr (by unfold depR;omega)
theorem good_nil (p:ProjR):GoodK p []:=⟨fun _ h=>absurd h (Int.lt_irrefl 0),fun _ h=>absurd h (Int.lt_irrefl 0),fun _ h=>absurd h (Int.lt_irrefl 0)⟩
theorem refSays (p:ProjR):RefSays p (validP p):=by
 have small:smallB p=true→p.seqs.length≤16:=fun h=>by
  unfold smallB at h
  simp only [Bool.and_eq_true,decide_eq_true_eq] at h
  omega
 have uq:(∀ i,i<p.media.length→uniqM p i=true)→(∀ i,i<p.seqs.length→uniqS p i=true)→uniqB p=true:=fun h1 h2=>by
  rw [uniq_iff]
  refine ⟨nodup_fIdx fun i hi=>?_,nodup_fIdx fun i hi=>?_⟩
  ·have:=h1 i hi
   unfold uniqM mIdx at this
   simpa using this
  ·have:=h2 i hi
   unfold uniqS sIdx at this
   simpa using this
 have cc:complR p=complS p:=funext (compl_eq p)
 have net:smallB p=true→(p.media.all medOk&&p.seqs.all seqOk)=true→uniqB p=true→p.seqs.all (complS p)=true→NetOk p:=fun hS hO hU hC=>by
  refine ⟨((uniq_iff p).1 hU).2,fun s hs x hx hk=>?_⟩
  have h1:=List.all_eq_true.1 hC s hs
  rw [← compl_eq] at h1
  have h2:=List.all_eq_true.1 h1 x hx
  unfold thereR at h2
  rw [hk] at h2
  simp only [Bool.not_eq_true',Bool.or_eq_false_iff,Bool.and_eq_false_iff,decide_eq_false_iff_not] at h2
  rcases h2.2 with h3 | h3
  ·cases h3
  ·omega
 have chains:smallB p=true→(p.media.all medOk&&p.seqs.all seqOk)=true→uniqB p=true→p.seqs.all (complS p)=true →
   ((chainA p p.seqs []).1=false → ∃ i,i<p.seqs.length∧p.seqs.length<depR p (i:Int)) ∧
   ((chainA p p.seqs []).1=true → ∀ i,i<p.seqs.length→(depR p (i:Int):Int)=valK (p.seqs.getD i default).name (chainA p p.seqs []).2∧depR p (i:Int)≤p.seqs.length):=fun hS hO hU hC=>by
  have hN:=net hS hO hU hC
  have hSh:=shown_ok hS hO hC
  obtain ⟨c1,c2⟩:=chainA_spec (small hS) hSh p.seqs [] (fun s hs=>hs) (good_nil p) (fun _ h=>absurd h (Int.lt_irrefl 0))
  refine ⟨fun h=>?_,fun h i hi=>?_⟩
  ·obtain ⟨s,hs,hw⟩:=c1 h
   obtain ⟨i,hi,rfl⟩:=List.getElem_of_mem hs
   obtain ⟨d1,d2,d3⟩:=depR_facts hN hi
   rw [getD_of_lt hi] at d3
   refine ⟨i,hi,?_⟩
   rcases d3 with d3 | d3
   ·exact absurd (hw _) d3
   ·omega
  ·obtain ⟨e1,e2,e3⟩:=c2 h
   obtain ⟨d1,d2,d3⟩:=depR_facts hN hi
   have hv:=e3 (p.seqs.getD i default) (mem_getD hi)
   have g1:=e1.up _ hv
   have g2:=e1.dn _ hv
   have g3:=e1.le _ hv
   have g4:posK p.seqs (chainA p p.seqs []).2≤p.seqs.length:=List.length_filter_le _ _
   obtain ⟨v,hvv⟩:∃ v,v=valK (p.seqs.getD i default).name (chainA p p.seqs []).2:=⟨_,rfl⟩
   rw [← hvv] at hv g1 g2 g3 ⊢
   have k1:depR p (i:Int)≤v.toNat:=Nat.le_of_not_lt fun hlt=>g2 (d1 _ hlt)
   have k2:v.toNat≤depR p (i:Int):=by
    rcases d3 with d3 | d3
    ·exact Nat.le_of_not_lt fun hlt=>d3 (Wk_le (by omega) g1)
    ·omega
   omega
 refine ⟨fun h=>?_,fun hS h=>?_,fun hS hO h=>?_,fun hS hO h1 h2 h=>?_,fun hS hO h1 h2 h3 h=>?_,fun hS hO h1 h2 h3 h4 h=>?_,fun hS hO h1 h2 h3 h4 h=>?_⟩
 ·unfold validP
  rw [if_pos h]
 ·unfold validP
  rw [hS,h]
  rfl
 ·have hU:uniqB p=false:=by
   cases e:uniqB p with
   | false=>rfl
   | true =>
    obtain ⟨n1,n2⟩:=(uniq_iff p).1 e
    rcases h with ⟨i,hi,h⟩ | ⟨i,hi,h⟩
    ·rw [uniqM_of n1 hi] at h;cases h
    ·rw [uniqS_of n2 hi] at h;cases h
  unfold validP
  rw [hS,hO,hU]
  rfl
 ·rw [cc] at h
  unfold validP
  rw [hS,hO,uq h1 h2,h]
  rfl
 ·rw [cc] at h3
  obtain ⟨i,hi,h⟩:=h
  obtain ⟨c1,c2⟩:=chains hS hO (uq h1 h2) h3
  have hA:(chainA p p.seqs []).1=false:=by
   cases e:(chainA p p.seqs []).1 with
   | false=>rfl
   | true=>have:=(c2 e i hi).2;omega
  unfold validP
  rw [hS,hO,uq h1 h2,h3,hA]
  rfl
 ·rw [cc] at h3
  obtain ⟨i,hi,h⟩:=h
  obtain ⟨c1,c2⟩:=chains hS hO (uq h1 h2) h3
  have hA:(chainA p p.seqs []).1=true:=by
   cases e:(chainA p p.seqs []).1 with
   | true=>rfl
   | false=>obtain ⟨j,hj,hj2⟩:=c1 e;have:=h4 j hj;omega
  have hD:p.seqs.all (deepB (chainA p p.seqs []).2)=false:=by
   refine all_hit (d:=default) (k:=i) hi ?_
   unfold deepB
   rw [← (c2 hA i hi).1,decide_eq_false_iff_not]
   omega
  unfold validP
  rw [hS,hO,uq h1 h2,h3,hA,hD]
  rfl
 ·rw [cc] at h3
  obtain ⟨c1,c2⟩:=chains hS hO (uq h1 h2) h3
  have hA:(chainA p p.seqs []).1=true:=by
   cases e:(chainA p p.seqs []).1 with
   | true=>rfl
   | false=>obtain ⟨j,hj,hj2⟩:=c1 e;have:=h4 j hj;omega
  have hD:p.seqs.all (deepB (chainA p p.seqs []).2)=true:=by
   refine all_done (d:=default) fun i hi=>?_
   unfold deepB
   rw [← (c2 hA i hi).1,decide_eq_true_eq]
   have:=h i hi
   omega
  unfold validP
  rw [hS,hO,uq h1 h2,h3,hA,hD]
  rfl
end Go.Proofs.YtkjdkbmfaamhaaaGreat
