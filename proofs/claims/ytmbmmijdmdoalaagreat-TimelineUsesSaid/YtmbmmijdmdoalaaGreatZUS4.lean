/- Proved here: The reference's uses finds what the program collects, for use in the proofs of the given statements; conditions stand in each theorem. -/
import Derived.Test.YtmbmmijdmdoalaaGreatZUS3
import Derived.Test.YtmbmmijdmdoalaaGreatYJ
set_option linter.unusedSimpArgs false
set_option linter.unusedVariables false
set_option linter.unusedSectionVars false
set_option linter.unnecessarySimpa false
namespace Go.Proofs.YtmbmmijdmdoalaaGreat
open Go.RowKit
set_option maxRecDepth 4000
theorem mem_srcsK {k:Int} (hk:k≠0) {s:SequenceR} {m:ByteArray}:m∈namesK k (clipsOf s) ↔ ∃ x∈srcsOf s,x.kind=k∧x.name=m:=by
 unfold namesK srcsOf srcsF
 rw [List.mem_map]
 constructor
 ·rintro ⟨x,h1,h2⟩
  rw [List.mem_filter] at h1
  have hk2:x.kind=k:=by simpa using h1.2
  refine ⟨x,List.mem_filter.2 ⟨h1.1,?_⟩,hk2,h2⟩
  rcases hz:x.isZ with _ | _
  ·rfl
  ·rw [kind_isZ hz] at hk2;exact absurd hk2.symm hk
 ·rintro ⟨x,h1,h2,h3⟩
  rw [List.mem_filter] at h1
  exact ⟨x,List.mem_filter.2 ⟨h1.1,by rw [h2,beq_self_eq_true]⟩,h3⟩
theorem usesS_iff {p:ProjR} (h:NetOk p) {m:ByteArray} {i:Nat} (hi:i<p.seqs.length):usesS p m i=true ↔ m∈shown p (p.seqs.getD i default).name 1:=by
 unfold usesS shown
 rw [seqOf_nd h hi,List.any_eq_true]
 show _ ↔ m∈namedS (p.seqs.getD i default) 1
 rw [mem_namedS,mem_srcsK (by decide)]
 constructor
 ·rintro ⟨x,hx,h1⟩
  unfold usesX at h1
  rw [Bool.and_eq_true] at h1
  exact ⟨x,hx,by simpa using h1.1,(bq _ _).1 h1.2⟩
 ·rintro ⟨x,hx,h1,h2⟩
  refine ⟨x,hx,?_⟩
  unfold usesX
  rw [h1,(bq _ _).2 h2]
  rfl
theorem mem_lvlI {p:ProjR} {K N:IM} {i:Nat} {j:Int}:j∈lvlI p K N i ↔ j∈N∨(i:Int)∈K ∧ ∃ x∈srcsOf (p.seqs.getD i default),x.kind=2∧j=sIdx p x.name:=by
 unfold lvlI
 by_cases h:(i:Int)∈K
 ·rw [if_pos h,mem_foldl_lvlS]
  constructor
  ·rintro (h1 | h1)
   ·exact .inl h1
   ·exact .inr ⟨h,h1⟩
  ·rintro (h1 | h1)
   ·exact .inl h1
   ·exact .inr h1.2
 ·rw [if_neg h]
  exact ⟨.inl,fun h1=>h1.elim id fun h2=>absurd h2.1 h⟩
theorem usI_up {p:ProjR} {K:IM} {j:Int} {i:Nat} (h:j∈usI p K i):∀ e,j∈usI p K (i+e)
 | 0=>h
 | e+1=>by
  rw [← Nat.add_assoc]
  unfold usI
  exact mem_lvlI.2 (.inl (usI_up h e))
theorem usI_le {p:ProjR} {K:IM} {j:Int} {i i':Nat} (hi:i≤i') (h:j∈usI p K i):j∈usI p K i':=by
 have:=usI_up h (i' - i)
 rwa [show i+(i' - i)=i' by omega] at this
def Rgood (p:ProjR) (n:ByteArray) (K:IM):Prop := ∀ j∈K, ∃ k,k<p.seqs.length∧j=(k:Int)∧RchU p n (p.seqs.getD k default).name
theorem StpU.snoc {p:ProjR}:∀ {k:Nat} {n x m:ByteArray},StpU p k n x→m∈inner p x→StpU p (k+1) n m
 | 0,n,x,m,h,hm=>by
  rw [← (show n=x from h)] at hm
  exact ⟨m,hm,rfl⟩
 | k+1,n,x,m,⟨y,h1,h2⟩,hm=>⟨y,h1,StpU.snoc h2 hm⟩
theorem StpU.last {p:ProjR}:∀ {k:Nat} {n m:ByteArray},StpU p (k+1) n m → ∃ x,StpU p k n x∧m∈inner p x
 | 0,n,m,⟨y,h1,h2⟩=>⟨n,rfl,by rw [← (show y=m from h2)];exact h1⟩
 | k+1,n,m,⟨y,h1,h2⟩=>by
  obtain ⟨x,h3,h4⟩:=StpU.last h2
  exact ⟨x,⟨y,h1,h3⟩,h4⟩
theorem StpU.wk {p:ProjR}:∀ {k:Nat} {n m:ByteArray},StpU p k n m→Wk p k n
 | 0,_,_,_=>trivial
 | _+1,_,_,⟨y,h1,h2⟩=>⟨y,h1,StpU.wk h2⟩
theorem rgood_lvlI {p:ProjR} (h:NetOk p) {n:ByteArray} {K:IM} {i:Nat} (hi:i<p.seqs.length) (hK:Rgood p n K):Rgood p n (lvlI p K K i):=by
 intro j hj
 rcases mem_lvlI.1 hj with h1 | ⟨h1,x,hx,hk,he⟩
 ·exact hK j h1
 ·obtain ⟨k0,g1,g2,q,g3⟩:=hK _ h1
  have:k0=i:=by omega
  subst this
  obtain ⟨k,a1,a2,a3⟩:=sIdx_at (h.th _ (mem_getD hi) x hx hk)
  exact ⟨k,a1,by omega,q+1,g3.snoc ((mem_inner h hi).2 ⟨x,hx,hk,a3.symm⟩)⟩
theorem rgood_usI {p:ProjR} (h:NetOk p) {n:ByteArray} {K:IM} (hK:Rgood p n K):∀ i,i≤p.seqs.length→Rgood p n (usI p K i)
 | 0,_=>hK
 | i+1,hi=>rgood_lvlI h (by omega) (rgood_usI h hK i (by omega))
theorem rgood_usT {p:ProjR} (h:NetOk p) {i:Nat} (hi:i<p.seqs.length):∀ t,Rgood p (p.seqs.getD i default).name (usT p (i:Int) t)
 | 0=>fun j hj=>⟨i,hi,List.mem_singleton.1 hj,0,rfl⟩
 | t+1=>rgood_usI h (rgood_usT h hi t) _ (Nat.le_refl _)
theorem usT_all {p:ProjR} (h:NetOk p) {i:Nat} (hi:i<p.seqs.length):∀ (t:Nat) {x:ByteArray},StpU p t (p.seqs.getD i default).name x → ∃ k,k<p.seqs.length∧(p.seqs.getD k default).name=x∧(k:Int)∈usT p (i:Int) t
 | 0,x,hs=>⟨i,hi,hs,by simp [usT]⟩
 | t+1,x,hs=>by
  obtain ⟨y,h1,h2⟩:=hs.last
  obtain ⟨k,a1,rfl,a3⟩:=usT_all h hi t h1
  obtain ⟨z,hz,hk,rfl⟩:=(mem_inner h a1).1 h2
  obtain ⟨k',b1,b2,b3⟩:=sIdx_at (h.th _ (mem_getD a1) z hz hk)
  refine ⟨k',b1,b3,?_⟩
  have c1:(k:Int)∈usI p (usT p (i:Int) t) k:=usI_le (Nat.zero_le _) a3
  have c2:(k':Int)∈usI p (usT p (i:Int) t) (k+1):=by
   unfold usI
   exact mem_lvlI.2 (.inr ⟨c1,z,hz,hk,b2.symm⟩)
  exact usI_le (show k+1≤p.seqs.length by omega) c2
theorem usesI_of {p:ProjR} {m:ByteArray} {K:IM}:∀ {i:Nat},usesI p m K i=true → ∃ j,j<i∧(j:Int)∈usI p K j∧usesS p m j=true
 | 0,h=>by cases h
 | i+1,h=>by
  unfold usesI at h
  rw [Bool.or_eq_true,Bool.and_eq_true,decide_eq_true_eq] at h
  rcases h with h | h
  ·obtain ⟨j,h1,h2⟩:=usesI_of h
   exact ⟨j,by omega,h2⟩
  ·exact ⟨i,by omega,h⟩
theorem usesT_of {p:ProjR} {m:ByteArray} {n:Int}:∀ {t:Nat},usesT p m n t=true → ∃ s,usesI p m (usT p n s) p.seqs.length=true
 | 0,h=>by cases h
 | t+1,h=>by
  unfold usesT at h
  rw [Bool.or_eq_true] at h
  rcases h with h | h
  ·exact usesT_of h
  ·exact ⟨t,h⟩
theorem uses_iff {p:ProjR} (h:NetOk p) {m:ByteArray} {i:Nat} (hi:i<p.seqs.length) (hw : ¬ Wk p p.seqs.length (p.seqs.getD i default).name):usesT p m (i:Int) (p.seqs.length+1)=true ↔ ∃ x,RchU p (p.seqs.getD i default).name x∧m∈shown p x 1:=by
 constructor
 ·intro h1
  obtain ⟨s,h2⟩:=usesT_of h1
  obtain ⟨j,h3,h4,h5⟩:=usesI_of h2
  obtain ⟨k,g1,g2,g3⟩:=rgood_usI h (rgood_usT h hi s) j (by omega) _ h4
  have:k=j:=by omega
  subst this
  exact ⟨_,g3,(usesS_iff h g1).1 h5⟩
 ·rintro ⟨x,⟨k,hk⟩,hm⟩
  have hkl:k<p.seqs.length:=Nat.lt_of_not_le fun hge=>hw (Wk_le hge hk.wk)
  obtain ⟨j,h1,rfl,h3⟩:=usT_all h hi k hk
  exact hit_of (Nat.le_of_lt hkl) h1 (usI_le (Nat.zero_le _) h3) ((usesS_iff h h1).2 hm)
theorem filmOk_net {p:ProjR} (hp:FilmOk p):NetOk p:=by
 refine ⟨hp.uniq.2,fun s hs x hx hk=>?_⟩
 have h1:=hp.compl s hs
 rw [← compl_eq] at h1
 have h2:=List.all_eq_true.1 h1 x hx
 unfold thereR at h2
 rw [hk] at h2
 simp only [Bool.not_eq_true',Bool.or_eq_false_iff,Bool.and_eq_false_iff,decide_eq_false_iff_not] at h2
 rcases h2.2 with h3 | h3
 ·cases h3
 ·omega
theorem filmOk_wkN {p:ProjR} (hp:FilmOk p) (hv:validP p=0) {i:Nat} (hi:i<p.seqs.length) : ¬ Wk p p.seqs.length (p.seqs.getD i default).name:=by
 have hN:=filmOk_net hp
 have hd:depR p (i:Int)≤p.seqs.length:=Nat.le_of_not_lt fun hlt=>by
  have:=(refSays p).s16 hp.small (by rw [List.all_eq_true.2 hp.med,List.all_eq_true.2 hp.seq];rfl) (fun i hi=>uniqM_of hp.uniq.1 hi) (fun i hi=>uniqS_of hp.uniq.2 hi) (by rw [List.all_eq_true];intro s hs;rw [compl_eq];exact hp.compl s hs) ⟨i,hi,hlt⟩
  rw [hv] at this
  cases this
 obtain ⟨_,_,h3⟩:=depR_facts hN hi
 rcases h3 with h3 | h3
 ·exact fun hw=>h3 (Wk_le hd hw)
 ·omega
theorem uses_coll {p:ProjR} (hp:FilmOk p) (hv:validP p=0) {m:ByteArray} {i:Nat} (hi:i<p.seqs.length):usesT p m (i:Int) (p.seqs.length+1)=memB m (collF p 5 (p.seqs.getD i default).name ([],[])).1:=by
 rw [Bool.eq_iff_iff,uses_iff (filmOk_net hp) hi (filmOk_wkN hp hv hi),memB_iff,coll_iff (hp.wk _ (mem_getD hi))]
end Go.Proofs.YtmbmmijdmdoalaaGreat
