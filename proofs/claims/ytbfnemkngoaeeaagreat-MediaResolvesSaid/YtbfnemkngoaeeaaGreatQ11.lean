/- Proved here: The reference's uses finds what the program collects. -/
import Derived.Test.YtbfnemkngoaeeaaGreatQ10
set_option linter.unusedSimpArgs false
set_option linter.unusedVariables false
set_option linter.unnecessarySimpa false
namespace Go.Proofs.YtbfnemkngoaeeaaGreat
open Go.RowKit
set_option maxRecDepth 4000
theorem aN6 {k:Int} (hk:k≠0) {s:SequenceR} {m:ByteArray}:m∈dE k (cQ s) ↔ ∃ x∈dU s,x.kind=k∧x.name=m:=by
 unfold dE dU kW;rw [List.mem_map];constructor
 ·rintro ⟨x,h1,h2⟩;rw [List.mem_filter] at h1;have hk2:x.kind=k:=by simpa using h1.2
  refine ⟨x,List.mem_filter.2 ⟨h1.1,?_⟩,hk2,h2⟩;rcases hz:x.isZ with _ | _
  ·rfl
  ·rw [Rj hz] at hk2;exact absurd hk2.symm hk
 ·rintro ⟨x,h1,h2,h3⟩;rw [List.mem_filter] at h1;exact ⟨x,List.mem_filter.2 ⟨h1.1,by rw [h2,beq_self_eq_true]⟩,h3⟩
theorem Vd {p:ProjR} (h:NetOk p) {m:ByteArray} {i:Nat} (hi:i<p.seqs.length):Ka p m i=true ↔ m∈sM p (p.seqs.getD i default).name 1:=by
 unfold Ka sM;rw [aCe h hi,List.any_eq_true];show _ ↔ m∈gW (p.seqs.getD i default) 1
 rw [mP,aN6 (by decide)];constructor
 ·rintro ⟨x,hx,h1⟩;unfold Nj at h1;rw [Bool.and_eq_true] at h1;exact ⟨x,hx,by simpa using h1.1,(bq _ _).1 h1.2⟩
 ·rintro ⟨x,hx,h1,h2⟩;refine ⟨x,hx,?_⟩;unfold Nj;rw [h1,(bq _ _).2 h2];rfl
theorem mem_lvlI {p:ProjR} {K N:IM} {i:Nat} {j:Int}:j∈Mc p K N i ↔ j∈N∨(i:Int)∈K ∧ ∃ x∈dU (p.seqs.getD i default),x.kind=2∧j=mL p x.name:=by
 unfold Mc
 by_cases h:(i:Int)∈K
 ·rw [if_pos h,sX];constructor
  ·rintro (h1 | h1)
   ·exact .inl h1
   ·exact .inr ⟨h,h1⟩
  ·rintro (h1 | h1)
   ·exact .inl h1
   ·exact .inr h1.2
 ·rw [if_neg h];exact ⟨.inl,fun h1=>h1.elim id fun h2=>absurd h2.1 h⟩
theorem aQ1 {p:ProjR} {K:IM} {j:Int} {i:Nat} (h:j∈usI p K i):∀ e,j∈usI p K (i+e)
 | 0=>h
 | e+1=>by
  rw [← Nat.add_assoc];unfold usI;exact mem_lvlI.2 (.inl (aQ1 h e))
theorem aGe {p:ProjR} {K:IM} {j:Int} {i i':Nat} (hi:i≤i') (h:j∈usI p K i):j∈usI p K i':=by
 have:=aQ1 h (i' - i);rwa [show i+(i' - i)=i' by omega] at this
def aG0 (p:ProjR) (n:ByteArray) (K:IM):Prop := ∀ j∈K, ∃ k,k<p.seqs.length∧j=(k:Int)∧RchU p n (p.seqs.getD k default).name
theorem StpU.snoc {p:ProjR}:∀ {k:Nat} {n x m:ByteArray},StpU p k n x→m∈eY p x→StpU p (k+1) n m
 | 0,n,x,m,h,hm=>by
  rw [← (show n=x from h)] at hm;exact ⟨m,hm,rfl⟩
 | k+1,n,x,m,⟨y,h1,h2⟩,hm=>⟨y,h1,StpU.snoc h2 hm⟩
theorem StpU.last {p:ProjR}:∀ {k:Nat} {n m:ByteArray},StpU p (k+1) n m → ∃ x,StpU p k n x∧m∈eY p x
 | 0,n,m,⟨y,h1,h2⟩=>⟨n,rfl,by rw [← (show y=m from h2)];exact h1⟩
 | k+1,n,m,⟨y,h1,h2⟩=>by
  obtain ⟨x,h3,h4⟩:=StpU.last h2;exact ⟨x,⟨y,h1,h3⟩,h4⟩
theorem StpU.wk {p:ProjR}:∀ {k:Nat} {n m:ByteArray},StpU p k n m→Wk p k n
 | 0,_,_,_=>trivial
 | _+1,_,_,⟨y,h1,h2⟩=>⟨y,h1,StpU.wk h2⟩
theorem aGz {p:ProjR} (h:NetOk p) {n:ByteArray} {K:IM} {i:Nat} (hi:i<p.seqs.length) (hK:aG0 p n K):aG0 p n (Mc p K K i):=by
 intro j hj;rcases mem_lvlI.1 hj with h1 | ⟨h1,x,hx,hk,he⟩
 ·exact hK j h1
 ·obtain ⟨k0,g1,g2,q,g3⟩:=hK _ h1;have:k0=i:=by omega
  subst this;obtain ⟨k,a1,a2,a3⟩:=Au (h.th _ (aP hi) x hx hk);exact ⟨k,a1,by omega,q+1,g3.snoc ((vL h hi).2 ⟨x,hx,hk,a3.symm⟩)⟩
theorem Hq {p:ProjR} (h:NetOk p) {n:ByteArray} {K:IM} (hK:aG0 p n K):∀ i,i≤p.seqs.length→aG0 p n (usI p K i)
 | 0,_=>hK
 | i+1,hi=>aGz h (by omega) (Hq h hK i (by omega))
theorem Wm {p:ProjR} (h:NetOk p) {i:Nat} (hi:i<p.seqs.length):∀ t,aG0 p (p.seqs.getD i default).name (usT p (i:Int) t)
 | 0=>fun j hj=>⟨i,hi,List.mem_singleton.1 hj,0,rfl⟩
 | t+1=>Hq h (Wm h hi t) _ (Nat.le_refl _)
theorem aJu {p:ProjR} (h:NetOk p) {i:Nat} (hi:i<p.seqs.length):∀ (t:Nat) {x:ByteArray},StpU p t (p.seqs.getD i default).name x → ∃ k,k<p.seqs.length∧(p.seqs.getD k default).name=x∧(k:Int)∈usT p (i:Int) t
 | 0,x,hs=>⟨i,hi,hs,by simp [usT]⟩
 | t+1,x,hs=>by
  obtain ⟨y,h1,h2⟩:=hs.last;obtain ⟨k,a1,rfl,a3⟩:=aJu h hi t h1;obtain ⟨z,hz,hk,rfl⟩:=(vL h a1).1 h2;obtain ⟨k',b1,b2,b3⟩:=Au (h.th _ (aP a1) z hz hk);refine ⟨k',b1,b3,?_⟩;have c1:(k:Int)∈usI p (usT p (i:Int) t) k:=aGe (Nat.zero_le _) a3;have c2:(k':Int)∈usI p (usT p (i:Int) t) (k+1):=by
   unfold usI;exact mem_lvlI.2 (.inr ⟨c1,z,hz,hk,b2.symm⟩)
  exact aGe (show k+1≤p.seqs.length by omega) c2
theorem aBq {p:ProjR} {m:ByteArray} {K:IM}:∀ {i:Nat},uV p m K i=true → ∃ j,j<i∧(j:Int)∈usI p K j∧Ka p m j=true
 | 0,h=>by cases h
 | i+1,h=>by
  unfold uV at h;rw [Bool.or_eq_true,Bool.and_eq_true,decide_eq_true_eq] at h;rcases h with h | h
  ·obtain ⟨j,h1,h2⟩:=aBq h;exact ⟨j,by omega,h2⟩
  ·exact ⟨i,by omega,h⟩
theorem aBp {p:ProjR} {m:ByteArray} {n:Int}:∀ {t:Nat},mE p m n t=true → ∃ s,uV p m (usT p n s) p.seqs.length=true
 | 0,h=>by cases h
 | t+1,h=>by
  unfold mE at h;rw [Bool.or_eq_true] at h;rcases h with h | h
  ·exact aBp h
  ·exact ⟨t,h⟩
theorem aQ0 {p:ProjR} (h:NetOk p) {m:ByteArray} {i:Nat} (hi:i<p.seqs.length) (hw : ¬ Wk p p.seqs.length (p.seqs.getD i default).name):mE p m (i:Int) (p.seqs.length+1)=true ↔ ∃ x,RchU p (p.seqs.getD i default).name x∧m∈sM p x 1:=by
 constructor
 ·intro h1;obtain ⟨s,h2⟩:=aBp h1;obtain ⟨j,h3,h4,h5⟩:=aBq h2;obtain ⟨k,g1,g2,g3⟩:=Hq h (Wm h hi s) j (by omega) _ h4;have:k=j:=by omega
  subst this;exact ⟨_,g3,(Vd h g1).1 h5⟩
 ·rintro ⟨x,⟨k,hk⟩,hm⟩;have hkl:k<p.seqs.length:=Nat.lt_of_not_le fun hge=>hw (Yy hge hk.wk)
  obtain ⟨j,h1,rfl,h3⟩:=aJu h hi k hk;exact aSh (Nat.le_of_lt hkl) h1 (aGe (Nat.zero_le _) h3) ((Vd h h1).2 hm)
theorem Rz {p:ProjR} (hp:FilmOk p):NetOk p:=by
 refine ⟨hp.uniq.2,fun s hs x hx hk=>?_⟩;have h1:=hp.compl s hs;rw [← Gp] at h1;have h2:=List.all_eq_true.1 h1 x hx;unfold rF at h2;rw [hk] at h2;simp only [Bool.not_eq_true',Bool.or_eq_false_iff,Bool.and_eq_false_iff,decide_eq_false_iff_not] at h2;rcases h2.2 with h3 | h3
 ·cases h3
 ·omega
theorem aHw {p:ProjR} (hp:FilmOk p) (hv:bV p=0) {i:Nat} (hi:i<p.seqs.length) : ¬ Wk p p.seqs.length (p.seqs.getD i default).name:=by
 have hN:=Rz hp;have hd:pE p (i:Int)≤p.seqs.length:=Nat.le_of_not_lt fun hlt=>by
  have:=(Zz p).s16 hp.small (by rw [List.all_eq_true.2 hp.med,List.all_eq_true.2 hp.seq];rfl) (fun i hi=>Nr hp.uniq.1 hi) (fun i hi=>Nq hp.uniq.2 hi) (by rw [List.all_eq_true];intro s hs;rw [Gp];exact hp.compl s hs) ⟨i,hi,hlt⟩;rw [hv] at this;cases this
 obtain ⟨_,_,h3⟩:=xS hN hi;rcases h3 with h3 | h3
 ·exact fun hw=>h3 (Yy hd hw)
 ·omega
theorem aM7 {p:ProjR} (hp:FilmOk p) (hv:bV p=0) {m:ByteArray} {i:Nat} (hi:i<p.seqs.length):mE p m (i:Int) (p.seqs.length+1)=sZ m (fX p 5 (p.seqs.getD i default).name ([],[])).1:=by
 rw [Bool.eq_iff_iff,aQ0 (Rz hp) hi (aHw hp hv hi),sY,aTa (hp.wk _ (aP hi))]
def ltB (a b:ByteArray):Bool:=Go.Op.bytesLess a.toList b.toList
def atL (O:List ByteArray) (m:ByteArray):Nat:=O.findIdx (fun x => !ltB x m)
def Ea (O:List ByteArray) (m:ByteArray):List ByteArray:=O.take (atL O m) ++ [m]++O.drop (atL O m)
def Cf (p:ProjR) (n:Int):Nat→List ByteArray
 | 0=>[]
 | k+1=>if mE p (p.media.getD k default).name n (p.seqs.length+1)=true then Ea (Cf p n k) (p.media.getD k default).name else Cf p n k
def rU (p:ProjR) (name:ByteArray):List ByteArray×Int :=
 if bV p≠0 then ([],bV p) else if mL p name<0 then ([],7) else (Cf p (mL p name) p.media.length,0)
theorem atL_le (O:List ByteArray) (m:ByteArray):atL O m≤O.length:=List.findIdx_le_length
theorem aUf {O:List ByteArray} {m:ByteArray} {j:Nat} (hj:j≤O.length) (hi:∀ i,i<j→ltB (O.getD i default) m=true) (h:j<O.length→ltB (O.getD j default) m=false):atL O m=j:=by
 unfold atL;rcases Nat.lt_or_ge j O.length with hlt | hge
 ·rw [List.findIdx_eq hlt];have h:=h hlt;rw [aK hlt] at h;refine ⟨by rw [h];rfl,fun i hij=>?_⟩;have:=hi i hij;rw [aK (Nat.lt_trans hij hlt)] at this;rw [this];rfl
 ·have:j=O.length:=by omega
  subst this;rw [List.findIdx_eq_length];intro x hx;obtain ⟨i,hi2,rfl⟩:=List.getElem_of_mem hx;have:=hi i hi2;rw [aK hi2] at this;rw [this];rfl
theorem aSd (O:List ByteArray) (m:ByteArray):(Ea O m).length=O.length+1:=by
 unfold Ea;have:=atL_le O m;simp only [List.length_append,List.length_take,List.length_drop,List.length_cons,List.length_nil];omega
theorem aD0 (p:ProjR) (n:Int):∀ k,(Cf p n k).length≤k
 | 0=>Nat.le_refl _
 | k+1=>by
  have:=aD0 p n k;unfold Cf;split
  ·rw [aSd];omega
  ·omega
theorem aB3 {p:ProjR} (hp:FilmOk p):p.media.length≤16∧p.seqs.length≤16 ∧ ∀ s∈p.seqs,s.video.length≤8∧s.sound.length≤8 ∧ ∀ t∈s.video++s.sound,t.length≤64:=by
 have:=hp.small;unfold cL at this;simp only [Bool.and_eq_true,decide_eq_true_eq] at this;refine ⟨by omega,by omega,fun s hs=>?_⟩;have a1:=List.all_eq_true.1 this.2 s hs;unfold cW at a1;simp only [Bool.and_eq_true,decide_eq_true_eq] at a1;exact ⟨by omega,by omega,fun t ht=>wN (Hc (hp.seq s hs) t ht)⟩
set_option maxHeartbeats 4000000 in
theorem cRUses (p:ProjR) (h:p.fit) (name:ByteArray):aS Tryz.prog 62 [dT p,bT name] (aJr (rU p name)):=by
 refine dS Tryz.X62 Tryz.func62 rfl Tryz.ntmps62 (by rw [Tryz.results62]) (aD _ ?_);simp only [go_sem,simprocAttr];refine ⟨_,aFj p h,?_⟩;simp only [go_sem,simprocAttr];refine brW (b:=decide (bV p≠0)) ?_ ⟨fun hv=>?_,fun hv=>?_⟩
 ·rw [Bool.eq_iff_iff,decide_eq_true_eq,bne_iff_ne]
 ·have hv':=of_decide_eq_true hv;have e:rU p name=([],bV p):=by unfold rU;rw [if_pos hv']
  rw [e];unfold awS;simp only [go_sem,simprocAttr];exact xA _
 ·have hv':bV p=0:=by simpa using hv
  have hok:=sH h hv';obtain ⟨hm,hn,hsz⟩:=aB3 hok;unfold awS;simp only [go_sem,simprocAttr];refine ⟨_,tQ p name,?_⟩;simp only [go_sem,simprocAttr];refine ⟨fun hneg=>?_,fun hpos=>?_⟩
  ·have hneg':mL p name<0:=of_decide_eq_true hneg;have e:rU p name=([],7):=by unfold rU;rw [if_neg (by rw [hv'];decide),if_pos hneg']
   rw [e];unfold awS;simp only [go_sem,simprocAttr];exact xA _
  ·have hpos' : ¬ mL p name<0:=of_decide_eq_false hpos;have e:rU p name=(Cf p (mL p name) p.media.length,0):=by unfold rU;rw [if_neg (by rw [hv'];decide),if_neg hpos']
   rw [e];obtain ⟨n,hnn⟩:∃ n,n=mL p name:=⟨_,rfl⟩
   rw [← hnn];unfold mL at hnn;rw [← hnn];unfold awS;simp only [go_sem,simprocAttr];refine aE (fun (k:Nat) σ => bD 8 (.t (xY (Cf p n k))) (bD 9 (aC k) (aW [10,21,22,23,24,25,26,27,28,29,30,31,32,33,34,35,36,37,38,39,40,41,42,43,44,45,46,47,48,49,50,51,52,53,54,55,56,57,58,59,60,61,62,63,64,65,66,67,68,69,70,71,72,73] (aX σ)))) (fun k=>k≤p.media.length) (fun k=>p.media.length - k) 0 (aJ [(0,some 0)] ?_) (Nat.zero_le _) ?_
   ·simp only [go_sem,simprocAttr]
    all_goals first | rfl | (simp [Cf];done) | trace_state
   ·intro k hk;refine aD _ ?_;simp only [go_sem,simprocAttr];refine ⟨fun hlt=>?_,fun hge=>?_⟩
    ·simp only [bxx] at hlt;have hkl:k<p.media.length:=by omega
     have hol:=aD0 p n k;have hsucc:Cf p n (k+1)=if mE p (p.media.getD k default).name n (p.seqs.length+1)=true then Ea (Cf p n k) (p.media.getD k default).name else Cf p n k:=rfl
     generalize Cf p n k=O at hol hsucc ⊢;unfold awS;simp only [go_sem,simprocAttr];refine aR 10 .done rfl (by kernel_rfl) (by kernel_rfl) (by decide) ?_;simp only [go_sem,simprocAttr];refine ⟨⟨by omega,by omega⟩,_,cRUses1 p hn hsz n (p.media.getD k default).name,?_⟩;simp only [go_sem,simprocAttr];obtain ⟨m,hme⟩:∃ m,(p.media.getD k default).name=m:=⟨_,rfl⟩
     rw [hme] at hsucc ⊢;have hwk:IntKind.i64.wrap ((k:Int)+1)=((k+1:Nat):Int):=by rw [aZ (by omega)];omega
     refine ⟨by kernel_rfl,fun hc=>?_,fun hc=>?_⟩
     ·have hc':mE p m n (p.seqs.length+1)=false:=by simpa using hc
      rw [if_neg (by rw [hc'];decide)] at hsucc;unfold awS;simp only [go_sem,simprocAttr];refine ⟨k+1,aA ?_,by omega,by omega⟩;simp only [go_sem,simprocAttr,hwk,hsucc];simp
     ·have hc':mE p m n (p.seqs.length+1)=true:=by simpa using hc
      rw [if_pos hc'] at hsucc;unfold awS;simp only [go_sem,simprocAttr];refine aE (fun (j:Nat) σ => bD 10 (aC j) (aW [38,39,40,41,42,43,44,45,46,47,48,49,50,51,52,53,54,55,56,57,58,59,60,61,62,63,64,65,66,67,68,69,70,71,72,73] (aX σ))) (fun j=>j≤O.length ∧ ∀ i,i<j→ltB (O.getD i default) m=true) (fun j=>O.length - j) 0 (aA ?_) ⟨Nat.zero_le _,by omega⟩ ?_
      ·simp only [go_sem,simprocAttr]<;>simp
      ·rintro j ⟨hj,hlj⟩;refine aD _ ?_;simp only [go_sem,simprocAttr];refine bZ [0,1,2,3,4,5,6,7,8,9,10,11,12,13,14,15,16] .done rfl (by kernel_rfl) (by kernel_rfl) (by decide) ?_;rcases Nat.lt_or_ge j O.length with hjl | hjl
       ·have hx:=Ep hjl;have hd:decide ((j:Int)<(O.length:Int))=true:=decide_eq_true (by omega);generalize hxx:O.getD j default=x at hx;simp only [go_sem,simprocAttr,hx,hd,hme];refine ⟨⟨by omega,by omega⟩,⟨by omega,by omega⟩,?_⟩;refine brW (b:=ltB x m) rfl ⟨fun hb=>?_,fun hb=>?_⟩
        ·unfold awS;simp only [go_sem,simprocAttr,aZ (show j<9223372036854775807 by omega)];refine ⟨j+1,aA ?_,⟨by omega,fun i hi=>?_⟩,by omega⟩
         ·simp only [go_sem,simprocAttr];simp
         ·rcases Nat.lt_or_ge i j with h1 | h1
          ·exact hlj i h1
          ·rw [show i=j by omega,hxx];exact hb
        ·unfold awS;simp only [go_sem,simprocAttr];have hins:Ea O m=O.take j ++ [m]++O.drop j:=by unfold Ea;rw [aUf hj hlj (fun _=>by rw [hxx];exact hb)]
         refine aF3 [11] 18 .done rfl (by kernel_rfl) (by kernel_rfl) (by decide) ?_;simp only [go_sem,simprocAttr,hme];have h1:(O.take j).length≤16:=by rw [List.length_take];omega
         have h2:(O.drop j).length≤16:=by rw [List.length_drop];omega
         have e1:(O.take j).map jJ=(O.map jJ).take j:=List.map_take;have e2:(O.drop j).map jJ=(O.map jJ).drop j:=List.map_drop;have e3:(O.map jJ).take O.length=O.map jJ:=List.take_of_length_le (by simp);rw [e3];rw [← e1, ← e2];refine ⟨⟨by omega,by omega⟩,⟨?_,?_⟩,⟨by omega,by omega⟩,⟨?_,?_⟩,⟨by omega,by omega,by omega⟩,⟨?_,?_⟩,?_⟩
         iterate 6
          ·simp only [List.length_append,List.length_map,List.length_cons,List.length_nil,maxLen]<;>omega
         refine ⟨by kernel_rfl,k+1,aJ [(0,some 0)] ?_,by omega,by omega⟩;simp only [go_sem,simprocAttr,hwk,hsucc,hins,List.map_append];exact ⟨by simp,rfl,by simp⟩
       ·have hd:decide ((j:Int)<(O.length:Int))=false:=decide_eq_false (by omega);simp only [go_sem,simprocAttr,hd];refine ⟨fun h=>h.elim,fun h=>h.elim,?_⟩;have hins:Ea O m=O.take j ++ [m]++O.drop j:=by unfold Ea;rw [aUf hj hlj (fun h=>absurd h (by omega))]
        refine aF3 [11] 18 .done rfl (by kernel_rfl) (by kernel_rfl) (by decide) ?_;simp only [go_sem,simprocAttr,hme];have h1:(O.take j).length≤16:=by rw [List.length_take];omega
        have h2:(O.drop j).length≤16:=by rw [List.length_drop];omega
        have e1:(O.take j).map jJ=(O.map jJ).take j:=List.map_take;have e2:(O.drop j).map jJ=(O.map jJ).drop j:=List.map_drop;have e3:(O.map jJ).take O.length=O.map jJ:=List.take_of_length_le (by simp);rw [e3];rw [← e1, ← e2];refine ⟨⟨by omega,by omega⟩,⟨?_,?_⟩,⟨by omega,by omega⟩,⟨?_,?_⟩,⟨by omega,by omega,by omega⟩,⟨?_,?_⟩,?_⟩
        iterate 6
         ·simp only [List.length_append,List.length_map,List.length_cons,List.length_nil,maxLen]<;>omega
        refine ⟨by kernel_rfl,k+1,aJ [(0,some 0)] ?_,by omega,by omega⟩;simp only [go_sem,simprocAttr,hwk,hsucc,hins,List.map_append];exact ⟨by simp,rfl,by simp⟩
    ·simp only [bxx] at hge;have:k=p.media.length:=by omega
     subst this;unfold awS;simp only [go_sem,simprocAttr];exact cR rfl rfl
open Go.Sort
theorem aJc {a b:ByteArray} (h:a.data.toList=b.data.toList):a=b:=by
 rcases a with ⟨⟨a⟩⟩;rcases b with ⟨⟨b⟩⟩;have:a=b:=h;rw [this]
theorem Ft (a b:ByteArray):ltB a b=true ↔ a.data.toList<b.data.toList:=by
 unfold ltB;rw [bytesLess_eq,decide_eq_true_eq,ByteArray.toList_eq,ByteArray.toList_eq]
theorem Xj {a b c:ByteArray} (h1:ltB a b=true) (h2:ltB b c=true):ltB a c=true:=by
 rw [Ft] at *;exact List.lt_trans h1 h2
theorem ltB_irr (a:ByteArray):ltB a a=false:=by
 cases h:ltB a a with
 | false=>rfl
 | true=>exact absurd ((Ft _ _).1 h) (List.lt_irrefl _)
theorem ltB_tot {a b:ByteArray} (h:ltB a b=false) (hne:a≠b):ltB b a=true:=by
 cases h2:ltB b a with
 | true=>rfl
 | false =>
  have n1 : ¬ a.data.toList<b.data.toList:=fun hlt=>by rw [(Ft _ _).2 hlt] at h;cases h
  have n2 : ¬ b.data.toList<a.data.toList:=fun hlt=>by rw [(Ft _ _).2 hlt] at h2;cases h2
  exact absurd (aJc (List.le_antisymm n2 n1)) hne
def Asc (O:List ByteArray):Prop:=O.Pairwise fun a b=>ltB a b=true
theorem Yx {O:List ByteArray} (h:Asc O):O.Nodup:=h.imp fun {a b} hab e=>by
 rw [e,ltB_irr] at hab;cases hab
theorem aLu {O:List ByteArray} {m:ByteArray} (h:Asc O) (hm:m ∉ O):Asc (Ea O m):=by
 obtain ⟨j,hj⟩:∃ j,atL O m=j:=⟨_,rfl⟩
 have h1:∀ x∈O.take j,ltB x m=true:=fun x hx=>by
  obtain ⟨i,hi,rfl⟩:=List.getElem_of_mem hx;rw [List.length_take] at hi;rw [List.getElem_take];have:=List.not_of_lt_findIdx (p:=fun x => !ltB x m) (xs:=O) (i:=i) (by unfold atL at hj;omega);simpa using this
 have h2:∀ x∈O.drop j,ltB m x=true:=by
  rcases Nat.lt_or_ge j O.length with hlt | hge
  ·have hf:ltB O[j] m=false:=by
    have:=List.findIdx_getElem (p:=fun x => !ltB x m) (xs:=O) (w:=by unfold atL at hj;omega);unfold atL at hj;simp only [hj] at this;simpa using this
   have hc:ltB m O[j]=true:=ltB_tot hf fun e=>hm (by rw [← e];exact List.getElem_mem hlt)
   intro x hx;rw [List.drop_eq_getElem_cons hlt] at hx;rcases List.mem_cons.1 hx with rfl | hx
   ·exact hc
   ·have hp:(O.drop j).Pairwise fun a b=>ltB a b=true:=h.sublist (List.drop_sublist j O)
    rw [List.drop_eq_getElem_cons hlt,List.pairwise_cons] at hp;exact Xj hc (hp.1 x hx)
  ·intro x hx;rw [List.drop_eq_nil_of_le hge] at hx;cases hx
 unfold Ea Asc;rw [hj,List.pairwise_append,List.pairwise_append];refine ⟨⟨h.sublist (List.take_sublist j O),List.pairwise_singleton _ _,fun a ha b hb=>?_⟩,h.sublist (List.drop_sublist j O),fun a ha b hb=>?_⟩
 ·rw [List.mem_singleton.1 hb];exact h1 a ha
 ·rcases List.mem_append.1 ha with ha | ha
  ·exact Xj (h1 a ha) (h2 b hb)
  ·rw [List.mem_singleton.1 ha];exact h2 b hb
theorem mem_ins {O:List ByteArray} {m x:ByteArray}:x∈Ea O m ↔ x=m∨x∈O:=by
 unfold Ea;have e:x∈O ↔ x∈O.take (atL O m)∨x∈O.drop (atL O m):=by
  rw [← List.mem_append,List.take_append_drop]
 rw [List.mem_append,List.mem_append,List.mem_singleton,e];constructor
 ·rintro ((h | h) | h)
  ·exact .inr (.inl h)
  ·exact .inl h
  ·exact .inr (.inr h)
 ·rintro (h | h | h)
  ·exact .inl (.inr h)
  ·exact .inl (.inl h)
  ·exact .inr h
theorem At {O:List ByteArray} (h:Asc O):cV O=O:=by
 unfold cV;rw [List.mergeSort_of_pairwise]
 ·rw [List.map_map];have:((fun b:List UInt8=>(⟨b.toArray⟩:ByteArray)) ∘ fun s:ByteArray=>s.data.toList)=id:=by
   funext s;simp
  rw [this,List.map_id]
 ·rw [List.pairwise_map];exact h.imp fun {a b} hab=>decide_eq_true (List.le_of_lt ((Ft _ _).1 hab))
theorem Wn {p:ProjR} (hnd:(p.media.map MediumR.name).Nodup) (n:Int):∀ k,k≤p.media.length→Asc (Cf p n k) ∧ ∀ x,x∈Cf p n k ↔ ∃ i,i<k∧(p.media.getD i default).name=x∧mE p x n (p.seqs.length+1)=true
 | 0,_=>⟨List.Pairwise.nil,fun x=>⟨fun h=>(by cases h),fun ⟨i,h,_⟩=>absurd h (by omega)⟩⟩
 | k+1,hk=>by
  obtain ⟨h1,h2⟩:=Wn hnd n k (by omega);unfold Cf
  by_cases hu:mE p (p.media.getD k default).name n (p.seqs.length+1)=true
  ·rw [if_pos hu];refine ⟨aLu h1 fun hm=>?_,fun x=>?_⟩
   ·obtain ⟨i,hi,e,_⟩:=(h2 _).1 hm;have a1:=gA hnd (i:=i) (by omega);have a2:=gA hnd (i:=k) (by omega);rw [e,a2] at a1;omega
   ·rw [mem_ins,h2];constructor
    ·rintro (rfl | ⟨i,hi,h3⟩)
     ·exact ⟨k,by omega,rfl,hu⟩
     ·exact ⟨i,by omega,h3⟩
    ·rintro ⟨i,hi,h3,h4⟩;rcases Nat.lt_or_ge i k with h5 | h5
     ·exact .inr ⟨i,h5,h3,h4⟩
     ·rw [show i=k by omega] at h3;exact .inl h3.symm
  ·rw [if_neg hu];refine ⟨h1,fun x=>?_⟩;rw [h2];constructor
   ·rintro ⟨i,hi,h3⟩;exact ⟨i,by omega,h3⟩
   ·rintro ⟨i,hi,h3,h4⟩;rcases Nat.lt_or_ge i k with h5 | h5
    ·exact ⟨i,h5,h3,h4⟩
    ·rw [show i=k by omega] at h3;rw [h3] at hu;exact absurd h4 hu
theorem aH5 (p:ProjR) (hf:p.fit) (name:ByteArray):rU p name=eG p name:=by
 unfold rU eG
 by_cases hv:bV p≠0
 ·rw [if_pos hv,if_pos hv]
 ·rw [if_neg hv,if_neg hv];have hv':bV p=0:=by simpa using hv
  have hok:=sH hf hv';cases hs:eH p.seqs name with
  | none =>
   have:mL p name<0:=rA.2 hs;rw [if_pos this]
  | some s =>
   have hneg : ¬ mL p name<0:=fun hlt=>by
    have h1:=(rA (nm:=SequenceR.name)).1 hlt;rw [show fJ SequenceR.name name p.seqs=some s from hs] at h1;cases h1
   rw [if_neg hneg];obtain ⟨i,hi,h1,rfl⟩:=Au (Int.not_lt.1 hneg);rw [h1];have hsp:=Wn hok.uniq.1 (i:Int) p.media.length (Nat.le_refl _);have hcm:=Gq hok 5 (p.seqs.getD i default).name ([],[]) (fun x hx=>by cases hx);have huc:=fun m=>aM7 hok hv' (m:=m) hi
   generalize (fX p 5 (p.seqs.getD i default).name ([],[])).1=C at hcm huc;generalize Cf p (i:Int) p.media.length=O at hsp;have hp:O.Perm (nW C):=(List.perm_ext_iff_of_nodup (Yx hsp.1) (mM C)).2 fun x=>by
    rw [hsp.2,qU];constructor
    ·rintro ⟨j,_,_,h3⟩;rw [huc] at h3;exact sY.1 h3
    ·intro hx;obtain ⟨hn,_⟩:=Fq hok (hcm x hx);obtain ⟨y,hy,rfl⟩:=List.mem_map.1 hn;obtain ⟨j,hj,rfl⟩:=List.getElem_of_mem hy;exact ⟨j,hj,by rw [aK hj],by rw [huc];exact sY.2 hx⟩
   show (O,(0:Int))=(cV (nW C),0)
   rw [← uK hp,At hsp.1]
theorem cRUsesP (p:ProjR) (h:p.fit) (name:ByteArray):aS Tryz.prog 62 [dT p,bT name] (aJr (eG p name)):=by
 rw [← aH5 p h name];exact cRUses p h name
theorem aRs {O:List ByteArray} {a x:ByteArray}:x∈Ea O a ↔ x=a∨x∈O:=by
 unfold Ea;have e:x∈O ↔ x∈O.take (atL O a)∨x∈O.drop (atL O a):=by rw [← List.mem_append,List.take_append_drop]
 rw [e];simp only [List.mem_append,List.mem_singleton];constructor
 ·rintro ((h | h) | h)
  ·exact .inr (.inl h)
  ·exact .inl h
  ·exact .inr (.inr h)
 ·rintro (h | h | h)
  ·exact .inl (.inr h)
  ·exact .inl (.inl h)
  ·exact .inr h
theorem aUg:∀ l:List ByteArray,l.Nodup → ∃ O,Asc O ∧ ∀ x,x∈O ↔ x∈l
 | [],_=>⟨[],List.Pairwise.nil,fun x=>Iff.rfl⟩
 | a::l,h=>by
  rw [List.nodup_cons] at h;obtain ⟨O,h1,h2⟩:=aUg l h.2;have ha:a ∉ O:=fun hc=>h.1 ((h2 a).1 hc)
  refine ⟨Ea O a,aLu h1 ha,fun x=>?_⟩;rw [aRs,h2,List.mem_cons]
theorem aPa {l:List ByteArray} (h:l.Nodup):Asc (cV l):=by
 obtain ⟨O,h1,h2⟩:=aUg l h;have hp:O.Perm l:=(List.perm_ext_iff_of_nodup (Yx h1) h).2 h2;rw [← uK hp,At h1];exact h1
theorem aBn (p:ProjR) (name:ByteArray):Asc (eG p name).1:=by
 unfold eG;split
 ·exact List.Pairwise.nil
 ·split
  ·exact List.Pairwise.nil
  ·exact aPa (mM _)
theorem aQ2 (s:StateR) (p:ProjR) (name:ByteArray):cV (mF s (eG p name).1)=mF s (eG p name).1:=At ((aBn p name).filter _)
theorem aCv {s:StateR} {p:ProjR} {K:List ByteArray} (hK:Asc K):∀ k,k≤K.length→(gF s p (K.take k)).2.Sublist (K.take k)
 | 0,_=>List.Sublist.slnil
 | k+1,hk=>by
  have ih:=aCv (s:=s) (p:=p) hK k (by omega);rw [vD s p (by omega),bE (by omega)];unfold eK;split
  ·exact ih.trans (List.sublist_append_left _ _)
  ·exact ih.append (List.Sublist.refl _)
theorem aCt {s:StateR} {p:ProjR} {K:List ByteArray} (hK:Asc K):cV (gF s p K).2=(gF s p K).2:=by
 have h:=aCv (s:=s) (p:=p) hK K.length (Nat.le_refl _);rw [List.take_length] at h;exact At (List.Pairwise.sublist h hK)
theorem aH2 (s:StateR) (p:ProjR) (name:ByteArray) (hv:fK s=true) (h0:(eG p name).2=0):dW s p name=((gF s p (mF s (eG p name).1)).1,(gF s p (mF s (eG p name).1)).2,0):=by
 unfold dW;rw [hv,if_neg (by decide),if_neg (by omega),aQ2,aCt (show Asc (mF s (eG p name).1) from (aBn p name).filter _)]
theorem aGj {s:StateR} (hs:Ok s):status s ⟨#[]⟩=0:=by
 rw [aC4];cases e:nC s.links ⟨#[]⟩ with
 | none=>rfl
 | some l =>
  obtain ⟨k1,k2⟩:=vM e;have:=(hs.ln l k2).1;rw [show l.media=⟨#[]⟩ from k1] at this;exact absurd this (by decide)
theorem aMt (s:StateR) (p:ProjR) {U:List ByteArray} {k:Nat} (h:k<U.length):gF s p (mF s (U.take (k+1)))=if status s (U.getD k default)≠1 then eK s (gF s p (mF s (U.take k))) (U.getD k default) else gF s p (mF s (U.take k)):=by
 rw [Vh s h];split
 ·unfold gF;rw [List.foldl_append];rfl
 ·rfl
theorem resFit {s:StateR} {p:ProjR} (h:p.fit) (K:List ByteArray):(gF s p K).1.fit:=by
 have:=Pq (s:=s) h K _ (Nat.le_refl _);rwa [List.take_length] at this
theorem resLen (s:StateR) (p:ProjR):∀ (K:List ByteArray),(gF s p K).2.length≤K.length:=by
 have:∀ (K:List ByteArray) (a:ProjR×List ByteArray),(K.foldl (eK s) a).2.length≤a.2.length+K.length:=by
  intro K
  induction K with
  | nil=>intro a;simp
  | cons n K ih =>
   intro a;rw [List.foldl_cons];have h1:=ih (eK s a n);have h2:(eK s a n).2.length≤a.2.length+1:=by
    unfold eK;split<;>simp
   simp only [List.length_cons];omega
 intro K;have:=this K (p,[]);simpa [gF] using this
set_option maxHeartbeats 8000000 in
theorem aP4 (hS:∀ (p:ProjR) (f g:ByteArray),p.fit→aS Tryz.prog 30 [dT p,bT f,bT g] (aJs (fM p f g))) (s:StateR) (p:ProjR) (name:ByteArray) (hf:s.files.length≤maxLen) (hl:s.links.length≤maxLen) (h:p.fit) :
  aS Tryz.prog 21 [fE s,dT p,bT name] (Nf (dW s p name)):=by
 refine dS Tryz.X21 Tryz.func21 rfl Tryz.ntmps21 (by rw [Tryz.results21]) (aD _ ?_);simp only [go_sem,simprocAttr];refine ⟨_,Tk s hf hl,?_⟩;simp only [go_sem,simprocAttr];refine ⟨fun hv=>?_,fun hv=>?_⟩
 ·have e:dW s p name=(⟨[],[]⟩,[],1):=by unfold dW;rw [if_pos (nt hv)]
  rw [e];unfold awS;simp only [go_sem,simprocAttr];exact xC _
 ·have hv':=nf hv;unfold awS;simp only [go_sem,simprocAttr];refine ⟨_,cRUsesP p h name,?_⟩;simp only [go_sem,simprocAttr];obtain ⟨u,hu⟩:∃ u,u=eG p name:=⟨_,rfl⟩
  rw [← hu];refine brW (b:=decide (u.2≠0)) ?_ ⟨fun h0=>?_,fun h0=>?_⟩
  ·rw [Bool.eq_iff_iff,decide_eq_true_eq,bne_iff_ne]
  ·have h1:=of_decide_eq_true h0;have e:dW s p name=(⟨[],[]⟩,[],u.2):=by unfold dW;rw [if_neg (by rw [hv'];decide), ← hu,if_pos h1]
   rw [e];unfold awS;simp only [go_sem,simprocAttr];exact xC _
  ·have h1:u.2=0:=by simpa using h0
   obtain ⟨hok,hnd,hnm,hl16⟩:=wL (p:=p) (name:=name) h (by rw [← hu];exact h1);have hre:=aH2 s p name hv' (by rw [← hu];exact h1);rw [← hu] at hnd hnm hl16 hre;have hst:=aGj ((Dp s).1 hv');rw [hre];obtain ⟨U,hU⟩:∃ U,U=u.1:=⟨_,rfl⟩
   rw [← hU] at hnd hnm hl16 ⊢;have hlm:=Fr hok;have hls:=Ex hok;have hsm:=hok.small;unfold cL at hsm;simp only [Bool.and_eq_true,decide_eq_true_eq] at hsm;unfold awS;simp only [go_sem,simprocAttr];refine ⟨_,aJ9 p (by omega) (by omega) hlm hls,?_⟩;simp only [go_sem,simprocAttr];refine aE (fun (k:Nat) σ => (fun τ : St => { τ with h:=(4, .row 9 1 (jJ ⟨#[]⟩) (aL ((gF s p (mF s (U.take k))).2.map jJ))) :: τ.h.set 3 (.box [.t (jW (gF s p (mF s (U.take k))).1.media), .t (nL (gF s p (mF s (U.take k))).1.seqs)]),nx:=5 }) (bD 12 (.own 4) (bD 13 (aC k) (aW [14,15,16,33,34,35,36,37,38,39,40,41,42,43,44,45,46,47,48,49,50,51,52,53,54,55,56,57,58,59,60,61,62,63,64,65,66,67,68,69,70,71,72,73,74,75,76,77,78,79,80,81,82,83,84,85,86,87,88,89,90,91,92,93,94,95,96,97,98] (aX σ))))) (fun k=>k≤U.length) (fun k=>U.length - k) 0 (aJ [(4,none),(3,some 3),(2,some 2),(1,some 1),(0,some 0)] ?_) (Nat.zero_le _) ?_
   ·simp only [go_sem,simprocAttr];exact ⟨rfl,by simp,⟨rfl,rfl⟩,by simp,by simp,by simp⟩
   ·intro k hk;refine aD _ ?_;simp only [go_sem,simprocAttr];refine ⟨fun hlt=>?_,fun hge=>?_⟩
    ·simp only [bxx] at hlt;have hkl:k<U.length:=by omega
     obtain ⟨n,hn⟩:∃ n,n=U.getD k default:=⟨_,rfl⟩
     have hR:=aMt s p hkl;rw [← hn] at hR;have hfit:=resFit (s:=s) h (mF s (U.take k));have hrl:(gF s p (mF s (U.take k))).2.length≤16:=Nat.le_trans (resLen s p _) (by
      refine Nat.le_trans (List.length_filter_le _ _) ?_;rw [List.length_take];omega)
     have hnK:∀ d,nth d (U.map jJ) k = [gN n]:=fun d=>by rw [Qj hkl,hn];rfl
     unfold awS;simp only [go_sem,simprocAttr];refine aR 7 .done rfl (by kernel_rfl) (by kernel_rfl) (by decide) ?_;simp only [go_sem,simprocAttr,hnK];refine ⟨⟨by omega,by omega⟩,_,Ak s n hf hl,?_⟩;simp only [go_sem,simprocAttr];refine ⟨by kernel_rfl,?_⟩;refine brW (b:=decide (status s n=1)) ?_ ⟨fun h2=>?_,fun h2=>?_⟩
     ·rw [Bool.eq_iff_iff,decide_eq_true_eq,beq_iff_eq]
     ·have h3:=of_decide_eq_true h2;rw [if_neg (by simpa using h3)] at hR;unfold awS;simp only [go_sem,simprocAttr];refine ⟨k+1,aA ?_,by omega,by omega⟩;simp only [go_sem,simprocAttr];rw [hR,aZ (show k<9223372036854775807 by omega)];exact ⟨⟨by simp,rfl,by simp,⟨rfl,rfl⟩,by simp,by simp,by simp⟩,rfl⟩
     ·have h3:status s n≠1:=by simpa using h2
      rw [if_pos h3] at hR;unfold awS;simp only [go_sem,simprocAttr];refine aR 7 .done rfl (by kernel_rfl) (by kernel_rfl) (by decide) ?_;simp only [go_sem,simprocAttr,hnK];refine ⟨⟨by omega,by omega⟩,_,Tm s n hl,?_⟩;simp only [go_sem,simprocAttr];refine ⟨by kernel_rfl,?_⟩;obtain ⟨y,hy⟩:∃ y,y=kP s.links n:=⟨_,rfl⟩
      rw [← hy];have hr:y = -1 ∨ ∃ k:Nat,k<s.links.length∧y=k:=by rw [hy];exact lidx_range _ _
      refine aR 22 .done rfl (by kernel_rfl) (by kernel_rfl) (by decide) ?_;simp only [go_sem,simprocAttr];have hpx:dM s n=if y<0 then ⟨#[]⟩ else (s.links.getD y.toNat default).proxy:=by unfold dM;rw [← hy]
      refine ⟨fun q=>?_,fun q=>?_,_,fun _=>Ak s (s.links.getD y.toNat default).proxy hf hl,?_⟩
      ·simp only [bxx] at q;rcases hr with hr | ⟨j,hj,hr⟩<;>omega
      ·rw [Bool.and_eq_true] at q;have q1:=of_decide_eq_true q.1;rcases hr with hr | ⟨j,hj,hr⟩<;>omega
      simp only [go_sem,simprocAttr];refine ⟨by kernel_rfl,?_⟩;refine brW (b:=decide (status s (dM s n)=1)) ?_ ⟨fun h4=>?_,fun h4=>?_⟩
      ·rcases hr with hr | ⟨j,hj,hr⟩
       ·rw [hpx,hr,if_pos (by decide),hst];rfl
       ·rw [hpx,if_neg (by omega),hr,Int.toNat_natCast,decide_eq_true (by omega:(j:Int) ≥ 0),Bool.true_and]
        by_cases he:(s.links.getD j default).proxy=⟨#[]⟩
        ·rw [he,hst];simp
        ·rw [show ((s.links.getD j default).proxy.toList==(⟨#[]⟩:ByteArray).toList)=false from Bool.eq_false_iff.2 fun q=>he (toList_eq.1 q)];rw [Bool.eq_iff_iff];simp
      ·have h5:=of_decide_eq_true h4;obtain ⟨j,hj,rfl⟩:∃ j:Nat,j<s.links.length∧y=j:=by
        rcases hr with hr | hr
        ·rw [hpx,hr,if_pos (by decide),hst] at h5;exact absurd h5 (by decide)
        ·exact hr
       have hpj:dM s n=(s.links.getD j default).proxy:=by rw [hpx,if_neg (by omega),Int.toNat_natCast]
       unfold awS;simp only [go_sem,simprocAttr];refine aR 18 .done rfl (by kernel_rfl) (by kernel_rfl) (by decide) ?_;simp only [go_sem,simprocAttr,hnK];refine ⟨⟨by omega,by omega⟩,⟨by omega,by omega⟩,_,hS _ n (s.links.getD j default).proxy hfit,?_⟩;simp only [go_sem,simprocAttr];refine ⟨by kernel_rfl,?_⟩;obtain ⟨r,hrr⟩:∃ r,r=fM (gF s p (mF s (U.take k))).1 n (dM s n):=⟨_,rfl⟩
       unfold eK at hR;rw [← hpj, ← hrr];rw [← hrr] at hR;refine brW (b:=decide (r.2=0)) ?_ ⟨fun h6=>?_,fun h6=>?_⟩
       ·rw [Bool.eq_iff_iff,decide_eq_true_eq,beq_iff_eq]
       ·have h7:=of_decide_eq_true h6;rw [if_pos ⟨h5,h7⟩] at hR;unfold awS;simp only [go_sem,simprocAttr];refine ⟨k+1,aA ?_,by omega,by omega⟩;simp only [go_sem,simprocAttr];rw [hR,aZ (show k<9223372036854775807 by omega)];exact ⟨⟨by simp,rfl,by simp,⟨rfl,rfl⟩,by simp,by simp,by simp⟩,rfl⟩
       ·have h7 : ¬ r.2=0:=by simpa using h6
        rw [if_neg (fun q=>h7 q.2)] at hR;unfold awS;simp only [go_sem,simprocAttr,hnK];refine ⟨⟨by omega,by omega⟩,⟨by unfold maxLen;omega,by omega⟩,k+1,aJ [(4,some 60),(3,some 3),(2,some 2),(1,some 1),(0,some 0)] ?_,by omega,by omega⟩;simp only [go_sem,simprocAttr];rw [hR,List.map_append,aZ (show k<9223372036854775807 by omega)];exact ⟨⟨by simp,rfl,by simp,⟨rfl,rfl⟩,by simp,by simp,by simp⟩,rfl⟩
      ·have h5 : ¬ status s (dM s n)=1:=by simpa using h4
       unfold awS;simp only [go_sem,simprocAttr,hnK];unfold eK at hR;rw [if_neg (fun q=>h5 q.1)] at hR;refine ⟨⟨by omega,by omega⟩,⟨by unfold maxLen;omega,by omega⟩,k+1,aJ [(4,some 42),(3,some 3),(2,some 2),(1,some 1),(0,some 0)] ?_,by omega,by omega⟩;simp only [go_sem,simprocAttr];rw [hR,List.map_append,aZ (show k<9223372036854775807 by omega)];exact ⟨⟨by simp,rfl,by simp,⟨rfl,rfl⟩,by simp,by simp,by simp⟩,rfl⟩
    ·simp only [bxx] at hge;have:k=U.length:=by omega
     subst this;rw [List.take_length];unfold awS;simp only [go_sem,simprocAttr];refine cR ?_ rfl;simp only [go_sem,simprocAttr]
def aGu (nm:ByteArray):ClipR:=⟨3,1,⟨2,nm,⟨0,1⟩,⟨1,1⟩,false⟩,zSource,0,0,0,⟨#[]⟩,0,[]⟩
def Wc (i:Int):SequenceR:=⟨dF ⟨#[115]⟩ i,⟨25,1⟩,16,16,[[aGu (dF ⟨#[115]⟩ (i - 1))]],[],[],0⟩
def zF (L:List Int):Nat→Nat→List SequenceR→List SequenceR
 | 0,_,s=>s
 | f+1,q,s=>if (s.length:Int)<4+aB L q 4 then zF L f (q+1) (s ++ [Wc s.length]) else s
def zL (p:ProjR) (a:Nat):MediumR:=p.media.getD a default
def bW (p:ProjR) (b:Nat):SequenceR:=p.seqs.getD b default
def oddK (p:ProjR) (L:List Int) (a b:Nat) (k:Int):ProjR :=
 if k=0∧1<p.media.length then ⟨p.media.set a { zL p a with name:=(zL p ((a+1) % p.media.length)).name },p.seqs⟩
 else if k=1 then ⟨p.media.take a++p.media.drop (a+1),p.seqs⟩
 else if k=2 then ⟨p.media,p.seqs.set b { bW p b with name:=⟨#[66,105,103]⟩ }⟩
 else if k=3 then ⟨p.media,p.seqs.set b { bW p b with w:=20 }⟩
 else if k=4 then ⟨p.media,p.seqs.set b { bW p b with rate:=⟨2,2⟩ }⟩
 else if k=5 then ⟨p.media.set a { zL p a with frames := -1 },p.seqs⟩
 else if k=6∧1<p.seqs.length then ⟨p.media,p.seqs.set b { bW p b with name:=(bW p ((b+1) % p.seqs.length)).name }⟩
 else if k=7 then ⟨p.media,p.seqs.set b { bW p b with video:=(bW p b).video ++ [[aGu (dF ⟨#[115]⟩ (aB L 3 4))]] }⟩
 else if k=8 then ⟨p.media,p.seqs.set b { bW p b with sound:=(bW p b).sound ++ [[(cB L 3 2 1).1]] }⟩
 else if k=9 then ⟨p.media,p.seqs.set b { bW p b with video:=(bW p b).video++List.replicate (9 - (bW p b).video.length) [] }⟩
 else if k=10 then ⟨p.media,p.seqs.set b { bW p b with cues:=(bW p b).cues ++ [⟨5,5,[⟨#[120]⟩]⟩] }⟩
 else if k=11 then ⟨p.media,zF L 8 3 p.seqs⟩
 else p
def oddP (p:ProjR) (L:List Int):ProjR:=oddK p L (aB L 1 p.media.length).toNat (aB L 2 p.seqs.length).toNat (aB L 0 16)
theorem qL {α : Type} {P : α → Prop} {l:List α} {i:Nat} {x : α} (h:∀ y∈l,P y) (hx:P x):∀ y∈l.set i x,P y:=by
 intro y hy;rcases List.mem_or_eq_of_mem_set hy with h1 | h1
 ·exact h y h1
 ·rw [h1];exact hx
theorem Pe (nm:ByteArray):(aGu nm).fit:=by
 have i0:I64 0:=⟨by decide,by decide⟩
 have i1:I64 1:=⟨by decide,by decide⟩
 have i2:I64 2:=⟨by decide,by decide⟩
 have i3:I64 3:=⟨by decide,by decide⟩
 exact ⟨i3,i1,⟨i2,⟨i0,i1⟩,⟨i1,i1⟩⟩,⟨i0,⟨i0,i0⟩,⟨i0,i0⟩⟩,i0,i0,i0,i0⟩
theorem aMp (i:Int):(Wc i).fit:=by
 have i0:I64 0:=⟨by decide,by decide⟩
 have i1:I64 1:=⟨by decide,by decide⟩
 have i16:I64 16:=⟨by decide,by decide⟩
 have i25:I64 25:=⟨by decide,by decide⟩
 refine ⟨⟨i25,i1⟩,i16,i16,fun t ht c hc=>?_,fun t ht=>(by cases ht),fun c hc=>(by cases hc),i0⟩;simp only [Wc,List.mem_cons,List.not_mem_nil,or_false] at ht;subst ht;simp only [List.mem_cons,List.not_mem_nil,or_false] at hc;subst hc;exact Pe _
theorem Xd (L:List Int):∀ (f q:Nat) (s:List SequenceR),(∀ y∈s,y.fit) → ∀ y∈zF L f q s,y.fit
 | 0,q,s,h=>h
 | f+1,q,s,h=>by
  unfold zF;split
  ·refine Xd L f (q+1) _ fun y hy=>?_
   rcases List.mem_append.1 hy with hy | hy
   ·exact h y hy
   ·simp only [List.mem_cons,List.not_mem_nil,or_false] at hy;rw [hy];exact aMp _
  ·exact h
theorem mK {c:Prop} [Decidable c] {a b:ProjR} (h1:c→a.fit) (h2 : ¬ c→b.fit):(if c then a else b).fit:=by
 by_cases h:c
 ·rw [if_pos h];exact h1 h
 ·rw [if_neg h];exact h2 h
theorem aRe {p:ProjR} (h:p.fit) (L:List Int) {a b:Nat} (k:Int) (ha:a<p.media.length) (hb:b<p.seqs.length):(oddK p L a b k).fit:=by
 have fm:(zL p a).fit:=h.media _ (aP ha);have fs:(bW p b).fit:=h.seqs _ (aP hb);have im:I64 (-1):=⟨by decide,by decide⟩
 have i2:I64 2:=⟨by decide,by decide⟩
 have i5:I64 5:=⟨by decide,by decide⟩
 have i20:I64 20:=⟨by decide,by decide⟩
 have ho:=Xd L 8 3 _ h.seqs;unfold oddK;generalize zF L 8 3 p.seqs=O at *;refine mK (fun _=>?_) (fun _=>?_)
 ·exact ⟨qL h.media ⟨fm.seq,fm.frames,fm.channels,fm.samples,fm.cues⟩,h.seqs⟩
 ·refine mK (fun _=>?_) (fun _=>?_)
  ·refine ⟨fun y hy=>?_,h.seqs⟩;rcases List.mem_append.1 hy with hy | hy
   ·exact h.media y (List.mem_of_mem_take hy)
   ·exact h.media y (List.mem_of_mem_drop hy)
  ·refine mK (fun _=>?_) (fun _=>?_)
   ·exact ⟨h.media,qL h.seqs ⟨fs.rate,fs.w,fs.h,fs.video,fs.sound,fs.cues,fs.channels⟩⟩
   ·refine mK (fun _=>?_) (fun _=>?_)
    ·exact ⟨h.media,qL h.seqs ⟨fs.rate,i20,fs.h,fs.video,fs.sound,fs.cues,fs.channels⟩⟩
    ·refine mK (fun _=>?_) (fun _=>?_)
     ·exact ⟨h.media,qL h.seqs ⟨⟨i2,i2⟩,fs.w,fs.h,fs.video,fs.sound,fs.cues,fs.channels⟩⟩
     ·refine mK (fun _=>?_) (fun _=>?_)
      ·exact ⟨qL h.media ⟨fm.seq,im,fm.channels,fm.samples,fm.cues⟩,h.seqs⟩
      ·refine mK (fun _=>?_) (fun _=>?_)
       ·exact ⟨h.media,qL h.seqs ⟨fs.rate,fs.w,fs.h,fs.video,fs.sound,fs.cues,fs.channels⟩⟩
       ·refine mK (fun _=>?_) (fun _=>?_)
        ·refine ⟨h.media,qL h.seqs ⟨fs.rate,fs.w,fs.h,fun t ht c hc=>?_,fs.sound,fs.cues,fs.channels⟩⟩;rcases List.mem_append.1 ht with ht | ht
         ·exact fs.video t ht c hc
         ·simp only [List.mem_cons,List.not_mem_nil,or_false] at ht;subst ht;simp only [List.mem_cons,List.not_mem_nil,or_false] at hc;subst hc;exact Pe _
        ·refine mK (fun _=>?_) (fun _=>?_)
         ·refine ⟨h.media,qL h.seqs ⟨fs.rate,fs.w,fs.h,fs.video,fun t ht c hc=>?_,fs.cues,fs.channels⟩⟩;rcases List.mem_append.1 ht with ht | ht
          ·exact fs.sound t ht c hc
          ·simp only [List.mem_cons,List.not_mem_nil,or_false] at ht;subst ht;simp only [List.mem_cons,List.not_mem_nil,or_false] at hc;subst hc;exact (Ym L 3 2 1 (by omega) (by omega)).2
         ·refine mK (fun _=>?_) (fun _=>?_)
          ·refine ⟨h.media,qL h.seqs ⟨fs.rate,fs.w,fs.h,fun t ht c hc=>?_,fs.sound,fs.cues,fs.channels⟩⟩;rcases List.mem_append.1 ht with ht | ht
           ·exact fs.video t ht c hc
           ·rw [List.eq_of_mem_replicate ht] at hc;cases hc
          ·refine mK (fun _=>?_) (fun _=>?_)
           ·refine ⟨h.media,qL h.seqs ⟨fs.rate,fs.w,fs.h,fs.video,fs.sound,fun c hc=>?_,fs.channels⟩⟩;rcases List.mem_append.1 hc with hc | hc
            ·exact fs.cues c hc
            ·simp only [List.mem_cons,List.not_mem_nil,or_false] at hc;subst hc;exact ⟨i5,i5⟩
           ·refine mK (fun _=>?_) (fun _=>?_)
            ·exact ⟨h.media,ho⟩
            ·exact h
theorem aRd {p:ProjR} (h:p.fit) (L:List Int) (hm : 1≤p.media.length) (hs : 1≤p.seqs.length):(oddP p L).fit:=by
 have t1:=aF (L:=L) (k:=1) (n:=p.media.length) (by omega);have t2:=aF (L:=L) (k:=2) (n:=p.seqs.length) (by omega);exact aRe h L _ (by omega) (by omega)
theorem rTake (n:Nat) (X:List (List T)):List.take n (aL X)=aL (X.take n):=by unfold aL;rw [List.map_take]
theorem rDrop (n:Nat) (X:List (List T)):List.drop n (aL X)=aL (X.drop n):=by unfold aL;rw [List.map_drop]
theorem rApp (X Y:List (List T)):aL X++aL Y=aL (X++Y):=by unfold aL;rw [List.map_append]
theorem Rf {f:V→Option T} (hf:∀ x,f (.t x)=some x) {cs:List V} {ts:List T} (hc:Go.Proofs.YtbfnemkngoaeeaaGreat.lendCs f cs=some ts):∀ (X:List (List T)) (b:Nat),Go.Proofs.YtbfnemkngoaeeaaGreat.lendRs f ((aL X).set b cs)=some (X.set b ts)
 | [],_=>by simp [aL,lendRs]
 | x::X,0=>by
  have:=vT f hf X;unfold aL at this ⊢;simp only [List.map_cons,List.set_cons_zero,lendRs,hc,this]
 | x::X,b+1=>by
  have:=Rf hf hc X b;unfold aL at this ⊢;simp only [List.map_cons,List.set_cons_succ,lendRs,this,vU f hf]
@[go_sem] theorem lendRs_setC (h:Heap) (n:Nat) (X:List (List T)) (b:Nat) (cs:List V) (hb:b<X.length):Go.Proofs.YtbfnemkngoaeeaaGreat.lendRs (aV h n) ((aL X).set b cs)=match Go.Proofs.YtbfnemkngoaeeaaGreat.lendCs (aV h n) cs with
  | some ts=>some (X.set b ts)
  | none=>none:=by
 cases e:Go.Proofs.YtbfnemkngoaeeaaGreat.lendCs (aV h n) cs with
 | some ts=>exact Rf (gY h n) e X b
 | none =>
  simp only
  induction X generalizing b with
  | nil=>cases hb
  | cons x X ih =>
   cases b with
   | zero=>simp only [aL,List.map_cons,List.set_cons_zero,lendRs,e]
   | succ b =>
    have:=ih b (by simpa using hb);unfold aL at this ⊢;simp only [List.map_cons,List.set_cons_succ,lendRs,this];cases lendCs (aV h n) (List.map V.t x)<;>rfl
@[go_sem] theorem reachRs_setC (h:Heap) (n:Nat) (X:List (List T)) (b:Nat) (cs:List V) (hb:b<X.length):Go.Proofs.YtbfnemkngoaeeaaGreat.reachRs (jY h n) ((aL X).set b cs)=Go.Proofs.YtbfnemkngoaeeaaGreat.reachL (jY h n) cs:=by
 induction X generalizing b with
 | nil=>cases hb
 | cons x X ih =>
  cases b with
  | zero =>
   have:=Aw (jY h n) (wY h n) X;unfold aL at this ⊢;simp only [List.map_cons,List.set_cons_zero,reachRs,this,List.append_nil]
  | succ b =>
   have:=ih b (by simpa using hb);unfold aL at this ⊢;simp only [List.map_cons,List.set_cons_succ,reachRs,this,zA _ (wY h n),List.nil_append]
theorem kQ:∀ l:List T,aG3 l l
 | []=>trivial
 | x::l=>⟨aM,kQ l⟩
theorem cT:∀ l:List (List T),Gy l l
 | []=>trivial
 | x::l=>⟨kQ x,cT l⟩
theorem aEf {c c':List T} (h:aG3 c' c):∀ (l:List (List T)) (b:Nat),Gy (l.set b c') (l.set b c)
 | [],_=>trivial
 | x::l,0=>⟨h,cT l⟩
 | x::l,b+1=>⟨kQ x,aEf h l b⟩
theorem vW {a a':List (List T)} (h:Gy a' a):∀ (l:List (List T)),Gy (l++a') (l++a)
 | []=>h
 | x::l=>⟨kQ x,vW h l⟩
theorem aEg:∀ n:Nat,Gy (List.replicate n [T.lit (.slice none 0 0)]) (List.replicate n (bL []))
 | 0=>trivial
 | n+1=>⟨⟨Bs,trivial⟩,aEg n⟩
def d9:Nat→List T
 | 0=>bL []
 | _+1=>[.lit (.slice none 0 0)]
def c9 (s:SequenceR) (x:Nat):List T:=[gN s.name,ti s.rate.num,ti s.rate.den,ti s.w,ti s.h, .list 1 (d9 x) (List.map bL s.video++List.replicate x [.lit (.slice none 0 0)]),cK s.sound,gC s.cues,ti s.channels]
abbrev zCl:List T:=[ti 0,ti 0,ti 0,gN ⟨#[]⟩,ti 0,ti 0,ti 0,ti 0, .lit (.bool false),ti 0,gN ⟨#[]⟩,ti 0,ti 0,ti 0,ti 0, .lit (.bool false),ti 0,ti 0,ti 0,gN ⟨#[]⟩,ti 0, .lit (.slice none 0 0)]
def n11 (i:Int):List T:=[gN (dF ⟨#[115]⟩ i),ti 25,ti 1,ti 16,ti 16, .list 1 [.lit (.slice none 0 0)] [[.list 22 zCl [[ti 3,ti 1,ti 2,gN (dF ⟨#[115]⟩ (i - 1)),ti 0,ti 1,ti 1,ti 1, .lit (.bool false),ti 0,gN ⟨#[]⟩,ti 0,ti 0,ti 0,ti 0, .lit (.bool false),ti 0,ti 0,ti 0,gN ⟨#[]⟩,ti 0, .lit (.slice none 0 0)]]]], .lit (.slice none 0 0), .lit (.slice none 0 0),ti 0]
theorem n11_imp (i:Int):aG3 (n11 i) (SequenceR.c (Wc i)) :=
 ⟨aM,aM,aM,aM,aM,kD ⟨⟨kD ⟨⟨aM,aM,aM,aM,aM,aM,aM,aM,aM,aM,aM,aM,aM,aM,aM,aM,aM,aM,aM,aM,aM,Bs,trivial⟩,trivial⟩,trivial⟩,trivial⟩,Bs,Bs,aM,trivial⟩
def x11 (l:List SequenceR) (m:Nat):List (List T):=List.map SequenceR.c l++(List.range m).map fun j=>n11 ((l.length+j:Nat):Int)
def s11 (l:List SequenceR) (m:Nat):List SequenceR:=l++(List.range m).map fun j=>Wc ((l.length+j:Nat):Int)
theorem x11_imp (l:List SequenceR) (m:Nat):Gy (x11 l m) (List.map SequenceR.c (s11 l m)):=by
 unfold x11 s11;rw [List.map_append,List.map_map];apply vW;generalize List.range m=r
 induction r with
 | nil=>trivial
 | cons a r ih=>exact ⟨n11_imp _,ih⟩
theorem aPg (l:List SequenceR) (m:Nat):x11 l m ++ [n11 ((l.length+m:Nat):Int)]=x11 l (m+1):=by
 unfold x11;rw [List.range_succ,List.map_append,List.append_assoc];rfl
theorem x11_len (l:List SequenceR) (m:Nat):(x11 l m).length=l.length+m:=by unfold x11;simp
theorem aQp (l:List SequenceR) (m:Nat):s11 l m ++ [Wc ((l.length+m:Nat):Int)]=s11 l (m+1):=by
 unfold s11;rw [List.range_succ,List.map_append,List.append_assoc];rfl
theorem aK2 (l:List SequenceR) (m:Nat):(s11 l m).length=l.length+m:=by unfold s11;simp
theorem kM {q:ProjR} {x:V} {h:Heap} {dm ds:List T} {M S:List (List T)} (e:x.lend h = .agg [.t (.list 141 dm M), .t (.list 9 ds S)]) (h1:Gy M (List.map MediumR.c q.media)) (h2:Gy S (List.map SequenceR.c q.seqs)):Cq (dT q) x h :=
 vF e rfl (nE (by exact ⟨aJf (kD h1),aJf (kD h2),trivial⟩))
theorem qZ (b:Nat) (x:SequenceR) {c:List T} (hc:aG3 c (SequenceR.c x)) {l:List SequenceR}:Gy ((List.map SequenceR.c l).set b c) (List.map SequenceR.c (l.set b x)):=by
 rw [List.map_set];exact aEf hc _ b
theorem Yd (b:Nat) (x:MediumR) {l:List MediumR}:Gy ((List.map MediumR.c l).set b (MediumR.c x)) (List.map MediumR.c (l.set b x)):=by
 rw [List.map_set];exact cT _
set_option maxHeartbeats 16000000 in
theorem cOdd (p:ProjR) (L:List Int) (hm : 1≤p.media.length) (hm2:p.media.length≤16) (hs : 1≤p.seqs.length) (hs2:p.seqs.length≤16) (hv:∀ s∈p.seqs,s.video.length≤64∧s.sound.length≤64∧s.cues.length≤64) :
  aS Tryz.prog 19 [dT p, .t (bY L)] (dT (oddP p L)):=by
 refine dS Tryz.X19 Tryz.func19 rfl Tryz.ntmps19 (by rw [Tryz.results19]) (aD _ ?_);simp only [go_sem,Nat.reduceGT,↓reduceIte,Nat.reduceAdd,Nat.reduceSub,reduceCtorEq];refine aR 10 .done rfl (by kernel_rfl) (by kernel_rfl) (by decide) ?_;simp only [go_sem,Nat.reducePow,Nat.reduceLT,↓reduceIte,Nat.reduceAdd,Nat.reduceMul,Nat.reduceLeDiff,Nat.reduceEqDiff,reduceCtorEq];refine ⟨⟨by unfold maxLen;omega,by omega⟩,⟨by unfold maxLen;omega,by omega⟩,by kernel_rfl,?_⟩;refine aQ (bK L 0 16 (by omega) (by omega) (by omega)) rfl rfl rfl ?_;have n0:=aF (L:=L) (k:=0) (n:=16) (by omega);simp only [go_sem,↓reduceIte,Nat.reduceEqDiff];refine aQ (bK L 1 p.media.length (by omega) (by omega) (by omega)) rfl rfl rfl ?_;have n1:=aF (L:=L) (k:=1) (n:=p.media.length) (by omega);simp only [go_sem,↓reduceIte,Nat.reduceAdd,Nat.reduceEqDiff];refine aQ (bK L 2 p.seqs.length (by omega) (by omega) (by omega)) rfl rfl rfl ?_;have n2:=aF (L:=L) (k:=2) (n:=p.seqs.length) (by omega);simp only [go_sem,↓reduceIte,Nat.reduceAdd,Nat.reduceEqDiff];obtain ⟨a,ha⟩:∃ a:Nat,aB L 1 p.media.length=a:=⟨(aB L 1 p.media.length).toNat,by omega⟩
 obtain ⟨b,hb⟩:∃ b:Nat,aB L 2 p.seqs.length=b:=⟨(aB L 2 p.seqs.length).toNat,by omega⟩
 unfold oddP;rw [ha] at n1 ⊢;rw [hb] at n2 ⊢;rw [Int.toNat_natCast,Int.toNat_natCast];generalize aB L 0 16=k at *;have hal:a<p.media.length:=by omega
 have hbl:b<p.seqs.length:=by omega
 have nm:∀ d,nth d (p.media.map MediumR.c) a=MediumR.c (zL p a):=fun d=>by
  unfold nth zL;rw [List.getElem?_map,List.getElem?_eq_getElem hal,aK hal];rfl
 have ns:∀ d,nth d (p.seqs.map SequenceR.c) b=SequenceR.c (bW p b):=fun d=>by
  unfold nth bW;rw [List.getElem?_map,List.getElem?_eq_getElem hbl,aK hbl];rfl
 have hmod:(((a:Int)+1).tmod (p.media.length:Int))=(((a+1) % p.media.length:Nat):Int):=by
  rw [show ((a:Int)+1)=((a+1:Nat):Int) by omega,qQ]
 have hmods:(((b:Int)+1).tmod (p.seqs.length:Int))=(((b+1) % p.seqs.length:Nat):Int):=by
  rw [show ((b:Int)+1)=((b+1:Nat):Int) by omega,qQ]
 have nm2:∀ d,nth d (p.media.map MediumR.c) ((a+1) % p.media.length)=MediumR.c (zL p ((a+1) % p.media.length)):=fun d=>by
  have hal:=Nat.mod_lt (a+1) (show 0<p.media.length by omega);unfold nth zL;rw [List.getElem?_map,List.getElem?_eq_getElem hal,aK hal];rfl
 have ns2:∀ d,nth d (p.seqs.map SequenceR.c) ((b+1) % p.seqs.length)=SequenceR.c (bW p ((b+1) % p.seqs.length)):=fun d=>by
  have hal:=Nat.mod_lt (b+1) (show 0<p.seqs.length by omega);unfold nth bW;rw [List.getElem?_map,List.getElem?_eq_getElem hal,aK hal];rfl
 have hvb:=hv _ (show bW p b∈p.seqs from aP hbl);have hmm:=Nat.mod_lt (a+1) (show 0<p.media.length by omega);have hms:=Nat.mod_lt (b+1) (show 0<p.seqs.length by omega);unfold oddK;refine brW (b:=decide (k=0∧1<p.media.length)) ?_ ⟨fun h0=>?_,fun h0=>?_⟩
 ·rw [Bool.eq_iff_iff,Bool.and_eq_true,beq_iff_eq,decide_eq_true_eq,decide_eq_true_eq];omega
 ·rw [if_pos (of_decide_eq_true h0)];have k0:=of_decide_eq_true h0;unfold awS;simp only [go_sem,Nat.reduceGT,↓reduceIte,Nat.reduceAdd,Nat.reduceLeDiff,Nat.reduceEqDiff,reduceCtorEq,wrap64 (x:=(a:Int)+1) (by omega) (by omega),hmod,nm,nm2];refine ⟨by omega,⟨by omega,by omega⟩,by omega,⟨by omega,by omega⟩,by omega,kM (by simp only [go_sem,↓reduceIte,Nat.reduceEqDiff];exact rfl) (Yd a _) (cT _)⟩
 ·rw [if_neg (of_decide_eq_false h0)];unfold awS;simp only [go_sem,↓reduceIte,Nat.reduceEqDiff];refine brW (b:=decide (k=1)) ?_ ⟨fun h1=>?_,fun h1=>?_⟩
  ·rw [Bool.eq_iff_iff,Bool.and_eq_true,beq_iff_eq,decide_eq_true_eq,decide_eq_true_eq];omega
  ·rw [if_pos (of_decide_eq_true h1)];have k1:=of_decide_eq_true h1;unfold awS;refine aR 9 .done rfl (by kernel_rfl) (by kernel_rfl) (by decide) ?_;simp only [go_sem,Nat.reduceGT,Nat.reduceLT,↓reduceIte,Nat.reduceAdd,Nat.reduceLeDiff,Nat.reduceEqDiff,reduceCtorEq,wrap64 (x:=(a:Int)+1) (by omega) (by omega),rTake,rDrop,rApp];have ea:((a:Int)+1).toNat=a+1:=by omega
   refine ⟨⟨by omega,by omega,by omega⟩,⟨by omega,by omega,by omega⟩,⟨rfl,by simp only [List.length_drop,List.length_take,List.length_map];unfold maxLen;omega,by simp only [List.length_drop,List.length_take,List.length_map];omega⟩,by kernel_rfl,kM (by simp only [go_sem,↓reduceIte,Nat.reduceEqDiff];exact rfl) ?_ (cT _)⟩;rw [ea,List.take_of_length_le (i:=p.media.length) (by simp), ← List.map_take, ← List.map_drop, ← List.map_append];exact cT _
  ·rw [if_neg (of_decide_eq_false h1)];unfold awS;simp only [go_sem,↓reduceIte];refine brW (b:=decide (k=2)) ?_ ⟨fun h2=>?_,fun h2=>?_⟩
   ·rw [Bool.eq_iff_iff,Bool.and_eq_true,beq_iff_eq,decide_eq_true_eq,decide_eq_true_eq];omega
   ·rw [if_pos (of_decide_eq_true h2)];have k2:=of_decide_eq_true h2;unfold awS;simp only [go_sem,Nat.reduceGT,↓reduceIte,Nat.reduceAdd,Nat.reduceLeDiff,Nat.reduceEqDiff,reduceCtorEq,ns];refine ⟨⟨by omega,by omega⟩,by omega,kM (by simp only [go_sem,↓reduceIte,Nat.reduceEqDiff];exact rfl) (cT _) (qZ b _ (kQ _))⟩
   ·rw [if_neg (of_decide_eq_false h2)];unfold awS;simp only [go_sem,↓reduceIte];refine brW (b:=decide (k=3)) ?_ ⟨fun h3=>?_,fun h3=>?_⟩
    ·rw [Bool.eq_iff_iff,Bool.and_eq_true,beq_iff_eq,decide_eq_true_eq,decide_eq_true_eq];omega
    ·rw [if_pos (of_decide_eq_true h3)];have k3:=of_decide_eq_true h3;unfold awS;simp only [go_sem,Nat.reduceGT,↓reduceIte,Nat.reduceAdd,Nat.reduceLeDiff,Nat.reduceEqDiff,reduceCtorEq,ns];refine ⟨⟨by omega,by omega⟩,by omega,kM (by simp only [go_sem,↓reduceIte,Nat.reduceEqDiff];exact rfl) (cT _) (qZ b _ (kQ _))⟩
    ·rw [if_neg (of_decide_eq_false h3)];unfold awS;simp only [go_sem,↓reduceIte];refine brW (b:=decide (k=4)) ?_ ⟨fun h4=>?_,fun h4=>?_⟩
     ·rw [Bool.eq_iff_iff,Bool.and_eq_true,beq_iff_eq,decide_eq_true_eq,decide_eq_true_eq];omega
     ·rw [if_pos (of_decide_eq_true h4)];have k4:=of_decide_eq_true h4;unfold awS;simp only [go_sem,Nat.reduceGT,↓reduceIte,Nat.reduceAdd,Nat.reduceLeDiff,Nat.reduceEqDiff,reduceCtorEq,ns];refine ⟨⟨by omega,by omega⟩,by omega,kM (by simp only [go_sem,↓reduceIte,Nat.reduceEqDiff];exact rfl) (cT _) (qZ b _ (kQ _))⟩
     ·rw [if_neg (of_decide_eq_false h4)];unfold awS;simp only [go_sem,↓reduceIte,Nat.reduceEqDiff];refine brW (b:=decide (k=5)) ?_ ⟨fun h5=>?_,fun h5=>?_⟩
      ·rw [Bool.eq_iff_iff,Bool.and_eq_true,beq_iff_eq,decide_eq_true_eq,decide_eq_true_eq];omega
      ·rw [if_pos (of_decide_eq_true h5)];have k5:=of_decide_eq_true h5;unfold awS;simp only [go_sem,Nat.reduceGT,↓reduceIte,Nat.reduceAdd,Nat.reduceLeDiff,Nat.reduceEqDiff,reduceCtorEq,nm];refine ⟨⟨by omega,by omega⟩,by omega,kM (by simp only [go_sem,↓reduceIte,Nat.reduceEqDiff];exact rfl) (Yd a _) (cT _)⟩
      ·rw [if_neg (of_decide_eq_false h5)];unfold awS;simp only [go_sem,↓reduceIte];refine brW (b:=decide (k=6∧1<p.seqs.length)) ?_ ⟨fun h6=>?_,fun h6=>?_⟩
       ·rw [Bool.eq_iff_iff,Bool.and_eq_true,beq_iff_eq,decide_eq_true_eq,decide_eq_true_eq];omega
       ·rw [if_pos (of_decide_eq_true h6)];have k6:=of_decide_eq_true h6;unfold awS;simp only [go_sem,Nat.reduceGT,↓reduceIte,Nat.reduceAdd,Nat.reduceLeDiff,Nat.reduceEqDiff,reduceCtorEq,wrap64 (x:=(b:Int)+1) (by omega) (by omega),hmods,ns,ns2];refine ⟨by omega,⟨by omega,by omega⟩,by omega,⟨by omega,by omega⟩,by omega,kM (by simp only [go_sem,↓reduceIte,Nat.reduceEqDiff];exact rfl) (cT _) (qZ b _ (kQ _))⟩
       ·rw [if_neg (of_decide_eq_false h6)];unfold awS;simp only [go_sem,↓reduceIte];refine brW (b:=decide (k=7)) ?_ ⟨fun h7=>?_,fun h7=>?_⟩
        ·rw [Bool.eq_iff_iff,Bool.and_eq_true,beq_iff_eq,decide_eq_true_eq,decide_eq_true_eq];omega
        ·rw [if_pos (of_decide_eq_true h7)];have k7:=of_decide_eq_true h7;unfold awS;simp only [go_sem,Nat.reducePow,Nat.reduceLT,↓reduceIte,Nat.reduceAdd,Nat.reduceMul,Nat.reduceLeDiff,Nat.reduceEqDiff,reduceCtorEq,ns];refine ⟨⟨by omega,by omega⟩,by omega,⟨by unfold maxLen;omega,by omega⟩,?_⟩;refine aQ (bK L 3 4 (by omega) (by omega) (by omega)) rfl rfl rfl ?_;have n3:=aF (L:=L) (k:=3) (n:=4) (by omega);simp only [go_sem,↓reduceIte,Nat.reduceAdd,Nat.reduceEqDiff];refine ⟨_,Tq ⟨#[115]⟩ (aB L 3 4) (by omega) (by omega) (by decide),?_⟩;simp only [go_sem,Nat.reduceGT,Nat.reducePow,Nat.reduceLT,↓reduceIte,Nat.reduceAdd,Nat.reduceMul,Nat.reduceLeDiff,Nat.reduceEqDiff,reduceCtorEq,ns];refine ⟨⟨by unfold maxLen;omega,by omega⟩,⟨by omega,by omega⟩,by omega,kM (by simp only [go_sem,↓reduceIte,Nat.reduceEqDiff,hbl];exact rfl) (cT _) (qZ b _ ?_)⟩;exact ⟨aM,aM,aM,aM,aM,kD (by rw [List.map_append];apply vW;exact ⟨⟨kD ⟨⟨aM,aM,aM,aM,aM,aM,aM,aM,aM,aM,aM,aM,aM,aM,aM,aM,aM,aM,aM,aM,aM,Bs,trivial⟩,trivial⟩,trivial⟩,trivial⟩),aM,aM,aM,trivial⟩
        ·rw [if_neg (of_decide_eq_false h7)];unfold awS;simp only [go_sem,↓reduceIte];refine brW (b:=decide (k=8)) ?_ ⟨fun h8=>?_,fun h8=>?_⟩
         ·rw [Bool.eq_iff_iff,Bool.and_eq_true,beq_iff_eq,decide_eq_true_eq,decide_eq_true_eq];omega
         ·rw [if_pos (of_decide_eq_true h8)];have k8:=of_decide_eq_true h8;unfold awS;simp only [go_sem,Nat.reducePow,Nat.reduceLT,↓reduceIte,Nat.reduceAdd,Nat.reduceMul,Nat.reduceLeDiff,Nat.reduceEqDiff,reduceCtorEq,ns];refine ⟨⟨by omega,by omega⟩,by omega,⟨by unfold maxLen;omega,by omega⟩,?_⟩;refine aQ (cClip L 3 2 1 (by omega) (by omega) (by omega)) rfl rfl rfl ?_;simp only [go_sem,Nat.reduceGT,Nat.reducePow,Nat.reduceLT,↓reduceIte,Nat.reduceAdd,Nat.reduceMul,Nat.reduceLeDiff,Nat.reduceEqDiff,reduceCtorEq,ns];refine ⟨⟨by unfold maxLen;omega,by omega⟩,⟨by omega,by omega⟩,by omega,kM (by simp only [go_sem,↓reduceIte,Nat.reduceEqDiff,hbl];exact rfl) (cT _) (qZ b _ ?_)⟩;exact ⟨aM,aM,aM,aM,aM,aM,kD (by rw [List.map_append];apply vW;exact ⟨⟨kD ⟨kQ _,trivial⟩,trivial⟩,trivial⟩),aM,aM,trivial⟩
         ·rw [if_neg (of_decide_eq_false h8)];unfold awS;simp only [go_sem,↓reduceIte];refine brW (b:=decide (k=9)) ?_ ⟨fun h9=>?_,fun h9=>?_⟩
          ·rw [Bool.eq_iff_iff,Bool.and_eq_true,beq_iff_eq,decide_eq_true_eq,decide_eq_true_eq];omega
          ·rw [if_pos (of_decide_eq_true h9)];have k9:=of_decide_eq_true h9;unfold awS;simp only [go_sem];obtain ⟨V9,hV9⟩:∃ f:Nat→List (List T),f=fun x=>(List.map SequenceR.c p.seqs).set b (c9 (bW p b) x):=⟨_,rfl⟩
           have vn:∀ x d,nth d (V9 x) b = [gN (bW p b).name,ti (bW p b).rate.num,ti (bW p b).rate.den,ti (bW p b).w,ti (bW p b).h, .list 1 (d9 x) (List.map bL (bW p b).video++List.replicate x [.lit (.slice none 0 0)]),cK (bW p b).sound,gC (bW p b).cues,ti (bW p b).channels]:=fun x d=>by
            rw [hV9];unfold nth;rw [List.getElem?_set_self (by simpa using hbl)];rfl
           have v0:List.map SequenceR.c p.seqs=V9 0:=by
            rw [hV9];refine (sN (by simpa using hbl) ?_).symm;rw [List.getElem_map];unfold c9 bW;rw [aK hbl];simp [d9];rfl
           have vl:∀ x,(V9 x).length=p.seqs.length:=fun x=>by rw [hV9];simp
           have vs:∀ x c,(V9 x).set b c=(List.map SequenceR.c p.seqs).set b c:=fun x c=>by rw [hV9];simp
           have vstep:∀ x,(V9 x).set b [gN (bW p b).name,ti (bW p b).rate.num,ti (bW p b).rate.den,ti (bW p b).w,ti (bW p b).h, .list 1 [.lit (.slice none 0 0)] (List.map bL (bW p b).video++List.replicate x [.lit (.slice none 0 0)] ++ [[.lit (.slice none 0 0)]]),cK (bW p b).sound,gC (bW p b).cues,ti (bW p b).channels]=V9 (x+1):=fun x=>by
            rw [vs,hV9,List.append_assoc, ← List.replicate_succ'];rfl
           refine aE (fun (x:Nat) σ => { (aX σ) with h := σ.h.set 10 (.row 114 9 (SequenceR.c default) (aL (V9 x))) }) (fun x=>(bW p b).video.length+x≤max 9 (bW p b).video.length) (fun x=>max 9 (bW p b).video.length - ((bW p b).video.length+x)) 0 (aA ?_) (by omega) ?_
           ·simp only [go_sem,Nat.reduceLT,↓reduceIte,Nat.reduceLeDiff,Nat.reduceEqDiff,reduceCtorEq];rw [v0];simp
           ·intro x hx;refine aD _ ?_;simp only [go_sem,↓reduceIte,Nat.reduceEqDiff,reduceCtorEq,vn,vl,List.length_append,List.length_map,List.length_replicate];refine ⟨⟨by omega,by omega⟩,by omega,fun hlt=>?_,fun hge=>?_⟩
            ·simp only [decide_eq_true_eq] at hlt;unfold awS;simp only [go_sem,Nat.reducePow,Nat.reduceLT,↓reduceIte,Nat.reduceAdd,Nat.reduceMul,Nat.reduceLeDiff,Nat.reduceEqDiff,reduceCtorEq,vn,vl,List.length_append,List.length_map,List.length_replicate];refine ⟨⟨by omega,by omega⟩,by omega,⟨by unfold maxLen;omega,by omega⟩,⟨by unfold maxLen;omega,by omega⟩,⟨by omega,by omega⟩,by omega,x+1,aA ?_,by omega,by omega⟩;simp only [go_sem,Nat.reduceLT,↓reduceIte,Nat.reduceLeDiff,Nat.reduceEqDiff,reduceCtorEq,vl,hbl,vstep]<;>simp
            ·simp only [decide_eq_false_iff_not] at hge;unfold awS;simp only [go_sem,Nat.reduceGT,↓reduceIte,Nat.reduceAdd,Nat.reduceLeDiff,Nat.reduceEqDiff,reduceCtorEq];refine kM (by simp only [go_sem,↓reduceIte,Nat.reduceEqDiff];exact rfl) (cT _) ?_;have hxx:x=9 - (bW p b).video.length:=by omega
             rw [hV9];subst hxx;refine qZ b _ ?_;have hI:Imp (.list 1 (d9 (9 - (bW p b).video.length)) (List.map bL (bW p b).video++List.replicate (9 - (bW p b).video.length) [.lit (.slice none 0 0)])) (.list 1 (bL []) (List.map bL ((bW p b).video++List.replicate (9 - (bW p b).video.length) []))):=kD (by
              rw [List.map_append,List.map_replicate];apply vW;exact aEg _)
             exact ⟨aM,aM,aM,aM,aM,hI,aM,aM,aM,trivial⟩
          ·rw [if_neg (of_decide_eq_false h9)];unfold awS;simp only [go_sem,↓reduceIte];refine brW (b:=decide (k=10)) ?_ ⟨fun h10=>?_,fun h10=>?_⟩
           ·rw [Bool.eq_iff_iff,Bool.and_eq_true,beq_iff_eq,decide_eq_true_eq,decide_eq_true_eq];omega
           ·rw [if_pos (of_decide_eq_true h10)];have k10:=of_decide_eq_true h10;unfold awS;simp only [go_sem,Nat.reduceGT,Nat.reducePow,Nat.reduceLT,↓reduceIte,Nat.reduceAdd,Nat.reduceMul,Nat.reduceLeDiff,Nat.reduceEqDiff,reduceCtorEq,ns];refine ⟨⟨by omega,by omega⟩,by omega,⟨by unfold maxLen;omega,by omega⟩,⟨by unfold maxLen;omega,by omega⟩,⟨by omega,by omega⟩,by omega,kM (by simp only [go_sem,↓reduceIte,Nat.reduceEqDiff,hbl];exact rfl) (cT _) (qZ b _ ?_)⟩;exact ⟨aM,aM,aM,aM,aM,aM,aM,kD (by rw [List.map_append];apply vW;exact ⟨⟨aM,aM,kD (cT _),trivial⟩,trivial⟩),aM,trivial⟩
           ·rw [if_neg (of_decide_eq_false h10)];unfold awS;simp only [go_sem,↓reduceIte];refine brW (b:=decide (k=11)) ?_ ⟨fun h11=>?_,fun h11=>?_⟩
            ·rw [Bool.eq_iff_iff,beq_iff_eq,decide_eq_true_eq]
            ·rw [if_pos (of_decide_eq_true h11)];have k11:=of_decide_eq_true h11;unfold awS;simp only [go_sem,↓reduceIte];refine aE (fun (m:Nat) σ => bD 11 (aC ((p.seqs.length+m:Nat):Int)) { (aW [24,32,76,88,100,125,146,175,199,227,249] (aX σ)) with h:=[(10, .row 114 9 (SequenceR.c default) (aL (x11 p.seqs m))),(6, .row 82 141 (MediumR.c default) (aL (List.map MediumR.c p.media))),(2, .box [.t (bY L),aC ((3+m:Nat):Int)]),(1, .box [.t (.lit (.slice none 0 0)), .t (.lit (.slice none 0 0))]),(0, .box [.t (jW p.media), .t (nL p.seqs)])] })
              (fun m=>m≤7∧zF L (8 - m) (3+m) (s11 p.seqs m)=zF L 8 3 p.seqs) (fun m=>8 - m) 0 (aA ?_) ⟨by omega,by simp [s11]⟩ ?_
             ·simp only [go_sem,Nat.reduceLT,↓reduceIte,Nat.reduceAdd,Nat.reduceLeDiff,Nat.reduceEqDiff,reduceCtorEq]<;>simp [x11]
             ·rintro m ⟨hm7,hod⟩;refine aD _ ?_;simp only [go_sem,↓reduceIte,Nat.reduceEqDiff,reduceCtorEq];refine aQ (bK L (3+m) 4 (by omega) (by omega) (by omega)) rfl rfl rfl ?_;have n4:=aF (L:=L) (k:=3+m) (n:=4) (by omega);simp only [go_sem,↓reduceIte,Nat.reduceEqDiff,wrap64 (x:=4+aB L (3+m) 4) (by omega) (by omega)];refine ⟨fun hlt=>?_,fun hge=>?_⟩
              ·simp only [decide_eq_true_eq] at hlt;have hm6:m≤6:=by omega
               have w1:IntKind.i64.wrap (((p.seqs.length+m:Nat):Int) - 1)=((p.seqs.length+m:Nat):Int) - 1:=wrap64 (by omega) (by omega);unfold awS;simp only [go_sem,↓reduceIte,w1];refine ⟨_,Tq ⟨#[115]⟩ (((p.seqs.length+m:Nat):Int) - 1) (by omega) (by omega) (by decide),?_⟩;simp only [go_sem,Nat.reduceGT,↓reduceIte,Nat.reduceAdd,Nat.reduceLeDiff,reduceCtorEq];refine aR 11 .done rfl (by kernel_rfl) (by kernel_rfl) (by decide) ?_;simp only [go_sem,↓reduceIte,Nat.reduceAdd];refine ⟨_,Tq ⟨#[115]⟩ ((p.seqs.length+m:Nat):Int) (by omega) (by omega) (by decide),?_⟩;simp only [go_sem,Nat.reduceGT,Nat.reducePow,Nat.reduceLT,↓reduceIte,Nat.reduceAdd,Nat.reduceMul,Nat.reduceLeDiff,Nat.reduceEqDiff,reduceCtorEq];have hl:=x11_len p.seqs m;have w2:IntKind.i64.wrap (((p.seqs.length+m:Nat):Int)+1)=((p.seqs.length+(m+1):Nat):Int):=by rw [wrap64 (by omega) (by omega)];omega
               refine ⟨⟨by unfold maxLen;omega,by omega⟩,by kernel_rfl,m+1,aJ [(10,some 23),(6,some 6),(2,some 2),(1,some 1),(0,some 0)] ?_,⟨by omega,?_⟩,by omega⟩
               ·simp only [go_sem,Nat.reduceLT,↓reduceIte,Nat.reduceLeDiff,Nat.reduceEqDiff,reduceCtorEq,w2];have e:=aPg p.seqs m;unfold n11 at e;rw [e];simp;omega
               ·have e8 : 8 - m=(8 - (m+1))+1:=by omega
                rw [← hod,e8]
                conv=>rhs;unfold zF
                rw [aK2,if_pos hlt,aQp];rfl
              ·simp only [decide_eq_false_iff_not] at hge;unfold awS;simp only [go_sem,Nat.reduceGT,↓reduceIte,Nat.reduceAdd,Nat.reduceLeDiff,Nat.reduceEqDiff,reduceCtorEq];refine kM (by simp only [go_sem,↓reduceIte,Nat.reduceEqDiff];exact rfl) (cT _) ?_;have e8 : 8 - m=(7 - m)+1:=by omega
               have hfin:zF L 8 3 p.seqs=s11 p.seqs m:=by
                rw [← hod,e8];unfold zF;rw [aK2,if_neg (by omega)]
               show Gy (x11 p.seqs m) (List.map SequenceR.c (zF L 8 3 p.seqs))
               rw [hfin];exact x11_imp _ _
            ·rw [if_neg (of_decide_eq_false h11)];unfold awS;simp only [go_sem,Nat.reduceGT,↓reduceIte,Nat.reduceAdd,Nat.reduceLeDiff,Nat.reduceEqDiff,reduceCtorEq];exact kM (by simp only [go_sem,↓reduceIte,Nat.reduceEqDiff];exact rfl) (cT _) (cT _)

theorem Uf (s:StateR) {p:ProjR} (n:ByteArray) (h:p.fit):(dW s p n).1.media.length≤65536∧(dW s p n).1.seqs.length≤65536:=by
 unfold dW;split
 ·exact ⟨by simp,by simp⟩
 ·split
  ·exact ⟨by simp,by simp⟩
  ·rename_i hu;have hok:=(wL (p:=p) (name:=n) h (by simpa using hu)).1;have hsm:=hok.small;unfold cL at hsm;simp only [Bool.and_eq_true,decide_eq_true_eq] at hsm;have zl:=aCu s (cV (mF s (eG p n).1)) (p,[]);show (gF _ _ _).1.media.length≤_∧(gF _ _ _).1.seqs.length≤_
   unfold gF;rw [zl.1,zl.2];simp only;omega
def Pb (s:StateR):List T:=[.list 3 (FileR.c default) (s.files.map FileR.c), .list 4 (LinkR.c default) (s.links.map LinkR.c)]
@[go_sem] theorem stateC_t (s:StateR):(Pb s).map V.t = [.t (wR s.files), .t (wQ s.links)]:=rfl
@[go_sem] theorem stateC_l (s:StateR):(Pb s).length=2:=rfl
theorem aDn {α : Type} [Inhabited α] {l:List α} {k:Nat} (c : α → List T) (h:k<l.length) (d:List T):nth d (l.map c) k=c (l.getD k default):=by
 unfold nth;rw [List.getElem?_map,List.getElem?_eq_getElem h,aK h];rfl
set_option maxHeartbeats 4000000 in
theorem aH1 (raw:StateR) (q:ProjR) (L K:List Int) (name:ByteArray) (hq:q.fit):aS Tryz.prog 4 [fE raw,dT q, .t (bY L), .t (bY K),bT name] (aT true):=by
 have cm:=cMadeS K 14 (by decide) (by decide);obtain ⟨hok,hlk⟩:=aRu K;obtain ⟨S,hS⟩:∃ S,S=aRv K:=⟨_,rfl⟩
 have eS:(bR ⟨[],[]⟩ (Mg K 0 14).1).1=S:=hS.symm;rw [eS] at cm;rw [← hS] at hok hlk;have cp:=cProj36 L;obtain ⟨M,N,hp⟩:=aMw L;have hpf:=hp.fit;have hu:=wL (p:=xD L) (name:=s0N) hpf hp.uses0;have hsm:=hu.1.small;unfold cL at hsm;simp only [Bool.and_eq_true,decide_eq_true_eq,List.all_eq_true] at hsm;have hmm:=hp.hm;have hnn:=hp.hn;have hn1:=hp.n1;have co:=cOdd (xD L) K (by omega) (by omega) (by omega) (by omega) fun s hs=>by
  have h2:=hsm.2 s hs;unfold cW at h2;simp only [Bool.and_eq_true,decide_eq_true_eq] at h2;omega
 have hof:=aRd hpf K (by omega) (by omega);obtain ⟨P,hP⟩:∃ P,P=xD L:=⟨_,rfl⟩
 rw [← hP] at cp hpf co hof;obtain ⟨O,hO⟩:∃ O,O=oddP P K:=⟨_,rfl⟩
 rw [← hO] at co hof;clear hp hu hsm hmm hnn hO hP;refine aH Tryz.X4 Tryz.func4 rfl Tryz.ntmps4 (by rw [Tryz.results4]) (cG fun hfa=>aD _ ?_);have hrf:raw.files.length≤maxLen∧raw.links.length≤maxLen:=by
  have h2:=hfa;simp only [yC,List.cons_append,rX,mT,eB,List.length_map] at h2;exact ⟨h2.1.1.1,h2.1.2.1.1⟩
 clear hfa;obtain ⟨Ss,hSs⟩:∃ Ss:List StateR,Ss = [raw,S]:=⟨_,rfl⟩
 obtain ⟨Ps,hPs⟩:∃ Ps:List ProjR,Ps = [P,q,O]:=⟨_,rfl⟩
 obtain ⟨Ns,hNs⟩:∃ Ns:List ByteArray,Ns = [name,⟨#[115,48]⟩,⟨#[115,49]⟩]:=⟨_,rfl⟩
 simp only [go_sem,simprocAttr];refine aSg cm rfl ?_;simp only [go_sem,simprocAttr];refine ⟨_,cp,?_⟩;simp only [go_sem,simprocAttr];have hnf:=hok.nf;have hnl:=hok.nl;have hSl:Ss.length=2:=by rw [hSs];rfl
 have hPl:Ps.length=3:=by rw [hPs];rfl
 have hNl:Ns.length=3:=by rw [hNs];rfl
 have hSa:∀ s∈Ss,s.files.length≤maxLen∧s.links.length≤maxLen:=by
  intro s hs;rw [hSs] at hs;simp only [List.mem_cons,List.not_mem_nil,or_false] at hs;rcases hs with rfl | rfl
  ·exact hrf
  ·unfold maxLen;omega
 have hPa:∀ p∈Ps,p.fit:=by
  intro p hp;rw [hPs] at hp;simp only [List.mem_cons,List.not_mem_nil,or_false] at hp;rcases hp with rfl | rfl | rfl
  ·exact hpf
  ·exact hq
  ·exact hof
 refine aE (fun (k:Nat) σ => { bD 37 (aC k) (aW [14,15,16,17,18,19,20,21,22,23,24,25,38,39,40,41,42,43,44,45,46,47,48,49,50,51,52,53,54,55,56,57,58,59,60,61,62,63,64,65,66,67,68,69,70,71,72,73,74,75,76,77,78,79,80,81,82,83,84,85,86,87,88,89,90,91,92] (aX σ)) with h := σ.h.set 5 (.row 51 2 [.lit (.slice none 0 0), .lit (.slice none 0 0)] (aL (Ss.map Pb))) }) (fun k=>k≤2) (fun k=>2 - k) 0 (aA ?_) (by omega) ?_
 ·simp only [go_sem,simprocAttr];rw [hSs];exact ⟨by simp,rfl,by simp,by simp,by simp,by simp,by simp⟩
 ·intro k hk;refine aD _ ?_;simp only [go_sem,simprocAttr];refine ⟨fun hlt=>?_,fun hge=>?_⟩
  ·simp only [bxx] at hlt;have hk2:k<Ss.length:=by omega
   have hns:=aDn Pb hk2;have hSk:=hSa _ (aP (d:=default) hk2);generalize Ss.getD k default=A at hns hSk;unfold awS;simp only [go_sem,simprocAttr,hns,hSl,List.length_map];refine ⟨⟨by omega,by omega⟩,by omega,?_⟩;refine bZ [0,1,2,3,4,7] (.step 5 (.step 6 .done)) rfl (by kernel_rfl) (by kernel_rfl) (by decide) ?_;simp only [go_sem,simprocAttr];refine ⟨_,co,?_⟩;simp only [go_sem,simprocAttr];refine aE (fun (k:Nat) σ => { bD 48 (aC k) (aW [16,17,18,19,20,21,22,23,24,25,49,50,51,52,53,54,55,56,57,58,59,60,61,62,63,64,65,66,67,68,69,70,71,72,73,74,75,76,77,78,79,80,81,82,83,84,85,86,87,88,89,90,91,92] (aX σ)) with h := σ.h.set 7 (.row 38 2 [.lit (.slice none 0 0), .lit (.slice none 0 0)] (aL (Ps.map ProjR.c))) }) (fun k=>k≤3) (fun k=>3 - k) 0 (aA ?_) (by omega) ?_
   ·simp only [go_sem,simprocAttr];rw [hPs];exact ⟨by simp,rfl,by simp,by simp,by simp,by simp,by simp,by simp,by simp⟩
   ·intro j hj;refine aD _ ?_;simp only [go_sem,simprocAttr];refine ⟨fun hlt2=>?_,fun hge2=>?_⟩
    ·simp only [bxx] at hlt2;have hj2:j<Ps.length:=by omega
     have hnp:=aDn ProjR.c hj2;have hPj:=hPa _ (aP (d:=default) hj2);generalize Ps.getD j default=B at hnp hPj;unfold awS;simp only [go_sem,simprocAttr,hnp,hPl,List.length_map,ProjR.c];refine ⟨⟨by omega,by omega⟩,by omega,?_⟩;refine aE (fun (k:Nat) σ => { bD 55 (aC k) (aW [18,19,20,21,22,23,24,25,56,57,58,59,60,61,62,63,64,65,66,67,68,69,70,71,72,73,74,75,76,77,78,79,80,81,82,83,84,85,86,87,88,89,90,91,92] (aX σ)) with h := σ.h.set 9 (.row 9 1 (jJ ⟨#[]⟩) (aL (Ns.map jJ))) }) (fun k=>k≤3) (fun k=>3 - k) 0 (aA ?_) (by omega) ?_
     ·simp only [go_sem,simprocAttr];rw [hNs];exact ⟨by simp,rfl,by simp,by simp,by simp,by simp,by simp,by simp,by simp,by simp,by simp⟩
     ·intro i hi;refine aD _ ?_;simp only [go_sem,simprocAttr];refine ⟨fun hlt3=>?_,fun hge3=>?_⟩
      ·simp only [bxx] at hlt3;have hi2:i<Ns.length:=by omega
       have hnn:=Ep hi2;generalize Ns.getD i default=nm at hnn;have u1:=aTj A B nm hSk.1 hSk.2 hPj;have u2:=aP4 (fun p f g h=>cRSwap p f g h) A B nm hSk.1 hSk.2 hPj;have u3:=Uf A nm hPj;obtain ⟨r,hr⟩:∃ r,r=dW A B nm:=⟨_,rfl⟩
       rw [← hr] at u1 u2 u3;have c3:=aJ6 r.1 u3.1 u3.2;have c4:=aFh r.2.1 r.2.1;rw [decide_eq_true rfl] at c4;clear hr;unfold awS;simp only [go_sem,simprocAttr,hnn,hNl,List.length_map];refine ⟨⟨by omega,by omega⟩,by omega,_,u1,?_⟩;simp only [go_sem,simprocAttr];refine ⟨_,u2,?_⟩;simp only [go_sem,simprocAttr];refine ⟨_,c3,?_⟩;simp only [go_sem,simprocAttr];refine ⟨_,c4,?_⟩;simp only [go_sem,simprocAttr];refine ⟨i+1,aA ?_,by omega,by omega⟩;simp only [go_sem,simprocAttr];rw [aZ (show i<9223372036854775807 by omega)];exact ⟨by simp,rfl⟩
      ·simp only [bxx] at hge3;unfold awS;simp only [go_sem,simprocAttr];refine ⟨j+1,aA ?_,by omega,by omega⟩;simp only [go_sem,simprocAttr];rw [aZ (show j<9223372036854775807 by omega)];exact ⟨by simp,rfl⟩
    ·simp only [bxx] at hge2;unfold awS;simp only [go_sem,simprocAttr];refine ⟨k+1,aA ?_,by omega,by omega⟩;simp only [go_sem,simprocAttr];rw [aZ (show k<9223372036854775807 by omega)];exact ⟨by simp,rfl⟩
  ·simp only [bxx] at hge;unfold awS;simp only [go_sem,simprocAttr];refine ⟨_,aU7,?_⟩;simp only [go_sem,simprocAttr]
open Go.ChangeShapes Go.WideShapes
theorem oFile:Opens Tryz.prog 153 FileR.c :=
 Opens.map (fun x:ByteArray×Int×Bool×Unit=>⟨x.1,x.2.1,x.2.2.1⟩) (fun _=>rfl) (dP Tryz.underlying153 (by kernel_rfl) (aN aAc (aN oU64 (aN aRf fG))))
theorem oLink:Opens Tryz.prog 135 LinkR.c :=
 Opens.map (fun x:ByteArray×ByteArray×Int×ByteArray×Unit=>⟨x.1,x.2.1,x.2.2.1,x.2.2.2.1⟩) (fun _=>rfl) (dP Tryz.underlying135 (by kernel_rfl) (aN aAc (aN aAc (aN oU64 (aN aAc fG)))))
theorem oFiles:Opens Tryz.prog 48 fun l:List FileR=>[wR l]:=fW (FileR.c default) Tryz.underlying48 oFile (by kernel_rfl) (fun _=>rfl) (by decide)
theorem oLinks:Opens Tryz.prog 49 fun l:List LinkR=>[wQ l]:=fW (LinkR.c default) Tryz.underlying49 oLink (by kernel_rfl) (fun _=>rfl) (by decide)
theorem oState:Opens Tryz.prog 51 Pb :=
 Opens.map (fun x:List FileR×List LinkR×Unit=>⟨x.1,x.2.1⟩) (fun _=>rfl) (dP Tryz.underlying51 (by kernel_rfl) (aN oFiles (aN oLinks fG)))
theorem aState:Ap Tryz.prog 51 fun s:StateR=>fE s:=Ct Tryz.underlying51 oState
