/- Proved here: What the reference's Chain answers; conditions stand in each theorem. -/
import Derived.Test.YtbfnemkngoaeeaaGreatQ30
set_option linter.unusedSimpArgs false
set_option linter.unusedVariables false
set_option linter.unusedSectionVars false
set_option linter.unnecessarySimpa false
namespace Go.Proofs.YtbfnemkngoaeeaaGreat
open Go.RowKit
set_option maxRecDepth 4000
abbrev IM:=List Int
def iE (K:IM):List (Value×V):=K.map fun e=>(Value.int .i64 e,aP true)
def Xj (n:Int):IM→IM
 | []=>[n]
 | e::K=>if n=e then n::K else e::Xj n K
theorem aBu (n:Int):∀ K:IM,nC (.int .i64 n) (iE K)=if n∈K then some (aP true) else none
 | []=>rfl
 | e::K=>by
  have h:=aBu n K;unfold iE at h ⊢;simp only [List.map_cons,nC,qC,decide_eq_true_eq,h,List.mem_cons]
  by_cases h1:n=e
  ·rw [if_pos h1,if_pos (Or.inl h1)]
  ·rw [if_neg h1]
   by_cases h2:n∈K
   ·rw [if_pos h2,if_pos (Or.inr h2)]
   ·rw [if_neg h2,if_neg (fun h=>h.elim h1 h2)]
theorem put_I (n:Int):∀ K:IM,yZ (.int .i64 n) (aP true) (iE K)=iE (Xj n K)
 | []=>rfl
 | e::K=>by
  have h:=put_I n K;unfold iE at h ⊢;simp only [List.map_cons,yZ,Xj,qC,decide_eq_true_eq,h];split<;>rfl
theorem aE4:∀ K:IM,gT (.int .i64) (iE K)=true
 | []=>rfl
 | e::K=>by
  have h:=aE4 K;unfold iE at h ⊢;simp only [List.map_cons,gT,fK,h,Bool.and_true];rfl
@[go_sem] theorem aGg:∀ K:IM,tN (iE K)=false
 | []=>rfl
 | e::K=>by
  have h:=aGg K;unfold iE at h ⊢;simp only [List.map_cons,tN,Ks,h,Bool.false_or]
theorem Px:∀ K:IM,rL (iE K)=True
 | []=>rfl
 | e::K=>by
  have h:=Px K;unfold iE at h ⊢;simp only [List.map_cons,rL,h,and_true];exact eq_true rfl
theorem aGw (K:IM):(iE K).length=K.length:=List.length_map ..
attribute [go_sem] aE4 Px aGw
theorem Ye {n m:Int}:∀ {K:IM},m∈Xj n K ↔ m=n∨m∈K
 | []=>by simp [Xj]
 | e::K=>by
  have ih:=Ye (n:=n) (m:=m) (K:=K);unfold Xj;split
  ·rename_i h;subst h;simp
  ·simp only [List.mem_cons,ih];constructor
   ·rintro (h | h | h)
    ·exact .inr (.inl h)
    ·exact .inl h
    ·exact .inr (.inr h)
   ·rintro (h | h | h)
    ·exact .inr (.inl h)
    ·exact .inl h
    ·exact .inr (.inr h)
def tA (p:ProjR) (n:ByteArray):Int:=qH (fun s:SequenceR=>s.name.toList==n.toList) p.seqs
def Nc (p:ProjR) (N:IM) (x:SourceR):IM:=if x.kind=2 then Xj (tA p x.name) N else N
def aGh (p:ProjR) (K:IM) (N:IM) (i:Nat):IM:=if (i:Int)∈K then (eA (p.seqs.getD i default)).foldl (Nc p) N else N
def lvl (p:ProjR) (K:IM):Nat→IM
 | 0=>[]
 | i+1=>aGh p K (lvl p K i) i
def kA (p:ProjR) (n:Int):Nat→IM
 | 0=>[n]
 | d+1=>lvl p (kA p n d) p.seqs.length
theorem aC6 {α β : Type} [Inhabited α] (f : β → α → β) (b : β) {l:List α} {k:Nat} (h:k<l.length):(l.take (k+1)).foldl f b=f ((l.take k).foldl f b) (l.getD k default):=by
 rw [bY h,List.foldl_append];rfl
set_option maxHeartbeats 4000000 in
theorem cRChain (p:ProjR) (hp:p.seqs.length≤16) (hs:∀ s∈p.seqs,s.video.length≤8∧s.sound.length≤8 ∧ ∀ t∈s.video++s.sound,t.length≤64) (n:Int) (D:Nat)
  (h1:∀ e,e<D→kA p n e ≠ []) (h2:D≤p.seqs.length+1) (h3:kA p n D = []∨D=p.seqs.length+1):aN Tryz.prog 161 [eD p,aC n] (aC D):=by
 refine aH Tryz.X161 Tryz.func161 rfl Tryz.ntmps161 (by rw [Tryz.results161]) (aD _ ?_);simp only [go_sem,↓reduceIte,Nat.reduceAdd,Nat.reduceSub];refine ⟨by decide,?_⟩;refine aF (fun (d:Nat) σ => Fd 1 (.map (iE (kA p n d))) (bL 6 (aC d) (aX [7,8,9,10,11,12,13,14,15,16,17,18,19,20,21,22,23,24,25,26,27,28,29,30,31,32,33,34,35,36,37,38,39,40,41,42,43,44,45,46,47,48,49,50,51,52,53,54,55,56,57,58,59,60,61,62,63,64] (bF σ)))) (fun d=>d≤D) (fun d=>D - d) 0 (aA ?_) (Nat.zero_le _) ?_
 ·simp only [go_sem,Nat.reduceLT,↓reduceIte,Nat.reduceLeDiff,reduceCtorEq];exact ⟨⟨by simp,rfl,by simp⟩,rfl⟩
 ·intro d hd;refine aD _ ?_;simp only [go_sem,↓reduceIte,reduceCtorEq];obtain ⟨K,hK⟩:∃ K,K=kA p n d:=⟨_,rfl⟩
  rw [← hK];refine ⟨fun hgo=>?_,fun hstop=>?_⟩
  ·have hdD:d<D:=by
    rcases Nat.lt_or_ge d D with h | h
    ·exact h
    ·have:d=D:=by omega
     subst this;rw [Bool.and_eq_true,decide_eq_true_eq,decide_eq_true_eq] at hgo;rcases h3 with h3 | h3
     ·rw [hK,h3] at hgo;simp at hgo
     ·omega
   unfold awS;simp only [go_sem,↓reduceIte,Nat.reduceAdd];refine aF (fun (i:Nat) σ => Fd 2 (.map (iE (lvl p K i))) (bL 8 (aC i) (aX [9,10,26,27,28,29,30,31,32,33,34,35,36,37,38,39,40,41,42,43,44,45,46,47,48,49,50,51,52,53,54,55,56,57,58,59,60,61,62,63,64] (bF σ)))) (fun i=>i≤p.seqs.length) (fun i=>p.seqs.length - i) 0 (aA ?_) (Nat.zero_le _) ?_
   ·simp only [go_sem,Nat.reduceLT,↓reduceIte,Nat.reduceLeDiff,Nat.reduceEqDiff,reduceCtorEq]<;>simp [lvl,iE]
   ·intro i hi;refine aD _ ?_;simp only [go_sem,↓reduceIte,Nat.reduceEqDiff,reduceCtorEq];refine ⟨fun hlt=>?_,fun hge=>?_⟩
    ·simp only [decide_eq_true_eq] at hlt;have hil:i<p.seqs.length:=by omega
     obtain ⟨N,hN⟩:∃ N,N=lvl p K i:=⟨_,rfl⟩
     have hL1:lvl p K (i+1)=aGh p K N i:=by rw [hN];rfl
     rw [← hN]
     by_cases hm:(i:Int)∈K
     ·have hlk:nC (.int .i64 (i:Int)) (iE K)=some (aP true):=by rw [aBu,if_pos hm]
      obtain ⟨s,hsd⟩:∃ s,s=p.seqs.getD i default:=⟨_,rfl⟩
      have hsm:s∈p.seqs:=by rw [hsd];exact aQ hil
      obtain ⟨q1,q2,q3⟩:=hs s hsm;unfold aGh at hL1;rw [if_pos hm, ← hsd] at hL1;have hsl:(eA s).length≤4096:=by
       have a1:=wS (cP s);have a2:=sP q3;rw [List.length_append] at a2;unfold eA cP at *;omega
      unfold awS;simp only [go_sem,↓reduceIte,Nat.reduceAdd,Nat.reduceLeDiff,Nat.reduceEqDiff,reduceCtorEq,hlk, ← hsd];refine ⟨by decide,⟨by omega,by omega⟩,_,Rm s q1 q2 q3,?_⟩;simp only [go_sem,↓reduceIte];obtain ⟨L,hL⟩:∃ L,L=eA s:=⟨_,rfl⟩
      rw [← hL] at hL1 hsl;rw [← hL];refine aF (fun (j:Nat) σ => Fd 2 (.map (iE ((L.take j).foldl (Nc p) N))) (bL 10 (aC j) (aX [26,44,45,46,47,48,49,50,51,52,53,54,55,56,57,58,59,60,61,62,63,64] (bF σ)))) (fun j=>j≤L.length) (fun j=>L.length - j) 0 (aA ?_) (Nat.zero_le _) ?_
      ·simp only [go_sem,Nat.reduceLT,↓reduceIte,Nat.reduceLeDiff,Nat.reduceEqDiff,reduceCtorEq]<;>simp
      ·intro j hj;refine aD _ ?_;simp only [go_sem,↓reduceIte,Nat.reduceEqDiff,reduceCtorEq];refine ⟨fun hlt2=>?_,fun hge2=>?_⟩
       ·simp only [decide_eq_true_eq] at hlt2;have hjl:j<L.length:=by omega
        obtain ⟨x,hx⟩:∃ x,x=L.getD j default:=⟨_,rfl⟩
        have hnx:=Js hjl;rw [← hx] at hnx;have hF:=aC6 (Nc p) N hjl;rw [← hx] at hF;obtain ⟨M,hM⟩:∃ M,M=(L.take j).foldl (Nc p) N:=⟨_,rfl⟩
        rw [← hM] at hF;unfold awS;simp only [go_sem,↓reduceIte,hnx];refine ⟨⟨by omega,by omega⟩,fun hk2=>?_,fun hk2=>?_⟩
        ·have e1:Nc p M x=Xj (tA p x.name) M:=by unfold Nc;rw [if_pos (by simpa using hk2)]
         rw [e1] at hF;unfold awS;simp only [go_sem];refine bM [0,1,2,3,4,5,6,7] (.step 8 .done) rfl (by kernel_rfl) (by kernel_rfl) (by decide) ?_;simp only [go_sem,↓reduceIte,Nat.reduceAdd,Nat.reduceLeDiff,reduceCtorEq,hnx];refine ⟨⟨by omega,by omega⟩,_,zQ p x.name,?_⟩;simp only [go_sem,↓reduceIte];rw [← hM,put_I];refine ⟨by decide,j+1,aA ?_,by omega,by omega⟩;simp only [go_sem,Nat.reduceLT,↓reduceIte,Nat.reduceLeDiff,Nat.reduceEqDiff,reduceCtorEq];rw [hF];refine ⟨?_,?_⟩
         ·first
          | exact ⟨by simp,rfl,by simp⟩
          | (simp [tA];done)
          | trace_state
         ·first
          | rfl
          | (simp [bJ (show j<9223372036854775807 by omega)];done)
          | trace_state
        ·have e1:Nc p M x=M:=by unfold Nc;rw [if_neg (by simpa using hk2)]
         rw [e1] at hF;unfold awS;simp only [go_sem,↓reduceIte];refine ⟨j+1,aA ?_,by omega,by omega⟩;simp only [go_sem,Nat.reduceLT,↓reduceIte,Nat.reduceLeDiff,Nat.reduceEqDiff,reduceCtorEq];rw [hF,hM];simp [bJ (show j<9223372036854775807 by omega)]
       ·simp only [decide_eq_false_iff_not] at hge2;have:j=L.length:=by omega
        subst this;unfold awS;simp only [go_sem,↓reduceIte];refine ⟨i+1,aA ?_,by omega,by omega⟩;simp only [go_sem,Nat.reduceLT,↓reduceIte,Nat.reduceLeDiff,Nat.reduceEqDiff,reduceCtorEq];rw [List.take_length, ← hL1];simp [bJ (show i<9223372036854775807 by omega)]
     ·have hlk:nC (.int .i64 (i:Int)) (iE K)=none:=by rw [aBu,if_neg hm]
      unfold aGh at hL1;rw [if_neg hm] at hL1;unfold awS;simp only [go_sem,↓reduceIte,Nat.reduceEqDiff,hlk];refine ⟨by decide,i+1,aA ?_,by omega,by omega⟩;simp only [go_sem,Nat.reduceLT,↓reduceIte,Nat.reduceLeDiff,Nat.reduceEqDiff,reduceCtorEq];rw [hL1];simp [bJ (show i<9223372036854775807 by omega)]
    ·simp only [decide_eq_false_iff_not] at hge;have:i=p.seqs.length:=by omega
     subst this;unfold awS;simp only [go_sem,↓reduceIte];have hlv:lvl p K p.seqs.length=kA p n (d+1):=by rw [hK];rfl
     refine ⟨d+1,aW [(1,some 2),(0,some 0)] ?_,by omega,by omega⟩;simp only [go_sem,Nat.reduceLT,↓reduceIte,Nat.reduceLeDiff,Nat.reduceEqDiff,reduceCtorEq];rw [hlv];simp [bJ (show d<9223372036854775807 by omega)]
  ·have hdD:d=D:=by
    rcases Nat.lt_or_ge d D with h | h
    ·have a1:=h1 d h;rw [← hK] at a1;have a2:=List.length_pos_iff.2 a1;rw [Bool.and_eq_false_iff,decide_eq_false_iff_not,decide_eq_false_iff_not] at hstop;omega
    ·omega
   subst hdD;unfold awS;simp only [go_sem,↓reduceIte]
open Go.RowKit
set_option maxRecDepth 4000
def Un (g:Nat→Bool):Nat→Nat→Nat
 | 0,d=>d
 | f+1,d=>if g d=true then d else Un g f (d+1)
theorem Db (g:Nat→Bool):∀ (f d:Nat),d≤Un g f d∧Un g f d≤d+f∧(∀ e,d≤e→e<Un g f d→g e=false)∧(g (Un g f d)=true∨Un g f d=d+f)
 | 0,d=>⟨Nat.le_refl _,Nat.le_refl _,fun e h1 h2=>absurd h2 (by unfold Un;omega), .inr rfl⟩
 | f+1,d=>by
  unfold Un;split
  ·rename_i h;exact ⟨Nat.le_refl _,by omega,fun e h1 h2=>by omega, .inl h⟩
  ·rename_i h;obtain ⟨a1,a2,a3,a4⟩:=Db g f (d+1);refine ⟨by omega,by omega,fun e h1 h2=>?_,?_⟩
   ·rcases Nat.lt_or_ge d e with h3 | h3
    ·exact a3 e (by omega) h2
    ·have:e=d:=by omega
     subst this;simpa using h
   ·rcases a4 with a4 | a4
    ·exact .inl a4
    ·exact .inr (by omega)
def nK (p:ProjR) (n:Int):Nat:=Un (fun d=>(kA p n d).isEmpty) (p.seqs.length+1) 0
theorem aMx (p:ProjR) (hp:p.seqs.length≤16) (hs:∀ s∈p.seqs,s.video.length≤8∧s.sound.length≤8 ∧ ∀ t∈s.video++s.sound,t.length≤64) (n:Int):aN Tryz.prog 161 [eD p,aC n] (aC (nK p n)):=by
 obtain ⟨a1,a2,a3,a4⟩:=Db (fun d=>(kA p n d).isEmpty) (p.seqs.length+1) 0;refine cRChain p hp hs n _ (fun e he h0=>?_) (by unfold nK;omega) ?_
 ·have:=a3 e (Nat.zero_le _) he;rw [h0] at this;cases this
 ·rcases a4 with a4 | a4
  ·exact .inl (List.isEmpty_iff.1 a4)
  ·exact .inr (by unfold nK;omega)
def Yj (p:ProjR) (n:ByteArray):Int:=qH (fun s:MediumR=>s.name.toList==n.toList) p.media
def rJ (p:ProjR) (x:SourceR):Bool := !((x.kind==1&&decide (Yj p x.name<0))||(x.kind==2&&decide (tA p x.name<0)))
def mH (p:ProjR) (s:SequenceR):Bool:=(eA s).all (rJ p)
def rX (p:ProjR) (i:Nat):Bool:=Yj p (p.media.getD i default).name==(i:Int)
def rW (p:ProjR) (i:Nat):Bool:=tA p (p.seqs.getD i default).name==(i:Int)
structure RefSays (p:ProjR) (r:Int):Prop where
 s5:cK p=false→r=5
 s1:cK p=true→(p.media.all dH&&p.seqs.all cL)=false→r=1
 s8:cK p=true→(p.media.all dH&&p.seqs.all cL)=true→(∃ i,i<p.media.length∧rX p i=false)∨(∃ i,i<p.seqs.length∧rW p i=false)→r=8
 s7:cK p=true→(p.media.all dH&&p.seqs.all cL)=true→(∀ i,i<p.media.length→rX p i=true)→(∀ i,i<p.seqs.length→rW p i=true)→p.seqs.all (mH p)=false→r=7
 s16:cK p=true→(p.media.all dH&&p.seqs.all cL)=true→(∀ i,i<p.media.length→rX p i=true)→(∀ i,i<p.seqs.length→rW p i=true)→p.seqs.all (mH p)=true→(∃ i,i<p.seqs.length∧p.seqs.length<nK p (i:Int))→r=16
 s18:cK p=true→(p.media.all dH&&p.seqs.all cL)=true→(∀ i,i<p.media.length→rX p i=true)→(∀ i,i<p.seqs.length→rW p i=true)→p.seqs.all (mH p)=true→(∀ i,i<p.seqs.length→nK p (i:Int)≤p.seqs.length)→(∃ i,i<p.seqs.length∧5<nK p (i:Int))→r=18
 s0:cK p=true→(p.media.all dH&&p.seqs.all cL)=true→(∀ i,i<p.media.length→rX p i=true)→(∀ i,i<p.seqs.length→rW p i=true)→p.seqs.all (mH p)=true→(∀ i,i<p.seqs.length→nK p (i:Int)≤p.seqs.length)→(∀ i,i<p.seqs.length→nK p (i:Int)≤5)→r=0
def Lq (p:ProjR):Nat→Bool
 | 0=>false
 | k+1=>Lq p k||decide (5<nK p (k:Int))
theorem Lp {p:ProjR}:∀ {k:Nat},Lq p k=true → ∃ i,i<k∧5<nK p (i:Int)
 | 0,h=>by cases h
 | k+1,h=>by
  unfold Lq at h;rw [Bool.or_eq_true,decide_eq_true_eq] at h;rcases h with h | h
  ·obtain ⟨i,h1,h2⟩:=Lp h;exact ⟨i,by omega,h2⟩
  ·exact ⟨k,by omega,h⟩
theorem Eu {p:ProjR}:∀ {k:Nat},Lq p k=false → ∀ i,i<k→nK p (i:Int)≤5
 | 0,h,i,hi=>by omega
 | k+1,h,i,hi=>by
  unfold Lq at h;rw [Bool.or_eq_false_iff,decide_eq_false_iff_not] at h;rcases Nat.lt_or_ge i k with h1 | h1
  ·exact Eu h.1 i h1
  ·have:i=k:=by omega
   subst this;omega
set_option maxHeartbeats 8000000 in
theorem cRValid (p:ProjR) (h:p.fit) (r:Int) (hr:RefSays p r):aN Tryz.prog 85 [eD p] (aC r):=by
 refine aH Tryz.X85 Tryz.func85 rfl Tryz.ntmps85 (by rw [Tryz.results85]) (aD _ ?_);simp only [go_sem,simprocAttr];refine ⟨_,aMv p,?_⟩;simp only [go_sem,simprocAttr];refine ⟨fun h1=>?_,fun h1=>?_⟩
 ·unfold awS;simp only [go_sem,simprocAttr];rw [hr.s5 (by simpa using h1)]
 ·have hS:cK p=true:=by simpa using h1
  have hS2:=hS;unfold cK at hS2;simp only [Bool.and_eq_true,decide_eq_true_eq,List.all_eq_true] at hS2;unfold awS;simp only [go_sem,simprocAttr];refine aF (fun (k:Nat) σ => bL 3 (aC k) (aX [16,17,18,19,20,21,22,23,24,25,26,27,28,29] (bF σ))) (fun k=>k≤p.media.length ∧ ∀ i,i<k→dH (p.media.getD i default)=true) (fun k=>p.media.length - k) 0 (aA ?_) ⟨Nat.zero_le _,by omega⟩ ?_
  ·simp only [go_sem,simprocAttr]<;>simp
  ·rintro k ⟨hk,hi⟩;refine aD _ ?_;simp only [go_sem,simprocAttr];refine ⟨fun hlt=>?_,fun hge=>?_⟩
   ·simp only [bxx] at hlt;have hmem:p.media.getD k default∈p.media:=aQ (by omega);unfold awS;simp only [go_sem,simprocAttr];refine ⟨⟨by omega,by omega⟩,_,cRMed _ (h.media _ hmem),?_⟩;simp only [go_sem,simprocAttr];refine ⟨fun hc=>?_,fun hc=>?_⟩
    ·unfold awS;simp only [go_sem,simprocAttr];rw [hr.s1 hS (by rw [cA (d:=default) (p:=dH) (k:=k) (by omega) (by simpa using hc)];rfl)]
    ·unfold awS;simp only [go_sem,simprocAttr];refine ⟨k+1,aA ?_,⟨by omega,upto hi (by simpa using hc)⟩,by omega⟩;simp only [go_sem,simprocAttr]<;>simp [bJ (show k<9223372036854775807 by omega)]
   ·simp only [bxx] at hge;have hM:p.media.all dH=true:=bT (d:=default) (p:=dH) (fun i h2=>hi i (by omega));unfold awS;simp only [go_sem,simprocAttr];refine aF (fun (k:Nat) σ => bL 4 (aC k) (aX [30,31,32,33,34,35,36,37,38,39,40,41,42,43] (bF σ))) (fun k=>k≤p.seqs.length ∧ ∀ i,i<k→cL (p.seqs.getD i default)=true) (fun k=>p.seqs.length - k) 0 (aA ?_) ⟨Nat.zero_le _,by omega⟩ ?_
    ·simp only [go_sem,simprocAttr]<;>simp
    ·rintro k ⟨hk,hi⟩;refine aD _ ?_;simp only [go_sem,simprocAttr];refine ⟨fun hlt=>?_,fun hge=>?_⟩
     ·simp only [bxx] at hlt;have hmem:p.seqs.getD k default∈p.seqs:=aQ (by omega);unfold awS;simp only [go_sem,simprocAttr];refine ⟨⟨by omega,by omega⟩,_,cRSeq _ (h.seqs _ hmem),?_⟩;simp only [go_sem,simprocAttr];refine ⟨fun hc=>?_,fun hc=>?_⟩
      ·unfold awS;simp only [go_sem,simprocAttr];rw [hr.s1 hS (by rw [cA (d:=default) (p:=cL) (k:=k) (by omega) (by simpa using hc),Bool.and_false])]
      ·unfold awS;simp only [go_sem,simprocAttr];refine ⟨k+1,aA ?_,⟨by omega,upto hi (by simpa using hc)⟩,by omega⟩;simp only [go_sem,simprocAttr]<;>simp [bJ (show k<9223372036854775807 by omega)]
     ·simp only [bxx] at hge;have hSq:p.seqs.all cL=true:=bT (d:=default) (p:=cL) (fun i h2=>hi i (by omega));have hO:(p.media.all dH&&p.seqs.all cL)=true:=by rw [hM,hSq];rfl
      have hsz:∀ s∈p.seqs,s.video.length≤8∧s.sound.length≤8 ∧ ∀ t∈s.video++s.sound,t.length≤64:=fun s hs=>by
       have a1:=hS2.2 s hs;unfold cR at a1;simp only [Bool.and_eq_true,decide_eq_true_eq] at a1;exact ⟨by omega,by omega,fun t ht=>wM (Nq (List.all_eq_true.1 hSq s hs) t ht)⟩
      unfold awS;simp only [go_sem,simprocAttr];refine aF (fun (k:Nat) σ => bL 5 (aC k) (aX [44,45,46,47,48,49,50,51,52,53,54,55,56,57,58,59,60] (bF σ))) (fun k=>k≤p.media.length ∧ ∀ i,i<k→rX p i=true) (fun k=>p.media.length - k) 0 (aA ?_) ⟨Nat.zero_le _,by omega⟩ ?_
      ·simp only [go_sem,simprocAttr]<;>simp
      ·rintro k ⟨hk,hi⟩;refine aD _ ?_;simp only [go_sem,simprocAttr];refine ⟨fun hlt=>?_,fun hge=>?_⟩
       ·simp only [bxx] at hlt;unfold awS;simp only [go_sem,simprocAttr];refine bM [0,1,2,3,4,5,6,7,8,9] .done rfl (by kernel_rfl) (by kernel_rfl) (by decide) ?_;simp only [go_sem,simprocAttr];refine ⟨⟨by omega,by omega⟩,_,Bs p _,?_⟩;simp only [go_sem,simprocAttr];refine ⟨fun hc=>?_,fun hc=>?_⟩
        ·unfold awS;simp only [go_sem,simprocAttr];rw [hr.s8 hS hO (.inl ⟨k,by omega,by unfold rX Yj;simpa using hc⟩)]
        ·unfold awS;simp only [go_sem,simprocAttr];refine ⟨k+1,aA ?_,⟨by omega,upto hi (by unfold rX Yj;simpa using hc)⟩,by omega⟩;simp only [go_sem,simprocAttr]<;>simp [bJ (show k<9223372036854775807 by omega)]
       ·simp only [bxx] at hge;have hUM:∀ i,i<p.media.length→rX p i=true:=fun i h2=>hi i (by omega)
        unfold awS;simp only [go_sem,simprocAttr];refine aF (fun (k:Nat) σ => bL 6 (aC k) (aX [61,62,63,64,65,66,67,68,69,70,71,72,73,74,75,76,77] (bF σ))) (fun k=>k≤p.seqs.length ∧ ∀ i,i<k→rW p i=true) (fun k=>p.seqs.length - k) 0 (aA ?_) ⟨Nat.zero_le _,by omega⟩ ?_
        ·simp only [go_sem,simprocAttr]<;>simp
        ·rintro k ⟨hk,hi⟩;refine aD _ ?_;simp only [go_sem,simprocAttr];refine ⟨fun hlt=>?_,fun hge=>?_⟩
         ·simp only [bxx] at hlt;unfold awS;simp only [go_sem,simprocAttr];refine bM [0,1,2,3,4,5,6,7,8,9] .done rfl (by kernel_rfl) (by kernel_rfl) (by decide) ?_;simp only [go_sem,simprocAttr];refine ⟨⟨by omega,by omega⟩,_,zQ p _,?_⟩;simp only [go_sem,simprocAttr];refine ⟨fun hc=>?_,fun hc=>?_⟩
          ·unfold awS;simp only [go_sem,simprocAttr];rw [hr.s8 hS hO (.inr ⟨k,by omega,by unfold rW tA;simpa using hc⟩)]
          ·unfold awS;simp only [go_sem,simprocAttr];refine ⟨k+1,aA ?_,⟨by omega,upto hi (by unfold rW tA;simpa using hc)⟩,by omega⟩;simp only [go_sem,simprocAttr]<;>simp [bJ (show k<9223372036854775807 by omega)]
         ·simp only [bxx] at hge;have hUS:∀ i,i<p.seqs.length→rW p i=true:=fun i h2=>hi i (by omega)
          unfold awS;simp only [go_sem,simprocAttr];refine aF (fun (k:Nat) σ => bL 7 (aC k) (aX [8,9,78,79,80,81,82,83,84,85,86,87,88,89,90,91,92,93,94,95,96,97,98,99,100,101,102,103,104,105,106,107,108,109,110,111,112,113,114,115,116,117,118,119,120,121,122,123,124,125,126,127,128,129,130] (bF σ))) (fun k=>k≤p.seqs.length ∧ ∀ i,i<k→mH p (p.seqs.getD i default)=true) (fun k=>p.seqs.length - k) 0 (aA ?_) ⟨Nat.zero_le _,by omega⟩ ?_
          ·simp only [go_sem,simprocAttr]<;>simp
          ·rintro k ⟨hk,hi⟩;refine aD _ ?_;simp only [go_sem,simprocAttr];refine ⟨fun hlt=>?_,fun hge=>?_⟩
           ·simp only [bxx] at hlt;obtain ⟨s,hsd⟩:∃ s,s=p.seqs.getD k default:=⟨_,rfl⟩
            have hsm:s∈p.seqs:=by rw [hsd];exact aQ (by omega)
            obtain ⟨q1,q2,q3⟩:=hsz s hsm;have hsl:(eA s).length≤4096:=by
             have a1:=wS (cP s);have a2:=sP q3;rw [List.length_append] at a2;unfold eA cP at *;omega
            unfold awS;simp only [go_sem,simprocAttr, ← hsd];refine ⟨⟨by omega,by omega⟩,_,Rm s q1 q2 q3,?_⟩;simp only [go_sem,simprocAttr];obtain ⟨L,hL⟩:∃ L,L=eA s:=⟨_,rfl⟩
            have hcR:mH p s=L.all (rJ p):=by rw [hL];rfl
            rw [← hL] at hsl;rw [← hL];refine aF (fun (j:Nat) σ => bL 9 (aC j) (aX [91,92,93,94,95,96,97,98,99,100,101,102,103,104,105,106,107,108,109,110,111,112,113,114,115,116,117,118,119,120,121,122,123,124,125,126,127,128,129,130] (bF σ))) (fun j=>j≤L.length ∧ ∀ i,i<j→rJ p (L.getD i default)=true) (fun j=>L.length - j) 0 (aA ?_) ⟨Nat.zero_le _,by omega⟩ ?_
            ·simp only [go_sem,simprocAttr]<;>simp
            ·rintro j ⟨hj,hi2⟩;refine aD _ ?_;simp only [go_sem,simprocAttr];refine ⟨fun hlt2=>?_,fun hge2=>?_⟩
             ·simp only [bxx] at hlt2;have hjl:j<L.length:=by omega
              obtain ⟨x,hx⟩:∃ x,x=L.getD j default:=⟨_,rfl⟩
              have hnx:=Js hjl;rw [← hx] at hnx;unfold awS;simp only [go_sem,simprocAttr];refine bM [0,1,2,3,4,5,6,7,8,9,10,11,12,13,14,15,16,17,18,19,20,21,22,23,24,25,26,27,28,29,30,31,32,33] .done rfl (by kernel_rfl) (by kernel_rfl) (by decide) ?_;simp only [go_sem,simprocAttr,hnx];refine ⟨⟨by omega,by omega⟩,fun _=>⟨by omega,by omega⟩,_,fun _=>Bs p _,?_⟩;simp only [go_sem,simprocAttr,hnx];refine ⟨fun _=>⟨by omega,by omega⟩,fun _=>⟨by omega,by omega⟩,_,fun _=>zQ p _,?_⟩;simp only [go_sem,simprocAttr];refine brW (b := !rJ p x) ?_ ⟨fun hc=>?_,fun hc=>?_⟩
              ·unfold rJ Yj tA
               (try simp only [bne]);cases (x.kind==1)<;>cases (x.kind==2)<;>cases (decide (qH (fun m:MediumR=>m.name.toList==x.name.toList) p.media<0))<;>cases (decide (qH (fun m:SequenceR=>m.name.toList==x.name.toList) p.seqs<0))<;>rfl
              ·unfold awS;simp only [go_sem,simprocAttr];rw [hr.s7 hS hO hUM hUS (cA (d:=default) (p:=mH p) (k:=k) (by omega) (by rw [← hsd,hcR];exact cA (d:=default) (p:=rJ p) (k:=j) hjl (by rw [← hx];exact nt hc)))]
              ·unfold awS;simp only [go_sem,simprocAttr];refine ⟨j+1,aA ?_,⟨by omega,upto hi2 (by rw [← hx];exact nf hc)⟩,by omega⟩;simp only [go_sem,simprocAttr]<;>simp [bJ (show j<9223372036854775807 by omega)]
             ·simp only [bxx] at hge2;have hcl:mH p s=true:=by rw [hcR];exact bT (d:=default) (p:=rJ p) (fun i h2=>hi2 i (by omega))
              unfold awS;simp only [go_sem,simprocAttr];refine ⟨k+1,aA ?_,⟨by omega,upto hi (by rw [← hsd];exact hcl)⟩,by omega⟩;simp only [go_sem,simprocAttr]<;>simp [bJ (show k<9223372036854775807 by omega)]
           ·simp only [bxx] at hge;have hC:p.seqs.all (mH p)=true:=bT (d:=default) (p:=mH p) (fun i h2=>hi i (by omega));unfold awS;simp only [go_sem,simprocAttr];refine aF (fun (k:Nat) σ => bL 10 (aP (Lq p k)) (bL 11 (aC k) (aX [12,131,132,133,134,135,136,137,138,139,140,141,142,143,144,145,146,147,148,149,150] (bF σ)))) (fun k=>k≤p.seqs.length ∧ ∀ i,i<k→nK p (i:Int)≤p.seqs.length) (fun k=>p.seqs.length - k) 0 (aA ?_) ⟨Nat.zero_le _,by omega⟩ ?_
            ·simp only [go_sem,simprocAttr]<;>simp [Lq]
            ·rintro k ⟨hk,hi⟩;refine aD _ ?_;simp only [go_sem,simprocAttr];refine ⟨fun hlt=>?_,fun hge=>?_⟩
             ·simp only [bxx] at hlt;unfold awS;simp only [go_sem,simprocAttr];refine ⟨_,aMx p (by omega) hsz k,?_⟩;simp only [go_sem,simprocAttr];refine ⟨fun hc=>?_,fun hc=>?_⟩
              ·simp only [bxx] at hc;unfold awS;simp only [go_sem,simprocAttr];rw [hr.s16 hS hO hUM hUS hC ⟨k,by omega,by omega⟩]
              ·simp only [bxx] at hc;unfold awS;simp only [go_sem,simprocAttr];refine ⟨k+1,aA ?_,⟨by omega,fun i h2=>?_⟩,by omega⟩
               ·simp only [go_sem,simprocAttr];refine ⟨by simp,?_,by simp [bJ (show k<9223372036854775807 by omega)]⟩;have e:decide ((nK p (k:Int):Int) > 5)=decide (5<nK p (k:Int)):=by rw [Bool.eq_iff_iff];simp only [bxx];omega
                rw [e];rfl
               ·rcases Nat.lt_or_ge i k with h3 | h3
                ·exact hi i h3
                ·have:i=k:=by omega
                 subst this;omega
             ·simp only [bxx] at hge;have hD:∀ i,i<p.seqs.length→nK p (i:Int)≤p.seqs.length:=fun i h2=>hi i (by omega)
              have hke:k=p.seqs.length:=by omega
              subst hke;unfold awS;simp only [go_sem,simprocAttr];refine ⟨fun hc=>?_,fun hc=>?_⟩
              ·unfold awS;simp only [go_sem,simprocAttr];rw [hr.s18 hS hO hUM hUS hC hD (Lp hc)]
              ·unfold awS;simp only [go_sem,simprocAttr];rw [hr.s0 hS hO hUM hUS hC hD (Eu hc)]
open Go.RowKit
set_option maxRecDepth 4000
theorem bq (a b:ByteArray):(a.toList==b.toList)=true ↔ a=b:=by
 rw [tY,decide_eq_true_eq]
theorem bqf (a b:ByteArray):(a.toList==b.toList)=false ↔ a≠b:=by
 rw [tY,decide_eq_false_iff_not]
theorem Zq {α : Type} [Inhabited α] {q : α → Bool} {l:List α} (h : 0≤qH q l):∃ k,k<l.length∧qH q l=(k:Int)∧q (l.getD k default)=true:=by
 unfold qH at h ⊢
 by_cases h1:l.any q=true
 ·rw [if_pos h1];obtain ⟨x,hx,hq⟩:=List.any_eq_true.1 h1;have hlt:l.findIdx q<l.length:=List.findIdx_lt_length_of_exists ⟨x,hx,hq⟩;refine ⟨l.findIdx q,hlt,rfl,?_⟩;rw [aU hlt];exact List.findIdx_getElem
 ·rw [if_neg h1] at h;omega
theorem sQ {α : Type} [Inhabited α] {nm : α → ByteArray} {n:ByteArray} {l:List α}:qH (fun x=>(nm x).toList==n.toList) l<0 ↔ gD nm n l=none:=by
 rw [nE];constructor
 ·intro h x hx hn;have h1:l.any (fun x=>(nm x).toList==n.toList)=true:=List.any_eq_true.2 ⟨x,hx,(bq _ _).2 hn⟩;unfold qH at h;rw [if_pos h1] at h;omega
 ·intro h;rcases Int.lt_or_le (qH (fun x=>(nm x).toList==n.toList) l) 0 with h1 | h1
  ·exact h1
  ·obtain ⟨k,h2,_,h3⟩:=Zq h1;exact absurd ((bq _ _).1 h3) (h _ (aQ h2))
theorem qG {α : Type} [Inhabited α] {nm : α → ByteArray} {l:List α} (h:(l.map nm).Nodup) {i:Nat} (hi:i<l.length):qH (fun x=>(nm x).toList==(nm (l.getD i default)).toList) l=(i:Int):=by
 refine Le hi (fun j hj=>?_) ((bq _ _).2 rfl);rw [bqf];intro e;rw [aU hi,aU (show j<l.length by omega)] at e;have:=(List.pairwise_iff_getElem.1 h) j i (by simpa using (show j<l.length by omega)) (by simpa using hi) hj;simp only [List.getElem_map] at this;exact this e
theorem Ju {α : Type} [Inhabited α] {nm : α → ByteArray} {l:List α} (h:∀ i,i<l.length→qH (fun x=>(nm x).toList==(nm (l.getD i default)).toList) l=(i:Int)):(l.map nm).Nodup:=by
 refine List.pairwise_iff_getElem.2 fun i j hi hj hij e=>?_
 rw [List.length_map] at hi hj;simp only [List.getElem_map] at e;have h1:=h i hi;have h2:=h j hj;rw [aU hj] at h2;rw [aU hi,e,h2] at h1;omega
theorem zW (p:ProjR):yE p=true ↔ (p.media.map MediumR.name).Nodup∧(p.seqs.map SequenceR.name).Nodup:=by
 unfold yE Nj Mb;rw [Ax,Ax];have h1:=uC (p.media.map MediumR.name);have h2:=uC (p.seqs.map SequenceR.name);rw [List.length_map] at h1 h2;simp only [Bool.not_eq_true',Bool.or_eq_false_iff,decide_eq_false_iff_not,Int.ofNat_lt,h1,h2,Classical.not_not]
theorem aJa {p:ProjR} (h:(p.media.map MediumR.name).Nodup) {i:Nat} (hi:i<p.media.length):rX p i=true:=by
 unfold rX Yj;rw [qG h hi,beq_self_eq_true]
theorem aJ9 {p:ProjR} (h:(p.seqs.map SequenceR.name).Nodup) {i:Nat} (hi:i<p.seqs.length):rW p i=true:=by
 unfold rW tA;rw [qG h hi,beq_self_eq_true]
theorem Vv (p:ProjR) (x:SourceR):rJ p x=cQ p x:=by
 unfold rJ cQ Yj tA;have h1:decide (qH (fun s:MediumR=>s.name.toList==x.name.toList) p.media<0)=(jY p.media x.name).isNone:=by
  rw [Bool.eq_iff_iff,decide_eq_true_eq,Option.isNone_iff_eq_none];exact sQ
 have h2:decide (qH (fun s:SequenceR=>s.name.toList==x.name.toList) p.seqs<0)=(eR p.seqs x.name).isNone:=by
  rw [Bool.eq_iff_iff,decide_eq_true_eq,Option.isNone_iff_eq_none];exact sQ
 rw [h1,h2]
theorem Yv {x:SourceR} (h:x.isZ=true):x.kind=0:=by
 unfold SourceR.isZ SourceR.eqb at h;simp only [Bool.and_eq_true,beq_iff_eq] at h;exact h.1.1.1.1.1.1
theorem aA2 (p:ProjR) (s:SequenceR):mH p s=fR p s:=by
 rw [Bool.eq_iff_iff];unfold mH fR eA gW;rw [List.all_eq_true,List.all_eq_true];constructor
 ·intro h c hc;have key:∀ x:SourceR,(x=c.a∨x=c.b)→cQ p x=true:=fun x hx=>by
   rcases hz:x.isZ with _ | _
   ·rw [← Vv];refine h x (List.mem_filter.2 ⟨List.mem_flatMap.2 ⟨c,hc,by simpa using hx⟩,by rw [hz];rfl⟩)
   ·unfold cQ;rw [Yv hz];rfl
  unfold dJ;rw [key _ (.inl rfl),key _ (.inr rfl)];rfl
 ·intro h x hx;obtain ⟨c,hc,hx⟩:=List.mem_flatMap.1 (List.mem_filter.1 hx).1;have:=h c hc;unfold dJ at this;rw [Bool.and_eq_true] at this;rw [Vv];simp only [List.mem_cons,List.not_mem_nil,or_false] at hx;rcases hx with rfl | rfl
  ·exact this.1
  ·exact this.2
def Wk (p:ProjR):Nat→ByteArray→Prop
 | 0,_=>True
 | d+1,n => ∃ m,m∈eT p n∧Wk p d m
theorem aF4 {p:ProjR}:∀ {d e:Nat} {n:ByteArray},d≤e→Wk p e n→Wk p d n
 | 0,_,_,_,_=>trivial
 | d+1,0,_,h,_=>absurd h (by omega)
 | d+1,e+1,n,h,⟨m,h1,h2⟩=>⟨m,h1,aF4 (by omega) h2⟩
inductive Rch (p:ProjR):ByteArray→ByteArray→Prop
 | one {m n:ByteArray}:n∈eT p m→Rch p m n
 | snoc {m k n:ByteArray}:Rch p m k→n∈eT p k→Rch p m n
theorem Rch.first {p:ProjR} {m n:ByteArray} (h:Rch p m n):∃ k,k∈eT p m∧(k=n∨Rch p k n):=by
 induction h with
 | one h=>exact ⟨_,h, .inl rfl⟩
 | snoc _ h ih =>
  obtain ⟨k,h1,h2⟩:=ih;rcases h2 with rfl | h2
  ·exact ⟨k,h1, .inr (.one h)⟩
  ·exact ⟨k,h1, .inr (.snoc h2 h)⟩
theorem aAe {p:ProjR} {n:ByteArray} (h:Rch p n n):∀ (d:Nat) (m:ByteArray),(m=n∨Rch p m n)→Wk p d m
 | 0,_,_=>trivial
 | d+1,m,hm=>by
  have h1:Rch p m n:=by rcases hm with rfl | hm<;>assumption
  obtain ⟨k,h2,h3⟩:=h1.first
  exact ⟨k,h2,aAe h d k h3⟩
def Cyc (p:ProjR):Prop := ∃ s∈p.seqs, ∀ d,Wk p d s.name
def Cn (l:List SequenceR) (K:KM):Nat:=(l.filter fun s=>decide (0<cT s.name K)).length
theorem Fw {K K':KM} (h:∀ n,0<cT n K→0<cT n K'):∀ l:List SequenceR,Cn l K≤Cn l K'
 | []=>Nat.le_refl _
 | s::l=>by
  have ih:=Fw h l;unfold Cn at ih ⊢;simp only [List.filter_cons]
  by_cases h2 : 0<cT s.name K
  ·rw [decide_eq_true h2,decide_eq_true (h _ h2)];simpa using ih
  ·rw [decide_eq_false h2]
   by_cases h3 : 0<cT s.name K'
   ·rw [decide_eq_true h3];simp;omega
   ·rw [decide_eq_false h3];simpa using ih
theorem aDk {K K':KM} (h:∀ n,0<cT n K→0<cT n K') {n:ByteArray} (h1 : ¬ 0<cT n K) (h2 : 0<cT n K'):∀ {l:List SequenceR},(∃ s∈l,s.name=n)→Cn l K<Cn l K'
 | [],hx=>by obtain ⟨s,hs,_⟩:=hx;cases hs
 | s::l,hx=>by
  have hle:=Fw h l;have ih:=fun h'=>aDk h h1 h2 (l:=l) h'
  unfold Cn at ih hle ⊢;simp only [List.filter_cons]
  by_cases hs:s.name=n
  ·rw [hs,decide_eq_false h1,decide_eq_true h2];simp;omega
  ·have h':∃ s∈l,s.name=n:=by
    obtain ⟨s',h1,h2⟩:=hx;rcases List.mem_cons.1 h1 with rfl | h1
    ·exact absurd h2 hs
    ·exact ⟨s',h1,h2⟩
   have ih:=ih h'
   by_cases h3 : 0<cT s.name K
   ·rw [decide_eq_true h3,decide_eq_true (h _ h3)];simpa using ih
   ·rw [decide_eq_false h3]
    by_cases h4 : 0<cT s.name K'
    ·rw [decide_eq_true h4];simp;omega
    ·rw [decide_eq_false h4];simpa using ih
structure GoodK (p:ProjR) (K:KM):Prop where
 up:∀ n,0<cT n K→Wk p ((cT n K).toNat - 1) n
 dn:∀ n,0<cT n K → ¬ Wk p (cT n K).toNat n
 le:∀ n,0<cT n K→cT n K≤Cn p.seqs K
structure Stp (K K':KM):Prop where
 pos:∀ n,0<cT n K→0<cT n K'
 neg:∀ n,cT n K'<0 ↔ cT n K<0
theorem Stp.refl (K:KM):Stp K K:=⟨fun _ h=>h,fun _=>Iff.rfl⟩
theorem Stp.trans {a b c:KM} (h:Stp a b) (h':Stp b c):Stp a c:=⟨fun n hn=>h'.pos n (h.pos n hn),fun n=>(h'.neg n).trans (h.neg n)⟩
def SpecF (p:ProjR) (n:ByteArray) (K:KM) (r:Int×KM):Prop:=(r.1=0→Cyc p)∧(r.1≠0→0<r.1∧r.1=cT n r.2∧GoodK p r.2∧Stp K r.2)
theorem Ex {p:ProjR} (hlen:p.seqs.length≤16) {f:Nat} (hgo:∀ x K,(eR p.seqs x).isSome=true→unk p.seqs K<f→GoodK p K→(∀ m,cT m K<0→Rch p m x)→SpecF p x K (aY p f x K)) :
  ∀ (xs:List ByteArray) (K:KM) (l:Int),(∀ x∈xs,(eR p.seqs x).isSome=true)→unk p.seqs K<f→GoodK p K→(∀ m,cT m K<0 → ∀ x∈xs,Rch p m x)→1≤l→l≤Cn p.seqs K+1 →
  ((bC (aY p f) xs K l).1=false→Cyc p)∧((bC (aY p f) xs K l).1=true →
   GoodK p (bC (aY p f) xs K l).2.2∧Stp K (bC (aY p f) xs K l).2.2∧l≤(bC (aY p f) xs K l).2.1∧(bC (aY p f) xs K l).2.1≤Cn p.seqs (bC (aY p f) xs K l).2.2+1 ∧
   (∀ x∈xs, ∃ v:Nat, ¬ Wk p v x∧(v:Int)+1≤(bC (aY p f) xs K l).2.1) ∧
   ((bC (aY p f) xs K l).2.1=l ∨ ∃ x∈xs,2≤(bC (aY p f) xs K l).2.1∧Wk p ((bC (aY p f) xs K l).2.1.toNat - 2) x))
 | [],K,l,_,_,hG,_,h1,h2=>by
  refine ⟨fun h=>(by cases h),fun _=>⟨hG,Stp.refl K,Int.le_refl _,h2,fun x hx=>(by cases hx), .inl rfl⟩⟩
 | x::xs,K,l,hS,hu,hG,hR,h1,h2=>by
  obtain ⟨s1,s2⟩:=hgo x K (hS x (by simp)) hu hG (fun m hm=>hR m hm x (by simp));obtain ⟨r,hr⟩:∃ r,r=aY p f x K:=⟨_,rfl⟩
  have hgr:grows K r.2:=by rw [hr];exact nZ p f x K
  rw [← hr] at s1 s2;unfold bC;rw [← hr]
  by_cases h0:r.1=0
  ·rw [if_pos h0];exact ⟨fun _=>s1 h0,fun h=>by cases h⟩
  ·rw [if_neg h0];obtain ⟨t1,t2,t3,t4⟩:=s2 h0;have hv : 0<cT x r.2:=by omega
   have hle:=t3.le x hv;have hpl:Cn p.seqs r.2≤16:=Nat.le_trans (List.length_filter_le _ _) hlen;have hmono:Cn p.seqs K≤Cn p.seqs r.2:=Fw t4.pos _;have hw:IntKind.i64.wrap (r.1+1)=r.1+1:=wrap64 (by omega) (by omega);rw [hw];obtain ⟨c1,c2⟩:=Ex hlen hgo xs r.2 (max l (r.1+1)) (fun y hy=>hS y (by simp [hy])) (Nat.lt_of_le_of_lt (Ha hgr _) hu) t3
    (fun m hm y hy=>hR m ((t4.neg m).1 hm) y (by simp [hy])) (by omega) (by omega)
   refine ⟨c1,fun h=>?_⟩;obtain ⟨d1,d2,d3,d4,d5,d6⟩:=c2 h;have hx0 : ¬ Wk p r.1.toNat x:=by have:=t3.dn x hv;rw [← t2] at this;exact this
   have hx1:Wk p (r.1.toNat - 1) x:=by have:=t3.up x hv;rw [← t2] at this;exact this
   refine ⟨d1,t4.trans d2,by omega,d4,fun y hy=>?_,?_⟩
   ·rcases List.mem_cons.1 hy with rfl | hy
    ·exact ⟨r.1.toNat,hx0,by omega⟩
    ·exact d5 y hy
   ·rcases d6 with d6 | ⟨y,hy,d6,d7⟩
    ·rcases Int.le_total (r.1+1) l with h3 | h3
     ·exact .inl (by omega)
     ·refine .inr ⟨x,by simp,by omega,?_⟩;have e:(bC (aY p f) xs r.2 (max l (r.1+1))).2.1.toNat - 2=r.1.toNat - 1:=by omega
      rw [e];exact hx1
    ·exact .inr ⟨y,by simp [hy],d6,d7⟩
theorem Ey {p:ProjR} (hlen:p.seqs.length≤16) (hp:ShownOk p):∀ (f:Nat) (n:ByteArray) (K:KM),(eR p.seqs n).isSome=true→unk p.seqs K<f→GoodK p K→(∀ m,cT m K<0→Rch p m n)→SpecF p n K (aY p f n K)
 | 0,_,_,_,h,_,_=>absurd h (Nat.not_lt_zero _)
 | f+1,n,K,hs,hu,hG,hR=>by
  obtain ⟨s,hsn⟩:=Option.isSome_iff_exists.1 hs;obtain ⟨hsm,hsname⟩:=mE hsn;have hin:eT p n=tM s 2:=by unfold eT;rw [hsn];rfl
  have hthere:∀ x∈eT p n,(eR p.seqs x).isSome=true:=fun x hx=>hp.there s hsm x (zC.1 (hin ▸ hx))
  unfold aY
  by_cases hv:cT n K=0
  ·rw [if_neg (fun h=>h hv)];obtain ⟨K1,hK1⟩:∃ K1,K1=kX n (-1) K:=⟨_,rfl⟩
   have hval:∀ m,cT m K1=if m=n then -1 else cT m K:=fun m=>by rw [hK1,uR]
   have hu1:unk p.seqs K1<f:=by rw [hK1];exact Nat.lt_of_lt_of_le (Sh (by decide) hv ⟨s,hsm,hsname⟩) (Nat.le_of_lt_succ hu)
   have hp1:∀ m,0<cT m K→0<cT m K1:=fun m hm=>by
    rw [hval,if_neg (fun e=>by subst e;omega)];exact hm
   have hp1':∀ m,0<cT m K1→m≠n∧cT m K1=cT m K:=fun m hm=>by
    rw [hval] at hm ⊢
    by_cases e:m=n
    ·rw [if_pos e] at hm;omega
    ·rw [if_neg e];exact ⟨e,rfl⟩
   have hG1:GoodK p K1:=by
    refine ⟨fun m hm=>?_,fun m hm=>?_,fun m hm=>?_⟩
    ·obtain ⟨_,e⟩:=hp1' m hm;rw [e] at hm ⊢;exact hG.up m hm
    ·obtain ⟨_,e⟩:=hp1' m hm;rw [e] at hm ⊢;exact hG.dn m hm
    ·obtain ⟨_,e⟩:=hp1' m hm;rw [e] at hm ⊢;have a1:=hG.le m hm;have a2:=Fw hp1 p.seqs;omega
   rw [← hK1];obtain ⟨c1,c2⟩:=Ex hlen (Ey hlen hp f) (eT p n) K1 1 hthere hu1 hG1 (fun m hm x hx=>by
    rw [hval] at hm
    by_cases e:m=n
    ·subst e;exact .one hx
    ·rw [if_neg e] at hm;exact .snoc (hR m hm) hx) (Int.le_refl _) (by omega)
   obtain ⟨c,hc⟩:∃ c,c=bC (aY p f) (eT p n) K1 1:=⟨_,rfl⟩
   rw [← hc] at c1 c2;rw [← hc]
   by_cases h1:c.1=true
   ·rw [if_pos h1];obtain ⟨d1,d2,d3,d4,d5,d6⟩:=c2 h1;refine ⟨fun h=>by simp only at h;omega,fun _=>?_⟩;have hval2:∀ m,cT m (kX n c.2.1 c.2.2)=if m=n then c.2.1 else cT m c.2.2:=fun m=>by rw [uR]
    have hneg:cT n c.2.2<0:=(d2.neg n).2 (by rw [hval,if_pos rfl];decide);have hpp:∀ m,0<cT m c.2.2→0<cT m (kX n c.2.1 c.2.2):=fun m hm=>by
     rw [hval2];split
     ·omega
     ·exact hm
    have hlt:=aDk hpp (n:=n) (by omega) (by rw [hval2,if_pos rfl];omega) (l:=p.seqs) ⟨s,hsm,hsname⟩;have hup:Wk p (c.2.1.toNat - 1) n:=by
     rcases d6 with d6 | ⟨x,hx,d6,d7⟩
     ·rw [d6];exact trivial
     ·have e:c.2.1.toNat - 1=(c.2.1.toNat - 2)+1:=by omega
      rw [e];exact ⟨x,hx,d7⟩
    have hdn : ¬ Wk p c.2.1.toNat n:=by
     have e:c.2.1.toNat=(c.2.1.toNat - 1)+1:=by omega
     rw [e];rintro ⟨x,hx,hw⟩;obtain ⟨v,hv1,hv2⟩:=d5 x hx;exact hv1 (aF4 (by omega) hw)
    refine ⟨by simp only;omega,by simp only;rw [hval2,if_pos rfl],⟨fun m hm=>?_,fun m hm=>?_,fun m hm=>?_⟩,⟨fun m hm=>?_,fun m=>?_⟩⟩
    ·simp only at hm ⊢;rw [hval2] at hm ⊢
     by_cases e:m=n
     ·rw [if_pos e,e];exact hup
     ·rw [if_neg e] at hm ⊢; exact d1.up m hm
    ·simp only at hm ⊢;rw [hval2] at hm ⊢
     by_cases e:m=n
     ·rw [if_pos e,e];exact hdn
     ·rw [if_neg e] at hm ⊢; exact d1.dn m hm
    ·simp only at hm ⊢;rw [hval2] at hm ⊢
     by_cases e:m=n
     ·rw [if_pos e];omega
     ·rw [if_neg e] at hm ⊢;have:=d1.le m hm;omega
    ·exact hpp m (d2.pos m (hp1 m hm))
    ·simp only;rw [hval2]
     by_cases e:m=n
     ·rw [if_pos e,e];omega
     ·rw [if_neg e,d2.neg m,hval,if_neg e]
   ·rw [if_neg h1];exact ⟨fun _=>c1 (by simpa using h1),fun h=>absurd rfl h⟩
  ·rw [if_pos hv];refine ⟨fun h=>?_,fun h=>?_⟩
   ·simp only at h;have h1:cT n K<0:=by omega
    exact ⟨s,hsm,fun d=>by rw [hsname];exact aAe (hR n h1) d n (.inl rfl)⟩
   ·simp only at h ⊢;exact ⟨by omega,by omega,hG,Stp.refl K⟩
theorem wF {p:ProjR} (hlen:p.seqs.length≤16) (hp:ShownOk p):∀ (xs:List SequenceR) (K:KM),(∀ s∈xs,s∈p.seqs)→GoodK p K→(∀ m, ¬ cT m K<0) →
  ((bV p xs K).1=false→Cyc p)∧((bV p xs K).1=true→GoodK p (bV p xs K).2∧Stp K (bV p xs K).2 ∧ ∀ s∈xs,0<cT s.name (bV p xs K).2)
 | [],K,_,hG,_=>⟨fun h=>(by cases h),fun _=>⟨hG,Stp.refl K,fun s hs=>(by cases hs)⟩⟩
 | s::xs,K,hm,hG,hN=>by
  have hseq:(eR p.seqs s.name).isSome=true:=by
   cases h9:eR p.seqs s.name with
   | none=>exact absurd rfl (nE.1 h9 s (hm s (by simp)))
   | some _=>rfl
  obtain ⟨s1,s2⟩:=Ey hlen hp (p.seqs.length+1) s.name K hseq (Nat.lt_succ_of_le (List.length_filter_le _ _)) hG (fun m h=>absurd h (hN m));unfold bV
  by_cases h0:(aY p (p.seqs.length+1) s.name K).1=0
  ·rw [if_pos h0];exact ⟨fun _=>s1 h0,fun h=>by cases h⟩
  ·rw [if_neg h0];obtain ⟨t1,t2,t3,t4⟩:=s2 h0;obtain ⟨c1,c2⟩:=wF hlen hp xs _ (fun s hs=>hm s (by simp [hs])) t3 (fun m h=>hN m ((t4.neg m).1 h));refine ⟨c1,fun h=>?_⟩;obtain ⟨d1,d2,d3⟩:=c2 h;refine ⟨d1,t4.trans d2,fun y hy=>?_⟩;rcases List.mem_cons.1 hy with rfl | hy
   ·exact d2.pos _ (by omega)
   ·exact d3 y hy
open Go.RowKit
set_option maxRecDepth 4000
theorem vM {p:ProjR} {j:Int}:∀ {L:List SourceR} {N:IM},j∈L.foldl (Nc p) N ↔ j∈N ∨ ∃ x∈L,x.kind=2∧j=tA p x.name
 | [],N=>by simp
 | x::L,N=>by
  rw [List.foldl_cons,vM (L:=L)];unfold Nc
  by_cases h:x.kind=2
  ·rw [if_pos h,Ye];constructor
   ·rintro ((h1 | h1) | ⟨y,h1,h2⟩)
    ·exact .inr ⟨x,by simp,h,h1⟩
    ·exact .inl h1
    ·exact .inr ⟨y,by simp [h1],h2⟩
   ·rintro (h1 | ⟨y,h1,h2⟩)
    ·exact .inl (.inr h1)
    ·rcases List.mem_cons.1 h1 with rfl | h1
     ·exact .inl (.inl h2.2)
     ·exact .inr ⟨y,h1,h2⟩
  ·rw [if_neg h];constructor
   ·rintro (h1 | ⟨y,h1,h2⟩)
    ·exact .inl h1
    ·exact .inr ⟨y,by simp [h1],h2⟩
   ·rintro (h1 | ⟨y,h1,h2⟩)
    ·exact .inl h1
    ·rcases List.mem_cons.1 h1 with rfl | h1
     ·exact absurd h2.1 h
     ·exact .inr ⟨y,h1,h2⟩
theorem Fy {p:ProjR} {K:IM} {j:Int}:∀ {n:Nat},j∈lvl p K n ↔ ∃ i,i<n∧(i:Int)∈K ∧ ∃ x∈eA (p.seqs.getD i default),x.kind=2∧j=tA p x.name
 | 0=>by
  constructor
  ·intro h;cases h
  ·rintro ⟨i,h,_⟩;omega
 | n+1=>by
  have ih:=Fy (p:=p) (K:=K) (j:=j) (n:=n);unfold lvl aGh
  by_cases h:(n:Int)∈K
  ·rw [if_pos h,vM,ih];constructor
   ·rintro (⟨i,h1,h2⟩ | h2)
    ·exact ⟨i,by omega,h2⟩
    ·exact ⟨n,by omega,h,h2⟩
   ·rintro ⟨i,h1,h2,h3⟩;rcases Nat.lt_or_ge i n with h4 | h4
    ·exact .inl ⟨i,h4,h2,h3⟩
    ·have:i=n:=by omega
     subst this;exact .inr h3
  ·rw [if_neg h,ih];constructor
   ·rintro ⟨i,h1,h2⟩;exact ⟨i,by omega,h2⟩
   ·rintro ⟨i,h1,h2,h3⟩;rcases Nat.lt_or_ge i n with h4 | h4
    ·exact ⟨i,h4,h2,h3⟩
    ·have:i=n:=by omega
     subst this;exact absurd h2 h
theorem aGc {s:SequenceR} {m:ByteArray}:m∈cX 2 (cP s) ↔ ∃ x∈eA s,x.kind=2∧x.name=m:=by
 unfold cX eA gW;rw [List.mem_map];constructor
 ·rintro ⟨x,h1,h2⟩;rw [List.mem_filter] at h1;have hk:x.kind=2:=by simpa using h1.2
  refine ⟨x,List.mem_filter.2 ⟨h1.1,?_⟩,hk,h2⟩;rcases hz:x.isZ with _ | _
  ·rfl
  ·rw [Yv hz] at hk;cases hk
 ·rintro ⟨x,h1,h2,h3⟩;rw [List.mem_filter] at h1;exact ⟨x,List.mem_filter.2 ⟨h1.1,by rw [h2];rfl⟩,h3⟩
structure NetOk (p:ProjR):Prop where
 nd:(p.seqs.map SequenceR.name).Nodup
 th:∀ s∈p.seqs, ∀ x∈eA s,x.kind=2→0≤tA p x.name
theorem aJw {p:ProjR} (h:NetOk p) {i:Nat} (hi:i<p.seqs.length):eR p.seqs (p.seqs.getD i default).name=some (p.seqs.getD i default):=by
 cases e:eR p.seqs (p.seqs.getD i default).name with
 | none=>exact absurd rfl (nE.1 e _ (aQ hi))
 | some s =>
  obtain ⟨h1,h2⟩:=mE e;obtain ⟨j,hj,rfl⟩:=List.getElem_of_mem h1;have a1:=qG h.nd hi;have a2:=qG h.nd hj;rw [aU hj,h2,a1] at a2;have:i=j:=by omega
  subst this;rw [aU hi]
theorem Qk {p:ProjR} (h:NetOk p) {i:Nat} (hi:i<p.seqs.length) {m:ByteArray}:m∈eT p (p.seqs.getD i default).name ↔ ∃ x∈eA (p.seqs.getD i default),x.kind=2∧x.name=m:=by
 unfold eT;rw [aJw h hi,zC];exact aGc
theorem Sv {p:ProjR} {n:ByteArray} (h : 0≤tA p n):∃ k,k<p.seqs.length∧tA p n=(k:Int)∧(p.seqs.getD k default).name=n:=by
 unfold tA at h ⊢;obtain ⟨k,h1,h2,h3⟩:=Zq h;exact ⟨k,h1,h2,(bq _ _).1 h3⟩
def Wf (p:ProjR) (K:IM) (d:Nat):Prop := ∃ i,i<p.seqs.length∧(i:Int)∈K∧Wk p d (p.seqs.getD i default).name
theorem aB2 {p:ProjR} (h:NetOk p) {K:IM} {d:Nat}:Wf p K (d+1) ↔ Wf p (lvl p K p.seqs.length) d:=by
 constructor
 ·rintro ⟨i,hi,hK,m,hm,hw⟩;obtain ⟨x,hx,hk,rfl⟩:=(Qk h hi).1 hm;obtain ⟨k,h1,h2,h3⟩:=Sv (h.th _ (aQ hi) x hx hk);exact ⟨k,h1,Fy.2 ⟨i,hi,hK,x,hx,hk,h2.symm⟩,by rw [h3];exact hw⟩
 ·rintro ⟨k,hk,hL,hw⟩;obtain ⟨i,hi,hK,x,hx,hk2,he⟩:=Fy.1 hL;obtain ⟨k',h1,h2,h3⟩:=Sv (h.th _ (aQ hi) x hx hk2);have:k=k':=by omega
  subst this;exact ⟨i,hi,hK,x.name,(Qk h hi).2 ⟨x,hx,hk2,rfl⟩,by rw [← h3];exact hw⟩
theorem Yq {p:ProjR} (h:NetOk p) (n:Int):∀ (e d:Nat),Wf p (kA p n 0) (d+e) ↔ Wf p (kA p n e) d
 | 0,d=>Iff.rfl
 | e+1,d=>by
  rw [show d+(e+1)=(d+1)+e by omega,Yq h n e (d+1),aB2 h];rfl
theorem Qq {p:ProjR} (h:NetOk p) {i:Nat} (hi:i<p.seqs.length) (e:Nat):kA p (i:Int) e ≠ [] ↔ Wk p e (p.seqs.getD i default).name:=by
 have h0:Wf p (kA p (i:Int) 0) e ↔ Wk p e (p.seqs.getD i default).name:=by
  constructor
  ·rintro ⟨k,_,hk,hw⟩;have:k=i:=by have:=List.mem_singleton.1 hk;omega
   subst this;exact hw
  ·intro hw;exact ⟨i,hi,by simp [kA],hw⟩
 rw [← h0];have h1:=Yq h (i:Int) e 0;rw [Nat.zero_add] at h1;rw [h1];constructor
 ·intro hne;obtain ⟨j,hj⟩:=List.exists_mem_of_ne_nil _ hne;have hv:∃ k:Nat,k<p.seqs.length∧j=(k:Int):=by
   cases e with
   | zero =>
    have:j=(i:Int):=List.mem_singleton.1 hj;exact ⟨i,hi,this⟩
   | succ e =>
    obtain ⟨i',hi',_,x,hx,hk2,he⟩:=Fy.1 hj;obtain ⟨k,a1,a2,_⟩:=Sv (h.th _ (aQ hi') x hx hk2);exact ⟨k,a1,by omega⟩
  obtain ⟨k,hk,rfl⟩:=hv;exact ⟨k,hk,hj,trivial⟩
 ·rintro ⟨k,_,hk,_⟩ hnil;rw [hnil] at hk;cases hk
theorem Ln {p:ProjR} (h:NetOk p) {i:Nat} (hi:i<p.seqs.length):(∀ e,e<nK p (i:Int)→Wk p e (p.seqs.getD i default).name)∧nK p (i:Int)≤p.seqs.length+1∧(¬ Wk p (nK p (i:Int)) (p.seqs.getD i default).name∨nK p (i:Int)=p.seqs.length+1):=by
 obtain ⟨_,a2,a3,a4⟩:=Db (fun d=>(kA p (i:Int) d).isEmpty) (p.seqs.length+1) 0;refine ⟨fun e he=>(Qq h hi e).1 fun h0=>?_,by unfold nK;omega,?_⟩
 ·have:=a3 e (Nat.zero_le _) he;rw [h0] at this;cases this
 ·rcases a4 with a4 | a4
  ·refine .inl fun hw=>(Qq h hi _).2 hw (List.isEmpty_iff.1 a4)
  ·exact .inr (by unfold nK;omega)
theorem Zh (p:ProjR):GoodK p []:=⟨fun _ h=>absurd h (Int.lt_irrefl 0),fun _ h=>absurd h (Int.lt_irrefl 0),fun _ h=>absurd h (Int.lt_irrefl 0)⟩
theorem refSays (p:ProjR):RefSays p (cB p):=by
 have small:cK p=true→p.seqs.length≤16:=fun h=>by
  unfold cK at h;simp only [Bool.and_eq_true,decide_eq_true_eq] at h;omega
 have uq:(∀ i,i<p.media.length→rX p i=true)→(∀ i,i<p.seqs.length→rW p i=true)→yE p=true:=fun h1 h2=>by
  rw [zW];refine ⟨Ju fun i hi=>?_,Ju fun i hi=>?_⟩
  ·have:=h1 i hi;unfold rX Yj at this;simpa using this
  ·have:=h2 i hi;unfold rW tA at this;simpa using this
 have cc:mH p=fR p:=funext (aA2 p);have net:cK p=true→(p.media.all dH&&p.seqs.all cL)=true→yE p=true→p.seqs.all (fR p)=true→NetOk p:=fun hS hO hU hC=>by
  refine ⟨((zW p).1 hU).2,fun s hs x hx hk=>?_⟩;have h1:=List.all_eq_true.1 hC s hs;rw [← aA2] at h1;have h2:=List.all_eq_true.1 h1 x hx;unfold rJ at h2;rw [hk] at h2;simp only [Bool.not_eq_true',Bool.or_eq_false_iff,Bool.and_eq_false_iff,decide_eq_false_iff_not] at h2;rcases h2.2 with h3 | h3
  ·cases h3
  ·omega
 have chains:cK p=true→(p.media.all dH&&p.seqs.all cL)=true→yE p=true→p.seqs.all (fR p)=true →
   ((bV p p.seqs []).1=false → ∃ i,i<p.seqs.length∧p.seqs.length<nK p (i:Int)) ∧
   ((bV p p.seqs []).1=true → ∀ i,i<p.seqs.length→(nK p (i:Int):Int)=cT (p.seqs.getD i default).name (bV p p.seqs []).2∧nK p (i:Int)≤p.seqs.length):=fun hS hO hU hC=>by
  have hN:=net hS hO hU hC;have hSh:=Hp hS hO hC;obtain ⟨c1,c2⟩:=wF (small hS) hSh p.seqs [] (fun s hs=>hs) (Zh p) (fun _ h=>absurd h (Int.lt_irrefl 0));refine ⟨fun h=>?_,fun h i hi=>?_⟩
  ·obtain ⟨s,hs,hw⟩:=c1 h;obtain ⟨i,hi,rfl⟩:=List.getElem_of_mem hs;obtain ⟨d1,d2,d3⟩:=Ln hN hi;rw [aU hi] at d3;refine ⟨i,hi,?_⟩;rcases d3 with d3 | d3
   ·exact absurd (hw _) d3
   ·omega
  ·obtain ⟨e1,e2,e3⟩:=c2 h;obtain ⟨d1,d2,d3⟩:=Ln hN hi;have hv:=e3 (p.seqs.getD i default) (aQ hi);have g1:=e1.up _ hv;have g2:=e1.dn _ hv;have g3:=e1.le _ hv;have g4:Cn p.seqs (bV p p.seqs []).2≤p.seqs.length:=List.length_filter_le _ _;obtain ⟨v,hvv⟩:∃ v,v=cT (p.seqs.getD i default).name (bV p p.seqs []).2:=⟨_,rfl⟩
   rw [← hvv] at hv g1 g2 g3 ⊢;have k1:nK p (i:Int)≤v.toNat:=Nat.le_of_not_lt fun hlt=>g2 (d1 _ hlt)
   have k2:v.toNat≤nK p (i:Int):=by
    rcases d3 with d3 | d3
    ·exact Nat.le_of_not_lt fun hlt=>d3 (aF4 (by omega) g1)
    ·omega
   omega
 refine ⟨fun h=>?_,fun hS h=>?_,fun hS hO h=>?_,fun hS hO h1 h2 h=>?_,fun hS hO h1 h2 h3 h=>?_,fun hS hO h1 h2 h3 h4 h=>?_,fun hS hO h1 h2 h3 h4 h=>?_⟩
 ·unfold cB;rw [if_pos h]
 ·unfold cB;rw [hS,h];rfl
 ·have hU:yE p=false:=by
   cases e:yE p with
   | false=>rfl
   | true =>
    obtain ⟨n1,n2⟩:=(zW p).1 e;rcases h with ⟨i,hi,h⟩ | ⟨i,hi,h⟩
    ·rw [aJa n1 hi] at h;cases h
    ·rw [aJ9 n2 hi] at h;cases h
  unfold cB;rw [hS,hO,hU];rfl
 ·rw [cc] at h;unfold cB;rw [hS,hO,uq h1 h2,h];rfl
 ·rw [cc] at h3;obtain ⟨i,hi,h⟩:=h;obtain ⟨c1,c2⟩:=chains hS hO (uq h1 h2) h3;have hA:(bV p p.seqs []).1=false:=by
   cases e:(bV p p.seqs []).1 with
   | false=>rfl
   | true=>have:=(c2 e i hi).2;omega
  unfold cB;rw [hS,hO,uq h1 h2,h3,hA];rfl
 ·rw [cc] at h3;obtain ⟨i,hi,h⟩:=h;obtain ⟨c1,c2⟩:=chains hS hO (uq h1 h2) h3;have hA:(bV p p.seqs []).1=true:=by
   cases e:(bV p p.seqs []).1 with
   | true=>rfl
   | false=>obtain ⟨j,hj,hj2⟩:=c1 e;have:=h4 j hj;omega
  have hD:p.seqs.all (wB (bV p p.seqs []).2)=false:=by
   refine cA (d:=default) (k:=i) hi ?_;unfold wB;rw [← (c2 hA i hi).1,decide_eq_false_iff_not];omega
  unfold cB;rw [hS,hO,uq h1 h2,h3,hA,hD];rfl
 ·rw [cc] at h3;obtain ⟨c1,c2⟩:=chains hS hO (uq h1 h2) h3;have hA:(bV p p.seqs []).1=true:=by
   cases e:(bV p p.seqs []).1 with
   | true=>rfl
   | false=>obtain ⟨j,hj,hj2⟩:=c1 e;have:=h4 j hj;omega
  have hD:p.seqs.all (wB (bV p p.seqs []).2)=true:=by
   refine bT (d:=default) fun i hi=>?_
   unfold wB;rw [← (c2 hA i hi).1,decide_eq_true_eq];have:=h i hi;omega
  unfold cB;rw [hS,hO,uq h1 h2,h3,hA,hD];rfl
theorem aMq (p:ProjR) (h:p.fit):aN Tryz.prog 85 [eD p] (aC (cB p)):=cRValid p h _ (refSays p)
end Go.Proofs.YtbfnemkngoaeeaaGreat
