/- Proved here: The walk of timeline.Swap; conditions stand in each theorem. -/
import Derived.Test.YtbfnemkngoaeeaaGreatQ30
import Derived.Test.YtbfnemkngoaeeaaGreatQ28
import Derived.Test.YtbfnemkngoaeeaaGreatQ32
import Derived.Test.YtbfnemkngoaeeaaGreatQ34
import Derived.Test.YtbfnemkngoaeeaaGreatQ22
import Derived.Test.YtbfnemkngoaeeaaGreatQ29
set_option linter.unusedSimpArgs false
set_option linter.unusedVariables false
set_option linter.unusedSectionVars false
set_option linter.unnecessarySimpa false
namespace Go.Proofs.YtbfnemkngoaeeaaGreat
open Go.RowKit
set_option maxRecDepth 4000
theorem Bx:aHn Tryz.prog 79:=by
 refine ⟨Tryz.X79,fun cap w=>callsDIn_of_wpSIn Tryz.func79 rfl trivial fun c₀ cs hu=>?_⟩;have k1 : 2<cap.size+(5 - cap.size):=by omega
 have k2 : 3<cap.size+(5 - cap.size):=by omega
 have k3 : 2<max 5 cap.size:=by omega
 have k4 : 3<max 5 cap.size:=by omega
 apply wpSIn_seq;apply wpSIn_region;simp [wpOpsSIn,Fence.wide,go_sem,recoverD,hu,Tryz.ntmps79,Exit.thenS,k1,k2,k3,k4];refine wpSIn_cond (t:=false) (by simp [Act.eval,k2,k4]) ?_;refine wpSIn_of_wpIn rfl (wpIn_skip ?_);refine ⟨rfl, .returning,by rw [← hu], .tuple #[],?_,⟨_,rfl⟩,rfl,rfl⟩;simp [results,Tryz.results79,go_sem]
def wT (a b:MediumR):Bool:=a.seq.rate.eqb b.seq.rate&&a.frames==b.frames&&a.channels==b.channels&&a.samples==b.samples
def mP (p:ProjR) (f g:ByteArray):ProjR×Int :=
 if bT p≠0 then (⟨[],[]⟩,bT p) else
 match nC p.media f,nC p.media g with
 | some a,some b=>if wT a b=true then (kP p f g,0) else (⟨[],[]⟩,1)
 | _,_=>(⟨[],[]⟩,7)
abbrev vswap (r:ProjR×Int):V := .tup [rN r.1,aC r.2]
theorem tP (k:Int) {h:Heap}:vW (vswap (⟨[],[]⟩,k)) (.tup [.agg [.t (.lit (.slice none 0 0)), .t (.lit (.slice none 0 0))],aC k]) h :=
 rR (r' := .tup [.agg [.t (.lit (.slice none 0 0)), .t (.lit (.slice none 0 0))],aC k]) rfl rfl (tF (by exact ⟨jZ (by exact ⟨eN,eN,trivial⟩),cC,trivial⟩))
theorem Hm {l:List CueR} (h:Au l=true):∀ c∈l,c.lines.length≤65536:=by
 intro c hc;have:=List.all_eq_true.1 h c hc;unfold Ez Tp at this;simp only [Bool.and_eq_true,decide_eq_true_eq] at this;omega
theorem aCu {t:List ClipR} (h:bC t=true):t.length≤65536 ∧ ∀ c∈t,c.chan.length≤65536:=by
 unfold bC at h;simp only [Bool.and_eq_true,decide_eq_true_eq,List.all_eq_true] at h;refine ⟨by omega,fun c hc=>?_⟩;have:=h.1.2 c hc;unfold bB nN gH at this;simp only [Bool.and_eq_true,decide_eq_true_eq] at this;omega
theorem aF5 {p:ProjR} (h:FilmOk p):∀ m∈p.media,m.cues.length≤65536 ∧ ∀ c∈m.cues,c.lines.length≤65536:=by
 intro m hm;have h1:=h.small;unfold dC at h1;simp only [Bool.and_eq_true,decide_eq_true_eq,List.all_eq_true] at h1;have h2:=h1.1.2 m hm;unfold gL at h2;have h3:=h.med m hm;unfold fC at h3;simp only [Bool.and_eq_true,decide_eq_true_eq] at h2 h3;exact ⟨by omega,Hm h3.2⟩
theorem aDj {p:ProjR} (h:FilmOk p):∀ s∈p.seqs,(s.cues.length≤65536 ∧ ∀ c∈s.cues,c.lines.length≤65536)∧(s.video.length≤65536 ∧ ∀ t∈s.video,t.length≤65536 ∧ ∀ c∈t,c.chan.length≤65536)∧(s.sound.length≤65536 ∧ ∀ t∈s.sound,t.length≤65536 ∧ ∀ c∈t,c.chan.length≤65536):=by
 intro s hs;have h1:=h.small;unfold dC at h1;simp only [Bool.and_eq_true,decide_eq_true_eq,List.all_eq_true] at h1;have h2:=h1.2 s hs;unfold dQ at h2;have h3:=h.seq s hs;unfold dU Fu at h3;simp only [Bool.and_eq_true,decide_eq_true_eq,List.all_eq_true] at h2 h3;refine ⟨⟨by omega,Hm h3.1.1.2⟩,⟨by omega,fun t ht=>?_⟩,by omega,fun t ht=>?_⟩
 ·have:=h3.1.2 t ht;unfold yG at this;rw [Bool.and_eq_true] at this;exact aCu this.1
 ·have:=h3.2 t ht;unfold yY at this;rw [Bool.and_eq_true] at this;exact aCu this.1
theorem aV7 (i:Nat) (ts:List T):∀ l:List T,V.gbxs i ts (l.map V.t)=l.map V.t
 | []=>rfl
 | x::l=>by simp only [List.map_cons,V.gbxs,V.gbx,aV7 i ts l]
@[go_sem] theorem gbxs_med (i:Nat) (ts:List T) (m:MediumR):Go.Proofs.YtbfnemkngoaeeaaGreat.V.gbxs i ts (dZ m)=dZ m:=aV7 i ts _
theorem aF4 (m:MediumR):List.take 140 (dZ m) ++ [V.t (vQ m.cues)]++List.drop 141 (dZ m)=(MediumR.c m).map V.t:=rfl
theorem wV {α : Type} [Inhabited α] (c : α → List T) {L:List α} {j:Nat} (hj:j<L.length) {r:List V} (h:r=(c (L.getD j default)).map V.t):(aL (L.map c)).set j r=aL (L.map c):=by
 refine zC (by unfold aL;rw [List.length_map,List.length_map];exact hj) ?_;rw [h,aJ hj];unfold aL;rw [List.getElem_map,List.getElem_map]
theorem aA5 (ρ : Ren) (h:Heap) (m:MediumR):wkVs ρ h (dZ m) (dZ m):=aA6 ρ h _
set_option maxHeartbeats 8000000 in
theorem cSwapP (p:ProjR) (h:p.fit) (f g:ByteArray):aM Tryz.prog 29 [rN p,bM f,bM g] (vswap (mP p f g)):=by
 refine cR Tryz.X29 Tryz.func29 rfl Tryz.ntmps29 (by rw [Tryz.results29]) (aD _ ?_);simp only [go_sem,simprocAttr,dtf];refine ⟨_,aKv p h,?_⟩;simp only [go_sem,simprocAttr,dtf];refine brW (b:=decide (bT p≠0)) ?_ ⟨fun hv=>?_,fun hv=>?_⟩
 ·rw [Bool.eq_iff_iff,decide_eq_true_eq,bne_iff_ne]
 ·have hv':=of_decide_eq_true hv;have e:mP p f g=(⟨[],[]⟩,bT p):=by unfold mP;rw [if_pos hv']
  rw [e];unfold awS;simp only [go_sem,simprocAttr,dtf];exact ⟨Bx,tP _⟩
 ·have hv':bT p=0:=by simpa using hv
  have hok:=nY h hv';unfold awS;simp only [go_sem,simprocAttr,dtf];have hsm:=uM hv';refine kU (cCat p hsm.1 hsm.2.1) rfl ?_;cases hf:nC p.media f with
  | none =>
   have e:mP p f g=(⟨[],[]⟩,7):=by unfold mP;rw [hv',hf];rfl
   rw [e];cases hg:nC p.media g with
   | none =>
    simp only [go_sem,simprocAttr,dtf,vH,hf,hg,Option.map_none];exact ⟨Bx,tP _⟩
   | some b =>
    simp only [go_sem,simprocAttr,dtf,vH,hf,hg,Option.map_none,Option.map_some];exact ⟨Bx,tP _⟩
  | some a =>
   cases hg:nC p.media g with
   | none =>
    have e:mP p f g=(⟨[],[]⟩,7):=by unfold mP;rw [hv',hf,hg];rfl
    rw [e];simp only [go_sem,simprocAttr,dtf,vH,hf,hg,Option.map_none,Option.map_some];exact ⟨Bx,tP _⟩
   | some b =>
    simp only [go_sem,simprocAttr,dtf,vH,hf,hg,Option.map_some];refine ⟨_,eqRat _ _,?_⟩;refine brW (b := !wT a b) ?_ ⟨fun hm=>?_,fun hm=>?_⟩
    ·unfold wT
     (try simp only [bne]);cases (a.seq.rate.eqb b.seq.rate)<;>cases (a.frames==b.frames)<;>cases (a.channels==b.channels)<;>cases (a.samples==b.samples)<;>rfl
    ·have e:mP p f g=(⟨[],[]⟩,1):=by
      unfold mP;rw [hv',hf,hg];have:wT a b=false:=by simpa using hm
      simp [this]
     rw [e];unfold awS;simp only [go_sem,simprocAttr,dtf];exact ⟨Bx,tP _⟩
    ·have e:mP p f g=(kP p f g,0):=by
      unfold mP;rw [hv',hf,hg];have:wT a b=true:=by simpa using hm
      simp [this]
     rw [e];unfold awS;simp only [go_sem,simprocAttr,dtf];refine cG (aNn p.media (by omega)) [] rfl (by omega) (by decide) ?_ rfl rfl rfl rfl ?_
     ·simp only [go_sem,simprocAttr,dtf]
     ·simp only [go_sem,simprocAttr,dtf,List.getElem?_nil];refine aNs 1 ?_;simp only [go_sem,simprocAttr,dtf];refine aNs 2 ?_;simp only [go_sem,simprocAttr,dtf];have hml:=aF5 hok;have hsl:=aDj hok;refine aF (fun (k:Nat) σ => cJ 85 (aC k) (bN [15,16,20,21,22,23,24,25,26,27,28,29,30,31,32,33,34,35,36,37,38,39,40,41,42,43,44,45,46,47,48,49,50,51,52,53,54,55,56,57,58,59,60,61,62,63,64,65,66,67,68,69,70,71,72,73,74,75,76,77,78,79,80,81,82,86,87,88,89,90,91,92,93,94,95,96,97] (bK σ))) (fun k=>k≤p.media.length) (fun k=>p.media.length - k) 0 (aB ?_) (Nat.zero_le _) ?_
      ·simp only [go_sem,simprocAttr,dtf];simp [aA5]
      ·intro k hk;refine aD _ ?_;simp only [go_sem,simprocAttr,dtf];refine ⟨fun hlt=>?_,fun hge=>?_⟩
       ·simp only [bxx] at hlt;have hkl:k<p.media.length:=by omega
        unfold awS;simp only [go_sem,simprocAttr,dtf];refine ⟨⟨by omega,by omega⟩,by omega,?_⟩;refine aK 9 .done rfl (by kernel_rfl) (by kernel_rfl) (by decide) ?_;simp only [go_sem,simprocAttr,dtf];refine ⟨_,Mr _ (hml _ (aW hkl)).1 (hml _ (aW hkl)).2,?_⟩;simp only [go_sem,simprocAttr,dtf];rw [aF4,wV MediumR.c hkl rfl];refine ⟨⟨by omega,by omega⟩,by omega,by kernel_rfl,k+1,aB ?_,by omega,by omega⟩;simp only [go_sem,simprocAttr,dtf];simp [aA5,bX (show k<9223372036854775807 by omega)]
       ·simp only [bxx] at hge;have:k=p.media.length:=by omega
        subst this;unfold awS;simp only [go_sem,simprocAttr,dtf];refine cG (aH9 p.seqs (by omega)) [] rfl (by omega) (by decide) ?_ rfl rfl rfl rfl ?_
        ·simp only [go_sem,simprocAttr,dtf]
        ·simp only [go_sem,simprocAttr,dtf,List.getElem?_nil];obtain ⟨Q,hQ⟩:∃ Q:SequenceR→SequenceR,Q=Ua f g:=⟨_,rfl⟩
         refine aF (fun (k:Nat) σ => zD 8 (.row 114 9 (SequenceR.c default) (aL ((qE Q p.seqs k).map SequenceR.c))) (cJ 106 (aC k) (bN [15,16,17,18,20,21,22,23,24,25,26,27,28,29,30,31,32,33,34,35,36,37,38,39,40,41,42,43,44,45,46,47,48,49,50,51,52,53,54,55,56,57,58,59,60,61,62,63,64,65,66,67,68,69,70,71,72,73,74,75,76,77,78,79,80,81,82,83,84,85,86,87,88,89,90,91,92,93,94,95,96,97,98,99,100,101,102,108,109,110,111,112,113,114,115,116,117,118,119,120,121,122,123,124,125,126,127,128,129,130,131,132,133,134,135,136] (bK σ)))) (fun k=>k≤p.seqs.length) (fun k=>p.seqs.length - k) 0 (aB ?_) (Nat.zero_le _) ?_
         ·simp only [go_sem,simprocAttr,dtf];simp [aA5,aQd]
         ·intro k hk;refine aD _ ?_;simp only [go_sem,simprocAttr,dtf];refine ⟨fun hlt=>?_,fun hge=>?_⟩
          ·simp only [bxx] at hlt;have hkl:k<p.seqs.length:=by omega
           obtain ⟨s,hs⟩:∃ s,s=p.seqs.getD k default:=⟨_,rfl⟩
           have hsm:s∈p.seqs:=by rw [hs];exact aW hkl
           have hM:=tU Q p.seqs k;have hn:∀ d,nth d ((qE Q p.seqs k).map SequenceR.c) k=SequenceR.c s:=fun d=>by
            have e0:=Gk Q hkl;have hlt3:k<(qE Q p.seqs k).length:=by omega
            rw [List.getD_eq_getElem?_getD,List.getElem?_eq_getElem hlt3,Option.getD_some] at e0;unfold nth;rw [List.getElem?_map,List.getElem?_eq_getElem hlt3,e0,hs];rfl
           have hn2:∀ (d:List T) (r:List V),qD d ((aL ((qE Q p.seqs k).map SequenceR.c)).set k r) k=r:=fun d r=>aEu (by rw [gK,List.length_map,hM];exact hkl) d r
           have hl2:∀ r:List V,((aL ((qE Q p.seqs k).map SequenceR.c)).set k r).length=p.seqs.length:=fun r=>by rw [List.length_set,gK,List.length_map,hM]
           unfold awS;simp only [go_sem,simprocAttr,dtf,hn,hn2,hl2,hM,List.length_map];obtain ⟨q1,q2,q3⟩:=hsl s hsm;refine ⟨⟨by omega,by omega⟩,by omega,?_⟩;refine aK 10 .done rfl (by kernel_rfl) (by kernel_rfl) (by decide) ?_;simp only [go_sem,simprocAttr,dtf,hn,hn2,hl2,hM,List.length_map];refine ⟨_,aHb f g s.video q2.1 q2.2,?_⟩;simp only [go_sem,simprocAttr,dtf,hn,hn2,hl2,hM,List.length_map];refine ⟨⟨by omega,by omega⟩,by omega,by kernel_rfl,?_⟩;refine aK 10 .done rfl (by kernel_rfl) (by kernel_rfl) (by decide) ?_;simp only [go_sem,simprocAttr,dtf,hn,hn2,hl2,hM,List.length_map];refine ⟨_,aHb f g s.sound q3.1 q3.2,?_⟩;simp only [go_sem,simprocAttr,dtf,hn,hn2,hl2,hM,List.length_map,List.set_set];refine ⟨⟨by omega,by omega⟩,by omega,by kernel_rfl,?_⟩;refine aK 9 .done rfl (by kernel_rfl) (by kernel_rfl) (by decide) ?_;simp only [go_sem,simprocAttr,dtf,hn,hn2,hl2,hM,List.length_map,List.set_set];refine ⟨_,Mr s.cues q1.1 q1.2,?_⟩;simp only [go_sem,simprocAttr,dtf,hn,hn2,hl2,hM,List.length_map,List.set_set];have eM:=Re Q hkl;rw [← hs] at eM;refine ⟨⟨by omega,by omega⟩,by omega,by kernel_rfl,k+1,aB ?_,by omega,by omega⟩;rw [sZ SequenceR.c (Q s) (by rw [hQ];rfl),eM];simp only [go_sem,simprocAttr,dtf];simp [aA5,bX (show k<9223372036854775807 by omega)]
          ·simp only [bxx] at hge;have:k=p.seqs.length:=by omega
           subst this;unfold awS;simp only [go_sem,simprocAttr,dtf];rw [Rf];refine ⟨Bx,aU ?_ rfl⟩;simp only [go_sem,simprocAttr,dtf];rw [hQ];rfl
open Go.RowKit
set_option maxRecDepth 4000
def spareN:ByteArray:=⟨#[115,112,97,114,101]⟩
theorem aSk:aT spareN=true:=of_decide_eq_true (by kernel_rfl)
theorem aPk:((List.range 9).all fun i=>(cX ⟨#[109]⟩ (i:Int)).toList != spareN.toList)=true:=by kernel_rfl
theorem aSm {i:Nat} (hi:i<9):cX ⟨#[109]⟩ (i:Int)≠spareN:=by
 have h1:=List.all_eq_true.1 aPk i (List.mem_range.2 hi);intro h;rw [h] at h1;simp at h1
structure SpareP (p:ProjR) (M N:Nat):Prop where
 m1 : 1≤M
 m3:M≤3
 n1 : 1≤N
 n3:N≤3
 hm:p.media.length=M+1
 hn:p.seqs.length=N
 med:∀ x,x<M→MedGood x (p.media.getD x default)
 sp:p.media.getD M default = { p.media.getD 0 default with name:=spareN }
 seq:∀ x,x<N→SeqGood M x (p.seqs.getD x default)
theorem SpareP.name {p:ProjR} {M N:Nat} (h:SpareP p M N) {x:Nat} (hx:x≤M):(p.media.getD x default).name=if x<M then cX ⟨#[109]⟩ (x:Int) else spareN:=by
 by_cases h1:x<M
 ·rw [if_pos h1];exact (h.med x h1).name
 ·have:x=M:=by omega
  subst this;rw [if_neg h1,h.sp]
theorem SpareP.mok {p:ProjR} {M N:Nat} (h:SpareP p M N) {x:Nat} (hx:x≤M):fC (p.media.getD x default)=true∧gL (p.media.getD x default)=true∧(p.media.getD x default).fit:=by
 by_cases h1:x<M
 ·have:=h.med x h1;exact ⟨this.ok,this.small,this.fit⟩
 ·have:x=M:=by omega
  subst this;have h0:=h.med 0 (by have:=h.m1;omega);rw [h.sp];have e:=h0.ok;unfold fC at e ⊢;simp only [Bool.and_eq_true] at e ⊢;exact ⟨⟨⟨⟨⟨⟨aSk,e.1.1.1.1.2⟩,e.1.1.1.2⟩,e.1.1.2⟩,e.1.2⟩,e.2⟩,h0.small,⟨h0.fit.seq,h0.fit.frames,h0.fit.channels,h0.fit.samples,h0.fit.cues⟩⟩
theorem SpareP.nm {p:ProjR} {M N:Nat} (h:SpareP p M N):(p.media.map MediumR.name).Nodup:=by
 have hm:=h.hm;have h3:=h.m3;refine List.pairwise_iff_getElem.2 fun i j hi hj hij e=>?_
 rw [List.length_map] at hi hj;simp only [List.getElem_map] at e;have e1:=h.name (x:=i) (by omega);have e2:=h.name (x:=j) (by omega);rw [aJ hi] at e1;rw [aJ hj] at e2;rw [e1,e2,if_pos (by omega)] at e
 by_cases hjM:j<M
 ·rw [if_pos hjM] at e;have:=aTz (by omega) (by omega) (.inl e);omega
 ·rw [if_neg hjM] at e;exact aSm (by omega) e
theorem SpareP.src {p:ProjR} {M N:Nat} (h:SpareP p M N) {j:Nat} (hj:j<N):∀ x∈kQ (p.seqs.getD j default),SrcIn M j x:=fun x hx=>by
 unfold kQ Wm at hx;obtain ⟨c,hc,hx⟩:=List.mem_flatMap.1 (List.mem_filter.1 hx).1;unfold dF at hc;obtain ⟨t,ht,hct⟩:=List.mem_flatten.1 hc;obtain ⟨g1,g2⟩:=(h.seq j hj).src t ht c hct;simp only [List.mem_cons,List.not_mem_nil,or_false] at hx;rcases hx with rfl | rfl<;>assumption
theorem SpareP.lay {p:ProjR} {M N:Nat} (h:SpareP p M N):Layered p:=by
 have hm:=h.hm;have hn:=h.hn;have h3:=h.m3;have hn3:=h.n3;refine ⟨?_,?_,h.nm,?_,by omega,fun j hj x hx k1=>?_,fun j hj x hx k2=>?_⟩
 ·unfold dC;rw [decide_eq_true (by omega:(p.media.length:Int)≤16),decide_eq_true (by omega:(p.seqs.length:Int)≤16),dE (d:=default) (p:=gL) (fun i hi=>(h.mok (by omega)).2.1),dE (d:=default) (p:=dQ) (fun i hi=>(h.seq i (by omega)).small)];rfl
 ·rw [dE (d:=default) (p:=fC) (fun i hi=>(h.mok (by omega)).1),dE (d:=default) (p:=dU) (fun i hi=>(h.seq i (by omega)).ok)];rfl
 ·refine List.pairwise_iff_getElem.2 fun i j hi hj hij e=>?_
  rw [List.length_map] at hi hj;simp only [List.getElem_map] at e;have e1:=(h.seq i (by omega)).name;have e2:=(h.seq j (by omega)).name;rw [aJ hi] at e1;rw [aJ hj] at e2;rw [e1,e2] at e;have:=aTz (by omega) (by omega) (.inr e);omega
 ·obtain ⟨i,hi,hnm⟩:=(h.src (by omega) x hx).m1 k1;exact ⟨i,by omega,by rw [hnm,h.name (by omega),if_pos (by omega)]⟩
 ·obtain ⟨i,hi,hnm⟩:=(h.src (by omega) x hx).s2 k2;exact ⟨i,by omega,by rw [hnm,(h.seq i (by omega)).name]⟩
theorem SpareP.fit {p:ProjR} {M N:Nat} (h:SpareP p M N):p.fit:=by
 have hm:=h.hm;have hn:=h.hn;refine ⟨fun y hy=>?_,fun y hy=>?_⟩
 ·obtain ⟨i,hi,rfl⟩:=Rn hy;exact (h.mok (by omega)).2.2
 ·obtain ⟨i,hi,rfl⟩:=Rn hy;exact (h.seq i (by omega)).fit
theorem aQs {α : Type} [Inhabited α] {nm : α → ByteArray} {l:List α} (h:(l.map nm).Nodup) {i:Nat} (hi:i<l.length):eU nm (nm (l.getD i default)) l=some (l.getD i default):=by
 cases e:eU nm (nm (l.getD i default)) l with
 | none=>exact absurd rfl (gW.1 e _ (aW hi))
 | some y =>
  obtain ⟨h1,h2⟩:=cV e;obtain ⟨j,hj,rfl⟩:=Rn h1
  by_cases hij:i=j
  ·rw [hij]
  ·exfalso;have hi2:i<(l.map nm).length:=by rw [List.length_map];exact hi
   have hj2:j<(l.map nm).length:=by rw [List.length_map];exact hj
   have e3:(l.map nm)[j]=(l.map nm)[i]:=by
    rw [List.getElem_map,List.getElem_map, ← aJ hi, ← aJ hj];exact h2
   exact hij ((List.getElem_inj h).1 e3).symm
theorem aX2 {α : Type} {l r:List α} (d : α) {i:Nat} (h:i<l.length):(l++r).getD i d=l.getD i d:=by
 rw [List.getD_eq_getElem?_getD,List.getD_eq_getElem?_getD,List.getElem?_append_left h]
theorem app_end {α : Type} {l:List α} (d x : α):(l ++ [x]).getD l.length d=x:=by
 rw [List.getD_eq_getElem?_getD,List.getElem?_append_right (Nat.le_refl _)];simp
theorem aTg (L:List Int) : 1≤(kF L).media.length∧(kF L).media.length≤3∧1≤(kF L).seqs.length∧(kF L).seqs.length≤3:=by
 obtain ⟨M,N,m1,m3,s1,s3,h1,h2,h3,h4⟩:=Lh L;exact ⟨by omega,by omega,by omega,by omega⟩
def projSp (L:List Int):ProjR:=⟨(kF L).media ++ [{ (kF L).media.getD 0 default with name:=spareN }],(kF L).seqs⟩
def m0N:ByteArray:=⟨#[109,48]⟩
end Go.Proofs.YtbfnemkngoaeeaaGreat
