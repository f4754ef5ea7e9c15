/- Proved here: The walk of timeline.Swap. -/
import Derived.Test.YtbfnemkngoaeeaaGreatQ08
set_option linter.unusedSimpArgs false
set_option linter.unusedVariables false
set_option linter.unusedSectionVars false
set_option linter.unnecessarySimpa false
namespace Go.Proofs.YtbfnemkngoaeeaaGreat
open Go.RowKit
set_option maxRecDepth 4000
theorem Bf:aUt Tryz.prog 79:=by
 refine ⟨Tryz.X79,fun cap w=>callsDIn_of_wpSIn Tryz.func79 rfl trivial fun c₀ cs hu=>?_⟩;have k1 : 2<cap.size+(5 - cap.size):=by omega
 have k2 : 3<cap.size+(5 - cap.size):=by omega
 have k3 : 2<max 5 cap.size:=by omega
 have k4 : 3<max 5 cap.size:=by omega
 apply wpSIn_seq;apply wpSIn_region;simp [wpOpsSIn,Fence.wide,go_sem,recoverD,hu,Tryz.ntmps79,Exit.thenS,k1];refine wpSIn_cond (t:=false) (by simp [Act.eval,k2]) ?_;refine wpSIn_of_wpIn rfl (wpIn_skip ?_);refine ⟨rfl, .returning,by rw [← hu], .tuple #[],?_,⟨_,rfl⟩,rfl,rfl⟩;simp [results,Tryz.results79,go_sem]
def rR (a b:MediumR):Bool:=a.seq.rate.eqb b.seq.rate&&a.frames==b.frames&&a.channels==b.channels&&a.samples==b.samples
def fM (p:ProjR) (f g:ByteArray):ProjR×Int :=
 if bV p≠0 then (⟨[],[]⟩,bV p) else
 match jQ p.media f,jQ p.media g with
 | some a,some b=>if rR a b=true then (aBz p f g,0) else (⟨[],[]⟩,1)
 | _,_=>(⟨[],[]⟩,7)
abbrev aJs (r:ProjR×Int):V := .tup [dT r.1,aC r.2]
theorem kA (k:Int) {h:Heap}:Cq (aJs (⟨[],[]⟩,k)) (.tup [.agg [.t (.lit (.slice none 0 0)), .t (.lit (.slice none 0 0))],aC k]) h :=
 vF (r' := .tup [.agg [.t (.lit (.slice none 0 0)), .t (.lit (.slice none 0 0))],aC k]) rfl rfl (Cd (by exact ⟨nE (by exact ⟨jB,jB,trivial⟩),pL,trivial⟩))
theorem Gk {l:List CueR} (h:mU l=true):∀ c∈l,c.lines.length≤65536:=by
 intro c hc;have:=List.all_eq_true.1 h c hc;unfold uH Gm at this;simp only [Bool.and_eq_true,decide_eq_true_eq] at this;omega
theorem aBt {t:List ClipR} (h:dD t=true):t.length≤65536 ∧ ∀ c∈t,c.chan.length≤65536:=by
 unfold dD at h;simp only [Bool.and_eq_true,decide_eq_true_eq,List.all_eq_true] at h;refine ⟨by omega,fun c hc=>?_⟩;have:=h.1.2 c hc;unfold cP pK fF at this;simp only [Bool.and_eq_true,decide_eq_true_eq] at this;omega
theorem Fr {p:ProjR} (h:FilmOk p):∀ m∈p.media,m.cues.length≤65536 ∧ ∀ c∈m.cues,c.lines.length≤65536:=by
 intro m hm;have h1:=h.small;unfold cL at h1;simp only [Bool.and_eq_true,decide_eq_true_eq,List.all_eq_true] at h1;have h2:=h1.1.2 m hm;unfold dQ at h2;have h3:=h.med m hm;unfold dX at h3;simp only [Bool.and_eq_true,decide_eq_true_eq] at h2 h3;exact ⟨by omega,Gk h3.2⟩
theorem Ex {p:ProjR} (h:FilmOk p):∀ s∈p.seqs,(s.cues.length≤65536 ∧ ∀ c∈s.cues,c.lines.length≤65536)∧(s.video.length≤65536 ∧ ∀ t∈s.video,t.length≤65536 ∧ ∀ c∈t,c.chan.length≤65536)∧(s.sound.length≤65536 ∧ ∀ t∈s.sound,t.length≤65536 ∧ ∀ c∈t,c.chan.length≤65536):=by
 intro s hs;have h1:=h.small;unfold cL at h1;simp only [Bool.and_eq_true,decide_eq_true_eq,List.all_eq_true] at h1;have h2:=h1.2 s hs;unfold cW at h2;have h3:=h.seq s hs;unfold cX tY at h3;simp only [Bool.and_eq_true,decide_eq_true_eq,List.all_eq_true] at h2 h3;refine ⟨⟨by omega,Gk h3.1.1.2⟩,⟨by omega,fun t ht=>?_⟩,by omega,fun t ht=>?_⟩
 ·have:=h3.1.2 t ht;unfold nJ at this;rw [Bool.and_eq_true] at this;exact aBt this.1
 ·have:=h3.2 t ht;unfold qS at this;rw [Bool.and_eq_true] at this;exact aBt this.1
theorem aSm (i:Nat) (ts:List T):∀ l:List T,V.gbxs i ts (l.map V.t)=l.map V.t
 | []=>rfl
 | x::l=>by simp only [List.map_cons,V.gbxs,V.gbx,aSm i ts l]
@[go_sem] theorem gbxs_med (i:Nat) (ts:List T) (m:MediumR):Go.Proofs.YtbfnemkngoaeeaaGreat.V.gbxs i ts (dV m)=dV m:=aSm i ts _
theorem Fp (m:MediumR):List.take 140 (dV m) ++ [V.t (gC m.cues)]++List.drop 141 (dV m)=(MediumR.c m).map V.t:=rfl
theorem wV {α : Type} [Inhabited α] (c : α → List T) {L:List α} {j:Nat} (hj:j<L.length) {r:List V} (h:r=(c (L.getD j default)).map V.t):(aL (L.map c)).set j r=aL (L.map c):=by
 refine sN (by unfold aL;rw [List.length_map,List.length_map];exact hj) ?_;rw [h,aK hj];unfold aL;rw [List.getElem_map,List.getElem_map]
theorem Zd (ρ : Ren) (h:Heap) (m:MediumR):wkVs ρ h (dV m) (dV m):=Ze ρ h _
set_option maxHeartbeats 8000000 in
theorem cSwapP (p:ProjR) (h:p.fit) (f g:ByteArray):aS Tryz.prog 29 [dT p,bT f,bT g] (aJs (fM p f g)):=by
 refine dS Tryz.X29 Tryz.func29 rfl Tryz.ntmps29 (by rw [Tryz.results29]) (aD _ ?_);simp only [go_sem,simprocAttr];refine ⟨_,aTf p h,?_⟩;simp only [go_sem,simprocAttr];refine brW (b:=decide (bV p≠0)) ?_ ⟨fun hv=>?_,fun hv=>?_⟩
 ·rw [Bool.eq_iff_iff,decide_eq_true_eq,bne_iff_ne]
 ·have hv':=of_decide_eq_true hv;have e:fM p f g=(⟨[],[]⟩,bV p):=by unfold fM;rw [if_pos hv']
  rw [e];unfold awS;simp only [go_sem,simprocAttr];exact ⟨Bf,kA _⟩
 ·have hv':bV p=0:=by simpa using hv
  have hok:=sH h hv';unfold awS;simp only [go_sem,simprocAttr];have hsm:=yN hv';refine mR (cCat p hsm.1 hsm.2.1) rfl ?_;cases hf:jQ p.media f with
  | none =>
   have e:fM p f g=(⟨[],[]⟩,7):=by unfold fM;rw [hv',hf];rfl
   rw [e];cases hg:jQ p.media g with
   | none =>
    simp only [go_sem,simprocAttr,uM,hf,hg,Option.map_none];exact ⟨Bf,kA _⟩
   | some b =>
    simp only [go_sem,simprocAttr,uM,hf,hg,Option.map_none,Option.map_some];exact ⟨Bf,kA _⟩
  | some a =>
   cases hg:jQ p.media g with
   | none =>
    have e:fM p f g=(⟨[],[]⟩,7):=by unfold fM;rw [hv',hf,hg];rfl
    rw [e];simp only [go_sem,simprocAttr,uM,hf,hg,Option.map_none,Option.map_some];exact ⟨Bf,kA _⟩
   | some b =>
    simp only [go_sem,simprocAttr,uM,hf,hg,Option.map_some];refine ⟨_,aL8 _ _,?_⟩;refine brW (b := !rR a b) ?_ ⟨fun hm=>?_,fun hm=>?_⟩
    ·unfold rR
     (try simp only [bne]);cases (a.seq.rate.eqb b.seq.rate)<;>cases (a.frames==b.frames)<;>cases (a.channels==b.channels)<;>cases (a.samples==b.samples)<;>rfl
    ·have e:fM p f g=(⟨[],[]⟩,1):=by
      unfold fM;rw [hv',hf,hg];have:rR a b=false:=by simpa using hm
      simp [this]
     rw [e];unfold awS;simp only [go_sem,simprocAttr];exact ⟨Bf,kA _⟩
    ·have e:fM p f g=(aBz p f g,0):=by
      unfold fM;rw [hv',hf,hg];have:rR a b=true:=by simpa using hm
      simp [this]
     rw [e];unfold awS;simp only [go_sem,simprocAttr];refine cC (aLp p.media (by omega)) [] rfl (by omega) (by decide) ?_ rfl rfl rfl rfl ?_
     ·simp only [go_sem,simprocAttr]
     ·simp only [go_sem,simprocAttr,List.getElem?_nil];refine aLt 1 ?_;simp only [go_sem,simprocAttr];refine aLt 2 ?_;simp only [go_sem,simprocAttr];have hml:=Fr hok;have hsl:=Ex hok;refine aE (fun (k:Nat) σ => bD 85 (aC k) (aW [15,16,20,21,22,23,24,25,26,27,28,29,30,31,32,33,34,35,36,37,38,39,40,41,42,43,44,45,46,47,48,49,50,51,52,53,54,55,56,57,58,59,60,61,62,63,64,65,66,67,68,69,70,71,72,73,74,75,76,77,78,79,80,81,82,86,87,88,89,90,91,92,93,94,95,96,97] (aX σ))) (fun k=>k≤p.media.length) (fun k=>p.media.length - k) 0 (aA ?_) (Nat.zero_le _) ?_
      ·simp only [go_sem,simprocAttr];simp [Zd]
      ·intro k hk;refine aD _ ?_;simp only [go_sem,simprocAttr];refine ⟨fun hlt=>?_,fun hge=>?_⟩
       ·simp only [bxx] at hlt;have hkl:k<p.media.length:=by omega
        unfold awS;simp only [go_sem,simprocAttr];refine ⟨⟨by omega,by omega⟩,by omega,?_⟩;refine aR 9 .done rfl (by kernel_rfl) (by kernel_rfl) (by decide) ?_;simp only [go_sem,simprocAttr];refine ⟨_,Lu _ (hml _ (aP hkl)).1 (hml _ (aP hkl)).2,?_⟩;simp only [go_sem,simprocAttr];rw [Fp,wV MediumR.c hkl rfl];refine ⟨⟨by omega,by omega⟩,by omega,by kernel_rfl,k+1,aA ?_,by omega,by omega⟩;simp only [go_sem,simprocAttr];simp [Zd,aZ (show k<9223372036854775807 by omega)]
       ·simp only [bxx] at hge;have:k=p.media.length:=by omega
        subst this;unfold awS;simp only [go_sem,simprocAttr];refine cC (aFq p.seqs (by omega)) [] rfl (by omega) (by decide) ?_ rfl rfl rfl rfl ?_
        ·simp only [go_sem,simprocAttr]
        ·simp only [go_sem,simprocAttr,List.getElem?_nil];obtain ⟨Q,hQ⟩:∃ Q:SequenceR→SequenceR,Q=chgQ f g:=⟨_,rfl⟩
         refine aE (fun (k:Nat) σ => sP 8 (.row 114 9 (SequenceR.c default) (aL ((fC Q p.seqs k).map SequenceR.c))) (bD 106 (aC k) (aW [15,16,17,18,20,21,22,23,24,25,26,27,28,29,30,31,32,33,34,35,36,37,38,39,40,41,42,43,44,45,46,47,48,49,50,51,52,53,54,55,56,57,58,59,60,61,62,63,64,65,66,67,68,69,70,71,72,73,74,75,76,77,78,79,80,81,82,83,84,85,86,87,88,89,90,91,92,93,94,95,96,97,98,99,100,101,102,108,109,110,111,112,113,114,115,116,117,118,119,120,121,122,123,124,125,126,127,128,129,130,131,132,133,134,135,136] (aX σ)))) (fun k=>k≤p.seqs.length) (fun k=>p.seqs.length - k) 0 (aA ?_) (Nat.zero_le _) ?_
         ·simp only [go_sem,simprocAttr];simp [Zd,Xh]
         ·intro k hk;refine aD _ ?_;simp only [go_sem,simprocAttr];refine ⟨fun hlt=>?_,fun hge=>?_⟩
          ·simp only [bxx] at hlt;have hkl:k<p.seqs.length:=by omega
           obtain ⟨s,hs⟩:∃ s,s=p.seqs.getD k default:=⟨_,rfl⟩
           have hsm:s∈p.seqs:=by rw [hs];exact aP hkl
           have hM:=fH Q p.seqs k;have hn:∀ d,nth d ((fC Q p.seqs k).map SequenceR.c) k=SequenceR.c s:=fun d=>by
            have e0:=rV Q hkl;have hlt3:k<(fC Q p.seqs k).length:=by omega
            rw [List.getD_eq_getElem?_getD,List.getElem?_eq_getElem hlt3,Option.getD_some] at e0;unfold nth;rw [List.getElem?_map,List.getElem?_eq_getElem hlt3,e0,hs];rfl
           have hn2:∀ (d:List T) (r:List V),mN d ((aL ((fC Q p.seqs k).map SequenceR.c)).set k r) k=r:=fun d r=>aDp (by rw [gH,List.length_map,hM];exact hkl) d r
           have hl2:∀ r:List V,((aL ((fC Q p.seqs k).map SequenceR.c)).set k r).length=p.seqs.length:=fun r=>by rw [List.length_set,gH,List.length_map,hM]
           unfold awS;simp only [go_sem,simprocAttr,hn,hM,List.length_map];obtain ⟨q1,q2,q3⟩:=hsl s hsm;refine ⟨⟨by omega,by omega⟩,by omega,?_⟩;refine aR 10 .done rfl (by kernel_rfl) (by kernel_rfl) (by decide) ?_;simp only [go_sem,simprocAttr];refine ⟨_,aFs f g s.video q2.1 q2.2,?_⟩;simp only [go_sem,simprocAttr,hn,hM,List.length_map];refine ⟨⟨by omega,by omega⟩,by omega,by kernel_rfl,?_⟩;refine aR 10 .done rfl (by kernel_rfl) (by kernel_rfl) (by decide) ?_;simp only [go_sem,simprocAttr];refine ⟨_,aFs f g s.sound q3.1 q3.2,?_⟩;simp only [go_sem,simprocAttr,hn2,hl2,List.set_set];refine ⟨⟨by omega,by omega⟩,by omega,by kernel_rfl,?_⟩;refine aR 9 .done rfl (by kernel_rfl) (by kernel_rfl) (by decide) ?_;simp only [go_sem,simprocAttr];refine ⟨_,Lu s.cues q1.1 q1.2,?_⟩;simp only [go_sem,simprocAttr,hn2,hl2,List.set_set];have eM:=vJ Q hkl;rw [← hs] at eM;refine ⟨⟨by omega,by omega⟩,by omega,by kernel_rfl,k+1,aA ?_,by omega,by omega⟩;rw [sE SequenceR.c (Q s) (by rw [hQ];rfl),eM];simp only [go_sem,simprocAttr];simp [Zd,aZ (show k<9223372036854775807 by omega)]
          ·simp only [bxx] at hge;have:k=p.seqs.length:=by omega
           subst this;unfold awS;simp only [go_sem,simprocAttr];rw [vK];refine ⟨Bf,cR ?_ rfl⟩;simp only [go_sem,simprocAttr];rw [hQ];rfl
open Go.RowKit
set_option maxRecDepth 4000
def spareN:ByteArray:=⟨#[115,112,97,114,101]⟩
theorem aQc:bB spareN=true:=of_decide_eq_true (by kernel_rfl)
theorem aMf:((List.range 9).all fun i=>(dF ⟨#[109]⟩ (i:Int)).toList != spareN.toList)=true:=by kernel_rfl
theorem aQd {i:Nat} (hi:i<9):dF ⟨#[109]⟩ (i:Int)≠spareN:=by
 have h1:=List.all_eq_true.1 aMf i (List.mem_range.2 hi);intro h;rw [h] at h1;simp at h1
structure SpareP (p:ProjR) (M N:Nat):Prop where
 m1 : 1≤M
 m3:M≤3
 n1 : 1≤N
 n3:N≤3
 hm:p.media.length=M+1
 hn:p.seqs.length=N
 med:∀ x,x<M→MedGood x (p.media.getD x default)
 sp:p.media.getD M default = { p.media.getD 0 default with name:=spareN }
 seq:∀ x,x<N→SeqGood M x (p.seqs.getD x default)
theorem SpareP.name {p:ProjR} {M N:Nat} (h:SpareP p M N) {x:Nat} (hx:x≤M):(p.media.getD x default).name=if x<M then dF ⟨#[109]⟩ (x:Int) else spareN:=by
 by_cases h1:x<M
 ·rw [if_pos h1];exact (h.med x h1).name
 ·have:x=M:=by omega
  subst this;rw [if_neg h1,h.sp]
theorem SpareP.mok {p:ProjR} {M N:Nat} (h:SpareP p M N) {x:Nat} (hx:x≤M):dX (p.media.getD x default)=true∧dQ (p.media.getD x default)=true∧(p.media.getD x default).fit:=by
 by_cases h1:x<M
 ·have:=h.med x h1;exact ⟨this.ok,this.small,this.fit⟩
 ·have:x=M:=by omega
  subst this;have h0:=h.med 0 (by have:=h.m1;omega);rw [h.sp];have e:=h0.ok;unfold dX at e ⊢;simp only [Bool.and_eq_true] at e ⊢;exact ⟨⟨⟨⟨⟨⟨aQc,e.1.1.1.1.2⟩,e.1.1.1.2⟩,e.1.1.2⟩,e.1.2⟩,e.2⟩,h0.small,⟨h0.fit.seq,h0.fit.frames,h0.fit.channels,h0.fit.samples,h0.fit.cues⟩⟩
theorem SpareP.nm {p:ProjR} {M N:Nat} (h:SpareP p M N):(p.media.map MediumR.name).Nodup:=by
 have hm:=h.hm;have h3:=h.m3;refine List.pairwise_iff_getElem.2 fun i j hi hj hij e=>?_
 rw [List.length_map] at hi hj;simp only [List.getElem_map] at e;have e1:=h.name (x:=i) (by omega);have e2:=h.name (x:=j) (by omega);rw [aK hi] at e1;rw [aK hj] at e2;rw [e1,e2,if_pos (by omega)] at e
 by_cases hjM:j<M
 ·rw [if_pos hjM] at e;have:=aRj (by omega) (by omega) (.inl e);omega
 ·rw [if_neg hjM] at e;exact aQd (by omega) e
theorem SpareP.src {p:ProjR} {M N:Nat} (h:SpareP p M N) {j:Nat} (hj:j<N):∀ x∈dU (p.seqs.getD j default),SrcIn M j x:=fun x hx=>by
 unfold dU kW at hx;obtain ⟨c,hc,hx⟩:=List.mem_flatMap.1 (List.mem_filter.1 hx).1;unfold cQ at hc;obtain ⟨t,ht,hct⟩:=List.mem_flatten.1 hc;obtain ⟨g1,g2⟩:=(h.seq j hj).src t ht c hct;simp only [List.mem_cons,List.not_mem_nil,or_false] at hx;rcases hx with rfl | rfl<;>assumption
theorem SpareP.lay {p:ProjR} {M N:Nat} (h:SpareP p M N):Layered p:=by
 have hm:=h.hm;have hn:=h.hn;have h3:=h.m3;have hn3:=h.n3;refine ⟨?_,?_,h.nm,?_,by omega,fun j hj x hx k1=>?_,fun j hj x hx k2=>?_⟩
 ·unfold cL;rw [decide_eq_true (by omega:(p.media.length:Int)≤16),decide_eq_true (by omega:(p.seqs.length:Int)≤16),bS (d:=default) (p:=dQ) (fun i hi=>(h.mok (by omega)).2.1),bS (d:=default) (p:=cW) (fun i hi=>(h.seq i (by omega)).small)];rfl
 ·rw [bS (d:=default) (p:=dX) (fun i hi=>(h.mok (by omega)).1),bS (d:=default) (p:=cX) (fun i hi=>(h.seq i (by omega)).ok)];rfl
 ·refine List.pairwise_iff_getElem.2 fun i j hi hj hij e=>?_
  rw [List.length_map] at hi hj;simp only [List.getElem_map] at e;have e1:=(h.seq i (by omega)).name;have e2:=(h.seq j (by omega)).name;rw [aK hi] at e1;rw [aK hj] at e2;rw [e1,e2] at e;have:=aRj (by omega) (by omega) (.inr e);omega
 ·obtain ⟨i,hi,hnm⟩:=(h.src (by omega) x hx).m1 k1;exact ⟨i,by omega,by rw [hnm,h.name (by omega),if_pos (by omega)]⟩
 ·obtain ⟨i,hi,hnm⟩:=(h.src (by omega) x hx).s2 k2;exact ⟨i,by omega,by rw [hnm,(h.seq i (by omega)).name]⟩
theorem SpareP.fit {p:ProjR} {M N:Nat} (h:SpareP p M N):p.fit:=by
 have hm:=h.hm;have hn:=h.hn;refine ⟨fun y hy=>?_,fun y hy=>?_⟩
 ·obtain ⟨i,hi,rfl⟩:=aHh hy;exact (h.mok (by omega)).2.2
 ·obtain ⟨i,hi,rfl⟩:=aHh hy;exact (h.seq i (by omega)).fit
theorem aNm {α : Type} [Inhabited α] {nm : α → ByteArray} {l:List α} (h:(l.map nm).Nodup) {i:Nat} (hi:i<l.length):fJ nm (nm (l.getD i default)) l=some (l.getD i default):=by
 cases e:fJ nm (nm (l.getD i default)) l with
 | none=>exact absurd rfl (kC.1 e _ (aP hi))
 | some y =>
  obtain ⟨h1,h2⟩:=dZ e;obtain ⟨j,hj,rfl⟩:=aHh h1
  by_cases hij:i=j
  ·rw [hij]
  ·exfalso;have hi2:i<(l.map nm).length:=by rw [List.length_map];exact hi
   have hj2:j<(l.map nm).length:=by rw [List.length_map];exact hj
   have e3:(l.map nm)[j]=(l.map nm)[i]:=by
    rw [List.getElem_map,List.getElem_map, ← aK hi, ← aK hj];exact h2
   exact hij ((List.getElem_inj h).1 e3).symm
theorem aUj {α : Type} {l r:List α} (d : α) {i:Nat} (h:i<l.length):(l++r).getD i d=l.getD i d:=by
 rw [List.getD_eq_getElem?_getD,List.getD_eq_getElem?_getD,List.getElem?_append_left h]
theorem app_end {α : Type} {l:List α} (d x : α):(l ++ [x]).getD l.length d=x:=by
 rw [List.getD_eq_getElem?_getD,List.getElem?_append_right (Nat.le_refl _)];simp
theorem aR4 (L:List Int) : 1≤(jP L).media.length∧(jP L).media.length≤3∧1≤(jP L).seqs.length∧(jP L).seqs.length≤3:=by
 obtain ⟨M,N,m1,m3,s1,s3,h1,h2,h3,h4⟩:=Kq L;exact ⟨by omega,by omega,by omega,by omega⟩
def projSp (L:List Int):ProjR:=⟨(jP L).media ++ [{ (jP L).media.getD 0 default with name:=spareN }],(jP L).seqs⟩
def m0N:ByteArray:=⟨#[109,48]⟩
theorem aP0 {P:Program} {H:Heap} {f:FuncId} {m:Nat} {args:List V} {r:V} {nb:Blk} (hc:CIO P f 0 [] args r [(0,nb)] 1) (ha:V.pures args=true)
  {E:Env} {w:World} {vs:List Value} (hr:Rel w E H) (hm : ¬ E.U m) (hvs:RdVs w E args vs) :
  Calls P f vs.toArray w fun e w' => ∃ v E',e = .returned v∧Rel w' E' ((m,nb.ren (fun _=>m))::H)∧Ext E w E' w'∧RdV w' E' (r.ren (fun _=>m)) v ∧ ∀ q,E'.U q→E.U q∨q=m:=by
 obtain ⟨a1,a2⟩:=mZ (fun _=>m) args ha;refine (aB6 hc (g:=fun _=>m) (H:=H) (by omega) (fun i j hi hj he=>by omega) (fun j blk hb=>by cases hb) (fun j hj=>by omega) (by rw [a2];rfl) hr (fun j h1 h2 hU=>hm hU) (by rw [a1];exact hvs)).mono ?_;rintro e w' ⟨v,E',rfl,h1,h2,h3,h4⟩;refine ⟨v,E',rfl,h1 _ (fun j hj=>?_) (fun i hi=>?_),h2,h3,fun q hq=>(h4 q hq).imp id ?_⟩
 ·have:j=0:=by omega
  subst this;simp [Heap.look]
 ·have h5:=hi 0 (by omega);simp only [Heap.look];rw [if_neg (fun e=>h5 e.symm)]
 ·rintro ⟨j,_,_,rfl⟩;rfl
def aLy (P:Program) (m:Nat) (σ : St) (d:Option Tmp) (f:FuncId) (xs:List V) (K:St→Prop):Prop :=
 ∃ r nb,V.pures xs=true∧CIO P f 0 [] xs r [(0,nb)] 1∧K (({ σ with h:=(m,nb.ren (fun _=>m)) :: σ.h }:St).put d (r.ren (fun _=>m)))
theorem Ye {P:Program} {m:Nat} {σ : St} {d:Option Tmp} {f:FuncId} {xs:List V} {K:St→Prop} {r:V} {nb:Blk} (hc:CIO P f 0 [] xs r [(0,nb)] 1) (hp:V.pures xs=true)
  (hK:K (({ σ with h:=(m,nb.ren (fun _=>m)) :: σ.h }:St).put d (r.ren (fun _=>m)))):aLy P m σ d f xs K:=⟨r,nb,hp,hc,hK⟩
def noGd (g:Option (Nat×Bool)):Prop :=
 match g with
 | none=>True
 | some _=>False
def fsC (P:Program) (m:Nat) (σ : St) (o:Oper) (K:St→Prop):Prop :=
 noGd o.guard∧match o.op with
 | .call { callee := .value (.func f),args, .. }=>dC true (args.toList.map σ.ev) fun xs=>aLy P m σ o.dst f xs K
 | _=>False
theorem fsC_inv {P:Program} {m:Nat} {σ : St} {o:Oper} {K:St→Prop} (h:fsC P m σ o K):∃ f args tys,o.guard=none∧o.op = .call { callee := .value (.func f),args:=args,argTypes:=tys }∧dC true (args.toList.map σ.ev) fun xs=>aLy P m σ o.dst f xs K:=by
 obtain ⟨hg,h⟩:=h;have hg':o.guard=none:=by
  cases e:o.guard with
  | none=>rfl
  | some _=>rw [e] at hg;exact hg.elim
 split at h
 ·rename_i f args tys ho;exact ⟨f,args,_,hg',ho,h⟩
 ·exact h.elim
theorem aM6 {P:Program} {ops:List Oper} {n0 i:Nat} {o:Oper} {σ : St} {K:St→Prop} {f:FuncId} {args:Array Operand} {tys:Array TypeId} (hg:o.guard=none)
  (ho:o.op = .call { callee := .value (.func f),args:=args,argTypes:=tys }) (h:dC true (args.toList.map σ.ev) fun xs=>aLy P (n0+i) σ o.dst f xs K) :
  ∃ y blk,K (({ σ with h:=(n0+i,blk) :: σ.h }:St).put o.dst y) ∧ ∀ M,Vld P ops n0 i o σ ⟨o.dst,y, .new blk⟩ M:=by
 obtain ⟨ys,h1,hys⟩:=eJ h;obtain ⟨r,nb,hp,hc,hK⟩:=h1;refine ⟨_,_,hK,fun M=>⟨rfl,fun t blk h=>(by rcases h with h | ⟨_,h⟩<;>cases h),fun σ' hnx hev hh _ E a w next Q hr hlt hnU hn=>?_⟩⟩;have hargs:args.toList.map σ'.ev=args.toList.map σ.ev:=zM _ fun y hy=>hev y (by rw [ho];simp [Op.operands,Call.operands];exact .inr (by simpa using hy))
 have h2':dC true (args.toList.map σ'.ev) fun xs=>xs=ys:=by rw [hargs];exact hys _ rfl
 obtain ⟨ys2,h6,h7⟩:=nK h2';subst h6;have hvs:=h7 w E _ rfl (mG hr args.toList);have h8:=aP0 hc hp hr.rel hnU hvs;unfold OW;rw [if_pos (by simp [Region.wanted,hg])];refine ⟨?_,fun c hc=>by rw [ho] at hc;cases hc⟩;unfold Oper.wp;rw [pT ho rfl hc.1];simp only [Oper.upon];have e1:(args.toList.map a.eval).toArray=args.map a.eval:=by apply Array.ext';simp only [Array.toList_map]
 rw [e1] at h8;refine Calls.mono h8 ?_;rintro e' w' ⟨v,E',rfl,q2,q4,q5,q6⟩;have hr':RelF E' { σ' with h:=(n0+i,nb.ren (fun _=>n0+i)) :: σ'.h } a w':=⟨q2,fun q hq=>(q6 q hq).elim (hr.bound q) fun e=>by rw [e];show n0+i < σ'.nx;omega,q4.rdVs _ hr.fr,q4.defs hr.defers⟩
 refine hn _ w' E' _ ?_ (fun q=>?_) ?_ (by rw [fZ]) (hr'.put o.dst q5) q4 q6
 ·rw [dA]
 ·rw [eU];simp only [Heap.look,tch];split<;>rfl
 ·rw [dB]
def Vv (P:Program) (l:List Oper) (n0 i:Nat) (σ : St) (o:Oper) (b c:Bool) (K:CK→St→Prop):Prop :=
 match b,c with
 | true,_=>bsC P l σ o (K .new)
 | false,true=>fsC P (n0+i) σ o (K .new)
 | false,false=>wC P l n0 i σ o.dst o.op o.guard (ckind P o.op o.guard) (K (ckind P o.op o.guard))
def Tj (P:Program) (pu fs:List Nat) (l:List Oper) (n0:Nat) (fin:St→Prop):Nat→List Oper→Log→St→Prop
 | _,[],L, σ => Gr l n0 L=true∧fin σ
 | i,o::os,L, σ => Vv P l n0 i σ o (pu.contains i) (fs.contains i) (fun k=>Tj P pu fs l n0 fin (i+1) os (eX i σ k (kB o.op) L))
theorem gS {P:Program} {pu fs:List Nat} {l:List Oper} {n0:Nat} {fin:St→Prop}:∀ (os:List Oper) (i:Nat) (L0:Log) (σ : St),Tj P pu fs l n0 fin i os L0 σ → ∃ L rs σ',(∀ e∈L0,e∈L)∧Lv P l n0 L σ' i os rs σ ∧ Gr l n0 L=true∧fin σ'
 | [],i,L0, σ,h=>⟨L0,[], σ,fun _ h=>h,⟨rfl,rfl⟩,h.1,h.2⟩
 | o::os,i,L0, σ,h=>by
  have h:Vv P l n0 i σ o (pu.contains i) (fs.contains i) (fun k=>Tj P pu fs l n0 fin (i+1) os (eX i σ k (kB o.op) L0)):=h;unfold Vv at h;split at h
  ·obtain ⟨p,e,k,d,rows,hr,hp,hg,hK⟩:=aLs h;obtain ⟨L,rs, σ',hsub,hS,hc,hf⟩:=gS os (i+1) _ _ hK;exact ⟨L,_, σ',fun e he=>hsub e (fL he),⟨_,rs, σ.put o.dst (.t (.list k d rows)),eE i L,rfl,aPx hg hr hp,fun e he=>bM.1 he,dA,fun q=>by rw [eU];rfl,dB,fZ,hS⟩,hc,hf⟩
  ·obtain ⟨f,args,tys,hg,ho,hu⟩:=fsC_inv h;obtain ⟨y,blk,hK,hV⟩:=aM6 (ops:=l) hg ho hu;obtain ⟨L,rs, σ',hsub,hS,hc,hf⟩:=gS os (i+1) _ _ hK;refine ⟨L,_, σ',fun e he=>hsub e (fL he),⟨_,rs,({ σ with h:=(n0+i,blk) :: σ.h }:St).put o.dst y,eE i L,rfl,hV _,fun e he=>bM.1 he,dA,fun q=>?_,dB,fZ,hS⟩,hc,hf⟩;rw [eU];simp only [Heap.look,tch];split<;>rfl
  unfold wC at h;cases hk:ckind P o.op o.guard with
  | bad=>rw [hk] at h;exact h.elim
  | look =>
   rw [hk] at h;dsimp only at h;have hm:=Ef hk;obtain ⟨y,hK,hst⟩:=nT hm h;obtain ⟨L,rs, σ',hsub,hS,hc,hf⟩:=gS os (i+1) _ _ hK;have h2:dN P l σ o.dst o.op o.guard (fun s=>s = σ.put o.dst y):=hst σ (fun _ _=>rfl) (fun _ _ _ _ _ h=>h) (fun _ _ _ _ _=>rfl) _ rfl;obtain ⟨y',hy',hV⟩:=Ng (n0:=n0) (i:=i) (M:=eE i L) hm h2 (aHg hm hsub);refine ⟨L,_, σ',fun e he=>hsub e (fL he),⟨_,rs, σ.put o.dst y',eE i L,rfl,hV,fun e he=>bM.1 he,dA,fun q=>by rw [eU];rfl,dB,fZ,?_⟩,hc,hf⟩;rw [hy'];exact hS
  | new =>
   rw [hk] at h;dsimp only at h;have hg:=Jp hk;cases hr:yG P σ o.op with
   | none=>rw [hr] at h;exact h.elim
   | some pb =>
    obtain ⟨p,blk⟩:=pb;rw [hr] at h;obtain ⟨hp,hK⟩:=h;obtain ⟨L,rs, σ',hsub,hS,hc,hf⟩:=gS os (i+1) _ _ hK;have hV:Vld P l n0 i o σ ⟨o.dst, .own (n0+i), .new blk⟩ (eE i L):=Zg hg hr hp;refine ⟨L,_, σ',fun e he=>hsub e (fL he),⟨_,rs,({ σ with h:=(n0+i,blk) :: σ.h }:St).put o.dst (.own (n0+i)),eE i L,rfl,hV,fun e he=>bM.1 he,dA,fun q=>?_,dB,fZ,hS⟩,hc,hf⟩;rw [eU];simp only [Heap.look,tch];split<;>rfl
  | box =>
   rw [hk] at h;dsimp only at h;have hg:=Jq hk;obtain ⟨f,args,tys,ho⟩:∃ f args tys,o.op = .call { callee := .value (.func f),args:=args,argTypes:=tys }:=by
    unfold aU9 at h;split at h
    ·rename_i ho;exact ⟨_,_,_,ho⟩
    ·exact h.elim
   rw [ho] at h;have h:dC true (args.toList.map σ.ev) fun xs=>Gz P (n0+i) σ o.dst f xs _:=h
   obtain ⟨ys,h1,hys⟩:=eJ h;obtain ⟨t,cs,al,y,e,h2,hxs,hl,hp,ha,hB,hK⟩:=h1;obtain ⟨L,rs, σ',hsub,hS,hc,hf⟩:=gS os (i+1) _ _ hK;have hsub':∀ e∈eX i σ .box (kB o.op) L0,e∈L:=by rw [ho];exact hsub
   have h3:dC true (args.toList.map σ.ev) fun xs=>Gz P (n0+i) σ o.dst f xs (fun s=>s=(({ σ with h:=h2 }:St).put o.dst y)):=hys _ ⟨t,cs,al,y,e,h2,hxs,hl,hp,ha,hB,rfl⟩
   obtain ⟨y',e',h2',hy',hlk,hV⟩:=Zh (n0:=n0) (i:=i) (M:=eE i L) (ops:=l) hg ho h3 (fun x rr hal q hq=>by
    refine bM.2 (hsub' _ ?_);obtain ⟨t,rfl,ht⟩:=qJ hq;have:kB o.op = .tmp t::rr:=by rw [ho];exact hal
    rw [this,aAq];exact bX _ _ (.inr ⟨t,by simp,q,ht,rfl⟩))
   refine ⟨L,_, σ',fun e he=>hsub e (fL he),⟨_,rs,({ σ with h:=h2' }:St).put o.dst y',eE i L,rfl,hV,fun e he=>bM.1 he,dA,fun q=>?_,dB,fZ,by rw [hy'];exact hS⟩,hc,hf⟩;rw [eU];exact hlk q
  | store =>
   rw [hk] at h;dsimp only at h;have hg:=Af hk;obtain ⟨t,p,x,ho,hd⟩:∃ t p x,o.op = .store t p x∧o.dst=none:=by
    unfold storeC at h;split at h
    ·rename_i ho hd;exact ⟨_,_,_,ho,hd⟩
    ·exact h.elim
   rw [ho,hd] at h;have h:kR (rG P σ t p x) (storeC.kSt σ _):=h;cases hr:rG P σ t p x with
   | none=>rw [hr] at h;exact h.elim
   | some pb =>
    obtain ⟨pp,ib⟩:=pb;rw [hr] at h;obtain ⟨hp,hK⟩:=h;obtain ⟨L,rs, σ',hsub,hS,hc,hf⟩:=gS os (i+1) _ _ hK;have hsub':∀ e∈eX i σ .store [p] L0,e∈L:=hsub;obtain ⟨⟨old,hold⟩,hV⟩:=Ha (n0:=n0) (i:=i) (ops:=l) (M:=eE i L) hg hd ho hr hp (fun q hq=>by
     refine bM.2 (hsub' _ ?_);obtain ⟨t,rfl,ht⟩:=qJ hq;rw [Jb];exact bX _ _ (.inr ⟨t,by simp,q,ht,rfl⟩))
    refine ⟨L,_, σ',fun e he=>hsub' e (fL he),⟨_,rs, { σ with h := σ.h.set ib.1 ib.2 },eE i L,rfl,hV,fun e he=>bM.1 he,rfl,fun q=>?_,rfl,rfl,hS⟩,hc,hf⟩;show (σ.h.set ib.1 ib.2).look q=_
    rw [Heap.look_set _ _ _ hold];simp only [tch];split<;>rfl
  | app =>
   rw [hk] at h;dsimp only at h;have hg:=Jr hk;obtain ⟨s,x,t,t2,ht2,ho⟩:∃ s x t t2,rQ P t t2∧o.op = .call { callee := .builtin .append,args := #[s,x],argTypes := #[t,t2] }:=by
    unfold appC at h;split at h
    ·rename_i args tys ho;unfold appC.apL at h;split at h
     ·rename_i s x t t' hx ht;obtain ⟨ht2,_⟩:=h;have ha:args = #[s,x]:=by apply Array.ext';simpa using hx
      have hb:tys = #[t,t']:=by apply Array.ext';simpa using ht
      exact ⟨s,x,t,t',ht2,by rw [ho,ha,hb]⟩
     ·exact h.elim
    ·exact h.elim
   rw [ho] at h;have h:rQ P t t2∧kR (Uw P σ (P.elemT t) s x) (appC.kApp n0 i σ o.dst _):=h;cases hr:Uw P σ (P.elemT t) s x with
   | none=>rw [hr] at h;exact h.2.elim
   | some pb =>
    obtain ⟨pp,tb⟩:=pb;rw [hr] at h;obtain ⟨_,hp,hK⟩:=h;obtain ⟨L,rs, σ',hsub,hS,hc,hf⟩:=gS os (i+1) _ _ hK;have hsub':∀ e∈eX i σ .app [s,x] L0,e∈L:=hsub;have hV:Vld P l n0 i o σ ⟨o.dst, .own (n0+i),Mh tb.1 tb.2⟩ (eE i L):=Zj hg ht2 ho hr hp (fun q hq=>by
     refine bM.2 (hsub' _ ?_);obtain ⟨t,rfl,ht⟩:=qJ hq;rw [aAr];exact bX _ _ (.inr ⟨t,by simp,q,ht,rfl⟩)) (fun q hq=>by
     obtain ⟨u,hu⟩:=Fw (k := .app) (L:=L0) (l:=[s,x]) (by simp:x ∈ [s,x]) hq (i:=i);exact List.mem_map.2 ⟨(q,u),bM.2 (hsub' _ hu),rfl⟩)
    refine ⟨L,_, σ',fun e he=>hsub' e (fL he),⟨_,rs,({ σ with h:=(n0+i,tb.2)::Ee σ.h tb.1 }:St).put o.dst (.own (n0+i)),eE i L,rfl,hV,fun e he=>bM.1 he,dA,fun q=>?_,dB,fZ,hS⟩,hc,hf⟩;rw [eU];simp only [Heap.look];cases htb:tb.1 with
    | none =>
     simp only [Mh,tch,Ee];split<;>rfl
    | some q' =>
     simp only [Mh,tch,Ee];rw [Heap.look_del];split
     ·rfl
     ·split<;>rfl
theorem Sp {P:Program} {n0 id:Nat} {l:List Oper} {Q:Exit→St→Prop} {σ : St} (pu fs:List Nat) (m:Nat) (t:OT) (hm:P.follows .mixedOrders=true) (hS:aTb l m=true)
  (hT:jV l.toArray (l.length - m) (gX (List.range m) (Array.replicate l.length false)) t true=true) (hlen:m≤l.length)
  (h:Tj P pu fs l σ.nx (jU P l (Q .normal) t) 0 (l.take m) [] { σ with nx := σ.nx+m }):Lw P n0 id l.toArray Q σ := by
 intro E a w hr E0 w0 hU hE;refine wpIn_region_any hm ?_;have inv:HeadInv .any l.toArray l.toArray.size (Array.replicate l.length false):=by
  have:=mJ (ops:=l.toArray) (md := .any);simpa using this
 obtain ⟨L,rs, σT,_,hSt,hc,hf⟩:=gS _ _ _ _ h;have hdr:RelF E σ a { w with drawn:=w.drawn+1 }∧Ext E0 w0 E { w with drawn:=w.drawn+1 }:=by
  have hb:Below w.heap.size w { w with drawn:=w.drawn+1 }:=⟨rfl,rfl,rfl,Nat.le_refl _,fun _ _=>rfl⟩
  obtain ⟨k1,k2⟩:=hr.later hb (fun _ h=>h) (fun b hb => .inl hb) (fun b hb'=>hr.rel.slt b hb');exact ⟨k1,hE.trans k2⟩
 obtain ⟨hr1,hE1⟩:=hdr;have hr2:RelF E { σ with nx := σ.nx+m } a { w with drawn:=w.drawn+1 }:=⟨hr1.rel,fun i hi=>by have:=hr1.bound i hi;show i < σ.nx+m;omega,hr1.fr,hr1.defers⟩
 have hlenT:(l.take m).length=m:=by rw [List.length_take];omega
 have:=Te (Q:=Q) (fT:=l.length - m) hSt rfl hc hS hlen (fun listed hs hl=>by
  rw [xN hs hl];exact (wP _ t _ σT true hT hf).2 rfl) l.length (List.range m) (Array.replicate l.length false) { σ with nx := σ.nx+m } E a _ (by simp;omega) List.nodup_range (fun i=>by
   rw [List.mem_range,getD_replicate_false];simp) (fun i _=>getD_replicate_false _ _) inv (by
   rw [Gg];intro j hj;exact getD_replicate_false _ _) (fun q=>by
   rw [Bk];intro j r hj hX;rw [getD_replicate_false] at hX;cases hX) rfl rfl hr2 (fun q hq => .inl (hr1.bound q hq)) E0 w0 hE1
 simpa using this
section
variable {P:Program} {pu fs:List Nat} {l:List Oper} {n0 i:Nat} {fin:St→Prop} {L:Log} {σ : St}
@[go_sem] theorem cRunF_nil:Tj P pu fs l n0 fin i [] L σ = (Gr l n0 L=true∧fin σ):=rfl
@[go_sem] theorem cRunF_cons {o:Oper} {os:List Oper}:Tj P pu fs l n0 fin i (o::os) L σ = Vv P l n0 i σ o (pu.contains i) (fs.contains i) (fun k=>Tj P pu fs l n0 fin (i+1) os (eX i σ k (kB o.op) L)):=rfl
@[go_sem] theorem stepF_ft {o:Oper} {K:CK→St→Prop}:Vv P l n0 i σ o false true K=fsC P (n0+i) σ o (K .new):=rfl
@[go_sem] theorem stepF_false {o:Oper} {K:CK→St→Prop}:Vv P l n0 i σ o false false K=wC P l n0 i σ o.dst o.op o.guard (ckind P o.op o.guard) (K (ckind P o.op o.guard)):=rfl
end
attribute [go_sem] fsC noGd
theorem aHz {a:ByteArray} (h1:emp a=true):bB a=false:=by
 have e1:a=⟨#[]⟩:=toList_eq.1 h1;rw [e1];decide
theorem cREvent (e:EventR):aS Tryz.prog 188 [Hb e] (aT (jL e)):=by
 refine aH Tryz.X188 Tryz.func188 rfl Tryz.ntmps188 (by rw [Tryz.results188]) (aD _ ?_);simp only [go_sem,simprocAttr];refine aR 16 .done rfl (by kernel_rfl) (by kernel_rfl) (by decide) ?_;simp only [go_sem,simprocAttr];refine ⟨by kernel_rfl,?_⟩;refine ⟨_,fun _=>uR _,?_⟩;simp only [go_sem,simprocAttr];refine ⟨_,fun _=>uR _,?_⟩;simp only [go_sem,simprocAttr];refine ⟨_,fun _=>uR _,?_⟩;simp only [go_sem,simprocAttr];have a1:emp e.media=true→bB e.media=false:=aHz;have a2:emp e.file=true→bB e.file=false:=aHz;have a3:emp e.proxy=true→bB e.proxy=false:=aHz;have r:∀ x:ByteArray,(x.toList==(⟨#[]⟩:ByteArray).toList)=emp x:=fun _=>rfl
 have eV:jL e=if e.kind=1 then bB e.file&&emp e.media&&emp e.proxy
  else if e.kind=2 then bB e.file&&emp e.media&&emp e.proxy&&(e.sum==0)
  else if e.kind=3∨e.kind=4 then bB e.media&&bB e.file&&emp e.proxy&&(e.sum==0)
  else if e.kind=5 then bB e.media&&(emp e.proxy||bB e.proxy)&&emp e.file&&(e.sum==0)
  else false:=rfl
 rw [eV];simp only [r];generalize emp e.media=A at *;generalize emp e.file=B at *;generalize emp e.proxy=C at *;generalize bB e.media=P at *;generalize bB e.file=Q at *;generalize bB e.proxy=R at *;generalize (e.sum==0)=D at *;refine ⟨fun h=>?_,fun h=>?_⟩
 ·have:(if e.kind=1 then Q&&A&&C else if e.kind=2 then Q&&A&&C&&D else if e.kind=3∨e.kind=4 then P&&Q&&C&&D else if e.kind=5 then P&&(C||R)&&B&&D else false)=false:=by
   revert a1 a2 a3 h;cases A<;>cases B<;>cases C<;>cases P<;>cases Q<;>cases R<;>simp
  rw [this];unfold awS;simp only [go_sem,simprocAttr]
 ·unfold awS;simp only [go_sem,simprocAttr];refine ⟨fun h1=>?_,fun h1=>?_⟩
  ·simp only [bxx] at h1;rw [if_pos h1];have:(A && !B&&C)=(Q&&A&&C):=by
    revert a1 a2 a3 h;cases A<;>cases B<;>cases C<;>cases P<;>cases Q<;>cases R<;>simp
   unfold awS;simp only [go_sem,simprocAttr];rw [this]
  ·simp only [bxx] at h1;rw [if_neg h1];unfold awS;simp only [go_sem,simprocAttr];refine ⟨fun h2=>?_,fun h2=>?_⟩
   ·simp only [bxx] at h2;rw [if_pos h2];have:(A && !B&&C&&D)=(Q&&A&&C&&D):=by
     revert a1 a2 a3 h;cases A<;>cases B<;>cases C<;>cases P<;>cases Q<;>cases R<;>simp
    unfold awS;simp only [go_sem,simprocAttr];rw [this]
   ·simp only [bxx] at h2;rw [if_neg h2];have t34:(!A && !B&&C&&D)=(P&&Q&&C&&D):=by
     revert a1 a2 a3 h;cases A<;>cases B<;>cases C<;>cases P<;>cases Q<;>cases R<;>simp
    have t5:(!A&&B&&D)=(P&&(C||R)&&B&&D):=by
     revert a1 a2 a3 h;cases A<;>cases B<;>cases C<;>cases P<;>cases Q<;>cases R<;>simp
    unfold awS;simp only [go_sem,simprocAttr];refine ⟨fun h3=>?_,fun h3=>?_⟩
    ·simp only [bxx] at h3;rw [if_pos (.inl h3)];unfold awS;simp only [go_sem,simprocAttr];refine ⟨fun _=>?_,fun h'=>by simp only [bxx] at h';omega⟩;unfold awS;simp only [go_sem,simprocAttr];rw [t34]
    ·simp only [bxx] at h3;unfold awS;simp only [go_sem,simprocAttr];refine ⟨fun h4=>?_,fun h4=>?_⟩
     ·simp only [bxx] at h4;rw [if_pos (.inr h4)];unfold awS;simp only [go_sem,simprocAttr];rw [t34]
     ·simp only [bxx] at h4;rw [if_neg (by omega)];unfold awS;simp only [go_sem,simprocAttr];refine ⟨fun h5=>?_,fun h5=>?_⟩
      ·simp only [bxx] at h5;rw [if_pos h5];unfold awS;simp only [go_sem,simprocAttr];rw [t5]
      ·simp only [bxx] at h5;rw [if_neg h5];unfold awS;simp only [go_sem,simprocAttr]
abbrev vstep (r:StateR×List OutR×Int):V := .tup [fE r.1, .t (aQ5 r.2.1),aC r.2.2]
theorem xB (k:Int) {h:Heap}:Cq (vstep (⟨[],[]⟩,[],k)) (.tup [.agg [.t (.lit (.slice none 0 0)), .t (.lit (.slice none 0 0))], .t (.lit (.slice none 0 0)),aC k]) h :=
 vF (r' := .tup [.agg [.t (.lit (.slice none 0 0)), .t (.lit (.slice none 0 0))], .t (.lit (.slice none 0 0)),aC k]) rfl rfl (Cd (by exact ⟨nE (by exact ⟨jB,jB,trivial⟩),jB,pL,trivial⟩))
@[go_sem] abbrev RowO (l:List OutR):Blk := .row 140 2 (OutR.c default) (aL (l.map OutR.c))
theorem cRStep (s:StateR) (e:EventR) (hf:s.files.length≤65536) (hl:s.links.length≤65536):aS Tryz.prog 123 [fE s,Hb e] (vstep (eW s e)):=by
 refine dS Tryz.X123 Tryz.func123 rfl Tryz.ntmps123 (by rw [Tryz.results123]) (aD _ ?_);simp only [go_sem,simprocAttr];have hf':s.files.length≤maxLen:=by unfold maxLen;omega
 have hl':s.links.length≤maxLen:=by unfold maxLen;omega
 refine ⟨_,Tk s hf' hl',?_⟩;simp only [go_sem,simprocAttr];refine ⟨_,fun _=>cREvent e,?_⟩;simp only [go_sem,simprocAttr];refine ⟨fun h=>?_,fun h=>?_⟩
 ·have eS:eW s e=(⟨[],[]⟩,[],1):=by
   unfold eW;rw [if_neg];simp only [Bool.and_eq_true,not_and,Bool.not_eq_true];intro h1;rw [h1,Bool.not_true,Bool.false_or] at h;exact nt h
  rw [eS];unfold awS;simp only [go_sem,simprocAttr];exact xB 1
 ·rw [Bool.or_eq_false_iff] at h;have h1:=nf h.1;have h2:=nf h.2;unfold awS;simp only [go_sem,simprocAttr];refine aR 11 .done rfl (by kernel_rfl) (by kernel_rfl) (by decide) ?_;simp only [go_sem,simprocAttr];have he : 1≤e.kind∧e.kind≤5:=by
   apply Classical.byContradiction;intro hc;unfold jL at h2;rw [if_neg (by omega),if_neg (by omega),if_neg (by omega),if_neg (by omega)] at h2;cases h2
  have hsz:=(Dp s).1 h1;refine ⟨⟨by unfold maxLen;omega,by omega⟩,⟨by unfold maxLen;omega,by omega⟩,by kernel_rfl,?_⟩;refine cC (cChange s e hsz.nf hsz.nl he) [12,6,10] rfl (by omega) (by decide) ?_ rfl rfl rfl rfl ?_
  ·simp only [go_sem,simprocAttr,decide_true];exact ⟨rfl,rfl⟩
  ·simp only [go_sem,simprocAttr,List.getElem?_nil];obtain ⟨r,hr⟩:∃ r,r=bP s e:=⟨_,rfl⟩
   rw [← hr];have hsm:r.1=0→Ok r.2:=fun h0=>by rw [hr];exact (Dn hsz h2 (by rw [← hr];exact h0)).ok
   refine brW (b:=decide (r.1≠0)) ?_ ⟨fun h3=>?_,fun h3=>?_⟩
   ·rw [Bool.eq_iff_iff,decide_eq_true_eq,bne_iff_ne]
   ·have h4:=of_decide_eq_true h3;have eS:eW s e=(⟨[],[]⟩,[],r.1):=by
     unfold eW;rw [h1,h2,if_pos (by rfl), ← hr,if_neg h4]
    rw [eS];unfold awS;simp only [go_sem,simprocAttr];exact xB _
   ·have h4:r.1=0:=by simpa using h3
    have eS:eW s e=(r.2,Fe s r.2,0):=by
     unfold eW;rw [h1,h2,if_pos (by rfl), ← hr,if_pos h4]
    have ht:=hsm h4;rw [eS,h4];obtain ⟨t,htt⟩:∃ t,t=r.2:=⟨_,rfl⟩
    rw [← htt] at ht ⊢;have htf:t.files.length≤maxLen:=by have:=ht.nf;unfold maxLen;omega
    have htl:t.links.length≤maxLen:=by have:=ht.nl;unfold maxLen;omega
    have ht16:=ht.nl;unfold awS;simp only [go_sem,simprocAttr];refine Tv [14,15] ?_;simp only [go_sem,simprocAttr];refine aE (fun (k:Nat) σ => (fun τ : St => { τ with h:=(16,RowO (sU s t k))::(τ.h.del 15).del 14,nx:=17 }) (bD 9 (.own 16) (bD 10 (aC k) (aW [11,20,21,22,23,24,25,26,27,28,29,30,31,32,33,34,35,36,37,38,39,40,41,42,43,44,45,46,47,48,49,50,51,52,53,54,55,56,57,58,59,60,61,62,63] (aX σ))))) (fun k=>k≤t.links.length) (fun k=>t.links.length - k) 0 (aJ [(16,none),(12,some 12),(2,some 2),(1,some 1),(0,some 0)] ?_) (Nat.zero_le _) ?_
    ·simp only [go_sem,simprocAttr];exact ⟨rfl,by simp,by simp,by simp,by simp⟩
    ·intro k hk;refine aD _ ?_;simp only [go_sem,simprocAttr];refine ⟨fun hlt=>?_,fun hge=>?_⟩
     ·simp only [bxx] at hlt;have hkl:k<t.links.length:=by omega
      obtain ⟨n,hn⟩:∃ n,n=(t.links.getD k default).media:=⟨_,rfl⟩
      have eO:=Kt (s:=s) hkl;have oL:=Qe s t k;unfold awS;simp only [go_sem,simprocAttr];rw [← hn];refine ⟨⟨by omega,by omega⟩,?_⟩;refine aR 7 .done rfl (by kernel_rfl) (by kernel_rfl) (by decide) ?_;simp only [go_sem,simprocAttr];refine ⟨_,Ak s n hf' hl',?_⟩;simp only [go_sem,simprocAttr];refine ⟨_,Ak t n htf htl,?_⟩;simp only [go_sem,simprocAttr];refine ⟨by kernel_rfl,?_⟩;refine brW (b:=decide (status s n≠status t n)) ?_ ⟨fun h5=>?_,fun h5=>?_⟩
      ·rw [Bool.eq_iff_iff,decide_eq_true_eq,bne_iff_ne]
      ·have h6:=of_decide_eq_true h5;have eF:Ma s t (t.links.getD k default)=some ⟨n,status t n⟩:=by
        unfold Ma;rw [← hn,if_pos (by rw [bne_iff_ne];exact fun e=>h6 e.symm)]
       rw [eF] at eO;unfold awS;simp only [go_sem,simprocAttr];refine ⟨_,Ak t n htf htl,?_⟩;simp only [go_sem,simprocAttr];refine ⟨⟨by unfold maxLen;omega,by omega⟩,k+1,aJ [(16,some 25),(12,some 12),(2,some 2),(1,some 1),(0,some 0)] ?_,by omega,by omega⟩;simp only [go_sem,simprocAttr];rw [eO,List.map_append,aZ (show k<9223372036854775807 by omega)];simp;rfl
      ·have h6:status s n=status t n:=by simpa using h5
       have eF:Ma s t (t.links.getD k default)=none:=by
        unfold Ma;rw [← hn,h6,if_neg (by simp)]
       rw [eF] at eO;unfold awS;simp only [go_sem,simprocAttr];refine ⟨k+1,aA ?_,by omega,by omega⟩;simp only [go_sem,simprocAttr];rw [eO,aZ (show k<9223372036854775807 by omega)];simp
     ·simp only [bxx] at hge;have:k=t.links.length:=by omega
      subst this;unfold awS;simp only [go_sem,simprocAttr];rw [show sU s t t.links.length=Fe s t from by unfold sU Fe;rw [List.take_length]];refine cR ?_ rfl;simp only [go_sem,simprocAttr]
open Go.RowKit
set_option maxRecDepth 4000
@[go_sem] abbrev Row23 (l:List Int):Blk := .row 40 1 (Cj 0) (aL (l.map Cj))
@[go_sem] abbrev GoodF (acc:StateR×List OutR×List Int) (k:Nat) (s:StateR) (σ : St):St :=
 {fr:=(((σ.fr.take 15++List.replicate (σ.fr.length - 15) V.dead).set 7 (.own 4)).set 8 (.own 3)).set 11 (aC k),
  h:=[(4, .row 140 2 (OutR.c default) (aL (acc.2.1.map OutR.c))),(3,Row23 acc.2.2),(2, .box [.t (wR acc.1.files), .t (wQ acc.1.links)]),(1, .box [.t (wR []), .t (wQ [])]),(0, .box [.t (wR s.files), .t (wQ s.links)])],nx:=5 }
theorem rS {s:StateR} {l:List EventR} {k:Nat} (h:k<l.length):bR s (l.take (k+1))=gV (bR s (l.take k)) (l.getD k default):=by
 unfold bR;rw [List.take_succ_eq_append_getElem h,List.foldl_append,aK h];rfl
theorem aCp (acc:StateR×List OutR×List Int) (e:EventR):(gV acc e).2.2.length=acc.2.2.length+1:=by
 unfold gV;split<;>simp
theorem yW (s:StateR) (l:List EventR):∀ k,k≤l.length→(bR s (l.take k)).2.2.length=k
 | 0,_=>rfl
 | k+1,h=>by rw [rS (by omega),aCp,yW s l k (by omega)]
theorem Ds {s:StateR} (e:EventR) (hs:Ok s):(eW s e).2.1.length≤16:=by
 by_cases h:(eW s e).2.2=0
 ·rw [(Zq hs h).2];exact Nat.le_trans (List.length_filterMap_le _ _) (Zq hs h).1.ok.nl
 ·unfold eW at h ⊢;split
  ·rename_i h1;rw [if_pos h1] at h;split
   ·rename_i h2;rw [if_pos h2] at h;exact absurd rfl h
   ·simp
  ·simp
theorem Pm {acc:StateR×List OutR×List Int} (e:EventR) (h:Ok acc.1):Ok (gV acc e).1:=by
 unfold gV;split
 ·rename_i h0;exact (Zq h h0).1.ok
 ·exact h
theorem Dj {s:StateR} (hs:Ok s) (l:List EventR):∀ k,k≤l.length→Ok (bR s (l.take k)).1∧(bR s (l.take k)).2.1.length≤16*k
 | 0,_=>⟨hs,Nat.le_refl _⟩
 | k+1,h=>by
  obtain ⟨h1,h2⟩:=Dj hs l k (by omega);rw [rS (by omega)];refine ⟨Pm _ h1,?_⟩;have h3:=Ds (l.getD k default) h1;unfold gV;split
  ·simp only [List.length_append];omega
  ·simp only;omega
theorem cRRun (s:StateR) (es:List EventR) (hs:Ok s) (hes:es.length≤65536):aS Tryz.prog 54 [fE s, .t (Zp es)] (.tup [fE (bR s es).1, .t (aQ5 (bR s es).2.1), .t (bY (bR s es).2.2)]):=by
 refine aH Tryz.X54 Tryz.func54 rfl Tryz.ntmps54 (by rw [Tryz.results54]) (aD _ ?_);have hnf:=hs.nf;have hnl:=hs.nl;simp only [go_sem,simprocAttr];refine ⟨_,Tk s (by unfold maxLen;omega) (by unfold maxLen;omega),?_⟩;rw [(Dp s).2 hs];simp only [go_sem,simprocAttr];refine aR 10 .done rfl (by kernel_rfl) (by kernel_rfl) (by decide) ?_;simp only [go_sem,simprocAttr];refine ⟨⟨by unfold maxLen;omega,by omega⟩,⟨by unfold maxLen;omega,by omega⟩,by kernel_rfl,?_⟩;have hel:es.length≤maxLen:=by unfold maxLen;omega
 refine aE (fun (k:Nat) σ => GoodF (bR s (es.take k)) k s σ) (fun k=>k≤es.length) (fun k=>es.length - k) 0 (aJ [(4,none),(3,none),(2,some 2),(1,some 1),(0,some 0)] ?_) (Nat.zero_le _) ?_
 ·simp only [go_sem,simprocAttr];simp [bR];exact ⟨rfl,rfl⟩
 ·intro k hk;refine aD _ ?_;simp only [go_sem,simprocAttr];refine ⟨fun hlt=>?_,fun hge=>?_⟩
  ·simp only [bxx] at hlt;have hlt':k<es.length:=by omega
   unfold awS;simp only [go_sem,simprocAttr];refine aR 14 .done rfl (by kernel_rfl) (by kernel_rfl) (by decide) ?_;simp only [go_sem,simprocAttr];obtain ⟨hcur,houts⟩:=Dj hs es k hk;have hcf:=hcur.nf;have hcl:=hcur.nl;refine ⟨⟨by omega,by omega⟩,_,cRStep _ _ (by omega) (by omega),?_⟩;simp only [go_sem,simprocAttr];have hacc:(bR s (List.take k es)).snd.snd.length=k:=yW s es k hk;have hnext:=rS (s:=s) hlt';have hso:=Ds (es.getD k default) hcur;generalize es.getD k default=ev at *;refine ⟨by kernel_rfl,⟨by rw [hacc];unfold maxLen;omega,by rw [hacc];omega⟩,fun h0=>?_,fun h0=>?_⟩
   ·simp only [bxx] at h0;unfold awS;simp only [go_sem,simprocAttr];refine aR 6 .done rfl (by kernel_rfl) (by kernel_rfl) (by decide) ?_;simp only [go_sem,simprocAttr];refine ⟨⟨by unfold maxLen;omega,by omega⟩,by kernel_rfl,k+1,aJ [(4,some 24),(3,some 20),(2,some 2),(1,some 1),(0,some 0)] ?_,by omega,by omega⟩;have hA:bR s (List.take (k+1) es)=((eW (bR s (List.take k es)).1 ev).1,(bR s (List.take k es)).2.1++(eW (bR s (List.take k es)).1 ev).2.1,(bR s (List.take k es)).2.2 ++ [0]):=by rw [hnext,gV,if_pos h0]
    simp only [go_sem,simprocAttr,hA,h0];simp [cJ hlt' hel];rfl
   ·simp only [bxx] at h0;unfold awS;simp only [go_sem,simprocAttr];refine ⟨k+1,aJ [(4,some 4),(3,some 20),(2,some 2),(1,some 1),(0,some 0)] ?_,by omega,by omega⟩;have hA:bR s (List.take (k+1) es)=((bR s (List.take k es)).1,(bR s (List.take k es)).2.1,(bR s (List.take k es)).2.2 ++ [(eW (bR s (List.take k es)).1 ev).2.2]):=by rw [hnext,gV,if_neg h0]
    simp only [go_sem,simprocAttr,hA];simp [cJ hlt' hel];rfl
  ·simp only [bxx] at hge;unfold awS;simp only [go_sem,simprocAttr];have:k=es.length:=by omega
   subst this;simp only [List.take_length]
open Go.RowKit
set_option maxRecDepth 4000
def bF0:ByteArray:=⟨#[102,48]⟩
def bF1:ByteArray:=⟨#[102,49]⟩
def bF2:ByteArray:=⟨#[102,50]⟩
def bM0:ByteArray:=⟨#[109,48]⟩
def bM1:ByteArray:=⟨#[109,49]⟩
def bM2:ByteArray:=⟨#[109,50]⟩
def rK:ByteArray:=⟨#[115,112,97,114,101]⟩
def gP:ByteArray:=⟨#[]⟩
def Kr (l:List Int) (n:Int):Int:=l.getD n.toNat 0
def Cs (l:List ByteArray) (n:Int):ByteArray:=l.getD n.toNat gP
def ev1 (L:List Int) (k:Nat):EventR×Nat :=
 let kind:=Kr [1,1,1,2,3,3,3,4,5] (aB L k 9)
 let f:=Cs [bF0,bF1,bF2] (aB L (k+1) 3)
 let m:=Cs [bM0,bM1,bM2,rK] (aB L (k+2) 4)
 let p:=Cs [gP,rK,bM1,rK] (aB L (k+3) 4)
 if kind=1 then (⟨1,gP,f,gP,1+aB L (k+4) 2⟩,k+5)
 else if kind=2 then (⟨2,gP,f,gP,0⟩,k+4)
 else if kind=5 then (⟨5,m,gP,p,0⟩,k+4)
 else (⟨kind,m,f,gP,0⟩,k+4)
def Sf (L:List Int):Nat→Nat→List EventR×Nat
 | 0,k=>([],k)
 | c+1,k=>((ev1 L k).1::(Sf L c (ev1 L k).2).1,(Sf L c (ev1 L k).2).2)
def Mg (L:List Int) (k:Nat) (n:Int):List EventR×Nat:=Sf L (aB L k (n+1)).toNat (k+1)
abbrev StE (L:List Int) (c:Nat) (es:List EventR) (k:Nat) (σ : St):St :=
 {fr:=(σ.fr.set 5 (.own 1)).set 6 (aC c),h:=[(1, .row 69 5 (EventR.c default) (aL (es.map EventR.c))),(0, .box [.t (bY L),aC k])],nx:=2 }
theorem cEvents (L:List Int) (k:Nat) (n:Int) (hk:k≤1024) (h1 : 0≤n) (h2:n≤64):wH Tryz.prog 55 [.t (bY L),aC k] [aC n] (.t (Zp (Mg L k n).1)) [.t (bY L),aC (Mg L k n).2]:=by
 refine pH Tryz.X55 Tryz.func55 rfl Tryz.ntmps55 (by rw [Tryz.results55]) (cG fun hf=>aD _ ?_);have w1:IntKind.i64.wrap (n+1)=n+1:=wrap64 (by omega) (by omega);simp only [go_sem,simprocAttr,w1];refine aQ (bK L k (n+1) (by omega) (by omega) (by omega)) rfl rfl rfl ?_;obtain ⟨N,hN⟩:∃ N:Nat,aB L k (n+1)=N:=⟨(aB L k (n+1)).toNat,by have:=(aF (L:=L) (k:=k) (show 1≤n+1 by omega)).1;omega⟩
 have hNl:N≤64:=by have:=(aF (L:=L) (k:=k) (show 1≤n+1 by omega)).2;omega
 simp only [go_sem,simprocAttr,hN];refine aE (fun (x:Nat×List EventR×Nat) σ => StE L x.1 x.2.1 x.2.2 σ) (fun x=>x.2.1.length+x.1≤64∧x.2.2+5*x.1≤4096∧x.2.1++(Sf L x.1 x.2.2).1=(Mg L k n).1∧(Sf L x.1 x.2.2).2=(Mg L k n).2) (fun x=>x.1) (N,[],k+1) (aJ [(1,none),(0,some 0)] ?_) ⟨by simp only [List.length_nil];omega,by simp only;omega,?_⟩ ?_
 ·simp only [go_sem,simprocAttr];simp
 ·simp only [Mg,hN,Int.toNat_natCast,List.nil_append,and_self]
 ·rintro ⟨c,es,q⟩ ⟨hc,hq,he1,he2⟩;simp only at hc hq he1 he2;refine aD _ ?_;simp only [go_sem,simprocAttr];refine ⟨fun hlt=>?_,fun hge=>?_⟩
  all_goals simp only [decide_eq_true_eq,decide_eq_false_iff_not] at *
  ·obtain ⟨c,rfl⟩:∃ c',c=c'+1:=⟨c - 1,by omega⟩
   simp only [Sf] at he1 he2;unfold awS;simp only [go_sem,simprocAttr];refine aQ (bK L q 9 (by omega) (by omega) (by omega)) rfl rfl rfl ?_;have t9:=aF (L:=L) (k:=q) (n:=9) (by omega);simp only [go_sem,simprocAttr];refine ⟨by omega,by omega,?_⟩;refine aR 18 .done rfl (by kernel_rfl) (by kernel_rfl) (by decide) ?_;simp only [go_sem,simprocAttr];generalize hkd : [1,1,1,2,3,3,3,4,5].getD (aB L q 9).toNat (0:Int)=kd;refine gE (bK L (q+1) 3 (by omega) (by omega) (by omega)) rfl rfl rfl ?_;have t3:=aF (L:=L) (k:=q+1) (n:=3) (by omega);simp only [go_sem,simprocAttr];refine ⟨by omega,by omega,?_⟩;generalize hff : [_,_,_].getD (aB L (q+1) 3).toNat _=ff;refine gE (bK L (q+2) 4 (by omega) (by omega) (by omega)) rfl rfl rfl ?_;have t4:=aF (L:=L) (k:=q+2) (n:=4) (by omega);simp only [go_sem,simprocAttr];refine ⟨by omega,by omega,?_⟩;generalize hmm : [_,_,_,_].getD (aB L (q+2) 4).toNat _=mm;refine gE (bK L (q+3) 4 (by omega) (by omega) (by omega)) rfl rfl rfl ?_;have t5:=aF (L:=L) (k:=q+3) (n:=4) (by omega);simp only [go_sem,simprocAttr];refine ⟨by omega,by omega,?_⟩;generalize hpp : [_,_,_,_].getD (aB L (q+3) 4).toNat _=pp;have mxl:es.length+1≤maxLen:=by unfold maxLen;omega
   have wc:IntKind.i64.wrap (((c+1:Nat):Int) - 1)=(c:Int):=by rw [wrap64 (by omega) (by omega)];omega
   have t6:=aF (L:=L) (k:=q+4) (n:=2) (by omega);have w6:IntKind.i64.wrap (1+aB L (q+4) 2)=1+aB L (q+4) 2:=wrap64 (by omega) (by omega);have w7:IntKind.u64.wrap (1+aB L (q+4) 2)=1+aB L (q+4) 2:=Za (by omega) (by omega);have hk15:kd=1∨kd=2∨kd=3∨kd=4∨kd=5:=by
    have:(aB L q 9).toNat=0∨(aB L q 9).toNat=1∨(aB L q 9).toNat=2∨(aB L q 9).toNat=3∨(aB L q 9).toNat=4∨(aB L q 9).toNat=5∨(aB L q 9).toNat=6∨(aB L q 9).toNat=7∨(aB L q 9).toNat=8:=by omega
    rcases this with h | h | h | h | h | h | h | h | h<;>rw [h] at hkd<;>simp at hkd<;>omega
   refine ⟨by kernel_rfl,fun hk1=>?_,fun hk1=>?_⟩
   ·unfold awS;simp only [go_sem,simprocAttr];refine aQ (bK L (q+4) 2 (by omega) (by omega) (by omega)) rfl rfl rfl ?_;simp only [go_sem,simprocAttr,w6,w7];refine ⟨⟨mxl,by omega⟩,(c,es ++ [⟨kd,gP,ff,gP,1+aB L (q+4) 2⟩],q+5),aJ [(1,some 23),(0,some 0)] ?_,?_,by simp only;omega⟩
    ·simp only [go_sem,simprocAttr,wc];simp [EventR.c,gP]
    ·have hev:ev1 L q=(⟨kd,gP,ff,gP,1+aB L (q+4) 2⟩,q+5):=by
      unfold ev1 Kr Cs bF0 bF1 bF2 bM0 bM1 bM2 rK gP;simp only [hkd,hff,hmm,hpp];simp only [beq_iff_eq] at *;subst hk1;rfl
     rw [hev] at he1 he2;exact ⟨by simp only [List.length_append,List.length_cons,List.length_nil];omega,by simp only;omega,by rw [← he1];simp,he2⟩
   ·unfold awS;simp only [go_sem,simprocAttr];refine ⟨fun hk2=>?_,fun hk2=>?_⟩
    ·unfold awS;simp only [go_sem,simprocAttr];refine ⟨⟨mxl,by omega⟩,(c,es ++ [⟨kd,gP,ff,gP,0⟩],q+4),aJ [(1,some 23),(0,some 0)] ?_,?_,by simp only;omega⟩
     ·simp only [go_sem,simprocAttr,wc];simp [EventR.c,gP]
     ·have hev:ev1 L q=(⟨kd,gP,ff,gP,0⟩,q+4):=by
       unfold ev1 Kr Cs bF0 bF1 bF2 bM0 bM1 bM2 rK gP;simp only [hkd,hff,hmm,hpp];simp only [beq_iff_eq,beq_eq_false_iff_ne,ne_eq] at *;subst hk2;rfl
      rw [hev] at he1 he2;exact ⟨by simp only [List.length_append,List.length_cons,List.length_nil];omega,by simp only;omega,by rw [← he1];simp,he2⟩
    ·unfold awS;simp only [go_sem,simprocAttr];refine ⟨fun hk3=>?_,fun hk3=>?_⟩
     ·unfold awS;simp only [go_sem,simprocAttr,hk3];refine ⟨⟨mxl,by omega⟩,(c,es ++ [⟨kd,mm,ff,gP,0⟩],q+4),aJ [(1,some 23),(0,some 0)] ?_,?_,by simp only;omega⟩
      ·simp only [go_sem,simprocAttr,wc];simp [EventR.c,gP]
      ·have hev:ev1 L q=(⟨kd,mm,ff,gP,0⟩,q+4):=by
        unfold ev1 Kr Cs bF0 bF1 bF2 bM0 bM1 bM2 rK gP;simp only [hkd,hff,hmm,hpp];simp only [beq_iff_eq,beq_eq_false_iff_ne,ne_eq] at *;subst hk3;rfl
       rw [hev] at he1 he2;exact ⟨by simp only [List.length_append,List.length_cons,List.length_nil];omega,by simp only;omega,by rw [← he1];simp,he2⟩
     ·unfold awS;simp only [go_sem,simprocAttr,hk3];refine ⟨fun hk4=>?_,fun hk4=>?_⟩
      ·unfold awS;simp only [go_sem,simprocAttr,hk4];refine ⟨⟨mxl,by omega⟩,(c,es ++ [⟨kd,mm,ff,gP,0⟩],q+4),aJ [(1,some 23),(0,some 0)] ?_,?_,by simp only;omega⟩
       ·simp only [go_sem,simprocAttr,wc];simp [EventR.c,gP]
       ·have hev:ev1 L q=(⟨kd,mm,ff,gP,0⟩,q+4):=by
         unfold ev1 Kr Cs bF0 bF1 bF2 bM0 bM1 bM2 rK gP;simp only [hkd,hff,hmm,hpp];simp only [beq_iff_eq,beq_eq_false_iff_ne,ne_eq] at *;subst hk4;rfl
        rw [hev] at he1 he2;exact ⟨by simp only [List.length_append,List.length_cons,List.length_nil];omega,by simp only;omega,by rw [← he1];simp,he2⟩
      ·unfold awS;simp only [go_sem,simprocAttr];refine ⟨fun hk5=>?_,fun hk5=>?_⟩
       ·unfold awS;simp only [go_sem,simprocAttr,hk5];refine ⟨⟨mxl,by omega⟩,(c,es ++ [⟨kd,mm,gP,pp,0⟩],q+4),aJ [(1,some 23),(0,some 0)] ?_,?_,by simp only;omega⟩
        ·simp only [go_sem,simprocAttr,wc];simp [EventR.c,gP]
        ·have hev:ev1 L q=(⟨kd,mm,gP,pp,0⟩,q+4):=by
          unfold ev1 Kr Cs bF0 bF1 bF2 bM0 bM1 bM2 rK gP;simp only [hkd,hff,hmm,hpp];simp only [beq_iff_eq,beq_eq_false_iff_ne,ne_eq] at *;subst hk5;rfl
         rw [hev] at he1 he2;exact ⟨by simp only [List.length_append,List.length_cons,List.length_nil];omega,by simp only;omega,by rw [← he1];simp,he2⟩
       ·simp only [beq_eq_false_iff_ne,ne_eq] at *;omega
  ·unfold awS;simp only [go_sem,simprocAttr];have:c=0:=by omega
   subst this;simp only [Sf,List.append_nil] at he1 he2;rw [he1,he2];simp
theorem aF0 (L:List Int):∀ (c k:Nat),(Sf L c k).1.length=c
 | 0,_=>rfl
 | c+1,k=>by simp [Sf,aF0 L c]
theorem evs_len (L:List Int) (k:Nat) {n:Int} (h1 : 0≤n):(Mg L k n).1.length≤n.toNat:=by
 unfold Mg;rw [aF0];have:=(aF (L:=L) (k:=k) (show 1≤n+1 by omega)).2;omega
theorem cMadeS (L:List Int) (n:Int) (h1 : 0≤n) (h2:n≤64):CMk Tryz.prog 17 [.t (bY L),aC n] (fE (bR ⟨[],[]⟩ (Mg L 0 n).1).1) [.t (bY L),aC (Mg L 0 n).2]:=by
 refine cmk_of Tryz.X17 Tryz.func17 rfl Tryz.ntmps17 (by rw [Tryz.results17]) (aD _ ?_);have hl:=evs_len L 0 h1;simp only [go_sem,simprocAttr];refine aQ (cEvents L 0 n (by omega) h1 h2) rfl rfl rfl ?_;simp only [go_sem,simprocAttr];refine ⟨_,wB (.cons (nE (by exact ⟨jB,jB,trivial⟩)) (.cons pL .nil)) (cRRun ⟨[],[]⟩ _ aHd (by omega)),?_⟩;simp only [go_sem,simprocAttr]
end Go.Proofs.YtbfnemkngoaeeaaGreat
namespace Go.Proofs.YtbfnemkngoaeeaaGreat
open Go.Proofs Go.RowKit Go.Maps Go.Sort Go.Shelf
def Gb:Go.Shelf.Ren:=⟨fun | 7=>60 | 10=>130 | n=>n,fun | 23=>127 | 26=>9 | 3=>9 | 28=>132 | 0=>0 | 27=>131 | 33=>206 | 4=>4 | n=>n,fun | n=>n⟩
theorem aS9:Go.Proofs.SlLaysZ.n7 Tryz.prog Gb where
 mixed:=by kernel_rfl
 f7 := ⟨"maps.Keys[map[string]string,string,string]", by decide, Tryz.func60.trans (congrArg some (by kernel_rfl))⟩
 f10 := ⟨"maps.Keys[map[string]string,string,string]$1", by decide, Tryz.func130.trans (congrArg some (by kernel_rfl))⟩
 t0:=Tryz.underlying0
 a0:=Tryz.isAgg0
 z0:=Tryz.sizeOf0
 v0:=Tryz.zeroValue0
 t4:=Tryz.underlying4
 a4:=Tryz.isAgg4
 z4:=Tryz.sizeOf4
 v4:=Tryz.zeroValue4
 t23:=Tryz.underlying127
 a23:=Tryz.isAgg127
 z23:=Tryz.sizeOf127
 v23:=Tryz.zeroValue127
 t26:=Tryz.underlying9
 a26:=Tryz.isAgg9
 z26:=Tryz.sizeOf9
 v26:=Tryz.zeroValue9
 t27:=Tryz.underlying131
 a27:=Tryz.isAgg131
 z27:=Tryz.sizeOf131
 v27:=Tryz.zeroValue131
 t28:=Tryz.underlying132
 a28:=Tryz.isAgg132
 z28:=Tryz.sizeOf132
 v28:=Tryz.zeroValue132
 t33:=Tryz.underlying206
 a33:=Tryz.isAgg206
 z33:=Tryz.sizeOf206
 v33:=Tryz.zeroValue206
open Go.RowKit
set_option maxRecDepth 4000
open Go.Maps Go.Sort Go.Shelf Go.WideShapes
set_option maxHeartbeats 2000000 in
theorem aGq {w:World} {b0 r:Nat} {ty:TypeId} {entries:Array MapEntry} {clock:Nat} {ks:List ByteArray} (hb0:w.heap[b0]? = some (.cells #[.map (some r)] ty (0,0))) (hr0:w.heap[r]? = some (.map entries clock))
  (hbn:(∀ e∈entries.toList,e.born<clock)∧(entries.toList.map (·.born)).Nodup) (hks:entries.toList.map (·.key)=ks.map Value.string) (hnd:ks.Nodup) (hsz:∀ k∈ks,k.size≤maxLen) (hlen:ks.length≤1000000) :
  Calls Tryz.prog 59 #[.func (.func 130) #[] #[.pointer (some ⟨b0,0,none⟩)]] w fun e w' => ∃ v,e = .returned v ∧
   w'.ownsRow w.heap.size 9 1 v (cV ks).length ((cV ks).map Value.string)∧Below w.heap.size w w':=by
 have hesz:entries.size=ks.length:=by
  have:=congrArg List.length hks;simpa using this
 have hkind:Tryz.prog.underlying 9=some .string:=Tryz.underlying9;have hmem:∀ x∈entries.toList, ∃ s∈ks,x.key = .string s:=fun x hx=>by
  have h1:x.key∈entries.toList.map (·.key):=List.mem_map_of_mem hx;rw [hks,List.mem_map] at h1;obtain ⟨s,h2,h3⟩:=h1;exact ⟨s,h2,h3.symm⟩
 let R:Value→Option (DataW Unit×List MemPlace):=fun _=>some (.nil,[])
 have hstr:∀ l:List ByteArray,l.Nodup→(l.map Value.string).Nodup:=fun l h=>by
  refine List.pairwise_map.2 (h.imp fun hne e=>hne ?_);injection e
 have hF:Go.WideElems.Fit Tryz.prog 9 R entries clock:=⟨by rw [hesz];unfold maxLen;omega,⟨hbn.1,hbn.2,by rw [hks];exact hstr _ hnd⟩,fun x hx=>by
  obtain ⟨s,h1,h2⟩:=hmem x hx;exact ⟨_,Go.WideElems.rd_mk (key:=x.key) (val:=x.val) (born:=x.born) (by rw [h2];exact aAu hkind (hsz s h1)) rfl⟩⟩
 have hown:w.ownsMap Tryz.prog 9 R r ks.length (.map ((entries.toList.map (Go.WideElems.rg Tryz.prog 9 R)).foldr DataW.insert [])):=⟨entries,clock,hr0,hF,by omega,rfl⟩
 have hcell:w.cell? ⟨b0,0,none⟩=some (.map (some r)):=by simp [World.cell?,hb0]
 have hlt:b0<w.heap.size:=(Array.getElem?_eq_some_iff.1 hb0).1;have hsize:Maps.size (DataW.map ((entries.toList.map (Go.WideElems.rg Tryz.prog 9 R)).foldr DataW.insert []):DataW Unit)=ks.length:=by
  show List.length _=_
  rw [List.Perm.length_eq (sorted_perm _),List.length_map,Array.length_toList,hesz]
 have hseq:=AnyZ.keys_gives (ρ := Gb) { aS9 with } Fence.wide 2 trivial rfl (by omega) b0 r ks.length _ w hlt hcell hown;rw [hsize] at hseq;have hperm:(strKeys (DataW.map ((entries.toList.map (Go.WideElems.rg Tryz.prog 9 R)).foldr DataW.insert []):DataW Unit)).Perm (ks.map fun s=>s.data.toList):=by
  show (List.map _ _).Perm _
  refine (List.Perm.map _ (sorted_perm _)).trans ?_;rw [List.map_map];have:entries.toList.map ((fun p:Lit×DataW Unit=>strOf p.1) ∘ Go.WideElems.rg Tryz.prog 9 R)=(entries.toList.map (·.key)).map fun v=>(Dd v).data.toList:=by
   rw [List.map_map];refine List.map_congr_left fun x hx=>?_
   obtain ⟨s,h1,h2⟩:=hmem x hx;simp only [Function.comp_apply];have h3:Go.WideElems.rd Tryz.prog 9 R x=some (.string s.data.toList,DataW.nil):=Go.WideElems.rd_mk (key:=x.key) (val:=x.val) (born:=x.born) (kl := .string s.data.toList) (yv:=(DataW.nil,[])) (by rw [h2];exact aAu hkind (hsz s h1)) rfl;rw [Go.WideElems.rg_of h3,h2];rfl
  rw [this,hks,List.map_map];exact .refl _
 have hS:=AnyZ.sorted_in (ρ := qH) Vw Fence.wide 5 trivial trivial trivial trivial rfl (by omega) (aJy _) (enters_of Tryz.func129 (by kernel_rfl) rfl) 130 #[.pointer (some ⟨b0,0,none⟩)] trivial (enters_of Tryz.func130 (by kernel_rfl) rfl) _ ks.length (by unfold maxLen;omega) (by omega) w hseq;refine (callsIn_wide.1 hS).mono ?_;rintro e w' ⟨v,ss,rfl,hp,hrow,hnil,hb⟩;refine ⟨v,rfl,?_,hb⟩;have e1:ss.mergeSort leB=(ks.map fun s=>s.data.toList).mergeSort leB:=mergeSort_of_perm (hp.trans hperm);have e2:(ss.mergeSort leB).map encStr=(cV ks).map Value.string:=by
  rw [e1,Qw];rfl
 have e3:ss.length=(cV ks).length:=by
  rw [(hp.trans hperm).length_eq,(dY ks).length_eq,List.length_map]
 rw [← e3, ← e2];exact hrow
theorem tM (es:List (Value×V)) (ks:List ByteArray) (d:List T) (hk:es.map (·.1)=ks.map Value.string) (hnd:ks.Nodup) (hsz:∀ k∈ks,k.size≤maxLen) (hlen:ks.length≤1000000) :
  CIO Tryz.prog 59 2 [(0, .box [.own 1]),(1, .map es)] [.clo 130 [.own 0]] (.t (.list 1 d ((cV ks).map fun k=>[.lit (.string k)]))) [(0, .box [.own 1]),(1, .map es)] 2:=by
 refine ⟨Tryz.X59,fun E w vs hr hbd hargs=>?_⟩;obtain ⟨hv0,hat0,b0,vs0,ty,rfl,hheap0,hrd0,hone0⟩:=hr.has 0 (.box [.own 1]) rfl;obtain ⟨hv1,hat1,r,entries,clock,rfl,hheap1,hrd1,hborn⟩:=hr.has 1 (.map es) rfl;have h0:∃ u,vs0 = #[u]∧RdV w E (.own 1) u:=by
  obtain ⟨vl⟩:=vs0
  match vl,hrd0 with
  | [u],h=>exact ⟨u,rfl,by simpa only [RdVs,and_true] using h⟩
  | [],h=>simp only [RdVs] at h
  | _::_::_,h=>simp only [RdVs,and_false] at h
 obtain ⟨u,rfl,hu⟩:=h0;simp only [RdV] at hu;have hu':=hu.2.2 _ (.inl hat1);subst hu';obtain ⟨v,rfl,hv⟩:∃ v,vs = [v]∧RdV w E (.clo 130 [.own 0]) v:=by
  match vs,hargs with
  | [v],h=>exact ⟨v,rfl,by simpa only [RdVs,and_true] using h⟩
  | [],h=>simp only [RdVs] at h
  | _::_::_,h=>simp only [RdVs,and_false] at h
 simp only [RdV] at hv;obtain ⟨cs,rfl,hcs⟩:=hv;obtain ⟨p,rfl,hp⟩:∃ p,cs = #[p]∧RdV w E (.own 0) p:=by
  obtain ⟨cl⟩:=cs
  match cl,hcs with
  | [u],h=>exact ⟨u,rfl,by simpa only [RdVs,and_true] using h⟩
  | [],h=>simp only [RdVs] at h
  | _::_::_,h=>simp only [RdVs,and_false] at h
 simp only [RdV] at hp;have hb2:=hp.2.2 _ (.inl hat0);subst hb2;refine (aGq hheap0 hheap1 hborn (by rw [Hs hrd1,hk]) hnd hsz hlen).mono ?_;rintro e w' ⟨v,rfl,hrow,hb⟩;have hnew:∀ b,aU v=some b→w.heap.size≤b∧b<w'.heap.size:=fun b hb'=>by
  rcases hrow.2 with ⟨rfl,_⟩ | ⟨g,cap,cur,rfl,h1,h2,_⟩
  ·cases hb'
  ·injection hb' with hb';subst hb';exact ⟨h1,(Array.getElem?_eq_some_iff.1 h2).1⟩
 obtain ⟨k1,k2⟩:=hr.later (S':=fun b=>E.S b∨aU v=some b) hb (fun _ h => .inl h) (fun b h=>h.imp id fun h=>(hnew b h).1) (fun b h=>h.elim (fun h=>Nat.lt_of_lt_of_le (hr.slt b h) hb.size) fun h=>(hnew b h).2);refine ⟨v,_,rfl,k1,hbd,k2,?_⟩;simp only [RdV];have hsz':∀ s∈cV ks,s.size≤maxLen:=fun s hs=>hsz s ((dY ks).mem_iff.1 hs)
 refine Ay (S:=fun _=>False) (e:=9) (cells:=(cV ks).map Value.string) ?_ ?_ ?_ (fun _ h=>h.elim) (fun b hb' => .inr hb')
 ·rw [List.length_map];exact ownsRow_base_a hrow (Nat.zero_le _)
 ·have:(List.map (fun k=>[T.lit (.string k)]) (cV ks)).flatten=(cV ks).map fun s=>T.lit (.string s):=by
   induction cV ks with
   | nil=>rfl
   | cons x l ih=>rw [List.map_cons,List.flatten_cons,ih];rfl
  rw [this];exact Hr hsz'
 ·intro x hx;obtain ⟨s,_,rfl⟩:=List.mem_map.1 hx;rfl
theorem Wj {α : Type} [Inhabited α] (c : α → List T) {L:List α} {j:Nat} (hj:j<L.length) {r:List T} (h:r=c (L.getD j default)):(L.map c).set j r=L.map c:=by
 refine sN (by rw [List.length_map];exact hj) ?_;rw [List.getElem_map,h,aK hj]
theorem Tr (l:List CueR) (hl:l.length≤65536) (hll:∀ c∈l,c.lines.length≤65536):aS Tryz.prog 126 [.t (gC l)] (.t (gC l)):=by
 refine aH Tryz.X126 Tryz.func126 rfl Tryz.ntmps126 (by rw [Tryz.results126]) (aD _ ?_);simp only [go_sem,simprocAttr];refine cC (aLn l hl) [] rfl (by omega) (by decide) ?_ rfl rfl rfl rfl ?_
 ·simp only [go_sem,simprocAttr]
 ·simp only [go_sem,simprocAttr,List.getElem?_nil];refine aE (fun (k:Nat) σ => bD 9 (aC k) (aW [4,10,11,12,13,14,15,16,17,18,19,20,21,22] (aX σ))) (fun k=>k≤l.length) (fun k=>l.length - k) 0 (aA ?_) (Nat.zero_le _) ?_
  ·simp only [go_sem,simprocAttr];simp
  ·intro k hk;refine aD _ ?_;simp only [go_sem,simprocAttr];refine ⟨fun hlt=>?_,fun hge=>?_⟩
   ·simp only [bxx] at hlt;have hkl:k<l.length:=by omega
    unfold awS;simp only [go_sem,simprocAttr];refine ⟨⟨by omega,by omega⟩,by omega,mR (Yu _ (hll _ (aP hkl))) rfl ?_⟩;simp only [go_sem,simprocAttr];rw [Wj CueR.c hkl (by rfl)];refine ⟨⟨by omega,by omega⟩,by omega,k+1,aA ?_,by omega,by omega⟩;simp only [go_sem,simprocAttr];simp [aZ (show k<9223372036854775807 by omega)]
   ·simp only [bxx] at hge;unfold awS;simp only [go_sem,simprocAttr]
set_option maxHeartbeats 4000000 in
theorem Gv (ts:List (List ClipR)) (h1:ts.length≤65536) (h2:∀ t∈ts,t.length≤65536 ∧ ∀ c∈t,c.chan.length≤65536):aS Tryz.prog 127 [.t (cK ts)] (.t (cK ts)):=by
 refine aH Tryz.X127 Tryz.func127 rfl Tryz.ntmps127 (by rw [Tryz.results127]) (aD _ ?_);simp only [go_sem,simprocAttr];refine cC (aFp ts h1) [] rfl (by omega) (by decide) ?_ rfl rfl rfl rfl ?_
 ·simp only [go_sem,simprocAttr]
 ·simp only [go_sem,simprocAttr,List.getElem?_nil];refine aE (fun (i:Nat) σ => bD 10 (aC i) (aW [4,5,11,12,13,14,15,16,17,18,19,20,21,22,23,24,25,26,27,28,29,30,31,32,33,34,35,36,37,38,39,40,41,42,43,44,45,46] (aX σ))) (fun i=>i≤ts.length) (fun i=>ts.length - i) 0 (aA ?_) (by omega) ?_
  ·simp only [go_sem,simprocAttr];simp
  ·intro i hi;refine aD _ ?_;simp only [go_sem,simprocAttr];refine ⟨fun hlt=>?_,fun hge=>?_⟩
   ·simp only [bxx] at hlt;have hil:i<ts.length:=by omega
    obtain ⟨L,hL⟩:∃ L,L=ts.getD i default:=⟨_,rfl⟩
    have hLm:L∈ts:=by rw [hL];exact aP hil
    obtain ⟨q1,q2⟩:=h2 L hLm;have hnt:∀ d,nth d (ts.map bL) i=bL L:=fun d=>by
     unfold nth;rw [List.getElem?_map,List.getElem?_eq_getElem hil,hL,aK hil];rfl
    unfold awS;simp only [go_sem,simprocAttr,hnt,List.length_map];refine ⟨⟨by omega,by omega⟩,by omega,cC (aFr L q1) [] rfl (by omega) (by decide) ?_ rfl rfl rfl rfl ?_⟩
    ·simp only [go_sem,simprocAttr]
    ·simp only [go_sem,simprocAttr,List.getElem?_nil,List.length_map];obtain ⟨R,hR⟩:∃ R,R=(aL (ts.map bL)).set i [V.own 1]:=⟨_,rfl⟩
     have hRl:R.length=ts.length:=by rw [hR,yX]
     have hRn:∀ d,mN d R i = [V.own 1]:=fun d=>by rw [hR];exact vC bL hil d _
     have hRo:wW R=true:=by rw [hR];exact Dm _ _ (by rw [List.length_map];exact hil)
     rw [← hR];simp only [go_sem,simprocAttr,hRl,hRn];refine ⟨⟨by omega,by omega⟩,by omega,⟨by omega,by omega⟩,by omega,?_⟩;refine aE (fun (j:Nat) σ => bD 26 (aC j) (aW [5,27,28,29,30,31,32,33,34,35,36,37,38,39,40,41,42,43,44,45] (aX σ))) (fun j=>j≤L.length) (fun j=>L.length - j) 0 (aA ?_) (by omega) ?_
     ·simp only [go_sem,simprocAttr,hRo];refine ⟨by simp,by simp,?_⟩;rw [hR];exact uU (k:=1) _ _ (by rfl) _ _
     ·intro j hj;refine aD _ ?_;simp only [go_sem,simprocAttr];refine ⟨fun hlt2=>?_,fun hge2=>?_⟩
      ·simp only [bxx] at hlt2;have hjl:j<L.length:=by omega
       unfold awS;simp only [go_sem,simprocAttr];refine aR 17 .done rfl (by kernel_rfl) (by kernel_rfl) (by decide) ?_;simp only [go_sem,simprocAttr,hRl,hRn,List.length_map];refine ⟨⟨by omega,by omega⟩,by omega,⟨by omega,by omega⟩,by omega,⟨by omega,by omega⟩,by omega,_,aU4 _ (q2 _ (aP hjl)),?_⟩;simp only [go_sem,simprocAttr,List.length_map];rw [wV ClipR.c hjl (by rfl)];refine ⟨⟨by omega,by omega⟩,by omega,by kernel_rfl,j+1,aA ?_,by omega,by omega⟩;simp only [go_sem,simprocAttr,hRo];refine ⟨⟨by simp,by simp,?_⟩,by rw [aZ (show j<9223372036854775807 by omega)];simp⟩;rw [hR];exact uU (k:=1) _ _ (by rfl) _ _
      ·simp only [bxx] at hge2;have:j=L.length:=by omega
       subst this;unfold awS;simp only [go_sem,simprocAttr];refine ⟨i+1,aJ [(0,some 0)] ?_,by omega,by omega⟩;simp only [go_sem,simprocAttr];have hk:aV [(1,rL L),(0, .row 27 1 (bL []) R)] 6 (.own 1)=some (jX L):=by
        simp only [go_sem,simprocAttr]<;>rfl
       have hfR:lendRs (aV [(1,rL L),(0, .row 27 1 (bL []) R)] 6) R=some (ts.map bL):=by
        conv=>lhs;rw [hR]
        rw [Dt (fun a=>by simp only [aV]) (by rw [← hR];exact hk),Wj bL hil (by rw [← hL];rfl)]
       have hfr:reachRs (jY [(1,rL L),(0, .row 27 1 (bL []) R)] 8) R = [1]:=by
        conv=>lhs;rw [hR]
        rw [yZ (fun x=>wY _ _ x) _ _ (by rw [List.length_map];exact hil)];simp only [go_sem,simprocAttr]
       rw [hfR,hfr,aZ (show i<9223372036854775807 by omega)];simp only [go_sem,simprocAttr];simp
   ·simp only [bxx] at hge;unfold awS;simp only [go_sem,simprocAttr]
theorem aJb (p:ProjR) (hp:p.media.length≤65536) (hq:p.seqs.length≤65536) (hm:∀ m∈p.media,m.cues.length≤65536 ∧ ∀ c∈m.cues,c.lines.length≤65536)
  (hs:∀ s∈p.seqs,(s.cues.length≤65536 ∧ ∀ c∈s.cues,c.lines.length≤65536)∧(s.video.length≤65536 ∧ ∀ t∈s.video,t.length≤65536 ∧ ∀ c∈t,c.chan.length≤65536)∧(s.sound.length≤65536 ∧ ∀ t∈s.sound,t.length≤65536 ∧ ∀ c∈t,c.chan.length≤65536)) :
  aS Tryz.prog 58 [dT p] (dT p):=by
 refine aH Tryz.X58 Tryz.func58 rfl Tryz.ntmps58 (by rw [Tryz.results58]) (aD _ ?_);simp only [go_sem,simprocAttr];refine Sp [] [2,5] 9 .done rfl (by kernel_rfl) (by kernel_rfl) (by decide) ?_;simp only [go_sem,simprocAttr];refine Ye (aLp p.media hp) rfl ?_;simp only [go_sem,simprocAttr];refine Ye (aFq p.seqs hq) rfl ?_;simp only [go_sem,simprocAttr];refine ⟨by kernel_rfl,?_⟩;refine aE (fun (k:Nat) σ => bD 17 (aC k) (aW [4,7,8,9,10,11,12,13,18,19,20,21,22,23,24,25,26,27,28,29,30,31,32] (aX σ))) (fun k=>k≤p.media.length) (fun k=>p.media.length - k) 0 (aA ?_) (Nat.zero_le _) ?_
 ·simp only [go_sem,simprocAttr];simp
 ·intro k hk;refine aD _ ?_;simp only [go_sem,simprocAttr];refine ⟨fun hlt=>?_,fun hge=>?_⟩
  ·simp only [bxx] at hlt;have hkl:k<p.media.length:=by omega
   unfold awS;simp only [go_sem,simprocAttr];refine aR 13 .done rfl (by kernel_rfl) (by kernel_rfl) (by decide) ?_;simp only [go_sem,simprocAttr];refine ⟨⟨by omega,by omega⟩,by omega,_,Tr _ (hm _ (aP hkl)).1 (hm _ (aP hkl)).2,?_⟩;simp only [go_sem,simprocAttr];rw [Fp,wV MediumR.c hkl (by rfl)];refine ⟨⟨by omega,by omega⟩,by omega,by kernel_rfl,k+1,aA ?_,by omega,by omega⟩;simp only [go_sem,simprocAttr];simp [aZ (show k<9223372036854775807 by omega)]
  ·simp only [bxx] at hge;have:k=p.media.length:=by omega
   subst this;unfold awS;simp only [go_sem,simprocAttr];refine aE (fun (k:Nat) σ => bD 36 (aC k) (aW [4,5,6,18,19,20,21,22,23,24,25,26,27,28,29,30,31,32,37,38,39,40,41,42,43,44,45,46,47,48,49,50,51,52,53,54,55,56,57,58,59,60,61,62,63,64,65,66,67] (aX σ))) (fun k=>k≤p.seqs.length) (fun k=>p.seqs.length - k) 0 (aA ?_) (Nat.zero_le _) ?_
   ·simp only [go_sem,simprocAttr];simp
   ·intro k hk;refine aD _ ?_;simp only [go_sem,simprocAttr];refine ⟨fun hlt=>?_,fun hge=>?_⟩
    ·simp only [bxx] at hlt;have hkl:k<p.seqs.length:=by omega
     obtain ⟨q1,q2,q3⟩:=hs _ (aP (d:=default) hkl);have hn2:=vC SequenceR.c hkl;have hl2:=yX SequenceR.c p.seqs k;unfold awS;simp only [go_sem,simprocAttr];refine ⟨⟨by omega,by omega⟩,?_⟩;refine aR 27 .done rfl (by kernel_rfl) (by kernel_rfl) (by decide) ?_;simp only [go_sem,simprocAttr];refine ⟨hkl,_,Gv _ q2.1 q2.2,?_⟩;simp only [go_sem,simprocAttr];refine ⟨hkl,_,Gv _ q3.1 q3.2,?_⟩;simp only [go_sem,simprocAttr];refine ⟨hkl,_,Tr _ q1.1 q1.2,?_⟩;simp only [go_sem,simprocAttr,hn2,hl2,List.set_set];rw [wV SequenceR.c hkl (by rfl)];refine ⟨hkl,hkl,hkl,by kernel_rfl,k+1,aA ?_,by omega,by omega⟩;simp only [go_sem,simprocAttr];simp [aZ (show k<9223372036854775807 by omega)]
    ·simp only [bxx] at hge;have:k=p.seqs.length:=by omega
     subst this;unfold awS;simp only [go_sem,simprocAttr]
open Go.RowKit
set_option maxRecDepth 4000
def mF (s:StateR) (L:List ByteArray):List ByteArray:=L.filter fun n=>decide (status s n≠1)
def eK (s:StateR) (a:ProjR×List ByteArray) (n:ByteArray):ProjR×List ByteArray :=
 if status s (dM s n)=1∧(fM a.1 n (dM s n)).2=0 then ((fM a.1 n (dM s n)).1,a.2) else (a.1,a.2 ++ [n])
def gF (s:StateR) (p:ProjR) (K:List ByteArray):ProjR×List ByteArray:=K.foldl (eK s) (p,[])
def dW (s:StateR) (p:ProjR) (name:ByteArray):ProjR×List ByteArray×Int :=
 if fK s=false then (⟨[],[]⟩,[],1) else
 if (eG p name).2≠0 then (⟨[],[]⟩,[],(eG p name).2) else
 ((gF s p (cV (mF s (eG p name).1))).1,cV (gF s p (cV (mF s (eG p name).1))).2,0)
def zD (s:StateR) (L:List ByteArray):List Ent:=L.map fun n=>(.string n,false,[gN (dM s n)])
theorem zC (s:StateR) (n:ByteArray) (L:List ByteArray):tEs (zD s (n::L))=(.string n,bT (dM s n))::tEs (zD s L):=rfl
theorem zB (s:StateR) (L:List ByteArray):(tEs (zD s L)).map (·.1)=L.map Value.string:=by
 unfold zD tEs;rw [List.map_map,List.map_map];rfl
theorem zU (a b:ByteArray):mA (.string a) (.string b)=decide (a=b):=rfl
theorem aKd (s:StateR) {n:ByteArray}:∀ {L:List ByteArray},n ∉ L→Cg (.string n) (bT (dM s n)) (tEs (zD s L))=tEs (zD s (L ++ [n]))
 | [],_=>rfl
 | a::L,h=>by
  rw [List.mem_cons,not_or] at h;have ih:=aKd s (L:=L) h.2;rw [zC,List.cons_append,zC, ← ih];show (if mA (.string n) (.string a)=true then _ else _)=_
  rw [if_neg (show ¬ mA (.string n) (.string a)=true by rw [zU,decide_eq_true_eq];exact h.1)]
theorem aDd (s:StateR) {n:ByteArray}:∀ {L:List ByteArray},n∈L→kY (.string n) (tEs (zD s L))=some (bT (dM s n))
 | [],h=>by cases h
 | a::L,h=>by
  rw [zC];show (if mA (.string n) (.string a)=true then _ else _)=_
  by_cases e:n=a
  ·subst e;rw [if_pos (show mA (.string n) (.string n)=true by rw [zU,decide_eq_true_eq])]
  ·rw [if_neg (show ¬ mA (.string n) (.string a)=true by rw [zU,decide_eq_true_eq];exact e)];exact aDd s (by rcases List.mem_cons.1 h with h | h;exact absurd h e;exact h)
theorem aKc (s:StateR) {n:ByteArray}:∀ {L:List ByteArray},L.Nodup→rmE (.string n) (tEs (zD s L))=tEs (zD s (L.filter fun x=>decide (x≠n)))
 | [],_=>rfl
 | a::L,h=>by
  rw [List.nodup_cons] at h;have ih:=aKc s (n:=n) h.2;rw [zC];show (if mA (.string n) (.string a)=true then _ else _)=_
  by_cases e:n=a
  ·subst e;rw [if_pos (show mA (.string n) (.string n)=true by rw [zU,decide_eq_true_eq]),List.filter_cons_of_neg (by simp)];congr 2;refine (List.filter_eq_self.2 fun x hx=>?_).symm;rw [decide_eq_true_eq];exact fun h1=>h.1 (h1 ▸ hx)
  ·rw [if_neg (show ¬ mA (.string n) (.string a)=true by rw [zU,decide_eq_true_eq];exact e),List.filter_cons_of_pos (by simpa using fun h1=>e h1.symm),ih];rfl
theorem Hu (s:StateR) (L:List ByteArray):gL .string (tEs (zD s L))=true:=by
 induction L with
 | nil=>rfl
 | cons a L ih =>
  rw [zC];simp only [gL,ih,Bool.and_true];rfl
theorem wL {p:ProjR} (h:p.fit) {name:ByteArray} (h0:(eG p name).2=0):FilmOk p∧(eG p name).1.Nodup∧(∀ x∈(eG p name).1,x∈p.media.map MediumR.name∧x.size≤maxLen)∧(eG p name).1.length≤16:=by
 unfold eG at h0 ⊢
 by_cases hv:bV p≠0
 ·rw [if_pos hv] at h0;exact absurd h0 hv
 ·rw [if_neg hv] at h0 ⊢;have hv0:bV p=0:=by omega
  have hok:=sH h hv0;cases hs:eH p.seqs name with
  | none=>rw [hs] at h0;simp at h0
  | some q =>
   simp only;have hcm:=Gq hok 5 name ([],[]) (fun x hx=>by cases hx);have hsm:=yN hv0;have hm:∀ x∈cV (nW (fX p 5 name ([],[])).1),x∈p.media.map MediumR.name∧x.size≤maxLen:=fun x hx=>Fq hok (hcm x (qU.1 ((dY _).mem_iff.1 hx)))
   refine ⟨hok,(dY _).nodup_iff.2 (mM _),hm,?_⟩;have:=Qm ((dY _).nodup_iff.2 (mM (fX p 5 name ([],[])).1)) fun x hx=>(hm x hx).1
   rw [List.length_map] at this;omega
theorem aM9 {p:ProjR} (h:p.fit) (f g:ByteArray):(fM p f g).1.fit:=by
 have z:(⟨[],[]⟩:ProjR).fit:=⟨fun m hm=>(by cases hm),fun s hs=>(by cases hs)⟩
 unfold fM;split
 ·exact z
 ·split
  ·split
   ·exact aM8 h f g
   ·exact z
  ·exact z
theorem vD (s:StateR) (p:ProjR) {K:List ByteArray} {k:Nat} (h:k<K.length):gF s p (K.take (k+1))=eK s (gF s p (K.take k)) (K.getD k default):=by
 unfold gF;rw [bE h,List.foldl_append];rfl
theorem Pq {s:StateR} {p:ProjR} (h:p.fit) (K:List ByteArray):∀ k,k≤K.length→(gF s p (K.take k)).1.fit
 | 0,_=>h
 | k+1,hk=>by
  rw [vD s p (by omega)];have ih:=Pq (s:=s) h K k (by omega);unfold eK;split
  ·exact aM9 ih _ _
  ·exact ih
theorem yY (s:StateR) (p:ProjR) (K:List ByteArray):∀ k,k≤K.length → ∀ x∈(gF s p (K.take k)).2,x∈K.take k
 | 0,_=>fun x hx=>by cases hx
 | k+1,hk=>fun x hx=>by
  rw [vD s p (by omega)] at hx;rw [bE (by omega),List.mem_append];unfold eK at hx;split at hx
  ·exact .inl (yY s p K k (by omega) x hx)
  ·rcases List.mem_append.1 hx with hx | hx
   ·exact .inl (yY s p K k (by omega) x hx)
   ·exact .inr hx
theorem zH {α : Type} [Inhabited α] {K:List α} (h:K.Nodup) {k:Nat} (hk:k<K.length):K.getD k default ∉ K.take k:=by
 intro hm;obtain ⟨i,hi,e⟩:=List.getElem_of_mem hm;rw [List.length_take] at hi;rw [List.getElem_take,aK hk] at e;have:=(List.getElem_inj h).1 e;omega
theorem Vh (s:StateR) {L:List ByteArray} {k:Nat} (h:k<L.length):mF s (L.take (k+1))=if status s (L.getD k default)≠1 then mF s (L.take k) ++ [L.getD k default] else mF s (L.take k):=by
 unfold mF;rw [bE h,List.filter_append]
 by_cases e:status s (L.getD k default)=1
 ·rw [if_neg (by simpa using e),List.filter_cons_of_neg (by simpa using e)];simp
 ·rw [if_pos e,List.filter_cons_of_pos (by simpa using e)];rfl
def aS5 (s:StateR) (p:ProjR) (K:List ByteArray) (k:Nat) (n:ByteArray):Bool := !sZ n (K.take k)||sZ n (gF s p (K.take k)).2
def left (s:StateR) (p:ProjR) (U K:List ByteArray) (k:Nat):List ByteArray:=U.filter (aS5 s p K k)
theorem qD {s:StateR} {p:ProjR} {K:List ByteArray} {k:Nat} {n:ByteArray}:aS5 s p K k n=true ↔ (n ∉ K.take k∨n∈(gF s p (K.take k)).2):=by
 unfold aS5;rw [Bool.or_eq_true,sY,Bool.not_eq_true', ← Bool.not_eq_true,sY]
theorem aNh (s:StateR) (p:ProjR) (U K:List ByteArray):left s p U K 0=U:=by
 unfold left;refine List.filter_eq_self.2 fun x _=>?_
 exact qD.2 (.inl (by simp))
theorem aS3 {s:StateR} {p:ProjR} {U K:List ByteArray} {k:Nat} (hK:K.Nodup) (hU:∀ x∈K,x∈U) (hk:k<K.length):K.getD k default∈left s p U K k:=by
 unfold left;exact List.mem_filter.2 ⟨hU _ (aP hk),qD.2 (.inl (zH hK hk))⟩
theorem Xs {s:StateR} {p:ProjR} {U K:List ByteArray} {k:Nat} (hK:K.Nodup) (hk:k<K.length) (h:gF s p (K.take (k+1))=((gF s p (K.take k)).1,(gF s p (K.take k)).2 ++ [K.getD k default])):left s p U K (k+1)=left s p U K k:=by
 unfold left;refine List.filter_congr fun x _=>?_
 rw [Bool.eq_iff_iff,qD,qD,h,bE hk];simp only [List.mem_append,List.mem_singleton,not_or]
 by_cases e:x=K.getD k default
 ·rw [e];simp only [not_true_eq_false,and_false,or_true,true_iff];exact .inl (zH hK hk)
 ·simp only [e,not_false_eq_true,and_true,or_false]
theorem aNj {s:StateR} {p:ProjR} {U K:List ByteArray} {k:Nat} (hK:K.Nodup) (hk:k<K.length) (h:(gF s p (K.take (k+1))).2=(gF s p (K.take k)).2):left s p U K (k+1)=(left s p U K k).filter fun x=>decide (x≠K.getD k default):=by
 unfold left;rw [List.filter_filter];refine List.filter_congr fun x _=>?_
 rw [Bool.eq_iff_iff,Bool.and_eq_true,decide_eq_true_eq,qD,qD,h,bE hk];simp only [List.mem_append,List.mem_singleton,not_or];have hn:=zH hK hk;have hsub:=yY s p K k (by omega)
 by_cases e:x=K.getD k default
 ·rw [e];simp only [not_true_eq_false,and_false,false_or,ne_eq,false_and,iff_false];exact fun hm=>hn (hsub _ hm)
 ·simp only [e,not_false_eq_true,and_true,ne_eq,true_and]
theorem aS4 {s:StateR} {p:ProjR} {U K:List ByteArray} (hU:U.Nodup) (hK:K.Nodup) (hm:∀ x,x∈K ↔ x∈U) (hd:(gF s p K).2.Nodup):cV (left s p U K K.length)=cV (gF s p K).2:=by
 refine uK ?_;unfold left;refine (List.perm_ext_iff_of_nodup (hU.filter _) hd).2 fun x=>?_
 rw [List.mem_filter,qD,List.take_length];have hsub:=yY s p K K.length (Nat.le_refl _) x;rw [List.take_length] at hsub;constructor
 ·rintro ⟨h1,h2 | h2⟩
  ·exact absurd ((hm x).2 h1) h2
  ·exact h2
 ·exact fun h=>⟨(hm x).1 (hsub h), .inr h⟩
theorem Pp {s:StateR} {p:ProjR} {K:List ByteArray} (hK:K.Nodup):∀ k,k≤K.length→(gF s p (K.take k)).2.Nodup
 | 0,_=>List.nodup_nil
 | k+1,hk=>by
  rw [vD s p (by omega)];have ih:=Pp (s:=s) (p:=p) hK k (by omega);unfold eK;split
  ·exact ih
  ·refine List.nodup_append.2 ⟨ih,by simp,fun a ha b hb=>?_⟩;simp only [List.mem_cons,List.not_mem_nil,or_false] at hb;subst hb;exact fun e=>zH hK (show k<K.length by omega) (e ▸ yY s p K k (by omega) a ha)
open Go.RowKit
set_option maxRecDepth 4000
abbrev Nf (r:ProjR×List ByteArray×Int):V := .tup [dT r.1, .t (xY r.2.1),aC r.2.2]
theorem xC (k:Int) {h:Heap}:Cq (Nf (⟨[],[]⟩,[],k)) (.tup [.agg [.t (.lit (.slice none 0 0)), .t (.lit (.slice none 0 0))], .t (.lit (.slice none 0 0)),aC k]) h :=
 vF (r' := .tup [.agg [.t (.lit (.slice none 0 0)), .t (.lit (.slice none 0 0))], .t (.lit (.slice none 0 0)),aC k]) rfl rfl (Cd (by exact ⟨nE (by exact ⟨jB,jB,trivial⟩),jB,pL,trivial⟩))
set_option maxHeartbeats 8000000 in
theorem aTj (s:StateR) (p:ProjR) (name:ByteArray) (hf:s.files.length≤maxLen) (hl:s.links.length≤maxLen) (h:p.fit):aS Tryz.prog 20 [fE s,dT p,bT name] (Nf (dW s p name)):=by
 refine dS Tryz.X20 Tryz.func20 rfl Tryz.ntmps20 (by rw [Tryz.results20]) (aD _ ?_);simp only [go_sem,simprocAttr];refine ⟨_,aB7 s hf hl,?_⟩;simp only [go_sem,simprocAttr];refine ⟨fun hv=>?_,fun hv=>?_⟩
 ·have e:dW s p name=(⟨[],[]⟩,[],1):=by unfold dW;rw [if_pos (nt hv)]
  rw [e];unfold awS;simp only [go_sem,simprocAttr];exact xC _
 ·have hv':=nf hv;unfold awS;simp only [go_sem,simprocAttr];refine ⟨_,cUsesP p h name,?_⟩;simp only [go_sem,simprocAttr];obtain ⟨u,hu⟩:∃ u,u=eG p name:=⟨_,rfl⟩
  rw [← hu];refine brW (b:=decide (u.2≠0)) ?_ ⟨fun h0=>?_,fun h0=>?_⟩
  ·rw [Bool.eq_iff_iff,decide_eq_true_eq,bne_iff_ne]
  ·have h1:=of_decide_eq_true h0;have e:dW s p name=(⟨[],[]⟩,[],u.2):=by unfold dW;rw [if_neg (by rw [hv'];decide), ← hu,if_pos h1]
   rw [e];unfold awS;simp only [go_sem,simprocAttr];exact xC _
  ·have h1:u.2=0:=by simpa using h0
   obtain ⟨hok,hnd,hnm,hl16⟩:=wL (p:=p) (name:=name) h (by rw [← hu];exact h1);rw [← hu] at hnd hnm hl16;have e:dW s p name=((gF s p (cV (mF s u.1))).1,cV (gF s p (cV (mF s u.1))).2,0):=by unfold dW;rw [if_neg (by rw [hv'];decide), ← hu,if_neg (by omega)]
   rw [e];obtain ⟨N,hN⟩:∃ N,N=u.1:=⟨_,rfl⟩
   rw [← hN] at hnd hnm hl16 ⊢;unfold awS;simp only [go_sem,simprocAttr];refine aE (fun (k:Nat) σ => sP 3 (.map (tEs (zD s (mF s (N.take k))))) (bD 37 (aC k) (aW [13,38,39,40,41,42,43,44,45,46,47,48,49] (aX σ)))) (fun k=>k≤N.length) (fun k=>N.length - k) 0 (aA ?_) (Nat.zero_le _) ?_
   ·simp only [go_sem,simprocAttr];exact ⟨by simp,rfl,by simp,by simp,by simp⟩
   ·intro k hk;refine aD _ ?_;simp only [go_sem,simprocAttr];refine ⟨fun hlt=>?_,fun hge=>?_⟩
    ·simp only [bxx] at hlt;have hkl:k<N.length:=by omega
     obtain ⟨n,hn⟩:∃ n,n=N.getD k default:=⟨_,rfl⟩
     have hT:=Vh s hkl;rw [← hn] at hT;have hni:n ∉ mF s (N.take k):=fun hm=>by
      unfold mF at hm;rw [hn] at hm;exact zH hnd hkl (List.mem_filter.1 hm).1
     unfold awS;simp only [go_sem,simprocAttr];rw [show N.getD k ⟨#[]⟩=n from hn.symm];refine ⟨⟨by omega,by omega⟩,_,Ca s n hf hl,?_⟩;simp only [go_sem,simprocAttr];refine brW (b:=decide (status s n≠1)) ?_ ⟨fun h2=>?_,fun h2=>?_⟩
     ·rw [Bool.eq_iff_iff,decide_eq_true_eq,bne_iff_ne]
     ·have h3:=of_decide_eq_true h2;rw [if_pos h3] at hT;unfold awS;simp only [go_sem,simprocAttr];refine ⟨_,cProxy s n hl,?_⟩;simp only [go_sem,simprocAttr,Hu];rw [aKd s hni, ← hT];refine ⟨k+1,aA ?_,by omega,by omega⟩;simp only [go_sem,simprocAttr];rw [aZ (show k<9223372036854775807 by omega)];simp
     ·have h3 : ¬ status s n≠1:=by simpa using h2
      rw [if_neg h3] at hT;unfold awS;simp only [go_sem,simprocAttr];refine ⟨k+1,aA ?_,by omega,by omega⟩;simp only [go_sem,simprocAttr];rw [hT,aZ (show k<9223372036854775807 by omega)];simp
    ·simp only [bxx] at hge;have:k=N.length:=by omega
     subst this;rw [List.take_length];unfold awS;simp only [go_sem,simprocAttr];have hlm:=Fr hok;have hls:=Ex hok;have hsm:=hok.small;unfold cL at hsm;simp only [Bool.and_eq_true,decide_eq_true_eq] at hsm;refine ⟨_,aJb p (by omega) (by omega) hlm hls,?_⟩;simp only [go_sem,simprocAttr];refine mH Tryz.X60 Tryz.func60 rfl Tryz.ntmps60 (by rw [Tryz.results60]) (aD _ ?_);simp only [go_sem,simprocAttr];have hun:(mF s N).Nodup:=hnd.filter _;have huz:∀ x∈mF s N,x.size≤maxLen:=fun x hx=>(hnm x (List.mem_filter.1 hx).1).2
     have hul:(mF s N).length≤16:=Nat.le_trans (List.length_filter_le _ _) hl16;refine gK Tryz.X59 (cC (tM (tEs (zD s (mF s N))) (mF s N) (jJ ⟨#[]⟩) (zB s _) hun huz (by omega)) [5,3] rfl (by omega) (by decide) ?_ rfl rfl rfl rfl ?_)
     ·simp only [go_sem,simprocAttr,decide_true,(cY id _).2,(cY _ _).1]
     ·simp only [go_sem,simprocAttr,(cY _ _).1];obtain ⟨U,hUe⟩:∃ U,U=mF s N:=⟨_,rfl⟩
      obtain ⟨K,hKe⟩:∃ K,K=cV U:=⟨_,rfl⟩
      have hUn:U.Nodup:=by rw [hUe];exact hun
      have hUz:∀ x∈U,x.size≤maxLen:=by rw [hUe];exact huz
      have hUl:U.length≤16:=by rw [hUe];exact hul
      have hKm:∀ x,x∈K ↔ x∈U:=fun x=>by rw [hKe];exact (dY _).mem_iff
      have hKn:K.Nodup:=by rw [hKe,(dY _).nodup_iff,hUe];exact hun
      have hKl:K.length≤16:=by rw [hKe,(dY _).length_eq,hUe];exact hul
      have hKk:(K.map fun k=>[T.lit (Value.string k)])=K.map jJ:=rfl;rw [← hUe, ← hKe] at *;refine aE (fun (k:Nat) σ => sP 4 (.box [.t (jW (gF s p (K.take k)).1.media), .t (nL (gF s p (K.take k)).1.seqs)]) (sP 3 (.map (tEs (zD s (left s p U K k)))) (bD 57 (aC k) (aW [16,17,18,19,53,54,58,59,60,61,62,63,64,65,66,67,68,69,70,71,72,73,74,75,76,77,78,79,80] (aX σ))))) (fun k=>k≤K.length) (fun k=>K.length - k) 0 (aA ?_) (Nat.zero_le _) ?_
      ·simp only [go_sem,simprocAttr];rw [aNh];refine ⟨?_,?_,?_,?_⟩<;>first | rfl | exact ⟨rfl,rfl⟩ | (simp;done) | (simp;exact ⟨rfl,rfl⟩)
      ·intro k hk;refine fD (aD _ ?_);simp only [go_sem,simprocAttr];refine fD (aD _ ?_);simp only [go_sem,simprocAttr];refine ⟨fun hlt=>?_,fun hge=>?_⟩
       ·simp only [bxx] at hlt;have hkl:k<K.length:=by omega
        obtain ⟨n,hn⟩:∃ n,n=K.getD k default:=⟨_,rfl⟩
        have hin:=aS3 (s:=s) (p:=p) (U:=U) hKn (fun x hx=>(hKm x).1 hx) hkl;have hR:=vD s p hkl;have hfit:=Pq (s:=s) h K k hk;rw [← hn] at hin hR;have hnK:nth (jJ ⟨#[]⟩) (K.map fun k=>[T.lit (Value.string k)]) k = [gN n]:=by rw [hn];exact nX jJ ⟨#[]⟩ K k
        unfold awS;simp only [go_sem,simprocAttr];refine fD (Ju (fD (aD _ ?_)));simp only [go_sem,simprocAttr,hnK];refine ⟨⟨by omega,by omega⟩,fD (aD _ ?_)⟩;simp only [go_sem,simprocAttr,Hu,aDd s hin];refine fD (aD _ ?_);simp only [go_sem,simprocAttr];refine ⟨_,Ca s (dM s n) hf hl,?_⟩;simp only [go_sem,simprocAttr];unfold eK at hR;refine brW (b:=decide (status s (dM s n)≠1)) ?_ ⟨fun h2=>?_,fun h2=>?_⟩
        ·rw [Bool.eq_iff_iff,decide_eq_true_eq,bne_iff_ne]
        ·have h3:=of_decide_eq_true h2;rw [if_neg (fun h=>h3 h.1)] at hR;unfold awS;simp only [go_sem,simprocAttr];refine aD _ ?_;simp only [go_sem,simprocAttr];refine ⟨k+1,aA ?_,by omega,by omega⟩;simp only [go_sem,simprocAttr];rw [aZ (show k<9223372036854775807 by omega),Xs hKn hkl (by rw [hR,hn]),hR];simp
        ·have h3:status s (dM s n)=1:=by simpa using h2
         unfold awS;simp only [go_sem,simprocAttr];refine fD (aD _ ?_);simp only [go_sem,simprocAttr];refine ⟨_,cSwapP _ hfit n (dM s n),?_⟩;simp only [go_sem,simprocAttr];obtain ⟨r,hr⟩:∃ r,r=fM (gF s p (K.take k)).1 n (dM s n):=⟨_,rfl⟩
         rw [← hr] at hR ⊢;refine fD (aD _ ?_);simp only [go_sem,simprocAttr];refine aFw ?_;simp only [go_sem,simprocAttr];refine brW (b:=decide (r.2=0)) ?_ ⟨fun h4=>?_,fun h4=>?_⟩
         ·rw [Bool.eq_iff_iff,decide_eq_true_eq,beq_iff_eq]
         ·have h5:=of_decide_eq_true h4;rw [if_pos ⟨h3,h5⟩] at hR;refine fD (aD _ ?_);simp only [go_sem,simprocAttr];refine yD 2 ?_;simp only [go_sem,simprocAttr,List.take,List.drop];refine aQm rfl rfl rfl rfl ?_;simp only [go_sem,simprocAttr,Hu];refine Ph ?_;simp only [go_sem,simprocAttr];refine aD _ ?_;simp only [go_sem,simprocAttr];refine ⟨k+1,aA ?_,by omega,by omega⟩;simp only [go_sem,simprocAttr];have hln:(left s p U K k).Nodup:=hUn.filter _;rw [aZ (show k<9223372036854775807 by omega),aKc s hln,aNj hKn hkl (by rw [hR]),hR, ← hn];simp
         ·have h5 : ¬ r.2=0:=by simpa using h4
          rw [if_neg (fun h=>h5 h.2)] at hR;refine aD _ ?_;simp only [go_sem,simprocAttr];refine aD _ ?_;simp only [go_sem,simprocAttr];refine ⟨k+1,aA ?_,by omega,by omega⟩;simp only [go_sem,simprocAttr];rw [aZ (show k<9223372036854775807 by omega),Xs hKn hkl (by rw [hR,hn]),hR];simp
       ·simp only [bxx] at hge;have:k=K.length:=by omega
        subst this;unfold awS;simp only [go_sem,simprocAttr];rw [List.take_length];refine aT1 (.alt (.step 0 (.step 1 (.step 2 (.step 3 (.step 4 (.step 5 (.step 6 .done))))))) (.step 1 (.alt (.step 0 (.step 2 (.step 3 (.step 4 (.step 5 (.step 6 .done)))))) (.step 2 (.alt (.step 0 (.step 3 (.step 4 (.step 5 (.step 6 .done))))) (.step 3 (.step 0 (.step 4 (.step 5 (.step 6 .done)))))))))) rfl (by kernel_rfl) ?_;have hMe:=aS4 (s:=s) (p:=p) hUn hKn hKm (by have:=Pp (s:=s) (p:=p) hKn K.length (Nat.le_refl _);rw [List.take_length] at this;exact this);have hMn:(left s p U K K.length).Nodup:=hUn.filter _;have hMz:∀ x∈left s p U K K.length,x.size≤maxLen:=fun x hx=>hUz x (List.mem_filter.1 hx).1
        have hMl:(left s p U K K.length).length≤16:=Nat.le_trans (List.length_filter_le _ _) hUl;obtain ⟨M,hM⟩:∃ M,M=left s p U K K.length:=⟨_,rfl⟩
        rw [← hM] at hMe hMn hMz hMl ⊢;simp only [go_sem,simprocAttr];refine ⟨?_,?_,?_⟩
        ·refine mH Tryz.X60 Tryz.func60 rfl Tryz.ntmps60 (by rw [Tryz.results60]) (aD _ ?_);simp only [go_sem,simprocAttr];refine gK Tryz.X59 (cC (tM (tEs (zD s M)) M (jJ ⟨#[]⟩) (zB s _) hMn hMz (by omega)) [6,3] rfl (by omega) (by decide) ?_ rfl rfl rfl rfl ?_)
         ·simp only [go_sem,simprocAttr,decide_true,(cY id _).2,(cY _ _).1]
         ·simp only [go_sem,simprocAttr,(cY _ _).1];rw [hMe];exact cR rfl rfl
        ·refine mH Tryz.X60 Tryz.func60 rfl Tryz.ntmps60 (by rw [Tryz.results60]) (aD _ ?_);simp only [go_sem,simprocAttr];refine gK Tryz.X59 (cC (tM (tEs (zD s M)) M (jJ ⟨#[]⟩) (zB s _) hMn hMz (by omega)) [6,3] rfl (by omega) (by decide) ?_ rfl rfl rfl rfl ?_)
         ·simp only [go_sem,simprocAttr,decide_true,(cY id _).2,(cY _ _).1]
         ·simp only [go_sem,simprocAttr,(cY _ _).1];rw [hMe];exact cR rfl rfl
        ·refine mH Tryz.X60 Tryz.func60 rfl Tryz.ntmps60 (by rw [Tryz.results60]) (aD _ ?_);simp only [go_sem,simprocAttr];refine ⟨?_,?_⟩
         ·refine gK Tryz.X59 (cC (tM (tEs (zD s M)) M (jJ ⟨#[]⟩) (zB s _) hMn hMz (by omega)) [6,3] rfl (by omega) (by decide) ?_ rfl rfl rfl rfl ?_)
          ·simp only [go_sem,simprocAttr,decide_true,(cY id _).2,(cY _ _).1]
          ·simp only [go_sem,simprocAttr,(cY _ _).1];rw [hMe];exact cR rfl rfl
         ·refine gK Tryz.X59 (cC (tM (tEs (zD s M)) M (jJ ⟨#[]⟩) (zB s _) hMn hMz (by omega)) [6,3] rfl (by omega) (by decide) ?_ rfl rfl rfl rfl ?_)
          ·simp only [go_sem,simprocAttr,decide_true,(cY id _).2,(cY _ _).1]
          ·simp only [go_sem,simprocAttr,(cY _ _).1];rw [hMe];exact cR rfl rfl
theorem Nx:∀ l:List T,Go.Proofs.YtbfnemkngoaeeaaGreat.tCells (l.map V.t)=some l
 | []=>rfl
 | x::l=>by simp only [List.map_cons,tCells,Nx l];rfl
@[go_sem] theorem vmed_tCells (m:MediumR):Go.Proofs.YtbfnemkngoaeeaaGreat.tCells (dV m)=some (MediumR.c m):=by
 exact Nx _
@[go_sem] theorem vmed_get0 (m:MediumR):(dV m)[0]? = some (bT m.name):=rfl
@[go_sem] theorem vmed_put0 (m:MediumR) (n:ByteArray):List.take 0 (dV m) ++ [V.t (.lit (.string n))]++List.drop 1 (dV m)=dV { m with name:=n }:=rfl
@[go_sem] theorem vmed_put0' (m:MediumR) (n:ByteArray):V.t (.lit (.string n))::List.drop 1 (dV m)=dV { m with name:=n }:=rfl
@[go_sem] theorem vmed_put137 (m:MediumR) (x:Int):List.take 137 (dV m) ++ [V.t (.lit (.int .i64 x))]++List.drop 138 (dV m)=dV { m with frames:=x }:=rfl
def aDf (s:SourceR):List T:=[ti s.kind,gN s.name,ti s.pos.num,ti s.pos.den,ti s.speed.num,ti s.speed.den,tbl s.smooth,ti (tR s),ti (atS s),ti (Kd s)]
abbrev vplace (s:SourceR):V := .agg [aC s.kind,bT s.name,aC s.pos.num,aC s.pos.den,aC s.speed.num,aC s.speed.den,aT s.smooth,aC (tR s),aC (atS s),aC (Kd s)]
@[go_sem] theorem placC_t (s:SourceR):(aDf s).map V.t = [aC s.kind,bT s.name,aC s.pos.num,aC s.pos.den,aC s.speed.num,aC s.speed.den,aT s.smooth,aC (tR s),aC (atS s),aC (Kd s)]:=rfl
def endsT (t:List ClipR):List Int:=(List.range t.length).map fun i=>rE (t.take (i+1))
def aKm (c:ClipR):List T:=aDf c.a++aDf c.b
abbrev aQ4 (l:List (List T)):T := .list 20 ((aDf zSource)++(aDf zSource)) l
def layC (t:List ClipR):List T:=[jX t,bY (endsT t),aQ4 (t.map aKm)]
abbrev vlay (t:List ClipR):V := .agg [.t (jX t), .t (bY (endsT t)), .t (aQ4 (t.map aKm))]
abbrev zLayT:List T:=[.lit (.slice none 0 0), .lit (.slice none 0 0), .lit (.slice none 0 0)]
def fmC (m:MediumR):Bool×List T:=(false,[ti m.frames])
def lyC (s:SequenceR):Bool×List T:=(false,[.list 3 zLayT (s.video.map layC)])
def frM (l:List MediumR):List Ent:=kX MediumR.name fmC l
def lyM (l:List SequenceR):List Ent:=kX SequenceR.name lyC l
abbrev vix (p:ProjR):V := .agg [.t (.map (frM p.media)), .t (.map (lyM p.seqs))]
theorem aS8 (l:List MediumR):qE .string (frM l)=true:=tF (nB _ _ _)
theorem aS7 (l:List SequenceR):qE .string (lyM l)=true:=tF (nB _ _ _)
theorem lend_fr (l:List MediumR) (h:Heap) (n:Nat):pQ (aV h n) (tEs (frM l))=some (frM l):=Bm _ (gY h n) _ (rY _ _ (fun _=>rfl) _)
theorem lend_ly (l:List SequenceR) (h:Heap) (n:Nat):pQ (aV h n) (tEs (lyM l))=some (lyM l):=Bm _ (gY h n) _ (rY _ _ (fun _=>rfl) _)
attribute [go_sem] aS8 aS7 lend_fr lend_ly
def rowsK (v:List (List ClipR)) (k:Nat):List (List T):=(v.take k).map layC++List.replicate (v.length - k) zLayT
structure RunR where
 media:ByteArray
 film:Int
 start:Int
 len:Int
 deriving Inhabited
def RunR.c (r:RunR):List T:=[gN r.media,ti r.film,ti r.start,ti r.len]
abbrev vrun (r:RunR):V := .agg [bT r.media,aC r.film,aC r.start,aC r.len]
@[go_sem] theorem RunR.ct (r:RunR):(RunR.c r).map V.t = [bT r.media,aC r.film,aC r.start,aC r.len]:=rfl
@[go_sem] theorem RunR.cl (r:RunR):(RunR.c r).length=4:=rfl
abbrev truns (l:List RunR):T := .list 4 (RunR.c default) (l.map RunR.c)
def aAm:ExprR→ByteArray
 | .mk _ media .. => media
def aHv:ExprR→Int
 | .mk _ _ frame .. => frame
def srcB (e:ExprR):Bool:=opE e==1
def aSn (b e:ExprR):Bool:=opE b==1&&((aAm b).toList==(aAm e).toList)&&aHv e - 1==aHv b
def bump:List RunR→List RunR
 | []=>[]
 | [r]=>[{ r with len:=r.len+1 }]
 | r::s::l=>r::bump (s::l)
def joinB (l:List ExprR) (k:Nat):Bool:=decide (0<k)&&aSn (l.getD (k - 1) default) (l.getD k default)
def Zy (l:List ExprR):Nat→List RunR
 | 0=>[]
 | k+1 =>
  if srcB (l.getD k default)=true then
   (if joinB l k=true then bump (Zy l k) else Zy l k ++ [⟨aAm (l.getD k default),k,aHv (l.getD k default),1⟩])
  else Zy l k
def runsE (l:List ExprR):List RunR:=Zy l l.length
structure RunsInv (l:List ExprR) (k:Nat) (rs:List RunR):Prop where
 len:rs.length≤k
 all:∀ r∈rs,1≤r.len∧0≤r.film∧r.film+r.len≤(k:Int)
 last : 0<k→srcB (l.getD (k - 1) default)=true → ∃ i r,rs=i ++ [r]∧r.film+r.len=(k:Int)∧r.media.toList=(aAm (l.getD (k - 1) default)).toList
 gap : 0<k→srcB (l.getD (k - 1) default)=false → ∀ r∈rs,r.film+r.len<(k:Int)
open Go.RowKit
set_option maxRecDepth 4000
def seq0:SequenceR:=⟨⟨#[97]⟩,⟨25,1⟩,16,16,[],[],[],0⟩
def proj0:ProjR:=⟨[],[seq0]⟩
abbrev zLay:List T:=[.lit (.slice none 0 0), .lit (.slice none 0 0), .lit (.slice none 0 0)]
abbrev ix0:V := .agg [.t (.map []), .t (.map [(.string ⟨#[97]⟩,false,[.list 3 zLay []])])]
open Go.RowKit
set_option maxRecDepth 4000
def still25 (n:Int):ExprR:=if (decide (n<0)||decide (n ≥ 30))=true then yK else .mk 1 ⟨#[97]⟩ n 0 0 0 ⟨#[]⟩ []
def RunR.eqb (s t:RunR):Bool:=(s.media.toList==t.media.toList)&&s.film==t.film&&s.start==t.start&&s.len==t.len
def exB:ExprR := .mk 2 ⟨#[]⟩ 0 1 2 0 ⟨#[]⟩ [yK,yK]
def stE (n:Int):ExprR := .mk 1 ⟨#[97]⟩ n 0 0 0 ⟨#[]⟩ []
abbrev capN (n:Int):V := .elem 1 [ti n] [[ti n]] 0 0
abbrev capL (t:List ClipR):V := .elem 3 (layC t) [layC t] 0 0
abbrev vpair (c:ClipR):V := .agg [aC c.a.kind,bT c.a.name,aC c.a.pos.num,aC c.a.pos.den,aC c.a.speed.num,aC c.a.speed.den,aT c.a.smooth,aC (tR c.a),aC (atS c.a),aC (Kd c.a),
 aC c.b.kind,bT c.b.name,aC c.b.pos.num,aC c.b.pos.den,aC c.b.speed.num,aC c.b.speed.den,aT c.b.smooth,aC (tR c.b),aC (atS c.b),aC (Kd c.b)]
open Go.RowKit
set_option maxRecDepth 4000
@[go_sem] theorem pairC_l (c:ClipR):(aKm c).length=20:=rfl
@[go_sem] theorem pairC_t (c:ClipR):(aKm c).map V.t = [aC c.a.kind,bT c.a.name,aC c.a.pos.num,aC c.a.pos.den,aC c.a.speed.num,aC c.a.speed.den,aT c.a.smooth,aC (tR c.a),aC (atS c.a),aC (Kd c.a),
 aC c.b.kind,bT c.b.name,aC c.b.pos.num,aC c.b.pos.den,aC c.b.speed.num,aC c.b.speed.den,aT c.b.smooth,aC (tR c.b),aC (atS c.b),aC (Kd c.b)]:=rfl
open Go.RowKit
set_option maxRecDepth 4000
def frameR (p:ProjR) (name:ByteArray) (n:Int):ExprR×Int :=
 if bV p≠0 then (yK,bV p) else
 match eH p.seqs name with
 | none=>(yK,7)
 | some _=>(filmE redX p 5 name n,0)
theorem aSf {α : Type} [Inhabited α] {nm : α → ByteArray} {n:ByteArray} {l:List α} {x : α} (hnd:(l.map nm).Nodup) (h:fJ nm n l=some x):∃ k,k<l.length∧tJ (fun y=>(nm y).toList==n.toList) l=(k:Int)∧l.getD k default=x:=by
 obtain ⟨h1,h2⟩:=dZ h;obtain ⟨i,hi,he⟩:=List.getElem_of_mem h1;have:=gA hnd hi;rw [aK hi,he,h2] at this;exact ⟨i,hi,this,by rw [aK hi,he]⟩
open Go.RowKit
set_option maxRecDepth 4000
