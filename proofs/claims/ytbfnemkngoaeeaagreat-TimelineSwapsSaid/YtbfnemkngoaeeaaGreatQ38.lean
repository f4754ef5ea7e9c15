/- Proved here: The walk of timeline.Swap; conditions stand in each theorem. -/
import Derived.Test.YtbfnemkngoaeeaaGreatQ34
import Derived.Test.YtbfnemkngoaeeaaGreatQ27
import Derived.Test.YtbfnemkngoaeeaaGreatQ36
import Derived.Test.YtbfnemkngoaeeaaGreatQ37
import Derived.Test.YtbfnemkngoaeeaaGreatQ21
import Derived.Test.YtbfnemkngoaeeaaGreatQ33
set_option linter.unusedSimpArgs false
set_option linter.unusedVariables false
set_option linter.unusedSectionVars false
set_option linter.unnecessarySimpa false
namespace Go.Proofs.YtbfnemkngoaeeaaGreat
open Go.RowKit
set_option maxRecDepth 4000
theorem xF:NopD Tryz.prog 79:=by
 refine ⟨Tryz.X79,fun cap w=>callsDIn_of_wpSIn Tryz.func79 rfl trivial fun c₀ cs hu=>?_⟩;have k1 : 2<cap.size+(5 - cap.size):=by omega
 have k2 : 3<cap.size+(5 - cap.size):=by omega
 have k3 : 2<max 5 cap.size:=by omega
 have k4 : 3<max 5 cap.size:=by omega
 apply wpSIn_seq;apply wpSIn_region;simp [wpOpsSIn,Fence.wide,go_sem,recoverD,hu,Tryz.ntmps79,Exit.thenS,k1,k2,k3,k4];refine wpSIn_cond (t:=false) (by simp [Act.eval,k2,k4]) ?_;refine wpSIn_of_wpIn rfl (wpIn_skip ?_);refine ⟨rfl, .returning,by rw [← hu], .tuple #[],?_,⟨_,rfl⟩,rfl,rfl⟩;simp [results,Tryz.results79,go_sem]
def nT (a b:MediumR):Bool:=a.seq.rate.eqb b.seq.rate&&a.frames==b.frames&&a.channels==b.channels&&a.samples==b.samples
def eY (p:ProjR) (f g:ByteArray):ProjR×Int :=
 if cB p≠0 then (⟨[],[]⟩,cB p) else
 match jY p.media f,jY p.media g with
 | some a,some b=>if nT a b=true then (aJg p f g,0) else (⟨[],[]⟩,1)
 | _,_=>(⟨[],[]⟩,7)
abbrev aHx (r:ProjR×Int):V := .tup [eD r.1,aC r.2]
theorem gA (k:Int) {h:Heap}:Jk (aHx (⟨[],[]⟩,k)) (.tup [.agg [.t (.lit (.slice none 0 0)), .t (.lit (.slice none 0 0))],aC k]) h :=
 Xk (r' := .tup [.agg [.t (.lit (.slice none 0 0)), .t (.lit (.slice none 0 0))],aC k]) rfl rfl (aHj (by exact ⟨Rv (by exact ⟨aF1,aF1,trivial⟩),yA,trivial⟩))
theorem Bm {l:List CueR} (h:jB l=true):∀ c∈l,c.lines.length≤65536:=by
 intro c hc;have:=List.all_eq_true.1 h c hc;unfold rG Bn at this;simp only [Bool.and_eq_true,decide_eq_true_eq] at this;omega
theorem Vq {t:List ClipR} (h:cC t=true):t.length≤65536 ∧ ∀ c∈t,c.chan.length≤65536:=by
 unfold cC at h;simp only [Bool.and_eq_true,decide_eq_true_eq,List.all_eq_true] at h;refine ⟨by omega,fun c hc=>?_⟩;have:=h.1.2 c hc;unfold bQ kJ dM at this;simp only [Bool.and_eq_true,decide_eq_true_eq] at this;omega
theorem Yh {p:ProjR} (h:FilmOk p):∀ m∈p.media,m.cues.length≤65536 ∧ ∀ c∈m.cues,c.lines.length≤65536:=by
 intro m hm;have h1:=h.small;unfold cK at h1;simp only [Bool.and_eq_true,decide_eq_true_eq,List.all_eq_true] at h1;have h2:=h1.1.2 m hm;unfold dE at h2;have h3:=h.med m hm;unfold dH at h3;simp only [Bool.and_eq_true,decide_eq_true_eq] at h2 h3;exact ⟨by omega,Bm h3.2⟩
theorem Wj {p:ProjR} (h:FilmOk p):∀ s∈p.seqs,(s.cues.length≤65536 ∧ ∀ c∈s.cues,c.lines.length≤65536)∧(s.video.length≤65536 ∧ ∀ t∈s.video,t.length≤65536 ∧ ∀ c∈t,c.chan.length≤65536)∧(s.sound.length≤65536 ∧ ∀ t∈s.sound,t.length≤65536 ∧ ∀ c∈t,c.chan.length≤65536):=by
 intro s hs;have h1:=h.small;unfold cK at h1;simp only [Bool.and_eq_true,decide_eq_true_eq,List.all_eq_true] at h1;have h2:=h1.2 s hs;unfold cR at h2;have h3:=h.seq s hs;unfold cL qX at h3;simp only [Bool.and_eq_true,decide_eq_true_eq,List.all_eq_true] at h2 h3;refine ⟨⟨by omega,Bm h3.1.1.2⟩,⟨by omega,fun t ht=>?_⟩,by omega,fun t ht=>?_⟩
 ·have:=h3.1.2 t ht;unfold jK at this;rw [Bool.and_eq_true] at this;exact Vq this.1
 ·have:=h3.2 t ht;unfold mX at this;rw [Bool.and_eq_true] at this;exact Vq this.1
theorem aLw (i:Nat) (ts:List T):∀ l:List T,V.gbxs i ts (l.map V.t)=l.map V.t
 | []=>rfl
 | x::l=>by simp only [List.map_cons,V.gbxs,V.gbx,aLw i ts l]
@[go_sem] theorem gbxs_med (i:Nat) (ts:List T) (m:MediumR):Go.Proofs.YtbfnemkngoaeeaaGreat.V.gbxs i ts (dA m)=dA m:=aLw i ts _
theorem Yg (m:MediumR):List.take 140 (dA m) ++ [V.t (fA m.cues)]++List.drop 141 (dA m)=(MediumR.c m).map V.t:=rfl
theorem aBb {α : Type} [Inhabited α] (c : α → List T) {L:List α} {j:Nat} (hj:j<L.length) {r:List V} (h:r=(c (L.getD j default)).map V.t):(aK (L.map c)).set j r=aK (L.map c):=by
 refine rZ (by unfold aK;rw [List.length_map,List.length_map];exact hj) ?_;rw [h,aU hj];unfold aK;rw [List.getElem_map,List.getElem_map]
theorem Se (ρ : Ren) (h:Heap) (m:MediumR):wkVs ρ h (dA m) (dA m):=Sf ρ h _
set_option maxHeartbeats 8000000 in
theorem aMk (p:ProjR) (h:p.fit) (f g:ByteArray):aN Tryz.prog 29 [eD p,bP f,bP g] (aHx (eY p f g)):=by
 refine fQ Tryz.X29 Tryz.func29 rfl Tryz.ntmps29 (by rw [Tryz.results29]) (aD _ ?_);simp only [go_sem,simprocAttr,dtf];refine ⟨_,aMj p h,?_⟩;simp only [go_sem,simprocAttr,dtf];refine brW (b:=decide (cB p≠0)) ?_ ⟨fun hv=>?_,fun hv=>?_⟩
 ·rw [Bool.eq_iff_iff,decide_eq_true_eq,bne_iff_ne]
 ·have hv':=of_decide_eq_true hv;have e:eY p f g=(⟨[],[]⟩,cB p):=by unfold eY;rw [if_pos hv']
  rw [e];unfold awS;simp only [go_sem,simprocAttr,dtf];exact ⟨xF,gA _⟩
 ·have hv':cB p=0:=by simpa using hv
  have hok:=Rb h hv';unfold awS;simp only [go_sem,simprocAttr,dtf];have hsm:=Dg hv';refine qE (cCat p hsm.1 hsm.2.1) rfl ?_;cases hf:jY p.media f with
  | none =>
   have e:eY p f g=(⟨[],[]⟩,7):=by unfold eY;rw [hv',hf];rfl
   rw [e];cases hg:jY p.media g with
   | none =>
    simp only [go_sem,simprocAttr,dtf,rN,hf,hg,Option.map_none];exact ⟨xF,gA _⟩
   | some b =>
    simp only [go_sem,simprocAttr,dtf,rN,hf,hg,Option.map_none,Option.map_some];exact ⟨xF,gA _⟩
  | some a =>
   cases hg:jY p.media g with
   | none =>
    have e:eY p f g=(⟨[],[]⟩,7):=by unfold eY;rw [hv',hf,hg];rfl
    rw [e];simp only [go_sem,simprocAttr,dtf,rN,hf,hg,Option.map_none,Option.map_some];exact ⟨xF,gA _⟩
   | some b =>
    simp only [go_sem,simprocAttr,dtf,rN,hf,hg,Option.map_some];refine ⟨_,Zu _ _,?_⟩;refine brW (b := !nT a b) ?_ ⟨fun hm=>?_,fun hm=>?_⟩
    ·unfold nT
     (try simp only [bne]);cases (a.seq.rate.eqb b.seq.rate)<;>cases (a.frames==b.frames)<;>cases (a.channels==b.channels)<;>cases (a.samples==b.samples)<;>rfl
    ·have e:eY p f g=(⟨[],[]⟩,1):=by
      unfold eY;rw [hv',hf,hg];have:nT a b=false:=by simpa using hm
      simp [this]
     rw [e];unfold awS;simp only [go_sem,simprocAttr,dtf];exact ⟨xF,gA _⟩
    ·have e:eY p f g=(aJg p f g,0):=by
      unfold eY;rw [hv',hf,hg];have:nT a b=true:=by simpa using hm
      simp [this]
     rw [e];unfold awS;simp only [go_sem,simprocAttr,dtf];refine gX (cCloneM p.media (by omega)) [] rfl (by omega) (by decide) ?_ rfl rfl rfl rfl ?_
     ·simp only [go_sem,simprocAttr,dtf]
     ·simp only [go_sem,simprocAttr,dtf,List.getElem?_nil];refine aEy 1 ?_;simp only [go_sem,simprocAttr,dtf];refine aEy 2 ?_;simp only [go_sem,simprocAttr,dtf];have hml:=Yh hok;have hsl:=Wj hok;refine aF (fun (k:Nat) σ => bL 85 (aC k) (aX [15,16,20,21,22,23,24,25,26,27,28,29,30,31,32,33,34,35,36,37,38,39,40,41,42,43,44,45,46,47,48,49,50,51,52,53,54,55,56,57,58,59,60,61,62,63,64,65,66,67,68,69,70,71,72,73,74,75,76,77,78,79,80,81,82,86,87,88,89,90,91,92,93,94,95,96,97] (bF σ))) (fun k=>k≤p.media.length) (fun k=>p.media.length - k) 0 (aA ?_) (Nat.zero_le _) ?_
      ·simp only [go_sem,simprocAttr,dtf];simp [Se]
      ·intro k hk;refine aD _ ?_;simp only [go_sem,simprocAttr,dtf];refine ⟨fun hlt=>?_,fun hge=>?_⟩
       ·simp only [bxx] at hlt;have hkl:k<p.media.length:=by omega
        unfold awS;simp only [go_sem,simprocAttr,dtf];refine ⟨⟨by omega,by omega⟩,by omega,?_⟩;refine aV 9 .done rfl (by kernel_rfl) (by kernel_rfl) (by decide) ?_;simp only [go_sem,simprocAttr,dtf];refine ⟨_,Fc _ (hml _ (aQ hkl)).1 (hml _ (aQ hkl)).2,?_⟩;simp only [go_sem,simprocAttr,dtf];rw [Yg,aBb MediumR.c hkl rfl];refine ⟨⟨by omega,by omega⟩,by omega,by kernel_rfl,k+1,aA ?_,by omega,by omega⟩;simp only [go_sem,simprocAttr,dtf];simp [Se,bJ (show k<9223372036854775807 by omega)]
       ·simp only [bxx] at hge;have:k=p.media.length:=by omega
        subst this;unfold awS;simp only [go_sem,simprocAttr,dtf];refine gX (aNb p.seqs (by omega)) [] rfl (by omega) (by decide) ?_ rfl rfl rfl rfl ?_
        ·simp only [go_sem,simprocAttr,dtf]
        ·simp only [go_sem,simprocAttr,dtf,List.getElem?_nil];obtain ⟨Q,hQ⟩:∃ Q:SequenceR→SequenceR,Q=chgQ f g:=⟨_,rfl⟩
         refine aF (fun (k:Nat) σ => Fd 8 (.row 114 9 (SequenceR.c default) (aK ((dV Q p.seqs k).map SequenceR.c))) (bL 106 (aC k) (aX [15,16,17,18,20,21,22,23,24,25,26,27,28,29,30,31,32,33,34,35,36,37,38,39,40,41,42,43,44,45,46,47,48,49,50,51,52,53,54,55,56,57,58,59,60,61,62,63,64,65,66,67,68,69,70,71,72,73,74,75,76,77,78,79,80,81,82,83,84,85,86,87,88,89,90,91,92,93,94,95,96,97,98,99,100,101,102,108,109,110,111,112,113,114,115,116,117,118,119,120,121,122,123,124,125,126,127,128,129,130,131,132,133,134,135,136] (bF σ)))) (fun k=>k≤p.seqs.length) (fun k=>p.seqs.length - k) 0 (aA ?_) (Nat.zero_le _) ?_
         ·simp only [go_sem,simprocAttr,dtf];simp [Se,Qj]
         ·intro k hk;refine aD _ ?_;simp only [go_sem,simprocAttr,dtf];refine ⟨fun hlt=>?_,fun hge=>?_⟩
          ·simp only [bxx] at hlt;have hkl:k<p.seqs.length:=by omega
           obtain ⟨s,hs⟩:∃ s,s=p.seqs.getD k default:=⟨_,rfl⟩
           have hsm:s∈p.seqs:=by rw [hs];exact aQ hkl
           have hM:=dX Q p.seqs k;have hn:∀ d,nth d ((dV Q p.seqs k).map SequenceR.c) k=SequenceR.c s:=fun d=>by
            have e0:=nW Q hkl;have hlt3:k<(dV Q p.seqs k).length:=by omega
            rw [List.getD_eq_getElem?_getD,List.getElem?_eq_getElem hlt3,Option.getD_some] at e0;unfold nth;rw [List.getElem?_map,List.getElem?_eq_getElem hlt3,e0,hs];rfl
           have hn2:∀ (d:List T) (r:List V),jW d ((aK ((dV Q p.seqs k).map SequenceR.c)).set k r) k=r:=fun d r=>Xx (by rw [kS,List.length_map,hM];exact hkl) d r
           have hl2:∀ r:List V,((aK ((dV Q p.seqs k).map SequenceR.c)).set k r).length=p.seqs.length:=fun r=>by rw [List.length_set,kS,List.length_map,hM]
           unfold awS;simp only [go_sem,simprocAttr,dtf,hn,hn2,hl2,hM,List.length_map];obtain ⟨q1,q2,q3⟩:=hsl s hsm;refine ⟨⟨by omega,by omega⟩,by omega,?_⟩;refine aV 10 .done rfl (by kernel_rfl) (by kernel_rfl) (by decide) ?_;simp only [go_sem,simprocAttr,dtf,hn,hn2,hl2,hM,List.length_map];refine ⟨_,aAa f g s.video q2.1 q2.2,?_⟩;simp only [go_sem,simprocAttr,dtf,hn,hn2,hl2,hM,List.length_map];refine ⟨⟨by omega,by omega⟩,by omega,by kernel_rfl,?_⟩;refine aV 10 .done rfl (by kernel_rfl) (by kernel_rfl) (by decide) ?_;simp only [go_sem,simprocAttr,dtf,hn,hn2,hl2,hM,List.length_map];refine ⟨_,aAa f g s.sound q3.1 q3.2,?_⟩;simp only [go_sem,simprocAttr,dtf,hn,hn2,hl2,hM,List.length_map,List.set_set];refine ⟨⟨by omega,by omega⟩,by omega,by kernel_rfl,?_⟩;refine aV 9 .done rfl (by kernel_rfl) (by kernel_rfl) (by decide) ?_;simp only [go_sem,simprocAttr,dtf,hn,hn2,hl2,hM,List.length_map,List.set_set];refine ⟨_,Fc s.cues q1.1 q1.2,?_⟩;simp only [go_sem,simprocAttr,dtf,hn,hn2,hl2,hM,List.length_map,List.set_set];have eM:=sE Q hkl;rw [← hs] at eM;refine ⟨⟨by omega,by omega⟩,by omega,by kernel_rfl,k+1,aA ?_,by omega,by omega⟩;rw [Pp SequenceR.c (Q s) (by rw [hQ];rfl),eM];simp only [go_sem,simprocAttr,dtf];simp [Se,bJ (show k<9223372036854775807 by omega)]
          ·simp only [bxx] at hge;have:k=p.seqs.length:=by omega
           subst this;unfold awS;simp only [go_sem,simprocAttr,dtf];rw [sF];refine ⟨xF,dW ?_ rfl⟩;simp only [go_sem,simprocAttr,dtf];rw [hQ];rfl
open Go.RowKit
set_option maxRecDepth 4000
def Hm:ByteArray:=⟨#[115,112,97,114,101]⟩
theorem aJq:cG Hm=true:=of_decide_eq_true (by kernel_rfl)
structure SpareP (p:ProjR) (M N:Nat):Prop where
 m1 : 1≤M
 m3:M≤3
 n1 : 1≤N
 n3:N≤3
 hm:p.media.length=M+1
 hn:p.seqs.length=N
 med:∀ x,x<M→MedGood x (p.media.getD x default)
 sp:p.media.getD M default = { p.media.getD 0 default with name:=Hm }
 seq:∀ x,x<N→SeqGood M x (p.seqs.getD x default)
theorem SpareP.name {p:ProjR} {M N:Nat} (h:SpareP p M N) {x:Nat} (hx:x≤M):(p.media.getD x default).name=if x<M then dZ ⟨#[109]⟩ (x:Int) else Hm:=by
 by_cases h1:x<M
 ·rw [if_pos h1];exact (h.med x h1).name
 ·have:x=M:=by omega
  subst this;rw [if_neg h1,h.sp]
theorem SpareP.mok {p:ProjR} {M N:Nat} (h:SpareP p M N) {x:Nat} (hx:x≤M):dH (p.media.getD x default)=true∧dE (p.media.getD x default)=true∧(p.media.getD x default).fit:=by
 by_cases h1:x<M
 ·have:=h.med x h1;exact ⟨this.ok,this.small,this.fit⟩
 ·have:x=M:=by omega
  subst this;have h0:=h.med 0 (by have:=h.m1;omega);rw [h.sp];have e:=h0.ok;unfold dH at e ⊢;simp only [Bool.and_eq_true] at e ⊢;exact ⟨⟨⟨⟨⟨⟨aJq,e.1.1.1.1.2⟩,e.1.1.1.2⟩,e.1.1.2⟩,e.1.2⟩,e.2⟩,h0.small,⟨h0.fit.seq,h0.fit.frames,h0.fit.channels,h0.fit.samples,h0.fit.cues⟩⟩
theorem SpareP.src {p:ProjR} {M N:Nat} (h:SpareP p M N) {j:Nat} (hj:j<N):∀ x∈eA (p.seqs.getD j default),SrcIn M j x:=fun x hx=>by
 unfold eA gW at hx;obtain ⟨c,hc,hx⟩:=List.mem_flatMap.1 (List.mem_filter.1 hx).1;unfold cP at hc;obtain ⟨t,ht,hct⟩:=List.mem_flatten.1 hc;obtain ⟨g1,g2⟩:=(h.seq j hj).src t ht c hct;simp only [List.mem_cons,List.not_mem_nil,or_false] at hx;rcases hx with rfl | rfl<;>assumption
theorem SpareP.fit {p:ProjR} {M N:Nat} (h:SpareP p M N):p.fit:=by
 have hm:=h.hm;have hn:=h.hn;refine ⟨fun y hy=>?_,fun y hy=>?_⟩
 ·obtain ⟨i,hi,rfl⟩:=Kb hy;exact (h.mok (by omega)).2.2
 ·obtain ⟨i,hi,rfl⟩:=Kb hy;exact (h.seq i (by omega)).fit
theorem aKg (L:List Int) : 1≤(dY L).media.length∧(dY L).media.length≤3∧1≤(dY L).seqs.length∧(dY L).seqs.length≤3:=by
 obtain ⟨M,N,m1,m3,s1,s3,h1,h2,h3,h4⟩:=vF L;exact ⟨by omega,by omega,by omega,by omega⟩
def projSp (L:List Int):ProjR:=⟨(dY L).media ++ [{ (dY L).media.getD 0 default with name:=Hm }],(dY L).seqs⟩
def m0N:ByteArray:=⟨#[109,48]⟩
end Go.Proofs.YtbfnemkngoaeeaaGreat
