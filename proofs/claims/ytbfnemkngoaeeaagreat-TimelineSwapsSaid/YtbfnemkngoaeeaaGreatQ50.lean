/- Proved here: 'TimelineSwaps' returns true; conditions stand in each theorem. -/
import Derived.Test.YtbfnemkngoaeeaaGreatQ49
import Derived.Test.YtbfnemkngoaeeaaGreatQ45
set_option linter.unusedSimpArgs false
set_option linter.unusedVariables false
set_option linter.unusedSectionVars false
set_option linter.unnecessarySimpa false
namespace Go.Proofs.YtbfnemkngoaeeaaGreat
open Go.RowKit
set_option maxRecDepth 4000
theorem gY {c:Prop} [Decidable c] {a b:ProjR} {n:Nat} (ha:a.media.length≤n) (hb:b.media.length≤n):(if c then a else b).media.length≤n:=by split<;>assumption
theorem aKv (p:ProjR) (L:List Int):(Tp p L).media.length≤p.media.length:=by
 unfold Tp aKy;have r:=Nat.le_refl p.media.length;exact gY (by simp) (gY (by simp;omega) (gY r (gY r (gY r (gY (by simp) (gY r (gY r (gY r (gY r (gY r (gY r r)))))))))))
theorem aLb {M:List MediumR} (h:∀ m∈M,m.fit):∀ m∈aGd M,m.fit:=by
 intro m hm;unfold aGd at hm;split at hm
 ·rename_i hl;rcases List.mem_or_eq_of_mem_set hm with h1 | h1
  ·exact h m h1
  ·have a:=h _ (aQ (d:=default) (show 0<M.length by omega));have b:=h _ (aQ (d:=default) (show 1<M.length by omega));rw [h1];exact ⟨a.seq,a.frames,a.channels,a.samples,b.cues⟩
 ·exact h m hm
set_option maxHeartbeats 4000000 in
theorem swaps36 (raw:ProjR) (L K:List Int) (fa ga:ByteArray) (h:raw.fit):aN Tryz.prog 7 [eD raw, .t (bN L), .t (bN K),bP fa,bP ga] (aP true):=by
 have cp:=aMy L;have co:=cOddT L K;have hq:=aKu L K;have hql:(Tp (dY L) K).media.length≤65536:=by
  have:=aKv (dY L) K;have:=aKg L;omega
 obtain ⟨P,hP⟩:∃ P,P=Tp (dY L) K:=⟨_,rfl⟩
 rw [← hP] at co hq hql;clear hP;refine aH Tryz.X7 Tryz.func7 rfl Tryz.ntmps7 (by rw [Tryz.results7]) ?_;refine dK (aD _ ?_);simp only [go_sem,simprocAttr,dtf];refine dK (aD _ ?_);simp only [go_sem,simprocAttr,dtf];refine ⟨_,cp,?_⟩;simp only [go_sem,simprocAttr,dtf];refine ⟨_,co,?_⟩;simp only [go_sem,simprocAttr,dtf];refine aNq (fun (M:List MediumR) => { fr:=[eD raw, .t (bN L), .t (bN K),bP fa,bP ga, .own 0, .dead, .dead, .dead, .dead,aP false, .own 1]++List.replicate 132 .dead,h:=[(1, .box [.t (fC M), .t (gV P.seqs)]),(0, .box [.t (fC raw.media), .t (gV raw.seqs)])],nx:=2 }) (fun M => ∀ m∈M,m.fit) (aD _ ?_) fun M hM=>?_
 ·simp only [go_sem,simprocAttr,dtf];refine ⟨fun h1=>?_,fun h1=>?_⟩
  ·simp only [bxx] at h1;unfold awS;simp only [go_sem,simprocAttr,dtf];refine aL (bG K 0 3 (by omega) (by omega) (by omega)) rfl rfl rfl ?_;simp only [go_sem,simprocAttr,dtf];refine ⟨fun h2=>?_,fun h2=>?_⟩
   ·unfold awS;simp only [go_sem,simprocAttr,dtf];refine ⟨⟨by unfold maxLen;omega,by omega⟩,?_⟩;refine aV 32 .done rfl (by kernel_rfl) (by kernel_rfl) (by decide) ?_;obtain ⟨a,ha⟩:∃ a,a=P.media.getD 0 default:=⟨_,rfl⟩
    obtain ⟨b,hb⟩:∃ b,b=P.media.getD 1 default:=⟨_,rfl⟩
    have n0:∀ d,nth d (P.media.map MediumR.c) 0=MediumR.c a:=fun d=>by rw [ha];exact aL1 (by omega) d
    have n1:∀ d,nth d (P.media.map MediumR.c) 1=MediumR.c b:=fun d=>by rw [hb];exact aL1 (by omega) d
    have hnr:∀ d r,jW d ((aK (P.media.map MediumR.c)).set 1 r) 1=r:=fun d r=>aK0 MediumR.c (by omega) d r
    simp only [go_sem,simprocAttr,dtf,n0,n1,vmed_s,aJ6,aJ5,aJ4,vsq_len,aK1,List.set_set,hnr,vput_s,aJ1,aJ0,aHz];refine ⟨by omega,by omega,by omega,by omega,by omega,by omega,by omega,by omega,by omega,⟨aHy a,by omega⟩,by omega,by omega,by omega,by omega,by omega,by omega,chkQ (by kernel_rfl),?_⟩;rw [Pp MediumR.c (yX a b) (aJs a b)];have eM:aGd P.media=P.media.set 1 (yX a b):=by unfold aGd;rw [if_pos (by omega),ha,hb]
    refine ⟨aGd P.media,?_,aLb hq.media⟩;rw [eM];refine pJ (b := { fr:=[eD raw, .t (bN L), .t (bN K),bP fa,bP ga, .own 0, .dead, .dead, .dead, .dead,aP false, .own 1]++List.replicate 132 .dead,h:=[(1, .box [.t (.list 141 (Tryz.z82.map T.lit) ((P.media.set 1 (yX a b)).map MediumR.c)), .t (gV P.seqs)]),(0, .box [.t (fC raw.media), .t (gV raw.seqs)])],nx:=2 }) (aW [(1,some 1),(0,some 0)] ?_)
     (Vg 1 [.t (fC (P.media.set 1 (yX a b))), .t (gV P.seqs)] rfl fun w E vs h=>?_)
    ·simp only [go_sem,simprocAttr,dtf];simp
    ·cases vs with
     | nil=>simp only [RdVs] at h
     | cons v vs =>
      simp only [RdVs] at h ⊢;exact ⟨as_dW _ _ _ h.1,h.2⟩
   ·unfold awS;simp only [go_sem,simprocAttr,dtf];refine ⟨P.media,aW [(1,some 1),(0,some 0)] ?_,hq.media⟩;simp only [go_sem,simprocAttr,dtf];simp
  ·unfold awS;simp only [go_sem,simprocAttr,dtf];refine ⟨P.media,aW [(1,some 1),(0,some 0)] ?_,hq.media⟩;simp only [go_sem,simprocAttr,dtf];simp
 ·obtain ⟨q,hqq⟩:∃ q:ProjR,q=⟨M,P.seqs⟩:=⟨_,rfl⟩
  have hqf:q.fit:=by rw [hqq];exact ⟨hM,hq.seqs⟩
  obtain ⟨Fs,hFs⟩:∃ Fs:List (ByteArray×ByteArray),Fs = [(fa,ga),(⟨#[109,48]⟩,⟨#[109,49]⟩),(⟨#[109,49]⟩,⟨#[109,48]⟩),(⟨#[109,48]⟩,⟨#[109,48]⟩),(⟨#[109,48]⟩,ga)]:=⟨_,rfl⟩
  obtain ⟨pc,hpc⟩:∃ pc:ByteArray×ByteArray→List T,pc=fun x=>[eX x.1,eX x.2]:=⟨_,rfl⟩
  have hFl:Fs.length=5:=by rw [hFs];rfl
  refine dK (aD _ ?_);simp only [go_sem,simprocAttr,dtf];refine aF (fun (k:Nat) σ => { bL 82 (aC k) (aX [14,15,16,17,18,19,20,21,22,23,83,84,85,86,87,88,89,90,91,92,93,94,95,96,97,98,99,100,101,102,103,104,105,106,107,108,109,110,111,112,113,114,115,116,117,118,119,120,121,122,123,124,125,126,127,128,129,130,131,132,133,134,135,136,137,138,139,140,141,142,143] (bF σ)) with h := σ.h.set 2 (.row 83 2 [.lit (.string ⟨#[]⟩), .lit (.string ⟨#[]⟩)] (aK (Fs.map pc))) }) (fun k=>k≤5) (fun k=>5 - k) 0 (aA ?_) (by omega) ?_
  ·simp only [go_sem,simprocAttr,dtf];rw [hFs,hpc];exact ⟨by simp,rfl,by simp,by simp⟩
  ·intro k hk;refine aD _ ?_;simp only [go_sem,simprocAttr,dtf];refine ⟨fun hlt=>?_,fun hge=>?_⟩
   ·simp only [bxx] at hlt;have hk2:k<Fs.length:=by omega
    have hnn:∀ d,nth d (Fs.map pc) k = [eX (Fs.getD k default).1,eX (Fs.getD k default).2]:=fun d=>by rw [aL0 pc hk2,hpc]
    generalize Fs.getD k default=x at hnn;obtain ⟨f,g⟩:=x;have u1:=aMk q hqf f g;have u2:=aMr q f g hqf;have u3:=aMk raw h f g;have u4:=aMr raw f g h;have l1:=Hf f g hqf;have l2:=Hf f g h;rw [hqq] at u1 u2 l1;generalize eY ⟨M,P.seqs⟩ f g=r1 at u1 u2 l1;generalize eY raw f g=r2 at u3 u4 l2;have c1:=Md r1.1 l1.1 l1.2;have c2:=Md r2.1 l2.1 l2.2;unfold awS;simp only [go_sem,simprocAttr,dtf,hnn,hFl,List.length_map];refine ⟨⟨by omega,by omega⟩,by omega,_,u1,?_⟩;simp only [go_sem,simprocAttr,dtf];refine ⟨_,u2,?_⟩;simp only [go_sem,simprocAttr,dtf];refine ⟨_,u3,?_⟩;simp only [go_sem,simprocAttr,dtf];refine ⟨_,u4,?_⟩;simp only [go_sem,simprocAttr,dtf];refine ⟨_,c1,?_⟩;simp only [go_sem,simprocAttr,dtf];refine ⟨_,c2,?_⟩;simp only [go_sem,simprocAttr,dtf];refine ⟨k+1,aA ?_,by omega,by omega⟩;simp only [go_sem,simprocAttr,dtf];rw [bJ (show k<9223372036854775807 by omega)];exact ⟨by simp,rfl⟩
   ·simp only [bxx] at hge;unfold awS;simp only [go_sem,simprocAttr,dtf];refine aD _ ?_;simp only [go_sem,simprocAttr,dtf];refine ⟨_,cAwake,?_⟩;simp only [go_sem,simprocAttr,dtf]
end Go.Proofs.YtbfnemkngoaeeaaGreat
