/- Proved here: The project copied, in the reference. -/
import Derived.Test.YtbfnemkngoaeeaaGreatQ09
set_option linter.unusedSimpArgs false
set_option linter.unusedVariables false
set_option linter.unnecessarySimpa false
namespace Go.Proofs.YtbfnemkngoaeeaaGreat
open Go.RowKit
set_option maxRecDepth 4000
theorem Gu (l:List CueR) (hl:l.length≤65536) (hll:∀ c∈l,c.lines.length≤65536):aS Tryz.prog 135 [.t (gC l)] (.t (gC l)):=by
 refine dS Tryz.X135 Tryz.func135 rfl Tryz.ntmps135 (by rw [Tryz.results135]) (aD _ ?_);simp only [go_sem,simprocAttr];refine aE (fun (k:Nat) σ => (fun τ : St => { τ with h:=(0,RowQ (l.take k)) :: τ.h,nx:=1 }) (bD 3 (.own 0) (bD 4 (aC k) (aW [5,6,7,8,9,10,11,12,13,14,15,16,17,18,19,20,21,22,23,24,25,26,27,28,29,30,31] (aX σ))))) (fun k=>k≤l.length) (fun k=>l.length - k) 0 (aJ [(0,none)] ?_) (Nat.zero_le _) ?_
 ·simp only [go_sem,simprocAttr]
 ·intro k hk;refine aD _ ?_;simp only [go_sem,simprocAttr];refine ⟨fun hlt=>?_,fun hge=>?_⟩
  ·simp only [bxx] at hlt;have hkl:k<l.length:=by omega
   have hlk:=hll _ (aP (d:=default) hkl);unfold awS;simp only [go_sem,simprocAttr];refine aR 22 .done rfl (by kernel_rfl) (by kernel_rfl) (by decide) ?_;simp only [go_sem,simprocAttr];have hlt2:(l.take k).length≤65536:=by rw [List.length_take];omega
   have hq:l.take (k+1)=l.take k ++ [l.getD k default]:=bE hkl;refine ⟨⟨by omega,by omega⟩,⟨by omega,by omega⟩,⟨by omega,by omega⟩,⟨by unfold maxLen;omega,by omega⟩,⟨by unfold maxLen;omega,by omega⟩,by kernel_rfl,k+1,aJ [(0,some 21)] ?_,by omega,by omega⟩;simp only [go_sem,simprocAttr];refine ⟨⟨by simp,?_,by simp⟩,?_⟩
   ·rw [hq,List.map_append];rfl
   ·rw [aZ (show k<9223372036854775807 by omega)];rfl
  ·simp only [bxx] at hge;have:k=l.length:=by omega
   subst this;rw [List.take_length];unfold awS;simp only [go_sem,simprocAttr];refine cR ?_ rfl;simp only [go_sem,simprocAttr]
theorem Tp (ts:List (List ClipR)) (h1:ts.length≤65536) (h2:∀ t∈ts,t.length≤65536 ∧ ∀ c∈t,c.chan.length≤65536):aS Tryz.prog 136 [.t (cK ts)] (.t (cK ts)):=by
 refine dS Tryz.X136 Tryz.func136 rfl Tryz.ntmps136 (by rw [Tryz.results136]) (aD _ ?_);simp only [go_sem,simprocAttr];refine aE (fun (i:Nat) σ => (fun τ : St => { τ with h:=(0,Ux (ts.take i)) :: τ.h,nx:=1 }) (bD 3 (.own 0) (bD 4 (aC i) (aW [5,6,7,8,9,10,11,12,13,14,15,16,17,18,19,20,21,22,23,24,25,26,27,28,29,30,31,32,33,34,35,36] (aX σ))))) (fun i=>i≤ts.length) (fun i=>ts.length - i) 0 (aJ [(0,none)] ?_) (Nat.zero_le _) ?_
 ·simp only [go_sem,simprocAttr]
 ·intro i hi;refine aD _ ?_;simp only [go_sem,simprocAttr];refine ⟨fun hlt=>?_,fun hge=>?_⟩
  ·simp only [bxx] at hlt;have hil:i<ts.length:=by omega
   obtain ⟨L,hL⟩:∃ L,L=ts.getD i default:=⟨_,rfl⟩
   have hLm:L∈ts:=by rw [hL];exact aP hil
   obtain ⟨q1,q2⟩:=h2 L hLm;have hnt:∀ d,nth d (ts.map bL) i=bL L:=fun d=>by
    unfold nth;rw [List.getElem?_map,List.getElem?_eq_getElem hil,hL,aK hil];rfl
   unfold awS;simp only [go_sem,simprocAttr];refine aE (fun (j:Nat) σ => (fun τ : St => { τ with h:=(1,rL (L.take j)) :: τ.h,nx:=2 }) (bD 5 (.own 1) (bD 6 (aC j) (aW [13,14,15,16,17,18,19,20,21,22,23,24,25,26,27,28,29,30,31,32] (aX σ))))) (fun j=>j≤L.length) (fun j=>L.length - j) 0 (aJ [(1,none),(0,some 0)] ?_) (Nat.zero_le _) ?_
   ·simp only [go_sem,simprocAttr];simp
   ·intro j hj;refine aD _ ?_;simp only [go_sem,simprocAttr,hnt,List.length_map];refine ⟨⟨by omega,by omega⟩,fun hlt2=>?_,fun hge2=>?_⟩
    ·simp only [bxx] at hlt2;have hjl:j<L.length:=by omega
     have hq:L.take (j+1)=L.take j ++ [L.getD j default]:=bE hjl;have hjt:(L.take j).length≤65536:=by rw [List.length_take];omega
     unfold awS;simp only [go_sem,simprocAttr,hnt,List.length_map];refine ⟨⟨by omega,by omega⟩,⟨by omega,by omega⟩,_,cCopy _ (q2 _ (aP hjl)),?_⟩;simp only [go_sem,simprocAttr];refine ⟨⟨by unfold maxLen;omega,by omega⟩,j+1,aJ [(1,some 3),(0,some 0)] ?_,by omega,by omega⟩;simp only [go_sem,simprocAttr];refine ⟨⟨by simp,?_,by simp⟩,?_⟩
     ·rw [hq,List.map_append];rfl
     ·rw [aZ (show j<9223372036854775807 by omega)];rfl
    ·simp only [bxx] at hge2;have:j=L.length:=by omega
     subst this;rw [List.take_length];have hq:ts.take (i+1)=ts.take i ++ [L]:=by rw [bE hil, ← hL]
     have hit:(ts.take i).length≤65536:=by rw [List.length_take];omega
     unfold awS;simp only [go_sem,simprocAttr];refine ⟨⟨by unfold maxLen;omega,by omega⟩,i+1,aJ [(0,some 3)] ?_,by omega,by omega⟩;simp only [go_sem,simprocAttr];refine ⟨⟨by simp,?_,by simp⟩,?_⟩
     ·rw [hq,List.map_append];rfl
     ·rw [aZ (show i<9223372036854775807 by omega)];rfl
  ·simp only [bxx] at hge;have:i=ts.length:=by omega
   subst this;rw [List.take_length];unfold awS;simp only [go_sem,simprocAttr];refine cR ?_ rfl;simp only [go_sem,simprocAttr]
set_option maxHeartbeats 4000000 in
theorem aJ9 (p:ProjR) (hp:p.media.length≤65536) (hq:p.seqs.length≤65536) (hm:∀ m∈p.media,m.cues.length≤65536 ∧ ∀ c∈m.cues,c.lines.length≤65536)
  (hs:∀ s∈p.seqs,(s.cues.length≤65536 ∧ ∀ c∈s.cues,c.lines.length≤65536)∧(s.video.length≤65536 ∧ ∀ t∈s.video,t.length≤65536 ∧ ∀ c∈t,c.chan.length≤65536)∧(s.sound.length≤65536 ∧ ∀ t∈s.sound,t.length≤65536 ∧ ∀ c∈t,c.chan.length≤65536)) :
  aS Tryz.prog 63 [dT p] (dT p):=by
 refine dS Tryz.X63 Tryz.func63 rfl Tryz.ntmps63 (by rw [Tryz.results63]) (aD _ ?_);simp only [go_sem,simprocAttr];refine aE (fun (k:Nat) σ => (fun τ : St => { τ with h:=(3,tS (p.media.take k)) :: τ.h.set 2 (.box [.own 3, .t (.lit (.slice none 0 0))]),nx:=4 }) (bD 4 (aC k) (aW [5,8,9,10,11,12,13,14,15,16,17,18,19,20,21,22,23,24,25,26,27,28,29] (aX σ)))) (fun k=>k≤p.media.length) (fun k=>p.media.length - k) 0 (aJ [(3,none),(2,some 2),(1,some 1),(0,some 0)] ?_) (Nat.zero_le _) ?_
 ·simp only [go_sem,simprocAttr];simp
 ·intro k hk;refine aD _ ?_;simp only [go_sem,simprocAttr];refine ⟨fun hlt=>?_,fun hge=>?_⟩
  ·simp only [bxx] at hlt;have hkl:k<p.media.length:=by omega
   have hq1:p.media.take (k+1)=p.media.take k ++ [p.media.getD k default]:=bE hkl;have hkt:(p.media.take k).length≤65536:=by rw [List.length_take];omega
   unfold awS;simp only [go_sem,simprocAttr];refine ⟨⟨by omega,by omega⟩,_,Gu _ (hm _ (aP hkl)).1 (hm _ (aP hkl)).2,?_⟩;simp only [go_sem,simprocAttr];rw [Fp];simp only [go_sem,simprocAttr];refine ⟨⟨by unfold maxLen;omega,by omega⟩,k+1,aJ [(3,some 6),(2,some 2),(1,some 1),(0,some 0)] ?_,by omega,by omega⟩;simp only [go_sem,simprocAttr];refine ⟨⟨by simp,?_,by simp,by simp,by simp⟩,?_⟩
   ·rw [hq1,List.map_append];rfl
   ·rw [aZ (show k<9223372036854775807 by omega)];rfl
  ·simp only [bxx] at hge;have:k=p.media.length:=by omega
   subst this;rw [List.take_length];unfold awS;simp only [go_sem,simprocAttr];refine aE (fun (k:Nat) σ => (fun τ : St => { τ with h:=(4,Tz (p.seqs.take k)) :: τ.h.set 2 (.box [.own 3, .own 4]),nx:=5 }) (bD 6 (aC k) (aW [7,30,31,32,33,34,35,36,37,38,39,40,41,42,43,44,45,46,47,48,49,50,51,52,53,54,55,56,57,58,59] (aX σ)))) (fun k=>k≤p.seqs.length) (fun k=>p.seqs.length - k) 0 (aJ [(4,none),(3,some 3),(2,some 2),(1,some 1),(0,some 0)] ?_) (Nat.zero_le _) ?_
   ·simp only [go_sem,simprocAttr];simp
   ·intro k hk;refine aD _ ?_;simp only [go_sem,simprocAttr];refine ⟨fun hlt=>?_,fun hge=>?_⟩
    ·simp only [bxx] at hlt;have hkl:k<p.seqs.length:=by omega
     obtain ⟨q1,q2,q3⟩:=hs _ (aP (d:=default) hkl);have hq1:p.seqs.take (k+1)=p.seqs.take k ++ [p.seqs.getD k default]:=bE hkl;have hkt:(p.seqs.take k).length≤65536:=by rw [List.length_take];omega
     unfold awS;simp only [go_sem,simprocAttr];refine ⟨⟨by omega,by omega⟩,?_⟩;refine aR 15 .done rfl (by kernel_rfl) (by kernel_rfl) (by decide) ?_;simp only [go_sem,simprocAttr];refine ⟨_,Tp _ q2.1 q2.2,?_⟩;simp only [go_sem,simprocAttr];refine ⟨_,Tp _ q3.1 q3.2,?_⟩;simp only [go_sem,simprocAttr];refine ⟨_,Gu _ q1.1 q1.2,?_⟩;simp only [go_sem,simprocAttr];refine ⟨by kernel_rfl,?_⟩;refine ⟨⟨by unfold maxLen;omega,by omega⟩,k+1,aJ [(4,some 22),(3,some 3),(2,some 2),(1,some 1),(0,some 0)] ?_,by omega,by omega⟩;simp only [go_sem,simprocAttr];refine ⟨⟨by simp,?_,by simp,by simp,by simp,by simp⟩,?_⟩
     ·rw [hq1,List.map_append];rfl
     ·rw [aZ (show k<9223372036854775807 by omega)];rfl
    ·simp only [bxx] at hge;have:k=p.seqs.length:=by omega
     subst this;rw [List.take_length];unfold awS;simp only [go_sem,simprocAttr];refine cR ?_ rfl;simp only [go_sem,simprocAttr]
structure OwnTr (H:Heap) (lo hi:Nat) (k:Nat) (rs:List Nat) (ts:List (List ClipR)):Prop where
 len:rs.length=ts.length
 row:H.look k=some (.row 27 1 (bL []) (rs.map fun r=>[V.own r]))
 clips:∀ i,i<ts.length→H.look (rs.getD i 0)=some (rL (ts.getD i default))
 nodup:rs.Nodup
 kr:lo≤k∧k<hi
 rr:∀ r∈rs,lo≤r∧r<hi
 ne:k ∉ rs
theorem OwnTr.snoc {H H2:Heap} {lo n n2 k k2 q:Nat} {rs:List Nat} {ts:List (List ClipR)} {L:List ClipR} (h:OwnTr H lo n k rs ts) (hln:lo≤n) (hq:n≤q∧q<n2) (hk:n≤k2∧k2<n2) (hqk:q≠k2)
  (h1:H2.look k2=some (.row 27 1 (bL []) (rs.map (fun r=>[V.own r]) ++ [[.own q]]))) (h2:H2.look q=some (rL L)) (h3:∀ m,m<n→m≠k→H2.look m=H.look m):OwnTr H2 lo n2 k2 (rs ++ [q]) (ts ++ [L]):=by
 refine ⟨by simp [h.len],by rw [h1,List.map_append];rfl,fun i hi=>?_,?_,⟨by omega,hk.2⟩,fun r hr=>?_,fun hm=>?_⟩
 ·by_cases hit:i<ts.length
  ·have hir:i<rs.length:=by rw [h.len];exact hit
   have hrm:rs.getD i 0∈rs:=by rw [List.getD_eq_getElem?_getD,List.getElem?_eq_getElem hir];exact List.getElem_mem _
   have e1:(rs ++ [q]).getD i 0=rs.getD i 0:=by simp only [List.getD_eq_getElem?_getD];rw [List.getElem?_append_left hir]
   have e2:(ts ++ [L]).getD i default=ts.getD i default:=by simp only [List.getD_eq_getElem?_getD];rw [List.getElem?_append_left hit]
   rw [e1,e2,h3 _ (h.rr _ hrm).2 (fun e=>h.ne (e ▸ hrm)),h.clips i hit]
  ·have hie:i=ts.length:=by simp at hi;omega
   have e1:(rs ++ [q]).getD i 0=q:=by simp only [List.getD_eq_getElem?_getD];rw [hie, ← h.len];simp
   have e2:(ts ++ [L]).getD i default=L:=by simp only [List.getD_eq_getElem?_getD];rw [hie];simp
   rw [e1,e2,h2]
 ·rw [List.nodup_append];refine ⟨h.nodup,by simp,fun a ha b hb=>?_⟩;simp only [List.mem_singleton] at hb;have:=(h.rr a ha).2;omega
 ·rcases List.mem_append.1 hr with hr | hr
  ·have:=h.rr r hr;omega
  ·simp only [List.mem_singleton] at hr;omega
 ·rcases List.mem_append.1 hm with hm | hm
  ·have:=(h.rr _ hm).2;omega
  ·simp only [List.mem_singleton] at hm;omega
theorem Eh {σ : St} {d:Option Tmp} {K:St→Prop} (ts:List (List ClipR)) (h1:ts.length≤65536) (h2:∀ t∈ts,t.length≤65536 ∧ ∀ c∈t,c.chan.length≤65536) (hw:WFh σ)
  (hK:∀ k rs H n,OwnTr H σ.nx n k rs ts→(∀ j,j < σ.nx→H.look j = σ.h.look j)→(∀ q,n≤q→H.look q=none) → σ.nx≤n→K (({ σ with h:=H,nx:=n }:St).put d (.own k))) :
  XCall Tryz.prog σ d 136 [.t (cK ts)] K:=by
 unfold XCall;refine mH Tryz.X136 Tryz.func136 rfl Tryz.ntmps136 (by rw [Tryz.results136]) ?_;have hK2:∀ k rs H n,OwnTr H σ.nx n k rs ts→(∀ j,j < σ.nx→H.look j = σ.h.look j)→(∀ q,n≤q→H.look q=none) → σ.nx≤n → ∀ fr df,(fun (x:V) (σ':St)=>(fun s:St=>(sC σ.h s.h∧WFh s ∧ σ.nx≤s.nx)∧K s) (({ σ with h := σ'.h,nx := σ'.nx }:St).put d x)) (.own k) { fr:=fr,h:=H,nx:=n,df:=df }:=by
  intro k rs H n q1 q2 q3 q4 fr df;refine ⟨⟨fun j b hj=>?_,fun j hj=>?_,?_⟩,hK k rs H n q1 q2 q3 q4⟩
  ·rw [eU];show H.look j=some b
   rw [q2 j ?_]
   ·exact hj
   ·rcases Nat.lt_or_ge j σ.nx with h | h
    ·exact h
    ·rw [hw j h] at hj;cases hj
  ·rw [eU];rw [dB] at hj;exact q3 j hj
  ·rw [dB];exact q4
 revert hK2;generalize (fun (x:V) (σ':St)=>(fun s:St=>(sC σ.h s.h∧WFh s ∧ σ.nx≤s.nx)∧K s) (({ σ with h := σ'.h,nx := σ'.nx }:St).put d x))=K2;obtain ⟨fr0,H0,n0,df0⟩ := σ;intro hK2;have hw0:∀ q,n0≤q→H0.look q=none:=hw;have hK3:∀ k rs H n,OwnTr H n0 n k rs ts→(∀ j,j<n0→H.look j=H0.look j)→(∀ q,n≤q→H.look q=none)→n0≤n → ∀ fr df,K2 (.own k) { fr:=fr,h:=H,nx:=n,df:=df }:=hK2;clear hK2 hK;show AWP Tryz.prog n0 _ _ (yC Tryz.prog _ _ H0 n0)
 refine aD _ ?_;simp only [go_sem,simprocAttr];refine aE (fun (x:Nat×Nat×List Nat×Heap×Nat) σ => (fun τ : St => { τ with h:=x.2.2.2.1,nx:=x.2.2.2.2 }) (bD 3 (.own x.2.1) (bD 4 (aC x.1) (aW [5,6,7,8,9,10,11,12,13,14,15,16,17,18,19,20,21,22,23,24,25,26,27,28,29,30,31,32,33,34,35,36] σ))))
  (fun x=>x.1≤ts.length∧OwnTr x.2.2.2.1 n0 x.2.2.2.2 x.2.1 x.2.2.1 (ts.take x.1)∧n0≤x.2.2.2.2 ∧ ∀ j,j<n0→x.2.2.2.1.look j=H0.look j) (fun x=>ts.length - x.1)
  (0,n0,[],(n0, .row 27 1 (bL []) [])::H0,n0+1) (wJ (aBj 3 27 1 (bL []) (Nat.le_refl _) rfl) (gG ?_)) ?_ ?_
 ·simp only [go_sem,simprocAttr];exact Nat.le_refl _
 ·refine ⟨Nat.zero_le _,⟨by simp,by simp [Heap.look],fun i hi=>by simp at hi,by simp,⟨by simp,by simp⟩,by simp,by simp⟩,by simp,fun j hj=>?_⟩;show Heap.look _ j=_
  rw [Heap.look,if_neg (by omega)]
 ·rintro ⟨i,k,rs,H,n⟩ ⟨hi,hO,hn,hlo⟩;have hi:i≤ts.length:=hi;have hO:OwnTr H n0 n k rs (ts.take i):=hO;have hn:n0≤n:=hn;have hlo:∀ j,j<n0→H.look j=H0.look j:=hlo;refine Cc fun hwf=>aD _ ?_
  simp only [go_sem,simprocAttr];refine ⟨fun hlt=>?_,fun hge=>?_⟩
  ·simp only [bxx] at hlt;have hil:i<ts.length:=by omega
   obtain ⟨L,hL⟩:∃ L,L=ts.getD i default:=⟨_,rfl⟩
   have hLm:L∈ts:=by rw [hL];exact aP hil
   obtain ⟨q1,q2⟩:=h2 L hLm;have hnt:∀ d,nth d (ts.map bL) i=bL L:=fun d=>by
    unfold nth;rw [List.getElem?_map,List.getElem?_eq_getElem hil,hL,aK hil];rfl
   unfold awS;simp only [go_sem,simprocAttr];refine aE (fun (x:Nat×Nat×Heap×Nat) σ => (fun τ : St => { τ with h:=x.2.2.1,nx:=x.2.2.2 }) (bD 5 (.own x.2.1) (bD 6 (aC x.1) (aW [13,14,15,16,17,18,19,20,21,22,23,24,25,26,27,28,29,30,31,32,33,34,35,36] σ))))
    (fun x=>x.1≤L.length∧x.2.2.1.look x.2.1=some (rL (L.take x.1))∧(n≤x.2.1∧x.2.1<x.2.2.2) ∧ ∀ m,m<n→x.2.2.1.look m=H.look m) (fun x=>L.length - x.1)
    (0,n,(n, .row 103 22 (ClipR.c default) [])::H,n+1) (wJ (aBj 5 103 22 (ClipR.c default) hn rfl) (gG ?_)) ?_ ?_
   ·simp only [go_sem,simprocAttr];simp
   ·refine ⟨Nat.zero_le _,by simp [Heap.look,aL],⟨by simp,by simp⟩,fun m hm=>?_⟩;show Heap.look _ m=_
    rw [Heap.look,if_neg (by omega)]
   ·rintro ⟨j,q,H1,n1⟩ ⟨hj,hq,hqn,hlo1⟩;have hj:j≤L.length:=hj;have hq:H1.look q=some (rL (L.take j)):=hq;have hqn:n≤q∧q<n1:=hqn;have hlo1:∀ m,m<n→H1.look m=H.look m:=hlo1;have hqn1:(q=n1)=False:=eq_false (by omega);refine Cc fun hwf1=>aD _ ?_
    simp only [go_sem,simprocAttr,hnt,List.length_map];refine ⟨⟨by omega,by omega⟩,fun hlt2=>?_,fun hge2=>?_⟩
    ·simp only [bxx] at hlt2;have hjl:j<L.length:=by omega
     have hqq:L.take (j+1)=L.take j ++ [L.getD j default]:=bE hjl;have hjt:(L.take j).length≤65536:=by rw [List.length_take];omega
     unfold awS;simp only [go_sem,simprocAttr,hnt,List.length_map];refine ⟨⟨by omega,by omega⟩,⟨by omega,by omega⟩,_,cCopy _ (q2 _ (aP hjl)),?_⟩;simp only [go_sem,simprocAttr,hq,hqn1];refine ⟨⟨by unfold maxLen;omega,by omega⟩,(j+1,n1+1,_,n1+2),gG ⟨rfl,Nat.le_refl _,rfl,?_⟩,?_,by show L.length - (j+1)<_;omega⟩
     ·simp only [go_sem,simprocAttr];rw [aZ (show j<9223372036854775807 by omega)];rfl
     ·refine ⟨hjl,?_,⟨by show n≤n1+1;omega,Nat.lt_succ_self _⟩,fun m hm=>?_⟩
      ·show Heap.look _ (n1+1)=_
       rw [Heap.look,if_pos rfl,hqq,rL,List.map_append];rfl
      ·show Heap.look _ m=_
       rw [Heap.look,if_neg (by omega),Heap.look,if_neg (by omega),Heap.look_del,if_neg (by omega)];exact hlo1 m hm
    ·simp only [bxx] at hge2;have:j=L.length:=by omega
     subst this;rw [List.take_length] at hq;have hit:rs.length≤65536:=by rw [hO.len,List.length_take];omega
     have hkq:(k=n1)=False:=eq_false (by have:=hO.kr;omega);have hkl:H1.look k=some (.row 27 1 (bL []) (rs.map fun r=>[V.own r])):=by rw [hlo1 k hO.kr.2];exact hO.row
     unfold awS;simp only [go_sem,simprocAttr,hkl,hkq];refine ⟨⟨by unfold maxLen;omega,by omega⟩,(i+1,n1+1,rs ++ [q],_,n1+2),gG ⟨rfl,Nat.le_refl _,rfl,?_⟩,?_,by show ts.length - (i+1)<_;omega⟩
     ·simp only [go_sem,simprocAttr];rw [aZ (show i<9223372036854775807 by omega)];rfl
     ·refine ⟨hil,?_,by show n0≤n1+2;omega,fun m hm=>?_⟩
      ·have e1:ts.take (i+1)=ts.take i ++ [L]:=by rw [bE hil, ← hL]
       show OwnTr _ n0 (n1+2) (n1+1) (rs ++ [q]) (ts.take (i+1))
       rw [e1];refine hO.snoc hn ⟨hqn.1,by omega⟩ ⟨by omega,by omega⟩ (by omega) ?_ ?_ fun m hm hmk=>?_
       ·rw [Heap.look,if_pos rfl]
       ·rw [Heap.look,if_neg (by omega),Heap.look,if_neg (by omega),Heap.look_del,if_neg (by have:=hO.kr;omega)];exact hq
       ·rw [Heap.look,if_neg (by omega),Heap.look,if_neg (by omega),Heap.look_del,if_neg hmk];exact hlo1 m hm
      ·show Heap.look _ m=_
       have:=hO.kr;rw [Heap.look,if_neg (by omega),Heap.look,if_neg (by omega),Heap.look_del,if_neg (by omega),hlo1 m (by omega)];exact hlo m hm
  ·simp only [bxx] at hge;have:i=ts.length:=by omega
   subst this;rw [List.take_length] at hO;unfold awS;simp only [go_sem,simprocAttr];exact hK3 k rs H n hO hlo (fun q hq=>hwf q hq) hn _ _
theorem OwnTr.keep {H H2:Heap} {lo lo2 n n2 k:Nat} {rs:List Nat} {ts:List (List ClipR)} (h:OwnTr H lo n k rs ts) (h1:H2.look k=H.look k) (h2:∀ r∈rs,H2.look r=H.look r) (hl:lo2≤lo) (hn:n≤n2):OwnTr H2 lo2 n2 k rs ts:=by
 refine ⟨h.len,by rw [h1];exact h.row,fun i hi=>?_,h.nodup,⟨by have:=h.kr;omega,by have:=h.kr;omega⟩,fun r hr=>by have:=h.rr r hr;omega,h.ne⟩;rw [h2 _ ?_]
 ·exact h.clips i hi
 ·have hir:i<rs.length:=by rw [h.len];exact hi
  rw [List.getD_eq_getElem?_getD,List.getElem?_eq_getElem hir];exact List.getElem_mem _
def Zw (q:SequenceR) (v u:Nat):List V:=[bT q.name,aC q.rate.num,aC q.rate.den,aC q.w,aC q.h, .own v, .own u, .t (gC q.cues),aC q.channels]
@[go_sem] theorem seqV_l (q:SequenceR) (v u:Nat):(Zw q v u).length=9:=rfl
abbrev KS:Type:=Nat×List Nat×Nat×List Nat
def dK (k:KS):List Nat:=(k.1::k.2.1)++(k.2.2.1::k.2.2.2)
def sQ (qs:List SequenceR) (ks:List KS):List (List V):=(qs.zip ks).map fun x=>Zw x.1 x.2.1 x.2.2.2.1
structure OwnPr (H:Heap) (lo hi s:Nat) (ks:List KS) (qs:List SequenceR):Prop where
 len:ks.length=qs.length
 row:H.look s=some (.row 114 9 (SequenceR.c default) (sQ qs ks))
 vid:∀ i,i<qs.length→OwnTr H lo hi (ks.getD i default).1 (ks.getD i default).2.1 (qs.getD i default).video
 snd:∀ i,i<qs.length→OwnTr H lo hi (ks.getD i default).2.2.1 (ks.getD i default).2.2.2 (qs.getD i default).sound
 nodup:(ks.flatMap dK).Nodup
 sr:lo≤s∧s<hi
 ne:s ∉ ks.flatMap dK
theorem OwnPr.num {H:Heap} {lo hi s:Nat} {ks:List KS} {qs:List SequenceR} (h:OwnPr H lo hi s ks qs):∀ r∈ks.flatMap dK,lo≤r∧r<hi:=by
 intro r hr;obtain ⟨k,hk,hr⟩:=List.mem_flatMap.1 hr;obtain ⟨i,hi,he⟩:=List.mem_iff_getElem.1 hk;have hiq:i<qs.length:=by rw [← h.len];exact hi
 have e1:ks.getD i default=k:=by rw [List.getD_eq_getElem?_getD,List.getElem?_eq_getElem hi, ← he];rfl
 have hv:=h.vid i hiq;have hu:=h.snd i hiq;rw [e1] at hv hu;unfold dK at hr;rcases List.mem_append.1 hr with hr | hr
 ·rcases List.mem_cons.1 hr with rfl | hr
  ·exact hv.kr
  ·exact hv.rr r hr
 ·rcases List.mem_cons.1 hr with rfl | hr
  ·exact hu.kr
  ·exact hu.rr r hr
theorem Bw {α : Type} {l:List α} {x d : α} {i:Nat} (h:i<l.length):(l ++ [x]).getD i d=l.getD i d:=by
 simp only [List.getD_eq_getElem?_getD];rw [List.getElem?_append_left h]
theorem Bv {α : Type} {l:List α} {x d : α}:(l ++ [x]).getD l.length d=x:=by simp
theorem OwnPr.snoc {H H2:Heap} {lo n n2 s s2 v u:Nat} {rv ru:List Nat} {ks:List KS} {qs:List SequenceR} {q:SequenceR} (h:OwnPr H lo n s ks qs) (hln:lo≤n) (hn:n≤n2) (hv:OwnTr H2 n n2 v rv q.video) (hu:OwnTr H2 n n2 u ru q.sound)
  (hd:(dK (v,rv,u,ru)).Nodup) (hs:n≤s2∧s2<n2) (hs2:s2 ∉ dK (v,rv,u,ru)) (h1:H2.look s2=some (.row 114 9 (SequenceR.c default) (sQ qs ks ++ [Zw q v u])))
  (h3:∀ m,lo≤m→m<n→m≠s→H2.look m=H.look m):OwnPr H2 lo n2 s2 (ks ++ [(v,rv,u,ru)]) (qs ++ [q]):=by
 have hnum:∀ r∈dK (v,rv,u,ru),n≤r∧r<n2:=by
  intro r hr;unfold dK at hr;rcases List.mem_append.1 hr with hr | hr
  ·rcases List.mem_cons.1 hr with rfl | hr
   ·exact hv.kr
   ·exact hv.rr r hr
  ·rcases List.mem_cons.1 hr with rfl | hr
   ·exact hu.kr
   ·exact hu.rr r hr
 have hold:∀ r∈ks.flatMap dK,H2.look r=H.look r:=fun r hr=>h3 r (h.num r hr).1 (h.num r hr).2 fun e=>h.ne (e ▸ hr)
 have hmem:∀ i,i<ks.length → ∀ r∈dK (ks.getD i default),r∈ks.flatMap dK:=fun i hi r hr=>List.mem_flatMap.2 ⟨_,aP hi,hr⟩
 refine ⟨by simp [h.len],?_,fun i hi=>?_,fun i hi=>?_,?_,⟨by omega,hs.2⟩,fun hm=>?_⟩
 ·rw [h1];unfold sQ;rw [List.zip_append h.len.symm,List.map_append];rfl
 ·by_cases hiq:i<qs.length
  ·have hik:i<ks.length:=by rw [h.len];exact hiq
   rw [Bw hiq,Bw hik];refine (h.vid i hiq).keep (hold _ (hmem i hik _ ?_)) (fun r hr=>hold _ (hmem i hik _ ?_)) (Nat.le_refl _) hn
   ·exact List.mem_append_left _ List.mem_cons_self
   ·exact List.mem_append_left _ (List.mem_cons_of_mem _ hr)
  ·have:i=qs.length:=by simp at hi;omega
   subst this;rw [Bv, ← h.len,Bv];exact hv.keep rfl (fun _ _=>rfl) hln (Nat.le_refl _)
 ·by_cases hiq:i<qs.length
  ·have hik:i<ks.length:=by rw [h.len];exact hiq
   rw [Bw hiq,Bw hik];refine (h.snd i hiq).keep (hold _ (hmem i hik _ ?_)) (fun r hr=>hold _ (hmem i hik _ ?_)) (Nat.le_refl _) hn
   ·exact List.mem_append_right _ List.mem_cons_self
   ·exact List.mem_append_right _ (List.mem_cons_of_mem _ hr)
  ·have:i=qs.length:=by simp at hi;omega
   subst this;rw [Bv, ← h.len,Bv];exact hu.keep rfl (fun _ _=>rfl) hln (Nat.le_refl _)
 ·rw [List.flatMap_append,List.nodup_append];refine ⟨h.nodup,by simpa using hd,fun a ha b hb=>?_⟩;have h5:=(h.num a ha).2;have h6:=(hnum b (by simpa using hb)).1;omega
 ·rw [List.flatMap_append] at hm;rcases List.mem_append.1 hm with hm | hm
  ·have:=(h.num _ hm).2;omega
  ·exact hs2 (by simpa using hm)
theorem OwnPr.keepAll {H H2:Heap} {lo lo2 n n2 s:Nat} {ks:List KS} {qs:List SequenceR} (h:OwnPr H lo n s ks qs) (h1:∀ r∈ks.flatMap dK,H2.look r=H.look r) (h2:H2.look s=H.look s) (hl:lo2≤lo) (hn:n≤n2):OwnPr H2 lo2 n2 s ks qs:=by
 have hmem:∀ i,i<qs.length → ∀ r∈dK (ks.getD i default),r∈ks.flatMap dK:=fun i hi r hr=>List.mem_flatMap.2 ⟨_,aP (by rw [h.len];exact hi),hr⟩
 refine ⟨h.len,by rw [h2];exact h.row,fun i hi=>?_,fun i hi=>?_,h.nodup,by have:=h.sr;omega,h.ne⟩
 ·refine (h.vid i hi).keep (h1 _ (hmem i hi _ ?_)) (fun r hr=>h1 _ (hmem i hi _ ?_)) hl hn
  ·exact List.mem_append_left _ List.mem_cons_self
  ·exact List.mem_append_left _ (List.mem_cons_of_mem _ hr)
 ·refine (h.snd i hi).keep (h1 _ (hmem i hi _ ?_)) (fun r hr=>h1 _ (hmem i hi _ ?_)) hl hn
  ·exact List.mem_append_right _ List.mem_cons_self
  ·exact List.mem_append_right _ (List.mem_cons_of_mem _ hr)
set_option maxHeartbeats 8000000 in
theorem aG5 {σ : St} {d:Option Tmp} {K:St→Prop} (p:ProjR) (hp:p.media.length≤65536) (hq:p.seqs.length≤65536) (hm:∀ m∈p.media,m.cues.length≤65536 ∧ ∀ c∈m.cues,c.lines.length≤65536)
  (hs:∀ s∈p.seqs,(s.cues.length≤65536 ∧ ∀ c∈s.cues,c.lines.length≤65536)∧(s.video.length≤65536 ∧ ∀ t∈s.video,t.length≤65536 ∧ ∀ c∈t,c.chan.length≤65536)∧(s.sound.length≤65536 ∧ ∀ t∈s.sound,t.length≤65536 ∧ ∀ c∈t,c.chan.length≤65536))
  (hK:∀ m s ks H n,H.look m=some (tS p.media)→OwnPr H (m+1) n s ks p.seqs→(∀ j,j < σ.nx→H.look j = σ.h.look j) → σ.nx≤m→K (({ σ with h:=H,nx:=n }:St).put d (.agg [.own m, .own s]))) :
  ICall Tryz.prog σ d 63 [dT p] K:=by
 refine mH Tryz.X63 Tryz.func63 rfl Tryz.ntmps63 (by rw [Tryz.results63]) ?_;have hK2:∀ m s ks H n,H.look m=some (tS p.media)→OwnPr H (m+1) n s ks p.seqs→(∀ j,j < σ.nx→H.look j = σ.h.look j) → σ.nx≤m → ∀ fr df,(fun (x:V) (σ':St)=>K (({ σ with h := σ'.h,nx := σ'.nx }:St).put d x)) (.agg [.own m, .own s]) { fr:=fr,h:=H,nx:=n,df:=df }:=fun m s ks H n q1 q2 q3 q4 fr df=>hK m s ks H n q1 q2 q3 q4
 revert hK2;generalize (fun (x:V) (σ':St)=>K (({ σ with h := σ'.h,nx := σ'.nx }:St).put d x))=K2;obtain ⟨fr0,H0,n0,df0⟩ := σ;intro hK2;have hK3:∀ m s ks H n,H.look m=some (tS p.media)→OwnPr H (m+1) n s ks p.seqs→(∀ j,j<n0→H.look j=H0.look j)→n0≤m → ∀ fr df,K2 (.agg [.own m, .own s]) { fr:=fr,h:=H,nx:=n,df:=df }:=hK2;clear hK2 hK;show AWP Tryz.prog n0 _ _ (yC Tryz.prog _ _ H0 n0)
 refine aD _ ?_;simp only [go_sem,simprocAttr];obtain ⟨b1,hb1⟩:∃ b1,b1=n0+1:=⟨_,rfl⟩
 rw [← hb1];obtain ⟨b2,hb2⟩:∃ b2,b2=b1+1:=⟨_,rfl⟩
 rw [← hb2];obtain ⟨c0,hc0⟩:∃ c0,c0=V.t (.lit (.slice none 0 0)):=⟨_,rfl⟩
 refine aE (fun (x:Nat×Nat×Heap×Nat) σ => (fun τ : St => { τ with h:=x.2.2.1,nx:=x.2.2.2 }) (bD 4 (aC x.1) (aW [5,8,9,10,11,12,13,14,15,16,17,18,19,20,21,22,23,24,25,26,27,28,29] σ)))
  (fun x=>x.1≤p.media.length∧(x.2.2.1.look n0=some (.box [.t (jW p.media), .t (nL p.seqs)])∧x.2.2.1.look b1=some (.box [.t (.lit (.slice none 0 0)), .t (.lit (.slice none 0 0))])∧x.2.2.1.look b2=some (.box [.own x.2.1, .t (.lit (.slice none 0 0))]) ∧
   x.2.2.1.look x.2.1=some (tS (p.media.take x.1)))∧(b2<x.2.1∧x.2.1<x.2.2.2) ∧ ∀ j,j<n0→x.2.2.1.look j=H0.look j) (fun x=>p.media.length - x.1)
  (0,b2+1,(b2+1, .row 82 141 (MediumR.c default) [])::Heap.set ((b2, .box [.t (.lit (.slice none 0 0)), .t (.lit (.slice none 0 0))])::(b1, .box [.t (.lit (.slice none 0 0)), .t (.lit (.slice none 0 0))])::(n0, .box [.t (jW p.media), .t (nL p.seqs)])::H0) b2 (.box [.own (b2+1), .t (.lit (.slice none 0 0))]),b2+1+1)
  (wJ (Va b2 0 82 141 (MediumR.c default) [.t (.lit (.slice none 0 0)), .t (.lit (.slice none 0 0))] (by show n0≤b2+1;omega) (by show Heap.look _ b2=_;rw [Heap.look,if_pos rfl]) rfl) (gG ?_)) ?_ ?_
 ·simp only [go_sem,simprocAttr];exact Nat.le_refl _
 ·refine ⟨Nat.zero_le _,⟨?_,?_,?_,?_⟩,⟨Nat.lt_succ_self _,Nat.lt_succ_self _⟩,fun j hj=>?_⟩
  ·show Heap.look _ n0=_
   rw [Heap.look,if_neg (by omega),Heap.set,if_pos rfl,Heap.look,if_neg (by omega),Heap.look,if_neg (by omega),Heap.look,if_pos rfl]
  ·show Heap.look _ b1=_
   rw [Heap.look,if_neg (by omega),Heap.set,if_pos rfl,Heap.look,if_neg (by omega),Heap.look,if_pos rfl]
  ·show Heap.look _ b2=_
   rw [Heap.look,if_neg (by omega),Heap.set,if_pos rfl,Heap.look,if_pos rfl]
  ·show Heap.look _ (b2+1)=_
   rw [Heap.look,if_pos rfl];rfl
  ·show Heap.look _ j=_
   rw [Heap.look,if_neg (by omega),Heap.set,if_pos rfl,Heap.look,if_neg (by omega),Heap.look,if_neg (by omega),Heap.look,if_neg (by omega)]
 ·rintro ⟨k,m,H,n⟩ ⟨hk,⟨g0,g1,g2,gm⟩,hmn,hlo⟩;have hk:k≤p.media.length:=hk;have g0:H.look n0=some (.box [.t (jW p.media), .t (nL p.seqs)]):=g0;have g1:H.look b1=some (.box [.t (.lit (.slice none 0 0)), .t (.lit (.slice none 0 0))]):=g1;have g2:H.look b2=some (.box [.own m, .t (.lit (.slice none 0 0))]):=g2;have gm:H.look m=some (tS (p.media.take k)):=gm;have hmn:b2<m∧m<n:=hmn;have hlo:∀ j,j<n0→H.look j=H0.look j:=hlo;have e0:(n0=n)=False:=eq_false (by omega);have e2:(b2=n)=False:=eq_false (by omega);have em:(m=n)=False:=eq_false (by omega);have em1:(m=n+1)=False:=eq_false (by omega);have e21:(b2=n+1)=False:=eq_false (by omega);have e22:(b2=n+1+1)=False:=eq_false (by omega);have e2m:(b2=m)=False:=eq_false (by omega);have hdel:∀ j,(H.del m).look j=if j=m then none else H.look j:=Heap.look_del H m
  refine Cc fun hwf=>aD _ ?_
  simp only [go_sem,simprocAttr,g0];refine ⟨fun hlt=>?_,fun hge=>?_⟩
  ·simp only [bxx] at hlt;have hkl:k<p.media.length:=by omega
   have hq1:p.media.take (k+1)=p.media.take k ++ [p.media.getD k default]:=bE hkl;have hkt:(p.media.take k).length≤65536:=by rw [List.length_take];omega
   unfold awS;simp only [go_sem,simprocAttr,g0];refine ⟨⟨by omega,by omega⟩,_,Gu _ (hm _ (aP hkl)).1 (hm _ (aP hkl)).2,?_⟩;simp only [go_sem,simprocAttr,g2,e2];rw [Fp];simp only [go_sem,simprocAttr,g2,gm,e2,em,em1,e21,e22,e2m,hdel];have hl2:(H.del m).look b2=some (.box [.own m, .t (.lit (.slice none 0 0))]):=by rw [hdel,if_neg (by omega)];exact g2
   refine ⟨⟨by unfold maxLen;omega,by omega⟩,(k+1,n+1+1,_,n+1+1+1),gG ⟨rfl,Nat.le_refl _,rfl,?_⟩,?_,by show p.media.length - (k+1)<_;omega⟩
   ·simp only [go_sem,simprocAttr];rw [aZ (show k<9223372036854775807 by omega)];rfl
   ·refine ⟨hkl,⟨?_,?_,?_,?_⟩,⟨by show b2<n+1+1;omega,Nat.lt_succ_self _⟩,fun j hj=>?_⟩
    ·show Heap.look _ n0=_
     rw [Heap.look,if_neg (by omega),Heap.look,if_neg (by omega),Heap.look,if_neg (by omega),Heap.look_set _ _ _ hl2,if_neg (by omega),hdel,if_neg (by omega)];exact g0
    ·show Heap.look _ b1=_
     rw [Heap.look,if_neg (by omega),Heap.look,if_neg (by omega),Heap.look,if_neg (by omega),Heap.look_set _ _ _ hl2,if_neg (by omega),hdel,if_neg (by omega)];exact g1
    ·show Heap.look _ b2=_
     rw [Heap.look,if_neg (by omega),Heap.look,if_neg (by omega),Heap.look,if_neg (by omega),Heap.look_set _ _ _ hl2,if_pos rfl]
    ·show Heap.look _ (n+1+1)=_
     rw [Heap.look,if_pos rfl,hq1,tS,List.map_append];rfl
    ·show Heap.look _ j=_
     rw [Heap.look,if_neg (by omega),Heap.look,if_neg (by omega),Heap.look,if_neg (by omega),Heap.look_set _ _ _ hl2,if_neg (by omega),hdel,if_neg (by omega)];exact hlo j hj
  ·simp only [bxx] at hge;have:k=p.media.length:=by omega
   subst this;rw [List.take_length] at gm;unfold awS;simp only [go_sem,simprocAttr];refine aE (fun (x:Nat×Nat×List KS×Heap×Nat) σ => (fun τ : St => { τ with h:=x.2.2.2.1,nx:=x.2.2.2.2 }) (bD 6 (aC x.1) (aW [7,30,31,32,33,34,35,36,37,38,39,40,41,42,43,44,45,46,47,48,49,50,51,52,53,54,55,56,57,58,59] σ)))
    (fun x=>x.1≤p.seqs.length∧(x.2.2.2.1.look n0=some (.box [.t (jW p.media), .t (nL p.seqs)])∧x.2.2.2.1.look b1=some (.box [.t (.lit (.slice none 0 0)), .t (.lit (.slice none 0 0))])∧x.2.2.2.1.look b2=some (.box [.own m, .own x.2.1]) ∧
     x.2.2.2.1.look m=some (tS p.media))∧OwnPr x.2.2.2.1 n x.2.2.2.2 x.2.1 x.2.2.1 (p.seqs.take x.1)∧n≤x.2.2.2.2 ∧ ∀ j,j<n0→x.2.2.2.1.look j=H0.look j) (fun x=>p.seqs.length - x.1)
    (0,n,[],(n, .row 114 9 (SequenceR.c default) [])::Heap.set H b2 (.box [.own m, .own n]),n+1)
    (wJ (Va b2 1 114 9 (SequenceR.c default) [.own m, .t (.lit (.slice none 0 0))] (by show n0≤n;omega) g2 rfl) (gG ?_)) ?_ ?_
   ·simp only [go_sem,simprocAttr];exact Nat.le_refl _
   ·have hl2:∀ B j,(H.set b2 B).look j=if j=b2 then some B else H.look j:=fun B j=>Heap.look_set H b2 B g2 j
    refine ⟨Nat.zero_le _,⟨?_,?_,?_,?_⟩,⟨by simp,?_,fun i hi=>by simp at hi,fun i hi=>by simp at hi,by simp,⟨Nat.le_refl _,Nat.lt_succ_self _⟩,by simp⟩,Nat.le_succ _,fun j hj=>?_⟩
    ·show Heap.look _ n0=_
     rw [Heap.look,if_neg (by omega),hl2,if_neg (by omega)];exact g0
    ·show Heap.look _ b1=_
     rw [Heap.look,if_neg (by omega),hl2,if_neg (by omega)];exact g1
    ·show Heap.look _ b2=_
     rw [Heap.look,if_neg (by omega),hl2,if_pos rfl]
    ·show Heap.look _ m=_
     rw [Heap.look,if_neg (by omega),hl2,if_neg (by omega)];exact gm
    ·show Heap.look _ n=_
     rw [Heap.look,if_pos rfl];rfl
    ·show Heap.look _ j=_
     rw [Heap.look,if_neg (by omega),hl2,if_neg (by omega)];exact hlo j hj
   ·rintro ⟨k,s,ks,H1,n1⟩ ⟨hk1,⟨a0,a1,a2,am⟩,hO,hn1,hlo1⟩;have hk1:k≤p.seqs.length:=hk1;have a0:H1.look n0=some (.box [.t (jW p.media), .t (nL p.seqs)]):=a0;have a1:H1.look b1=some (.box [.t (.lit (.slice none 0 0)), .t (.lit (.slice none 0 0))]):=a1;have a2:H1.look b2=some (.box [.own m, .own s]):=a2;have am:H1.look m=some (tS p.media):=am;have hO:OwnPr H1 n n1 s ks (p.seqs.take k):=hO;have hn1:n≤n1:=hn1;have hlo1:∀ j,j<n0→H1.look j=H0.look j:=hlo1;have hsr:=hO.sr;have f0:(n0=n1)=False:=eq_false (by omega);have f2:(b2=n1)=False:=eq_false (by omega);have f1:(b1=n1)=False:=eq_false (by omega);have f1b:(b1=b2)=False:=eq_false (by omega);refine Cc fun hwf1=>aD _ ?_
    simp only [go_sem,simprocAttr,a0];refine ⟨fun hlt=>?_,fun hge=>?_⟩
    ·simp only [bxx] at hlt;have hkl:k<p.seqs.length:=by omega
     obtain ⟨q1,q2,q3⟩:=hs _ (aP (d:=default) hkl);have hq1:p.seqs.take (k+1)=p.seqs.take k ++ [p.seqs.getD k default]:=bE hkl;have hkt:(p.seqs.take k).length≤65536:=by rw [List.length_take];omega
     unfold awS;simp only [go_sem,simprocAttr,a0];refine ⟨⟨by omega,by omega⟩,?_⟩;refine aT0 [2,5] (.look 0 (.look 1 (.look 3 (.look 4 (.look 6 (.look 7 (.step 2 (.look 9 (.step 5 (.step 8 (.step 10 (.step 11 (.step 12 (.step 13 (.step 14 .done))))))))))))))) rfl (by kernel_rfl) ?_;simp only [go_sem,simprocAttr];obtain ⟨qq,hqq⟩:∃ qq,qq=p.seqs.getD k default:=⟨_,rfl⟩
     rw [← hqq] at q1 q2 q3 hq1 ⊢;obtain ⟨B0,hB0⟩:∃ B0,B0=Blk.box [bT qq.name,aC qq.rate.num,aC qq.rate.den,aC qq.w,aC qq.h,V.t (cK qq.video),V.t (cK qq.sound),V.t (gC qq.cues),aC qq.channels]:=⟨_,rfl⟩
     refine Eh _ q2.1 q2.2 (fun j hj=>?_) ?_
     ·have hj:n1+1≤j:=hj;show Heap.look _ j=none
      rw [Heap.look,if_neg (by omega)];exact hwf1 j (by show n1≤j;omega)
     ·intro v rv H2 n2 hv hk2 hz2 hle2;have hle2:n1+1≤n2:=hle2;have hv:OwnTr H2 (n1+1) n2 v rv qq.video:=hv;have hk2':∀ j,j<n1→H2.look j=H1.look j:=fun j hj=>by
       have:=hk2 j (by show j<n1+1;omega);rw [this];show Heap.look _ j=_
       rw [Heap.look,if_neg (by omega)]
      have hn2:H2.look n1=some B0:=by
       rw [hk2 n1 (Nat.lt_succ_self _)];show Heap.look _ n1=_
       rw [Heap.look,if_pos rfl,hB0]
      rw [hB0] at hn2;simp only [go_sem,simprocAttr,hn2];refine Eh _ q3.1 q3.2 hz2 ?_;intro u ru H3 n3 hu hk3 hz3 hle3;have hle3:n2≤n3:=hle3;have hu:OwnTr H3 n2 n3 u ru qq.sound:=hu;have hk3:∀ j,j<n2→H3.look j=H2.look j:=hk3;have hn3:H3.look n1=some (Blk.box [bT qq.name,aC qq.rate.num,aC qq.rate.den,aC qq.w,aC qq.h,V.t (cK qq.video),V.t (cK qq.sound),V.t (gC qq.cues),aC qq.channels]):=by
       rw [hk3 n1 (by omega)];exact hn2
      have hb3:H3.look b2=some (.box [.own m, .own s]):=by
       rw [hk3 b2 (by omega),hk2' b2 (by omega)];exact a2
      have hset:∀ B j,(H3.set n1 B).look j=if j=n1 then some B else H3.look j:=fun B j=>Heap.look_set H3 n1 B hn3 j
      have hsr3:H3.look s=some (.row 114 9 (SequenceR.c default) (sQ (p.seqs.take k) ks)):=by
       rw [hk3 s (by omega),hk2' s (by omega)];exact hO.row
      have x1:(b2=n1)=False:=eq_false (by omega);have x2:(s=n1)=False:=eq_false (by omega);have x3:(s=n3)=False:=eq_false (by omega);have x4:(n1=n3)=False:=eq_false (by omega);have x5:(b2=n3)=False:=eq_false (by omega);have x6:(b2=n3+1)=False:=eq_false (by omega);have x7:(b2=s)=False:=eq_false (by omega);simp only [go_sem,simprocAttr];refine ⟨_,Gu _ q1.1 q1.2,?_⟩;have hdel:∀ B j,((H3.set n1 B).del s).look j=if j=s then none else if j=n1 then some B else H3.look j:=fun B j=>by rw [Heap.look_del,hset]
      simp only [go_sem,simprocAttr,hn3,hset,hb3,hsr3,x1,x2,x3,x5,x6,x7,hdel];have hsl:(sQ (p.seqs.take k) ks).length≤65536:=by
       unfold sQ;rw [List.length_map,List.length_zip,hO.len,Nat.min_self];exact hkt
      obtain ⟨G,hG⟩:∃ G,G=(H3.set n1 (Blk.box [bT qq.name,aC qq.rate.num,aC qq.rate.den,aC qq.w,aC qq.h,V.own v,V.own u,V.t (gC qq.cues),aC qq.channels])).del s:=⟨_,rfl⟩
      have hGl:∀ j,G.look j=if j=s then none else if j=n1 then some (Blk.box [bT qq.name,aC qq.rate.num,aC qq.rate.den,aC qq.w,aC qq.h,V.own v,V.own u,V.t (gC qq.cues),aC qq.channels]) else H3.look j:=fun j=>by rw [hG,hdel]
      rw [← hG];have hGb:G.look b2=some (.box [.own m, .own s]):=by rw [hGl,if_neg (by omega),if_neg (by omega)];exact hb3
      have hGs:∀ B j,(G.set b2 B).look j=if j=b2 then some B else G.look j:=fun B j=>Heap.look_set G b2 B hGb j
      have hvk:=hv.kr;have huk:=hu.kr;have hv3:OwnTr H3 (n1+1) n2 v rv qq.video:=hv.keep (hk3 v hvk.2) (fun r hr=>hk3 r (hv.rr r hr).2) (Nat.le_refl _) (Nat.le_refl _);refine ⟨⟨by unfold maxLen;omega,by omega⟩,(k+1,n3+1,ks ++ [(v,rv,u,ru)],_,n3+1+1),gG ⟨rfl,Nat.le_refl _,rfl,?_⟩,?_,by show p.seqs.length - (k+1)<_;omega⟩
      ·simp only [go_sem,simprocAttr];rw [aZ (show k<9223372036854775807 by omega)];rfl
      ·have hfin:∀ X Y B j,Heap.look ((n3+1,X)::(n3,Y)::G.set b2 B) j=if j=n3+1 then some X else if j=n3 then some Y else if j=b2 then some B else if j=s then none else if j=n1 then some (Blk.box [bT qq.name,aC qq.rate.num,aC qq.rate.den,aC qq.w,aC qq.h,V.own v,V.own u,V.t (gC qq.cues),aC qq.channels]) else H3.look j:=fun X Y B j=>by
        rw [Heap.look,Heap.look,hGs,hGl]
       have hold:∀ j,j<n1→H3.look j=H1.look j:=fun j hj=>by rw [hk3 j (by omega),hk2' j hj]
       refine ⟨hkl,⟨?_,?_,?_,?_⟩,?_,by show n≤n3+1+1;omega,fun j hj=>?_⟩
       ·show Heap.look _ n0=_
        rw [hfin,if_neg (by omega),if_neg (by omega),if_neg (by omega),if_neg (by omega),if_neg (by omega),hold _ (by omega)];exact a0
       ·show Heap.look _ b1=_
        rw [hfin,if_neg (by omega),if_neg (by omega),if_neg (by omega),if_neg (by omega),if_neg (by omega),hold _ (by omega)];exact a1
       ·show Heap.look _ b2=_
        rw [hfin,if_neg (by omega),if_neg (by omega),if_pos rfl]
       ·show Heap.look _ m=_
        rw [hfin,if_neg (by omega),if_neg (by omega),if_neg (by omega),if_neg (by omega),if_neg (by omega),hold _ (by omega)];exact am
       ·show OwnPr _ n (n3+1+1) (n3+1) (ks ++ [(v,rv,u,ru)]) (p.seqs.take (k+1))
        rw [hq1];have hmv:∀ r∈v::rv,n1+1≤r∧r<n2:=fun r hr=>by
         rcases List.mem_cons.1 hr with rfl | hr
         ·exact hvk
         ·exact hv.rr r hr
        have hmu:∀ r∈u::ru,n2≤r∧r<n3:=fun r hr=>by
         rcases List.mem_cons.1 hr with rfl | hr
         ·exact huk
         ·exact hu.rr r hr
        refine hO.snoc hn1 (by omega) (hv3.keep ?_ (fun r hr=>?_) (by omega) (by omega)) (hu.keep ?_ (fun r hr=>?_) (by omega) (by omega)) ?_ ⟨by omega,by omega⟩ ?_ ?_ fun j hjl hj hjs=>?_
        ·have:=hmv v (by simp);rw [hfin,if_neg (by omega),if_neg (by omega),if_neg (by omega),if_neg (by omega),if_neg (by omega)]
        ·have:=hv.rr r hr;rw [hfin,if_neg (by omega),if_neg (by omega),if_neg (by omega),if_neg (by omega),if_neg (by omega)]
        ·rw [hfin,if_neg (by omega),if_neg (by omega),if_neg (by omega),if_neg (by omega),if_neg (by omega)]
        ·have:=hu.rr r hr;rw [hfin,if_neg (by omega),if_neg (by omega),if_neg (by omega),if_neg (by omega),if_neg (by omega)]
        ·unfold dK;rw [List.nodup_append];refine ⟨List.nodup_cons.2 ⟨hv.ne,hv.nodup⟩,List.nodup_cons.2 ⟨hu.ne,hu.nodup⟩,fun a ha b hb=>?_⟩;have:=(hmv a ha).2;have:=(hmu b hb).1;omega
        ·intro hm';unfold dK at hm';rcases List.mem_append.1 hm' with hm' | hm'
         ·have:=(hmv _ hm').2;omega
         ·have:=(hmu _ hm').2;omega
        ·rw [hfin,if_pos rfl];rfl
        ·rw [hfin,if_neg (by omega),if_neg (by omega),if_neg (by omega),if_neg hjs,if_neg (by omega),hold _ hj]
       ·show Heap.look _ j=_
        rw [hfin,if_neg (by omega),if_neg (by omega),if_neg (by omega),if_neg (by omega),if_neg (by omega),hold _ (by omega)];exact hlo1 j hj
    ·simp only [bxx] at hge;have:k=p.seqs.length:=by omega
     subst this;rw [List.take_length] at hO;unfold awS;have hs1:∀ B j,(H1.set b1 B).look j=if j=b1 then some B else H1.look j:=fun B j=>Heap.look_set H1 b1 B a1 j
     simp only [go_sem,simprocAttr,a1,a2,hs1];have hmn2:∀ r∈ks.flatMap dK,r≠b1:=fun r hr=>by have:=hO.num r hr;omega
     refine hK3 m s ks _ n1 ?_ (hO.keepAll (fun r hr=>?_) ?_ (by omega) (Nat.le_refl _)) (fun j hj=>?_) (by omega) _ _
     ·rw [hs1,if_neg (by omega)];exact am
     ·rw [hs1,if_neg (hmn2 r hr)]
     ·rw [hs1,if_neg (by omega)]
     ·rw [hs1,if_neg (by omega)];exact hlo1 j hj
theorem aLj (s:SourceR) (f g:ByteArray):aS Tryz.prog 87 [wK s,bT f,bT g] (wK (yJ f g s)):=by
 refine aH Tryz.X87 Tryz.func87 rfl Tryz.ntmps87 (by rw [Tryz.results87]) (aD _ ?_);simp only [go_sem,simprocAttr];refine brW (b:=s.kind==1&&s.name.toList==f.toList) rfl ⟨fun h=>?_,fun h=>?_⟩
 ·unfold awS yJ;rw [if_pos h];simp only [go_sem,simprocAttr]
 ·unfold awS yJ;rw [h];simp only [go_sem,simprocAttr]
theorem OwnTr.upd {H H2:Heap} {lo n k t:Nat} {rs:List Nat} {ts:List (List ClipR)} {L:List ClipR} (h:OwnTr H lo n k rs ts) (ht:t<ts.length) (h1:H2.look (rs.getD t 0)=some (rL L)) (h2:∀ j,j≠rs.getD t 0→H2.look j=H.look j):OwnTr H2 lo n k rs (ts.set t L):=by
 have htr:t<rs.length:=by rw [h.len];exact ht
 have hrm:rs.getD t 0∈rs:=by rw [List.getD_eq_getElem?_getD,List.getElem?_eq_getElem htr];exact List.getElem_mem _
 refine ⟨by rw [List.length_set];exact h.len,?_,fun i hi=>?_,h.nodup,h.kr,h.rr,h.ne⟩
 ·rw [h2 k (fun e=>h.ne (by rw [e];exact hrm))];exact h.row
 ·rw [List.length_set] at hi;have hir:i<rs.length:=by rw [h.len];exact hi
  by_cases hit:t=i
  ·subst hit;rw [h1];simp only [List.getD_eq_getElem?_getD,List.getElem?_set_self ht,Option.getD_some]
  ·rw [h2 _ fun e=>hit ?_,h.clips i hi]
   ·simp only [List.getD_eq_getElem?_getD,List.getElem?_set_ne hit]
   ·simp only [List.getD_eq_getElem?_getD,List.getElem?_eq_getElem htr,List.getElem?_eq_getElem hir,Option.getD_some] at e;exact ((List.getElem_inj h.nodup).1 e).symm
theorem aL1 {ks:List KS} {i j:Nat} {r:Nat} (h:(ks.flatMap dK).Nodup) (hi:i<ks.length) (hj:j<ks.length) (hri:r∈dK (ks.getD i default)) (hrj:r∈dK (ks.getD j default)):i=j:=by
 induction ks generalizing i j with
 | nil=>simp at hi
 | cons k ks ih =>
  rw [List.flatMap_cons,List.nodup_append] at h;cases i with
  | zero =>
   cases j with
   | zero=>rfl
   | succ j =>
    exfalso;have hj':j<ks.length:=by simpa using hj
    refine h.2.2 r (by simpa using hri) r (List.mem_flatMap.2 ⟨_,aP (d:=default) hj',by simpa using hrj⟩) rfl
  | succ i =>
   have hi':i<ks.length:=by simpa using hi
   cases j with
   | zero =>
    exfalso;exact h.2.2 r (by simpa using hrj) r (List.mem_flatMap.2 ⟨_,aP (d:=default) hi',by simpa using hri⟩) rfl
   | succ j =>
    rw [ih h.2.1 hi' (by simpa using hj) (by simpa using hri) (by simpa using hrj)]
theorem Xw {ks:List KS} {i:Nat} (h:(ks.flatMap dK).Nodup) (hi:i<ks.length):(dK (ks.getD i default)).Nodup:=by
 induction ks generalizing i with
 | nil=>simp at hi
 | cons k ks ih =>
  rw [List.flatMap_cons,List.nodup_append] at h;cases i with
  | zero=>simpa using h.1
  | succ i=>simpa using ih h.2.1 (by simpa using hi)
theorem Wa {qs:List SequenceR} {ks:List KS} {i:Nat} {q:SequenceR} (hi:i<qs.length) (h:ks.length=qs.length) (hq:∀ v u,Zw q v u=Zw (qs.getD i default) v u):sQ (qs.set i q) ks=sQ qs ks:=by
 unfold sQ;apply List.ext_getElem?;intro j;simp only [List.getElem?_map]
 by_cases hj:j<qs.length
 ·have hjk:j<ks.length:=by rw [h];exact hj
  have hz1:j<((qs.set i q).zip ks).length:=by rw [List.length_zip,List.length_set,h,Nat.min_self];exact hj
  have hz2:j<(qs.zip ks).length:=by rw [List.length_zip,h,Nat.min_self];exact hj
  rw [List.getElem?_eq_getElem hz1,List.getElem?_eq_getElem hz2];simp only [Option.map_some,List.getElem_zip]
  by_cases hij:i=j
  ·subst hij;rw [List.getElem_set_self,hq,List.getD_eq_getElem?_getD,List.getElem?_eq_getElem hj];rfl
  ·rw [List.getElem_set_ne hij]
 ·rw [List.getElem?_eq_none (by rw [List.length_zip,List.length_set];omega),List.getElem?_eq_none (by rw [List.length_zip];omega)]
theorem Bu {α : Type} [Inhabited α] {l:List α} {i:Nat} {x : α} (hi:i<l.length):(l.set i x).getD i default=x:=by
 simp only [List.getD_eq_getElem?_getD,List.getElem?_set_self hi,Option.getD_some]
theorem Bt {α : Type} [Inhabited α] {l:List α} {i j:Nat} {x : α} (hi:i≠j):(l.set i x).getD j default=l.getD j default:=by
 simp only [List.getD_eq_getElem?_getD,List.getElem?_set_ne hi]
theorem mem_v {k:KS}:k.1∈dK k:=List.mem_append_left _ List.mem_cons_self
theorem aAj {k:KS} {r:Nat} (h:r∈k.2.1):r∈dK k:=List.mem_append_left _ (List.mem_cons_of_mem _ h)
theorem mem_u {k:KS}:k.2.2.1∈dK k:=List.mem_append_right _ List.mem_cons_self
theorem aAk {k:KS} {r:Nat} (h:r∈k.2.2.2):r∈dK k:=List.mem_append_right _ (List.mem_cons_of_mem _ h)
theorem OwnPr.updV {H H2:Heap} {lo n s i:Nat} {ks:List KS} {qs:List SequenceR} {q:SequenceR} (h:OwnPr H lo n s ks qs) (hi:i<qs.length) (hq:q = { qs.getD i default with video:=q.video })
  (hT:OwnTr H2 lo n (ks.getD i default).1 (ks.getD i default).2.1 q.video) (h2:∀ j,j ∉ (ks.getD i default).2.1→H2.look j=H.look j):OwnPr H2 lo n s ks (qs.set i q):=by
 have hik:i<ks.length:=by rw [h.len];exact hi
 have hself:=Xw h.nodup hik;have hne:∀ j,j<ks.length → ∀ r∈dK (ks.getD j default),j≠i→H2.look r=H.look r:=fun j hj r hr hji=>h2 r fun hm=>hji (aL1 h.nodup hj hik hr (aAj hm))
 have hsnd:∀ r∈(ks.getD i default).2.2.1::(ks.getD i default).2.2.2,H2.look r=H.look r:=fun r hr=>h2 r fun hm=>by
  unfold dK at hself;exact (List.nodup_append.1 hself).2.2 r (List.mem_cons_of_mem _ hm) r hr rfl
 refine ⟨by rw [List.length_set];exact h.len,?_,fun j hj=>?_,fun j hj=>?_,h.nodup,h.sr,h.ne⟩
 ·rw [h2 s fun hm=>h.ne (List.mem_flatMap.2 ⟨_,aP hik,aAj hm⟩),h.row,Wa hi h.len fun v u=>by rw [hq];rfl]
 ·rw [List.length_set] at hj;have hjk:j<ks.length:=by rw [h.len];exact hj
  by_cases hij:i=j
  ·subst hij;rw [Bu hi];exact hT
  ·rw [Bt hij];exact (h.vid j hj).keep (hne j hjk _ mem_v (Ne.symm hij)) (fun r hr=>hne j hjk r (aAj hr) (Ne.symm hij)) (Nat.le_refl _) (Nat.le_refl _)
 ·rw [List.length_set] at hj;have hjk:j<ks.length:=by rw [h.len];exact hj
  by_cases hij:i=j
  ·subst hij;rw [Bu hi,hq];exact (h.snd i hi).keep (hsnd _ List.mem_cons_self) (fun r hr=>hsnd r (List.mem_cons_of_mem _ hr)) (Nat.le_refl _) (Nat.le_refl _)
  ·rw [Bt hij];exact (h.snd j hj).keep (hne j hjk _ mem_u (Ne.symm hij)) (fun r hr=>hne j hjk r (aAk hr) (Ne.symm hij)) (Nat.le_refl _) (Nat.le_refl _)
theorem OwnPr.updS {H H2:Heap} {lo n s i:Nat} {ks:List KS} {qs:List SequenceR} {q:SequenceR} (h:OwnPr H lo n s ks qs) (hi:i<qs.length) (hq:q = { qs.getD i default with sound:=q.sound })
  (hT:OwnTr H2 lo n (ks.getD i default).2.2.1 (ks.getD i default).2.2.2 q.sound) (h2:∀ j,j ∉ (ks.getD i default).2.2.2→H2.look j=H.look j):OwnPr H2 lo n s ks (qs.set i q):=by
 have hik:i<ks.length:=by rw [h.len];exact hi
 have hself:=Xw h.nodup hik;have hne:∀ j,j<ks.length → ∀ r∈dK (ks.getD j default),j≠i→H2.look r=H.look r:=fun j hj r hr hji=>h2 r fun hm=>hji (aL1 h.nodup hj hik hr (aAk hm))
 have hvid:∀ r∈(ks.getD i default).1::(ks.getD i default).2.1,H2.look r=H.look r:=fun r hr=>h2 r fun hm=>by
  unfold dK at hself;exact (List.nodup_append.1 hself).2.2 r hr r (List.mem_cons_of_mem _ hm) rfl
 refine ⟨by rw [List.length_set];exact h.len,?_,fun j hj=>?_,fun j hj=>?_,h.nodup,h.sr,h.ne⟩
 ·rw [h2 s fun hm=>h.ne (List.mem_flatMap.2 ⟨_,aP hik,aAk hm⟩),h.row,Wa hi h.len fun v u=>by rw [hq];rfl]
 ·rw [List.length_set] at hj;have hjk:j<ks.length:=by rw [h.len];exact hj
  by_cases hij:i=j
  ·subst hij;rw [Bu hi,hq];exact (h.vid i hi).keep (hvid _ List.mem_cons_self) (fun r hr=>hvid r (List.mem_cons_of_mem _ hr)) (Nat.le_refl _) (Nat.le_refl _)
  ·rw [Bt hij];exact (h.vid j hj).keep (hne j hjk _ mem_v (Ne.symm hij)) (fun r hr=>hne j hjk r (aAj hr) (Ne.symm hij)) (Nat.le_refl _) (Nat.le_refl _)
 ·rw [List.length_set] at hj;have hjk:j<ks.length:=by rw [h.len];exact hj
  by_cases hij:i=j
  ·subst hij;rw [Bu hi];exact hT
  ·rw [Bt hij];exact (h.snd j hj).keep (hne j hjk _ mem_u (Ne.symm hij)) (fun r hr=>hne j hjk r (aAk hr) (Ne.symm hij)) (Nat.le_refl _) (Nat.le_refl _)
theorem aE5 {H:Heap} {r n:Nat} {L:List ClipR} (h:H.look r=some (rL L)):aV H (n+1) (.own r)=some (jX L):=by
 simp only [aV,h,yB];rw [vT _ (gY H n)]
theorem Jc {f:V→Option T}:∀ {xs:List (List V)} {ts:List (List T)},xs.length=ts.length→(∀ i,i<xs.length→lendCs f (xs.getD i [])=some (ts.getD i []))→lendRs f xs=some ts
 | [],[],_,_=>rfl
 | x::xs,t::ts,hl,h=>by
  have h0:=h 0 (by simp);have h1:=Jc (f:=f) (xs:=xs) (ts:=ts) (by simpa using hl) fun i hi=>by simpa using h (i+1) (by simpa using hi)
  simp only [List.getD_cons_zero] at h0;simp only [lendRs,h0,h1]
 | [],_::_,hl,_=>by simp at hl
 | _::_,[],hl,_=>by simp at hl
theorem Fy {H:Heap} {lo hi k n:Nat} {rs:List Nat} {ts:List (List ClipR)} (h:OwnTr H lo hi k rs ts):aV H (n+2) (.own k)=some (cK ts):=by
 simp only [aV,h.row,yB];rw [Jc (ts:=ts.map bL) (by simp [h.len]) fun i hi=>?_];have hir:i<rs.length:=by simpa using hi
 have hit:i<ts.length:=by rw [← h.len];exact hir
 have e1:(rs.map fun r=>[V.own r]).getD i [] = [V.own (rs.getD i 0)]:=by
  simp only [List.getD_eq_getElem?_getD,List.getElem?_map,List.getElem?_eq_getElem hir,Option.map_some,Option.getD_some]
 have e2:(ts.map bL).getD i []=bL (ts.getD i default):=by
  simp only [List.getD_eq_getElem?_getD,List.getElem?_map,List.getElem?_eq_getElem hit,Option.map_some,Option.getD_some]
 rw [e1,e2];simp only [lendCs];rw [aE5 (h.clips i hit)];rfl
theorem Hm {qs:List SequenceR} {ks:List KS} (h:ks.length=qs.length):(sQ qs ks).length=qs.length:=by
 unfold sQ;rw [List.length_map,List.length_zip,h,Nat.min_self]
theorem aCd {qs:List SequenceR} {ks:List KS} (h:ks.length=qs.length) {i:Nat} (hi:i<qs.length) (d:List V):(sQ qs ks).getD i d=Zw (qs.getD i default) (ks.getD i default).1 (ks.getD i default).2.2.1:=by
 have hik:i<ks.length:=by rw [h];exact hi
 have hiz:i<(qs.zip ks).length:=by rw [List.length_zip,h,Nat.min_self];exact hi
 unfold sQ;simp only [List.getD_eq_getElem?_getD,List.getElem?_map,List.getElem?_eq_getElem hiz,List.getElem?_eq_getElem hi,List.getElem?_eq_getElem hik,Option.map_some,Option.getD_some,List.getElem_zip]
theorem aHp {H:Heap} {lo hi s:Nat} {ks:List KS} {qs:List SequenceR} (h:OwnPr H lo hi s ks qs):aV H 6 (.own s)=some (nL qs):=by
 have h0:aV H 6 (.own s)=yB (aV H 5) (H.look s):=rfl;rw [h0,h.row];simp only [yB];rw [Jc (ts:=qs.map SequenceR.c) (by rw [Hm h.len,List.length_map]) fun i hi=>?_];have hiq:i<qs.length:=by rw [Hm h.len] at hi;exact hi
 have e2:(qs.map SequenceR.c).getD i []=SequenceR.c (qs.getD i default):=by
  simp only [List.getD_eq_getElem?_getD,List.getElem?_map,List.getElem?_eq_getElem hiq,Option.map_some,Option.getD_some]
 rw [e2,aCd h.len hiq];unfold Zw;simp only [lendCs,gY];rw [Fy (n:=3) (h.vid i hiq),Fy (n:=3) (h.snd i hiq)];rfl
theorem aNe {H:Heap} {lo hi s:Nat} {ks:List KS} {qs:List SequenceR} (h:OwnPr H lo hi s ks qs):V.lend H (.own s) = .t (nL qs):=by
 have h0:V.lend H (.own s)=Fx (aV H 5) s (H.look s) (aV H 6 (.own s)):=rfl;rw [h0,aHp h,h.row];rfl
theorem aHm {H:Heap} {m:Nat} {l:List MediumR} (h:H.look m=some (tS l)):V.lend H (.own m) = .t (jW l):=by
 have h0:V.lend H (.own m)=Fx (aV H 5) m (H.look m) (aV H 6 (.own m)):=rfl;have h1:aV H 6 (.own m)=yB (aV H 5) (H.look m):=rfl;rw [h0,h1,h];simp only [yB];rw [vT _ (gY H 5)];rfl
set_option maxHeartbeats 8000000 in
theorem cRSwap (p:ProjR) (f g:ByteArray) (h:p.fit):aS Tryz.prog 30 [dT p,bT f,bT g] (aJs (fM p f g)):=by
 refine dS Tryz.X30 Tryz.func30 rfl Tryz.ntmps30 (by rw [Tryz.results30]) ?_;refine fD (aD _ ?_);simp only [go_sem,simprocAttr];refine fD (aD _ ?_);simp only [go_sem,simprocAttr];refine ⟨_,aFj p h,?_⟩;simp only [go_sem,simprocAttr];refine brW (b:=decide (bV p≠0)) ?_ ⟨fun hv=>?_,fun hv=>?_⟩
 ·rw [Bool.eq_iff_iff,decide_eq_true_eq,bne_iff_ne]
 ·have hv':=of_decide_eq_true hv;have e:fM p f g=(⟨[],[]⟩,bV p):=by unfold fM;rw [if_pos hv']
  rw [e];unfold awS;simp only [go_sem,simprocAttr];exact kA _
 ·have hv':bV p=0:=by simpa using hv
  have hok:=sH h hv';unfold awS;simp only [go_sem,simprocAttr];refine fD (aD _ ?_);simp only [go_sem,simprocAttr];refine aR 8 .done rfl (by kernel_rfl) (by kernel_rfl) (by decide) ?_;simp only [go_sem,simprocAttr];refine ⟨_,Gt p f,?_⟩;simp only [go_sem,simprocAttr];refine ⟨_,Gt p g,?_⟩;simp only [go_sem,simprocAttr];refine ⟨by kernel_rfl,?_⟩;obtain ⟨x,hx⟩:∃ x,x=tJ (fun m:MediumR=>m.name.toList==f.toList) p.media:=⟨_,rfl⟩
  obtain ⟨y,hy⟩:∃ y,y=tJ (fun m:MediumR=>m.name.toList==g.toList) p.media:=⟨_,rfl⟩
  rw [← hx, ← hy];refine fD (aD _ ?_);simp only [go_sem,simprocAttr];refine brW (b:=decide (x<0∨y<0)) ?_ ⟨fun hn=>?_,fun hn=>?_⟩
  ·rw [Bool.eq_iff_iff,decide_eq_true_eq,Bool.or_eq_true,decide_eq_true_eq,decide_eq_true_eq]
  ·have hn':=of_decide_eq_true hn;have e:fM p f g=(⟨[],[]⟩,7):=by
    unfold fM;rw [if_neg (by rw [hv'];decide)];rcases hn' with hn' | hn'
    ·rw [hx] at hn';rw [show jQ p.media f=none from rA.1 hn']
    ·rw [hy] at hn';rw [show jQ p.media g=none from rA.1 hn'];cases jQ p.media f<;>rfl
   rw [e];unfold awS;simp only [go_sem,simprocAttr];exact kA _
  ·have hn' : ¬ (x<0∨y<0):=by simpa using hn
   obtain ⟨a,ha⟩:∃ a,jQ p.media f=some a:=by
    cases hm:jQ p.media f with
    | none=>exact absurd (.inl (by rw [hx];exact rA.2 hm)) hn'
    | some a=>exact ⟨a,rfl⟩
   obtain ⟨b,hb⟩:∃ b,jQ p.media g=some b:=by
    cases hm:jQ p.media g with
    | none=>exact absurd (.inr (by rw [hy];exact rA.2 hm)) hn'
    | some a=>exact ⟨a,rfl⟩
   obtain ⟨i,hi,ei,ai⟩:=aSf hok.uniq.1 ha;obtain ⟨j,hj,ej,aj⟩:=aSf hok.uniq.1 hb;have hxi:x=(i:Int):=by rw [hx];exact ei
   have hyj:y=(j:Int):=by rw [hy];exact ej
   subst hxi hyj;clear hx hy;unfold awS;simp only [go_sem,simprocAttr];refine fD (aD _ ?_);simp only [go_sem,simprocAttr];refine aR 14 .done rfl (by kernel_rfl) (by kernel_rfl) (by decide) ?_;simp only [go_sem,simprocAttr];refine ⟨⟨by omega,by omega⟩,⟨by omega,by omega⟩,by kernel_rfl,?_⟩;rw [ai,aj];refine fD (aD _ ?_);simp only [go_sem,simprocAttr];refine ⟨_,aL8 _ _,?_⟩;refine brW (b := !rR a b) ?_ ⟨fun hm=>?_,fun hm=>?_⟩
   ·unfold rR
    (try simp only [bne]);cases (a.seq.rate.eqb b.seq.rate)<;>cases (a.frames==b.frames)<;>cases (a.channels==b.channels)<;>cases (a.samples==b.samples)<;>rfl
   ·have e:fM p f g=(⟨[],[]⟩,1):=by
     unfold fM;rw [hv',ha,hb];have:rR a b=false:=by simpa using hm
     simp [this]
    rw [e];unfold awS;simp only [go_sem,simprocAttr];exact kA _
   ·have e:fM p f g=(aBz p f g,0):=by
     unfold fM;rw [hv',ha,hb];have:rR a b=true:=by simpa using hm
     simp [this]
    rw [e];unfold awS;simp only [go_sem,simprocAttr];have hsm:=hok.small;unfold cL at hsm;simp only [Bool.and_eq_true,decide_eq_true_eq] at hsm;have hls:=Ex hok;refine fD (yD 1 ?_);simp only [go_sem,simprocAttr];refine semS_io rfl rfl ?_;simp only [go_sem,simprocAttr];refine aG5 p (by omega) (by omega) (Fr hok) hls ?_;intro m s ks H o hm hO hold hm24;have hold:∀ j,j<24→H.look j=Heap.look [(21,Blk.box (dV b)),(20,Blk.box (dV a)),(1,Blk.box [V.t (.lit (.slice none 0 0)),V.t (.lit (.slice none 0 0))]),(0,Blk.box [V.t (jW p.media),V.t (nL p.seqs)])] j:=hold;have hm24 : 24≤m:=hm24;have h1:H.look 1=some (Blk.box [V.t (.lit (.slice none 0 0)),V.t (.lit (.slice none 0 0))]):=by rw [hold 1 (by omega)];rfl
    clear hold;refine Ph ?_;simp only [go_sem,simprocAttr];have hsr:=hO.sr;refine Cc fun hwf=>?_
    have hwf:∀ q,o+1≤q→Heap.look ((o,Blk.box [V.own m,V.own s])::H) q=none:=hwf;obtain ⟨Q,hQ⟩:∃ Q:SequenceR→SequenceR,Q=chgQ f g:=⟨_,rfl⟩
    refine fD (fD (aD _ ?_));simp only [go_sem,simprocAttr];refine Ju ?_;refine aE (fun (x:Nat×Heap×Nat) σ => (fun τ : St => { τ with h:=x.2.1,nx:=x.2.2 }) (bD 14 (aC x.1) (aW [8,9,10,11,12,15,16,17,18,19,20,21,22,23,24,25,26,27,28,29,30,31,32,33,34,35,36,37,38,39,40,41,42,43,44,45,46,47,48,49,50,51,52,53,54,55,56,57,58,59,60,61,62,63,64,65,66,67,68,69,70,71,72,73,74,75,76,77,78,79,80,81,82,83,84,85,86,87,88,89,90,91,92,93,94,95,96,97,98,99,100,101,102,103,104,105,106,107,108,109,110,111,112,113,114,115,116,117,118,119,120,121,122,123,124,125,126,127,128,129,130,131,132,133,134,135,136,137,138,139,140,141,142,143,144,145,146,147,148,149,150,151,152,153,154,155] σ)))
     (fun x=>x.1≤p.seqs.length∧(x.2.1.look o=some (.box [.own m, .own s])∧x.2.1.look m=some (tS p.media)∧x.2.1.look 1=some (Blk.box [V.t (.lit (.slice none 0 0)),V.t (.lit (.slice none 0 0))])) ∧
      OwnPr x.2.1 (m+1) o s ks (fC Q p.seqs x.1)∧o<x.2.2) (fun x=>p.seqs.length - x.1)
     (0,(o,Blk.box [V.own m,V.own s])::H,o+1) (gG ?_) ?_ ?_
    ·simp only [go_sem,simprocAttr];exact Nat.le_refl _
    ·refine ⟨Nat.zero_le _,⟨?_,?_,?_⟩,?_,Nat.lt_succ_self _⟩
     ·show Heap.look _ o=_
      rw [Heap.look,if_pos rfl]
     ·show Heap.look _ m=_
      rw [Heap.look,if_neg (by omega)];exact hm
     ·show Heap.look _ 1=_
      rw [Heap.look,if_neg (by omega)];exact h1
     ·rw [Xh];refine hO.keepAll (fun r hr=>?_) ?_ (Nat.le_refl _) (Nat.le_refl _)
      ·have:=hO.num r hr;show Heap.look _ r=_
       rw [Heap.look,if_neg (by omega)]
      ·show Heap.look _ s=_
       rw [Heap.look,if_neg (by omega)]
    ·rintro ⟨k,H1,n1⟩ ⟨hk,⟨g0,gm,g1⟩,hP,hon⟩;have hk:k≤p.seqs.length:=hk;have g0:H1.look o=some (.box [.own m, .own s]):=g0;have gm:H1.look m=some (tS p.media):=gm;have g1:H1.look 1=some (Blk.box [V.t (.lit (.slice none 0 0)),V.t (.lit (.slice none 0 0))]):=g1;have hP:OwnPr H1 (m+1) o s ks (fC Q p.seqs k):=hP;have hon:o<n1:=hon;have gs:=hP.row;have hkl':ks.length=(fC Q p.seqs k).length:=hP.len;have hsl:(sQ (fC Q p.seqs k) ks).length=p.seqs.length:=by rw [Hm hkl',fH]
     refine Cc fun hwf1=>aD _ ?_
     simp only [go_sem,simprocAttr,g0,gs,hsl];refine ⟨fun hlt=>?_,fun hge=>?_⟩
     ·simp only [bxx] at hlt;have hkl:k<p.seqs.length:=by omega
      unfold awS;simp only [go_sem,simprocAttr];obtain ⟨q,hq⟩:∃ q,q=p.seqs.getD k default:=⟨_,rfl⟩
      have hqm:q∈p.seqs:=by rw [hq];exact aP hkl
      obtain ⟨kk,hkk⟩:∃ kk,kk=ks.getD k default:=⟨_,rfl⟩
      obtain ⟨v,rv,u,ru⟩:=kk;have hkm:k<(fC Q p.seqs k).length:=by rw [fH];exact hkl
      have hnS:∀ d,mN d (sQ (fC Q p.seqs k) ks) k=Zw q v u:=fun d=>by
       have e1:=aCd hkl' hkm (d.map .t);rw [rV Q hkl, ← hq, ← hkk] at e1;rw [← e1];unfold mN;rw [List.getD_eq_getElem?_getD]
      refine bZ [0,1,2,3,4,5,6,7,8,9,10,11,14] (.step 12 (.step 13 .done)) rfl (by kernel_rfl) (by kernel_rfl) (by decide) ?_;simp only [go_sem,simprocAttr,g0,gs,hsl,hnS,Zw];refine ⟨⟨by omega,by omega⟩,hkl,⟨by omega,by omega⟩,hkl,?_⟩;obtain ⟨C,hC⟩:∃ C:List ClipR→List ClipR,C=fun t=>t.map (pG f g):=⟨_,rfl⟩
      obtain ⟨qz,hqz⟩:∃ qz:Nat→SequenceR,qz=fun z => { q with video:=if 0<z then q.video.map C else q.video,sound:=if 1<z then q.sound.map C else q.sound }:=⟨_,rfl⟩
      have hq0:qz 0=q:=by rw [hqz];rfl
      have hq2:qz 2=Q q:=by rw [hqz,hQ,hC];rfl
      refine aE (fun (x:Nat×Heap) σ => (fun τ : St => { τ with h:=x.2,nx:=n1+1 }) (bD 100 (aC x.1) (aW [15,16,17,18,79,80,81,82,83,84,85,86,87,88,89,90,91,92,93,94,95,96,97,101,102,103,104,105,106,107,108,109,110,111,112,113,114,115,116,117,118,119,120,121,122,123,124,125,126,127,128,129,130,131,132,133,134,135,136,137,138,139,140,141,142,143,144,145,146,147,148,149,150,151,152,153,154,155] σ)))
       (fun x=>x.1≤2∧(x.2.look o=some (.box [.own m, .own s])∧x.2.look m=some (tS p.media)∧x.2.look 1=some (Blk.box [V.t (.lit (.slice none 0 0)),V.t (.lit (.slice none 0 0))]) ∧
        x.2.look n1=some (.row 112 1 [.lit (.slice none 0 0)] [[V.own v],[V.own u]]))∧OwnPr x.2 (m+1) o s ks ((fC Q p.seqs k).set k (qz x.1))) (fun x=>2 - x.1)
       (0,(n1, .row 112 1 [.lit (.slice none 0 0)] [[V.own v],[V.own u]])::H1) (gG ?_) ?_ ?_
      ·simp only [go_sem,simprocAttr];exact Nat.le_refl _
      ·have hmem:=hP.num;refine ⟨Nat.zero_le _,⟨?_,?_,?_,?_⟩,?_⟩
       ·show Heap.look _ o=_
        rw [Heap.look,if_neg (by omega)];exact g0
       ·show Heap.look _ m=_
        rw [Heap.look,if_neg (by omega)];exact gm
       ·show Heap.look _ 1=_
        rw [Heap.look,if_neg (by omega)];exact g1
       ·show Heap.look _ n1=_
        rw [Heap.look,if_pos rfl]
       ·have e1:(fC Q p.seqs k).set k (qz 0)=fC Q p.seqs k:=by
         have e2:=rV Q hkl;rw [hq0,hq, ← e2];exact sN hkm (aK hkm).symm
        show OwnPr _ (m+1) o s ks ((fC Q p.seqs k).set k (qz 0))
        rw [e1];refine hP.keepAll (fun r hr=>?_) ?_ (Nat.le_refl _) (Nat.le_refl _)
        ·have:=hmem r hr;show Heap.look _ r=_
         rw [Heap.look,if_neg (by omega)]
        ·show Heap.look _ s=_
         rw [Heap.look,if_neg (by omega)]
      ·rintro ⟨z,H2⟩ ⟨hz,⟨a0,am,a1,an⟩,hP2⟩;have hz:z≤2:=hz;have a0:H2.look o=some (.box [.own m, .own s]):=a0;have am:H2.look m=some (tS p.media):=am;have a1:H2.look 1=some (Blk.box [V.t (.lit (.slice none 0 0)),V.t (.lit (.slice none 0 0))]):=a1;have an:H2.look n1=some (.row 112 1 [.lit (.slice none 0 0)] [[V.own v],[V.own u]]):=an;have hP2:OwnPr H2 (m+1) o s ks ((fC Q p.seqs k).set k (qz z)):=hP2;refine aD _ ?_;simp only [go_sem,simprocAttr];refine ⟨fun hlt2=>?_,fun hge2=>?_⟩
       ·simp only [bxx] at hlt2;have hz2:z<2:=by omega
        have key:∃ kT rT ts,(∀ d:List T,mN d [[V.own v],[V.own u]] z = [V.own kT])∧OwnTr H2 (m+1) o kT rT ts∧(ts.length≤65536 ∧ ∀ t∈ts,t.length≤65536 ∧ ∀ c∈t,c.chan.length≤65536) ∧
          ∀ H3,OwnTr H3 (m+1) o kT rT (ts.map C)→(∀ j,j ∉ rT→H3.look j=H2.look j)→OwnPr H3 (m+1) o s ks ((fC Q p.seqs k).set k (qz (z+1))):=by
         have hkeys:ks.getD k default=(v,rv,u,ru):=hkk.symm;have hgz:∀ z,((fC Q p.seqs k).set k (qz z)).getD k default=qz z:=fun z=>by
          simp only [List.getD_eq_getElem?_getD,List.getElem?_set_self hkm,Option.getD_some]
         have hkz:∀ z,k<((fC Q p.seqs k).set k (qz z)).length:=fun z=>by rw [List.length_set];exact hkm
         have hvz:=hP2.vid k (hkz z);have huz:=hP2.snd k (hkz z);rw [hkeys,hgz] at hvz huz;obtain ⟨_,⟨c1,c2⟩,⟨c3,c4⟩⟩:=hls q hqm;have hcase:z=0∨z=1:=by omega
         rcases hcase with rfl | rfl
         ·refine ⟨v,rv,q.video,fun d=>rfl,by rw [hq0] at hvz;exact hvz,⟨c1,c2⟩,fun H3 h3 h4=>?_⟩;have e1:=hP2.updV (q:=qz 1) (H2:=H3) (hkz 0) (by rw [hgz,hqz];rfl) (by rw [hkeys,hqz];exact h3) (by rw [hkeys];exact h4);rw [List.set_set] at e1;exact e1
         ·refine ⟨u,ru,q.sound,fun d=>rfl,by rw [hqz] at huz;exact huz,⟨c3,c4⟩,fun H3 h3 h4=>?_⟩;have e1:=hP2.updS (q:=qz 2) (H2:=H3) (hkz 1) (by rw [hgz,hqz];rfl) (by rw [hkeys,hqz];exact h3) (by rw [hkeys];exact h4);rw [List.set_set] at e1;exact e1
        obtain ⟨kT,rT,ts,hnz,hT,hlen,hfin⟩:=key;unfold awS;simp only [go_sem,simprocAttr,an,hnz];refine ⟨⟨by omega,by omega⟩,hz2,?_⟩;refine aE (fun (x:Nat×Heap) σ => (fun τ : St => { τ with h:=x.2,nx:=n1+1 }) (bD 17 (aC x.1) (aW [18,102,103,104,105,106,107,108,109,110,111,112,113,114,115,116,117,118,119,120,121,122,123,124,125,126,127,128,129,130,131,132,133,134,135,136,137,138,139,140,141,142,143,144,145,146,147,148,149,150,151,152,153] σ)))
         (fun x=>x.1≤ts.length∧OwnTr x.2 (m+1) o kT rT (fC C ts x.1) ∧ ∀ j,j ∉ rT→x.2.look j=H2.look j) (fun x=>ts.length - x.1) (0,H2) (gG ?_) ⟨Nat.zero_le _,hT,fun _ _=>rfl⟩ ?_
        ·simp only [go_sem,simprocAttr];exact Nat.le_refl _
        ·rintro ⟨t,H3⟩ ⟨ht,hT3,hk3⟩;have ht:t≤ts.length:=ht;have hT3:OwnTr H3 (m+1) o kT rT (fC C ts t):=hT3;have hk3:∀ j,j ∉ rT→H3.look j=H2.look j:=hk3;have hrl:rT.length=ts.length:=by rw [hT3.len,fH]
         have gk:=hT3.row;refine aD _ ?_;simp only [go_sem,simprocAttr,gk,hrl,List.length_map];refine ⟨fun hlt3=>?_,fun hge3=>?_⟩
         ·simp only [bxx] at hlt3;have htl:t<ts.length:=by omega
          obtain ⟨L,hL⟩:∃ L,L=ts.getD t default:=⟨_,rfl⟩
          have hLm:L∈ts:=by rw [hL];exact aP htl
          obtain ⟨b1,b2⟩:=hlen.2 L hLm;obtain ⟨r,hr⟩:∃ r,r=rT.getD t 0:=⟨_,rfl⟩
          have hrm:r∈rT:=by rw [hr,List.getD_eq_getElem?_getD,List.getElem?_eq_getElem (by omega)];exact List.getElem_mem _
          have hnk:∀ d:List T,mN d (rT.map fun r=>[V.own r]) t = [V.own r]:=fun d=>by
           unfold mN;rw [List.getElem?_map,List.getElem?_eq_getElem (by omega:t<rT.length),hr,List.getD_eq_getElem?_getD,List.getElem?_eq_getElem (by omega:t<rT.length)];rfl
          have hgr:H3.look r=some (rL L):=by
           rw [hr,hT3.clips t (by rw [fH];exact htl),rV C htl,hL]
          unfold awS;simp only [go_sem,simprocAttr];have hkr:(kT=r)=False:=eq_false fun e=>hT3.ne (by rw [e];exact hrm)
          refine aE (fun (x:Nat×Heap) σ => (fun τ : St => { τ with h:=x.2,nx:=n1+1 }) (bD 18 (aC x.1) (aW [110,111,112,113,114,115,116,117,118,119,120,121,122,123,124,125,126,127,128,129,130,131,132,133,134,135,136,137,138,139,140,141,142,143,144,145,146,147,148,149,150,151,152,153] σ)))
           (fun x=>x.1≤L.length∧x.2.look r=some (rL (fC (pG f g) L x.1)) ∧ ∀ j,j≠r→x.2.look j=H3.look j) (fun x=>L.length - x.1) (0,H3) (gG ?_) ⟨Nat.zero_le _,hgr,fun _ _=>rfl⟩ ?_
          ·simp only [go_sem,simprocAttr];exact Nat.le_refl _
          ·rintro ⟨c,H4⟩ ⟨hc,gr,hk4⟩;have hc:c≤L.length:=hc;have gr:H4.look r=some (rL (fC (pG f g) L c)):=gr;have hk4:∀ j,j≠r→H4.look j=H3.look j:=hk4;have gk4:H4.look kT=some (.row 27 1 (bL []) (rT.map fun r=>[V.own r])):=by rw [hk4 kT (of_eq_false hkr)];exact gk
           have hml:=fH (pG f g) L c;refine aD _ ?_;simp only [go_sem,simprocAttr,gk4,gr,hrl,hnk,List.length_map,hml];refine ⟨⟨by omega,by omega⟩,htl,fun hlt4=>?_,fun hge4=>?_⟩
           ·simp only [bxx] at hlt4;have hcl:c<L.length:=by omega
            obtain ⟨X,hX⟩:∃ X,X=L.getD c default:=⟨_,rfl⟩
            have hn2:∀ d,nth d ((fC (pG f g) L c).map ClipR.c) c=ClipR.c X:=fun d=>by
             unfold nth;have e0:=rV (pG f g) hcl;rw [List.getD_eq_getElem?_getD] at e0;have hlt3:c<(fC (pG f g) L c).length:=by rw [fH];exact hcl
             rw [List.getElem?_eq_getElem hlt3,Option.getD_some] at e0;rw [List.getElem?_map,List.getElem?_eq_getElem hlt3,e0,hX];rfl
            have hset:∀ B j,(H4.set r B).look j=if j=r then some B else H4.look j:=fun B j=>Heap.look_set H4 r B gr j
            unfold awS;simp only [go_sem,simprocAttr];refine bZ [0,1,2,3,4,5,6,7,8,10,11,12,13,14,15,16,17,18,19,20,21,22,23,24,25,26,27,28,29,30,31]
             (.alt (.step 9 (.step 32 (.step 33 (.step 34 (.step 35 (.step 36 (.step 37 .done))))))) (.step 32 (.alt (.step 9 (.step 33 (.step 34 (.step 35 (.step 36 (.step 37 .done)))))) (.step 33 (.alt (.step 9 (.step 34 (.step 35 (.step 36 (.step 37 .done))))) (.step 34 (.step 9 (.step 35 (.step 36 (.step 37 .done)))))))))) rfl (by kernel_rfl) (by kernel_rfl) (by decide) ?_
            simp only [go_sem,simprocAttr,gk4,gr,hrl,hnk,hn2,List.length_map,hml];refine ⟨⟨by omega,by omega⟩,htl,⟨by omega,by omega⟩,htl,⟨by omega,by omega⟩,htl,⟨by omega,by omega⟩,hcl,_,aLj X.a f g,?_⟩;simp only [go_sem,simprocAttr,gk4,gr,hrl,hnk,hn2,List.length_map,hml];refine ⟨⟨by omega,by omega⟩,htl,⟨by omega,by omega⟩,hcl,_,aLj X.b f g,?_⟩;have hn3:∀ (d:List T) (Y:List T),nth d (((fC (pG f g) L c).map ClipR.c).set c Y) c=Y:=fun d Y=>by
             unfold nth;rw [List.getElem?_set_self (by rw [List.length_map,fH];exact hcl)];rfl
            simp only [go_sem,simprocAttr,gr,hn2,List.length_map,hml,hset,hn3,List.length_set,List.set_set];have eM:=vJ (pG f g) hcl;rw [← hX] at eM;refine ⟨⟨by omega,by omega⟩,hcl,⟨by omega,by omega⟩,hcl,(c+1,_),gG ⟨rfl,Nat.le_refl _,rfl,?_⟩,⟨hcl,?_,fun j hj=>?_⟩,by show L.length - (c+1)<_;omega⟩
            ·simp only [go_sem,simprocAttr];rw [aZ (show c<9223372036854775807 by omega)];rfl
            ·show Heap.look _ r=_
             rw [hset,if_pos rfl, ← eM,rL,List.map_set];rfl
            ·show Heap.look _ j=_
             rw [hset,if_neg hj];exact hk4 j hj
           ·simp only [bxx] at hge4;have:c=L.length:=by omega
            subst this;rw [vK] at gr;unfold awS;simp only [go_sem,simprocAttr];have eM:=vJ C htl;rw [← hL] at eM;have hT5:=hT3.upd (t:=t) (L:=C L) (H2:=H4) (by rw [fH];exact htl) (by rw [← hr,gr,hC]) (by rw [← hr];exact hk4);rw [eM] at hT5;refine ⟨(t+1,H4),gG ⟨rfl,Nat.le_refl _,rfl,?_⟩,⟨htl,hT5,fun j hj=>?_⟩,by show ts.length - (t+1)<_;omega⟩
            ·simp only [go_sem,simprocAttr];rw [aZ (show t<9223372036854775807 by omega)];rfl
            ·show H4.look j=_
             rw [hk4 j (fun e=>hj (by rw [e];exact hrm))];exact hk3 j hj
         ·simp only [bxx] at hge3;have:t=ts.length:=by omega
          subst this;rw [vK] at hT3;unfold awS;simp only [go_sem,simprocAttr];have hnr:∀ j,j≤m∨o≤j→j ∉ rT:=fun j hj hjr=>by
           have:=hT.rr j hjr;omega
          refine ⟨(z+1,H3),gG ⟨rfl,Nat.le_refl _,rfl,?_⟩,⟨hz2,⟨?_,?_,?_,?_⟩,hfin H3 hT3 hk3⟩,by show 2 - (z+1)<_;omega⟩
          ·simp only [go_sem,simprocAttr];rw [aZ (show z<9223372036854775807 by omega)];rfl
          ·exact (hk3 o (hnr o (by omega))).trans a0
          ·exact (hk3 m (hnr m (by omega))).trans am
          ·exact (hk3 1 (hnr 1 (by omega))).trans a1
          ·exact (hk3 n1 (hnr n1 (by omega))).trans an
       ·simp only [bxx] at hge2;have:z=2:=by omega
        subst this;rw [hq2,hq,vJ Q hkl] at hP2;unfold awS;simp only [go_sem,simprocAttr,decide_false];refine ⟨(k+1,H2,n1+1),gG ⟨rfl,Nat.le_refl _,rfl,?_⟩,⟨hkl,⟨a0,am,a1⟩,hP2,by show o<n1+1;omega⟩,by show p.seqs.length - (k+1)<_;omega⟩;simp only [go_sem,simprocAttr];rw [aZ (show k<9223372036854775807 by omega)];rfl
     ·simp only [bxx] at hge;have:k=p.seqs.length:=by omega
      subst this;rw [vK] at hP;have e0:(1=o)=False:=eq_false (by omega);unfold awS;simp only [go_sem,simprocAttr];have e0':(o=1)=False:=eq_false (by omega);have hset:∀ B j,(H1.set 1 B).look j=if j=1 then some B else H1.look j:=fun B j=>Heap.look_set H1 1 B g1 j
      refine aD _ ?_;simp only [go_sem,simprocAttr,g0,g1,hset];refine cR ?_ rfl;have hP3:OwnPr (H1.set 1 (Blk.box [V.own m,V.own s])) (m+1) o s ks (p.seqs.map Q):=hP.keepAll (fun r hr=>by have:=hP.num r hr;rw [hset,if_neg (by omega)]) (by rw [hset,if_neg (by omega)]) (Nat.le_refl _) (Nat.le_refl _);have hm3:(H1.set 1 (Blk.box [V.own m,V.own s])).look m=some (tS p.media):=by rw [hset,if_neg (by omega)];exact gm
      show V.tup [V.agg [V.lend (H1.set 1 (Blk.box [V.own m,V.own s])) (V.own m),V.lend (H1.set 1 (Blk.box [V.own m,V.own s])) (V.own s)],aC 0]=_
      rw [aNe hP3,aHm hm3,hQ];rfl
theorem aLr (l:List FileR) (hl:l.length≤65536):CIO Tryz.prog 76 0 [] [.t (wR l)] (.own 0) [(0,RowF l)] 1:=by
 refine mC Tryz.X76 Tryz.func76 rfl Tryz.ntmps76 (by rw [Tryz.results76]) (aD _ ?_);simp only [go_sem,simprocAttr];intro b hn;refine ⟨fun hb=>?_,fun hb=>?_⟩
 ·have e:List.map FileR.c l = []:=hn hb;unfold awS;simp only [go_sem,simprocAttr];refine aJ [(0,none)] ?_;simp only [go_sem,simprocAttr];rw [e];simp [aL]
 ·unfold awS;simp only [go_sem,simprocAttr];refine ⟨⟨Nat.le_trans hl (by decide),by omega⟩,aJ [(0,some 1)] ?_⟩;simp only [go_sem,simprocAttr]<;>simp [aL]
theorem aLq (l:List LinkR) (hl:l.length≤65536):CIO Tryz.prog 77 0 [] [.t (wQ l)] (.own 0) [(0,RowL l)] 1:=by
 refine mC Tryz.X77 Tryz.func77 rfl Tryz.ntmps77 (by rw [Tryz.results77]) (aD _ ?_);simp only [go_sem,simprocAttr];intro b hn;refine ⟨fun hb=>?_,fun hb=>?_⟩
 ·have e:List.map LinkR.c l = []:=hn hb;unfold awS;simp only [go_sem,simprocAttr];refine aJ [(0,none)] ?_;simp only [go_sem,simprocAttr];rw [e];simp [aL]
 ·unfold awS;simp only [go_sem,simprocAttr];refine ⟨⟨Nat.le_trans hl (by decide),by omega⟩,aJ [(0,some 1)] ?_⟩;simp only [go_sem,simprocAttr]<;>simp [aL]
theorem cArrive (s:StateR) (nm:ByteArray) (sum:Int) (hf:s.files.length≤32) :
  CIO Tryz.prog 207 3 (stH s) [.own 0,bT nm,yF sum] (aC (dH s nm sum).1) (stK (dH s nm sum).2) 5:=by
 refine mC Tryz.X207 Tryz.func207 rfl Tryz.ntmps207 (by rw [Tryz.results207]) (aD _ ?_);simp only [go_sem,simprocAttr];have hf':s.files.length≤maxLen:=by unfold maxLen;omega
 refine tE ?_;simp only [go_sem,simprocAttr];refine ⟨_,aU0 s _ hf',rfl,?_⟩;simp only [go_sem,simprocAttr];obtain ⟨x,hx⟩:∃ x,x=hZ s.files nm:=⟨_,rfl⟩
 rw [← hx];have hr:x = -1 ∨ ∃ k:Nat,k<s.files.length∧x=k:=by rw [hx];exact fidx_range _ _
 refine ⟨fun h2=>?_,fun h2=>?_⟩
 ·simp only [bxx] at h2;obtain ⟨k,hk,rfl⟩:∃ k:Nat,k<s.files.length∧x=k:=by
   rcases hr with hr | hr
   ·omega
   ·exact hr
  have eA:dH s nm sum=(0,⟨s.files.set k ⟨nm,sum,true⟩,s.links⟩):=by
   unfold dH;rw [← hx,if_pos (by omega),Int.toNat_natCast]
  rw [eA];unfold awS;simp only [go_sem,simprocAttr];refine aR 8 .done rfl (by kernel_rfl) (by kernel_rfl) (by decide) ?_;simp only [go_sem,simprocAttr];refine ⟨⟨by omega,by omega⟩,hk,by kernel_rfl,?_⟩;rw [sE FileR.c ⟨nm,sum,true⟩ (by rfl)];refine aJ [(4,some 2),(3,some 1),(0,some 0)] ?_;simp only [go_sem,simprocAttr];simp
 ·simp only [bxx] at h2;have h32:decide ((s.files.length:Int) ≥ 32)=decide (32≤s.files.length):=by
   rw [Bool.eq_iff_iff,decide_eq_true_eq,decide_eq_true_eq];omega
  unfold awS;simp only [go_sem,simprocAttr,gH,List.length_map];refine ⟨fun h3=>?_,fun h3=>?_⟩
  ·simp only [bxx] at h3;have eA:dH s nm sum=(18,s):=by
    unfold dH;rw [← hx,if_neg (by omega),if_pos (by omega)]
   rw [eA];unfold awS;simp only [go_sem,simprocAttr];refine aJ [(4,some 2),(3,some 1),(0,some 0)] ?_;simp only [go_sem,simprocAttr];simp
  ·simp only [bxx] at h3;have eA:dH s nm sum=(0,⟨s.files ++ [⟨nm,sum,true⟩],s.links⟩):=by
    unfold dH;rw [← hx,if_neg (by omega),if_neg (by omega)]
   rw [eA];unfold awS;simp only [go_sem,simprocAttr];refine aR 11 .done rfl (by kernel_rfl) (by kernel_rfl) (by decide) ?_;simp only [go_sem,simprocAttr];refine ⟨⟨by unfold maxLen;omega,by omega⟩,by kernel_rfl,?_⟩;refine aJ [(4,some 2),(3,some 11),(0,some 0)] ?_;simp only [go_sem,simprocAttr];rw [List.map_append];simp;rfl
abbrev stHs (s:StateR):Heap:=stH s
theorem aFk (s:StateR) (nm:ByteArray) (hf:s.files.length≤32) :
  CIO Tryz.prog 245 3 (stH s) [.own 0,bT nm] (.tup [aC (hZ s.files nm),aT (qX s.files nm)]) (stK s) 5:=by
 refine mC Tryz.X245 Tryz.func245 rfl Tryz.ntmps245 (by rw [Tryz.results245]) (aD _ ?_);simp only [go_sem,simprocAttr];have hf':s.files.length≤maxLen:=by unfold maxLen;omega
 refine tE ?_;simp only [go_sem,simprocAttr];refine ⟨_,aU0 s _ hf',rfl,?_⟩;simp only [go_sem,simprocAttr];obtain ⟨x,hx⟩:∃ x,x=hZ s.files nm:=⟨_,rfl⟩
 have hr:x = -1 ∨ ∃ k:Nat,k<s.files.length∧x=k:=by rw [hx];exact fidx_range _ _
 have hB:qX s.files nm=(decide (0≤x)&&(s.files.getD x.toNat default).present):=by unfold qX gM;rw [← hx]
 rw [hB, ← hx];refine aR 15 .done rfl (by kernel_rfl) (by kernel_rfl) (by decide) ?_;simp only [go_sem,simprocAttr];refine ⟨fun h=>?_,fun h=>?_,by kernel_rfl,?_⟩
 ·simp only [bxx] at h;rcases hr with hr | ⟨k,hk,hr⟩<;>omega
 ·simp only [bxx] at h;rcases hr with hr | ⟨k,hk,hr⟩<;>omega
 ·refine aJ [(4,some 2),(3,some 1),(0,some 0)] ?_;simp only [go_sem,simprocAttr];simp
theorem cLeave (s:StateR) (nm:ByteArray) (hf:s.files.length≤32) :
  CIO Tryz.prog 208 3 (stH s) [.own 0,bT nm] (aC (gJ s nm).1) (stK (gJ s nm).2) 5:=by
 refine mC Tryz.X208 Tryz.func208 rfl Tryz.ntmps208 (by rw [Tryz.results208]) (aD _ ?_);simp only [go_sem,simprocAttr];refine cC (aFk s nm hf) [0,1,2] rfl (by omega) (by decide) ?_ rfl rfl rfl rfl ?_
 ·simp only [go_sem,simprocAttr,decide_true]
 ·simp only [go_sem,simprocAttr,List.getElem?_nil];obtain ⟨x,hx⟩:∃ x,x=hZ s.files nm:=⟨_,rfl⟩
  rw [← hx];have hr:x = -1 ∨ ∃ k:Nat,k<s.files.length∧x=k:=by rw [hx];exact fidx_range _ _
  have hB:qX s.files nm=(decide (x ≥ 0)&&(s.files.getD x.toNat default).present):=by unfold qX gM;rw [← hx]
  refine ⟨fun h3=>?_,fun h3=>?_⟩
  ·have eL:gJ s nm=(7,s):=by
    unfold gJ;rw [nt h3];rfl
   rw [eL];unfold awS;simp only [go_sem,simprocAttr];refine aJ [(4,some 4),(3,some 3),(0,some 0)] ?_;simp only [go_sem,simprocAttr];simp
  ·have h4:=nf h3;rw [hB] at h4;obtain ⟨k,hk,rfl⟩:∃ k:Nat,k<s.files.length∧x=k:=by
    rcases hr with hr | hr
    ·rw [hr] at h4;cases h4
    ·exact hr
   have eL:gJ s nm=(0,⟨s.files.set k { s.files.getD k default with present:=false },s.links⟩):=by
    unfold gJ gM;rw [nf h3, ← hx,Int.toNat_natCast];rfl
   rw [eL];unfold awS;simp only [go_sem,simprocAttr];refine ⟨⟨by omega,by omega⟩,hk,?_⟩;rw [Hn FileR.c { s.files.getD k default with present:=false } (by rfl)];refine aJ [(4,some 4),(3,some 3),(0,some 0)] ?_;simp only [go_sem,simprocAttr];simp
theorem aU3 (s:StateR) (md nm:ByteArray) (hf:s.files.length≤32) (hl:s.links.length≤16) :
  CIO Tryz.prog 209 3 (stH s) [.own 0,bT md,bT nm] (aC (cD s md nm).1) (stK (cD s md nm).2) 5:=by
 refine mC Tryz.X209 Tryz.func209 rfl Tryz.ntmps209 (by rw [Tryz.results209]) (aD _ ?_);simp only [go_sem,simprocAttr];have hl':s.links.length≤maxLen:=by unfold maxLen;omega
 refine tE ?_;simp only [go_sem,simprocAttr];refine ⟨_,aTz s _ hl',rfl,?_⟩;simp only [go_sem,simprocAttr];obtain ⟨y,hy⟩:∃ y,y=kP s.links md:=⟨_,rfl⟩
 rw [← hy];refine ⟨fun h4=>?_,fun h4=>?_⟩
 ·simp only [bxx] at h4;have eC:cD s md nm=(8,s):=by
   unfold cD;rw [← hy,if_pos h4]
  rw [eC];unfold awS;simp only [go_sem,simprocAttr];refine aJ [(4,some 2),(3,some 1),(0,some 0)] ?_;simp only [go_sem,simprocAttr];simp
 ·simp only [bxx] at h4;unfold awS;simp only [go_sem,simprocAttr];refine cC (aFk s nm hf) [0,1,2] rfl (by omega) (by decide) ?_ rfl rfl rfl rfl ?_
  ·simp only [go_sem,simprocAttr,decide_true]
  ·simp only [go_sem,simprocAttr,List.getElem?_nil];obtain ⟨x,hx⟩:∃ x,x=hZ s.files nm:=⟨_,rfl⟩
   rw [← hx];have hr:x = -1 ∨ ∃ k:Nat,k<s.files.length∧x=k:=by rw [hx];exact fidx_range _ _
   have hB:qX s.files nm=(decide (x ≥ 0)&&(s.files.getD x.toNat default).present):=by unfold qX gM;rw [← hx]
   refine ⟨fun h5=>?_,fun h5=>?_⟩
   ·have eC:cD s md nm=(7,s):=by
     unfold cD;rw [← hy,if_neg (by omega),nt h5];rfl
    rw [eC];unfold awS;simp only [go_sem,simprocAttr];refine aJ [(4,some 4),(3,some 3),(0,some 0)] ?_;simp only [go_sem,simprocAttr];simp
   ·have h6:=nf h5;have h6':=h6;rw [hB] at h6';obtain ⟨k,hk,rfl⟩:∃ k:Nat,k<s.files.length∧x=k:=by
     rcases hr with hr | hr
     ·rw [hr] at h6';cases h6'
     ·exact hr
    unfold awS;simp only [go_sem,simprocAttr,gH,List.length_map];refine ⟨fun h7=>?_,fun h7=>?_⟩
    ·simp only [bxx] at h7;have eC:cD s md nm=(18,s):=by
      unfold cD;rw [← hy,if_neg (by omega),h6,if_pos rfl,if_pos (by omega)]
     rw [eC];unfold awS;simp only [go_sem,simprocAttr];refine aJ [(4,some 4),(3,some 3),(0,some 0)] ?_;simp only [go_sem,simprocAttr];simp
    ·simp only [bxx] at h7;have eC:cD s md nm=(0,⟨s.files,s.links ++ [⟨md,nm,(s.files.getD k default).sum,⟨#[]⟩⟩]⟩):=by
      unfold cD gM;rw [← hy, ← hx,if_neg (by omega),h6,if_pos rfl,if_neg (by omega),Int.toNat_natCast]
     rw [eC];unfold awS;simp only [go_sem,simprocAttr];refine aR 21 .done rfl (by kernel_rfl) (by kernel_rfl) (by decide) ?_;simp only [go_sem,simprocAttr];refine ⟨⟨by omega,by omega⟩,hk,⟨by unfold maxLen;omega,by omega⟩,by kernel_rfl,?_⟩;refine aJ [(4,some 22),(3,some 3),(0,some 0)] ?_;simp only [go_sem,simprocAttr];rw [List.map_append];simp;rfl
theorem aTt (s:StateR) (e:EventR) (hf:s.files.length≤32) (hl:s.links.length≤16) (he : 1≤e.kind∧e.kind≤3) :
  CIO Tryz.prog 153 3 (stH s) [.own 0,Hb e] (aC (bP s e).1) (stK (bP s e).2) 5:=by
 refine mC Tryz.X153 Tryz.func153 rfl Tryz.ntmps153 (by rw [Tryz.results153]) (aD _ ?_);simp only [go_sem,simprocAttr];refine ⟨fun h1=>?_,fun h1=>?_⟩
 ·simp only [bxx] at h1;have eP:bP s e=dH s e.file e.sum:=by unfold bP;rw [if_pos h1]
  rw [eP];unfold awS;simp only [go_sem,simprocAttr];refine cC (cArrive s e.file e.sum hf) [0,1,2] rfl (by omega) (by decide) ?_ rfl rfl rfl rfl ?_
  ·simp only [go_sem,simprocAttr,decide_true]
  ·simp only [go_sem,simprocAttr,List.getElem?_nil];refine aJ [(4,some 5),(3,some 4),(0,some 0)] ?_;simp only [go_sem,simprocAttr];simp
 ·simp only [bxx] at h1;unfold awS;simp only [go_sem,simprocAttr];refine ⟨fun h2=>?_,fun h2=>?_⟩
  ·simp only [bxx] at h2;have eP:bP s e=gJ s e.file:=by unfold bP;rw [if_neg h1,if_pos h2]
   rw [eP];unfold awS;simp only [go_sem,simprocAttr];refine cC (cLeave s e.file hf) [0,1,2] rfl (by omega) (by decide) ?_ rfl rfl rfl rfl ?_
   ·simp only [go_sem,simprocAttr,decide_true]
   ·simp only [go_sem,simprocAttr,List.getElem?_nil];refine aJ [(4,some 5),(3,some 4),(0,some 0)] ?_;simp only [go_sem,simprocAttr];simp
  ·simp only [bxx] at h2;have h3:e.kind=3:=by omega
   have eP:bP s e=cD s e.media e.file:=by unfold bP;rw [if_neg h1,if_neg h2,if_pos h3]
   rw [eP];have h3':(e.kind==3)=true:=by rw [h3];rfl
   unfold awS;simp only [go_sem,simprocAttr];rw [h3'];simp only [go_sem,simprocAttr];refine ⟨?_,fun h=>h.elim⟩;unfold awS;simp only [go_sem,simprocAttr];refine cC (aU3 s e.media e.file hf hl) [0,1,2] rfl (by omega) (by decide) ?_ rfl rfl rfl rfl ?_
   ·simp only [go_sem,simprocAttr,decide_true]
   ·simp only [go_sem,simprocAttr,List.getElem?_nil];refine aJ [(4,some 5),(3,some 4),(0,some 0)] ?_;simp only [go_sem,simprocAttr];simp
theorem cPEvent (e:EventR):aS Tryz.prog 152 [Hb e] (aT (jL e)):=by
 refine aH Tryz.X152 Tryz.func152 rfl Tryz.ntmps152 (by rw [Tryz.results152]) (aD _ ?_);simp only [go_sem,simprocAttr];refine aR 12 .done rfl (by kernel_rfl) (by kernel_rfl) (by decide) ?_;simp only [go_sem,simprocAttr];refine ⟨_,xW _,?_⟩;simp only [go_sem,simprocAttr];refine ⟨_,xW _,?_⟩;simp only [go_sem,simprocAttr];refine ⟨_,cPx _,?_⟩;simp only [go_sem,simprocAttr];have eV:jL e=if e.kind=1 then bB e.file&&emp e.media&&emp e.proxy
  else if e.kind=2 then bB e.file&&emp e.media&&emp e.proxy&&(e.sum==0)
  else if e.kind=3∨e.kind=4 then bB e.media&&bB e.file&&emp e.proxy&&(e.sum==0)
  else if e.kind=5 then bB e.media&&(emp e.proxy||bB e.proxy)&&emp e.file&&(e.sum==0)
  else false:=rfl
 rw [eV];refine ⟨by kernel_rfl,fun h1=>?_,fun h1=>?_⟩
 ·simp only [bxx] at h1;rw [if_pos h1];unfold awS;simp only [go_sem,simprocAttr];rfl
 ·simp only [bxx] at h1;rw [if_neg h1];unfold awS;simp only [go_sem,simprocAttr];refine ⟨fun h2=>?_,fun h2=>?_⟩
  ·simp only [bxx] at h2;rw [if_pos h2];unfold awS;simp only [go_sem,simprocAttr];rfl
  ·simp only [bxx] at h2;rw [if_neg h2];unfold awS;simp only [go_sem,simprocAttr];refine ⟨fun h3=>?_,fun h3=>?_⟩
   ·simp only [bxx] at h3;rw [if_pos (.inl h3)];unfold awS;simp only [go_sem,simprocAttr];refine ⟨fun _=>?_,fun h'=>by simp only [bxx] at h';omega⟩;unfold awS;simp only [go_sem,simprocAttr];rfl
   ·simp only [bxx] at h3;unfold awS;simp only [go_sem,simprocAttr];refine ⟨fun h4=>?_,fun h4=>?_⟩
    ·simp only [bxx] at h4;rw [if_pos (.inr h4)];unfold awS;simp only [go_sem,simprocAttr];rfl
    ·simp only [bxx] at h4;rw [if_neg (by omega)];unfold awS;simp only [go_sem,simprocAttr];refine ⟨fun h5=>?_,fun h5=>?_⟩
     ·simp only [bxx] at h5;rw [if_pos h5];unfold awS;simp only [go_sem,simprocAttr];rfl
     ·simp only [bxx] at h5;rw [if_neg h5];unfold awS;simp only [go_sem,simprocAttr]
theorem cPStep (s:StateR) (e:EventR) (hf:s.files.length≤65536) (hl:s.links.length≤65536) (hk:e.kind≤3):aS Tryz.prog 78 [fE s,Hb e] (vstep (eW s e)):=by
 refine dS Tryz.X78 Tryz.func78 rfl Tryz.ntmps78 (by rw [Tryz.results78]) (aD _ ?_);simp only [go_sem,simprocAttr];have hf':s.files.length≤maxLen:=by unfold maxLen;omega
 have hl':s.links.length≤maxLen:=by unfold maxLen;omega
 refine ⟨_,aB7 s hf' hl',?_⟩;simp only [go_sem,simprocAttr];refine ⟨_,fun _=>cPEvent e,?_⟩;simp only [go_sem,simprocAttr];refine ⟨fun h=>?_,fun h=>?_⟩
 ·have eS:eW s e=(⟨[],[]⟩,[],1):=by
   unfold eW;rw [if_neg];simp only [Bool.and_eq_true,not_and,Bool.not_eq_true];intro h1;rw [h1,Bool.not_true,Bool.false_or] at h;exact nt h
  rw [eS];unfold awS;simp only [go_sem,simprocAttr];exact xB 1
 ·rw [Bool.or_eq_false_iff] at h;have h1:=nf h.1;have h2:=nf h.2;unfold awS;simp only [go_sem,simprocAttr];refine Sp [] [2,5] 9 .done rfl (by kernel_rfl) (by kernel_rfl) (by decide) ?_;simp only [go_sem,simprocAttr];refine Ye (aLr s.files hf) rfl ?_;simp only [go_sem,simprocAttr];refine Ye (aLq s.links hl) rfl ?_;simp only [go_sem,simprocAttr];have he : 1≤e.kind∧e.kind≤3:=by
   refine ⟨?_,hk⟩;apply Classical.byContradiction;intro hc;unfold jL at h2;rw [if_neg (by omega),if_neg (by omega),if_neg (by omega),if_neg (by omega)] at h2;cases h2
  have hsz:=(Dp s).1 h1;refine ⟨by kernel_rfl,?_⟩;refine cC (aTt s e hsz.nf hsz.nl he) [10,5,8] rfl (by omega) (by decide) ?_ rfl rfl rfl rfl ?_
  ·simp only [go_sem,simprocAttr,decide_true]
  ·simp only [go_sem,simprocAttr,List.getElem?_nil];obtain ⟨r,hr⟩:∃ r,r=bP s e:=⟨_,rfl⟩
   rw [← hr];have hsm:r.1=0→Ok r.2:=fun h0=>by rw [hr];exact (Dn hsz h2 (by rw [← hr];exact h0)).ok
   refine brW (b:=decide (r.1≠0)) ?_ ⟨fun h3=>?_,fun h3=>?_⟩
   ·rw [Bool.eq_iff_iff,decide_eq_true_eq,bne_iff_ne]
   ·have h4:=of_decide_eq_true h3;have eS:eW s e=(⟨[],[]⟩,[],r.1):=by
     unfold eW;rw [h1,h2,if_pos (by rfl), ← hr,if_neg h4]
    rw [eS];unfold awS;simp only [go_sem,simprocAttr];exact xB _
   ·have h4:r.1=0:=by simpa using h3
    have eS:eW s e=(r.2,Fe s r.2,0):=by
     unfold eW;rw [h1,h2,if_pos (by rfl), ← hr,if_pos h4]
    have ht:=hsm h4;rw [eS,h4];obtain ⟨t,htt⟩:∃ t,t=r.2:=⟨_,rfl⟩
    rw [← htt] at ht ⊢;have htf:t.files.length≤maxLen:=by have:=ht.nf;unfold maxLen;omega
    have htl:t.links.length≤maxLen:=by have:=ht.nl;unfold maxLen;omega
    have ht16:=ht.nl;unfold awS;simp only [go_sem,simprocAttr];refine Tv [12,13] ?_;simp only [go_sem,simprocAttr];refine aE (fun (k:Nat) σ => (fun τ : St => { τ with h:=(14,RowO (sU s t k))::(τ.h.del 13).del 12,nx:=15 }) (bD 9 (.own 14) (bD 38 (aC k) (aW [11,12,39,40,41,42,43,44,45,46,47,48,49,50,51,52,53,54,55,56,57,58,59] (aX σ))))) (fun k=>k≤t.links.length) (fun k=>t.links.length - k) 0 (aJ [(14,none),(10,some 10),(2,some 2),(1,some 1),(0,some 0)] ?_) (Nat.zero_le _) ?_
    ·simp only [go_sem,simprocAttr];exact ⟨rfl,by simp,by simp,by simp,by simp⟩
    ·intro k hk;refine aD _ ?_;simp only [go_sem,simprocAttr];refine ⟨fun hlt=>?_,fun hge=>?_⟩
     ·simp only [bxx] at hlt;have hkl:k<t.links.length:=by omega
      obtain ⟨n,hn⟩:∃ n,n=(t.links.getD k default).media:=⟨_,rfl⟩
      have eO:=Kt (s:=s) hkl;have oL:=Qe s t k;unfold awS;simp only [go_sem,simprocAttr];rw [← hn];refine ⟨⟨by omega,by omega⟩,_,Ca t n htf htl,?_⟩;simp only [go_sem,simprocAttr];refine ⟨_,Ca s n hf' hl',?_⟩;simp only [go_sem,simprocAttr];refine brW (b:=decide (status s n≠status t n)) ?_ ⟨fun h5=>?_,fun h5=>?_⟩
      ·rw [Bool.eq_iff_iff,decide_eq_true_eq,bne_iff_ne,ne_comm]
      ·have h6:=of_decide_eq_true h5;have eF:Ma s t (t.links.getD k default)=some ⟨n,status t n⟩:=by
        unfold Ma;rw [← hn,if_pos (by rw [bne_iff_ne];exact fun e=>h6 e.symm)]
       rw [eF] at eO;unfold awS;simp only [go_sem,simprocAttr];refine ⟨⟨by unfold maxLen;omega,by omega⟩,k+1,aJ [(14,some 17),(10,some 10),(2,some 2),(1,some 1),(0,some 0)] ?_,by omega,by omega⟩;simp only [go_sem,simprocAttr];rw [eO,List.map_append,aZ (show k<9223372036854775807 by omega)];simp;rfl
      ·have h6:status s n=status t n:=by simpa using h5
       have eF:Ma s t (t.links.getD k default)=none:=by
        unfold Ma;rw [← hn,h6,if_neg (by simp)]
       rw [eF] at eO;unfold awS;simp only [go_sem,simprocAttr];refine ⟨k+1,aA ?_,by omega,by omega⟩;simp only [go_sem,simprocAttr];rw [eO,aZ (show k<9223372036854775807 by omega)];simp
     ·simp only [bxx] at hge;have:k=t.links.length:=by omega
      subst this;unfold awS;simp only [go_sem,simprocAttr];rw [show sU s t t.links.length=Fe s t from by unfold sU Fe;rw [List.take_length]];refine cR ?_ rfl;simp only [go_sem,simprocAttr]
theorem errs_ok (l:List Int) {k n:Nat} (e:Int) (hl:l.length=k) (h:k<n):(l++List.replicate (n - k) 0).set k e=(l ++ [e])++List.replicate (n - (k+1)) 0:=by
 obtain ⟨m,hm⟩:∃ m,n - k=m+1:=⟨n - k - 1,by omega⟩
 rw [hm,show n - (k+1)=m by omega,List.replicate_succ,List.set_append_right _ _ (by omega),hl,Nat.sub_self,List.set_cons_zero];simp
theorem aNx (l:List Int) {k n:Nat} (h:k<n):l++List.replicate (n - k) 0=(l ++ [0])++List.replicate (n - (k+1)) 0:=by
 obtain ⟨m,hm⟩:∃ m,n - k=m+1:=⟨n - k - 1,by omega⟩
 rw [hm,show n - (k+1)=m by omega,List.replicate_succ];simp
@[go_sem] abbrev ErrF (acc:StateR×List OutR×List Int) (d:Nat) (k:Nat) (σ : St):St :=
 (fun τ : St => { τ with h:=(11,RowO acc.2.1)::(((τ.h.del 8).del 5).set 2 (Row23 (acc.2.2++List.replicate d 0))).set 0 (.box [.t (wR acc.1.files), .t (wQ acc.1.links)]),nx:=12 }) (bD 9 (.own 11) (bD 41 (aC k) (aW [10,11,12,13,14,42,43,44,45,46,47,48,49,50,51,52,53,54,55,56,57,58,59,60,61,62,63] (aX σ))))
theorem cPRun (s:StateR) (es:List EventR) (hs:Ok s) (hes:es.length≤65536) (hk3:∀ e∈es,e.kind≤3):aS Tryz.prog 27 [fE s, .t (Zp es)] (.tup [fE (bR s es).1, .t (aQ5 (bR s es).2.1), .t (bY (bR s es).2.2)]):=by
 refine aH Tryz.X27 Tryz.func27 rfl Tryz.ntmps27 (by rw [Tryz.results27]) (aD _ ?_);have hnf:=hs.nf;have hnl:=hs.nl;simp only [go_sem,simprocAttr];refine ⟨⟨by omega,by unfold maxLen;omega,by omega⟩,_,aB7 s (by unfold maxLen;omega) (by unfold maxLen;omega),?_⟩;rw [(Dp s).2 hs];simp only [go_sem,simprocAttr];refine Sp [] [2,5] 8 .done rfl (by kernel_rfl) (by kernel_rfl) (by decide) ?_;simp only [go_sem,simprocAttr];refine Ye (aLr s.files (by omega)) rfl ?_;simp only [go_sem,simprocAttr];refine Ye (aLq s.links (by omega)) rfl ?_;simp only [go_sem,simprocAttr];refine ⟨by kernel_rfl,?_⟩;have hel:es.length≤maxLen:=by unfold maxLen;omega
 refine Tv [5,8] ?_;simp only [go_sem,simprocAttr];refine aE (fun (k:Nat) σ => ErrF (bR s (es.take k)) (es.length - k) k σ) (fun k=>k≤es.length) (fun k=>es.length - k) 0 (aJ [(11,none),(2,some 2),(1,some 1),(0,some 0)] ?_) (Nat.zero_le _) ?_
 ·simp only [go_sem,simprocAttr];refine ⟨rfl,by simp,?_,by simp,by simp,rfl,rfl⟩;show _=List.map Cj ([]++List.replicate (es.length - 0) 0)
  rw [List.nil_append,Nat.sub_zero,List.map_replicate];rfl
 ·intro k hk;refine aD _ ?_;simp only [go_sem,simprocAttr];refine ⟨fun hlt=>?_,fun hge=>?_⟩
  ·simp only [bxx] at hlt;have hlt':k<es.length:=by omega
   obtain ⟨hcur,houts⟩:=Dj hs es k hk;have hcf:=hcur.nf;have hcl:=hcur.nl;have hacc:(bR s (List.take k es)).snd.snd.length=k:=yW s es k hk;have hnext:=rS (s:=s) hlt';have hso:=Ds (es.getD k default) hcur;have hkk:(es.getD k default).kind≤3:=hk3 _ (aP hlt');unfold awS;simp only [go_sem,simprocAttr];generalize es.getD k default=ev at *;refine ⟨⟨by omega,by omega⟩,_,cPStep (bR s (es.take k)).1 ev (by omega) (by omega) hkk,?_⟩;simp only [go_sem,simprocAttr];obtain ⟨r,hr⟩:∃ r,r=eW (bR s (es.take k)).1 ev:=⟨_,rfl⟩
   rw [← hr] at hso ⊢;refine brW (b:=decide (r.2.2≠0)) ?_ ⟨fun h3=>?_,fun h3=>?_⟩
   ·rw [Bool.eq_iff_iff,decide_eq_true_eq,bne_iff_ne]
   ·have h4:=of_decide_eq_true h3;have hA:bR s (List.take (k+1) es)=((bR s (List.take k es)).1,(bR s (List.take k es)).2.1,(bR s (List.take k es)).2.2 ++ [r.2.2]):=by rw [hnext,gV, ← hr,if_neg h4]
    unfold awS;simp only [go_sem,simprocAttr];rw [List.length_append,List.length_replicate,hacc];refine ⟨⟨by omega,by omega⟩,by omega,?_⟩;rw [Hn Cj r.2.2 (by rfl),errs_ok _ _ hacc hlt'];refine ⟨k+1,aA ?_,by omega,by omega⟩;simp only [go_sem,simprocAttr,hA];simp [cJ hlt' hel]
   ·have h4:r.2.2=0:=by simpa using h3
    have hA:bR s (List.take (k+1) es)=(r.1,(bR s (List.take k es)).2.1++r.2.1,(bR s (List.take k es)).2.2 ++ [0]):=by rw [hnext,gV, ← hr,if_pos h4]
    unfold awS;simp only [go_sem,simprocAttr];rw [aNx _ hlt'];refine ⟨⟨by unfold maxLen;omega,by omega⟩,k+1,aJ [(11,some 14),(2,some 2),(1,some 1),(0,some 0)] ?_,by omega,by omega⟩;simp only [go_sem,simprocAttr,hA];rw [List.map_append];simp [cJ hlt' hel]
  ·simp only [bxx] at hge;unfold awS;simp only [go_sem,simprocAttr];have:k=es.length:=by omega
   subst this;simp only [List.take_length,Nat.sub_self,List.replicate_zero,List.append_nil]
def sL (a b:MediumR):MediumR := { b with seq:=a.seq,frames:=a.frames,channels:=a.channels,samples:=a.samples }
def Hz (M:List MediumR):List MediumR:=if 1<M.length then M.set 1 (sL (M.getD 0 default) (M.getD 1 default)) else M
def xD (L:List Int):ProjR:=⟨Hz (jP L).media ++ [{ (jP L).media.getD 0 default with name:=spareN }],(jP L).seqs⟩
theorem Qj {α : Type} [Inhabited α] {c : α → List T} {l:List α} {k:Nat} (h:k<l.length) (d:List T):nth d (l.map c) k=c (l.getD k default):=by
 unfold nth;rw [List.getElem?_map,List.getD_eq_getElem?_getD,List.getElem?_eq_getElem h];rfl
theorem nth_set {xs:List (List T)} {k:Nat} (h:k<xs.length) (d r:List T):nth d (xs.set k r) k=r:=by
 unfold nth;rw [List.getElem?_set_self h];rfl
theorem as_dW {k:Nat} {d d':List T} {xs:List (List T)}:∀ (w:World) (E:Env) v,RdV w E (.t (.list k d xs)) v→RdV w E (.t (.list k d' xs)) v:=by
 intro w E v h;simp only [RdV] at h ⊢;cases h with
 | list _ _ _ A c hm hc hn hk hb hr=>exact .list k d' xs A c hm hc hn hk hb hr
theorem aD9 {M:List MediumR} {d:List T} {R:List (List T)} {Q:List SequenceR} {x:V} {h:Heap} (hx:x.lend h = .agg [.t (.list 141 d R), .t (nL Q)]) (e:R=M.map MediumR.c):Cq (dT ⟨M,Q⟩) x h:=by
 subst e;exact vF hx rfl (nE (by exact ⟨as_dW,pL,trivial⟩))
def vsq (m:MediumR):List V:=m.seq.c.map V.t
theorem vmed_s (m:MediumR):List.take 135 (List.drop 2 (dV m))=vsq m:=(Eq.refl _).trans rfl
theorem aBk (m:MediumR):List.take 141 (dV m)=dV m:=(Eq.refl _).trans rfl
theorem vsq_len (m:MediumR):(vsq m).length=135:=(Eq.refl _).trans rfl
theorem vput_s (b a:MediumR):List.take 2 (dV b)++vsq a++List.drop 137 (dV b)=dV { b with seq:=a.seq }:=(Eq.refl _).trans rfl
theorem aPr (b:MediumR) (x:Int):List.take 137 (dV b) ++ [V.t (.lit (.int .i64 x))]++List.drop 138 (dV b)=dV { b with frames:=x }:=(Eq.refl _).trans rfl
theorem aPq (b:MediumR) (x:Int):List.take 138 (dV b) ++ [V.t (.lit (.int .i64 x))]++List.drop 139 (dV b)=dV { b with channels:=x }:=(Eq.refl _).trans rfl
theorem aPp (b:MediumR) (x:Int):List.take 139 (dV b) ++ [V.t (.lit (.int .i64 x))]++List.drop 140 (dV b)=dV { b with samples:=x }:=(Eq.refl _).trans rfl
theorem aPn (m:MediumR):(vsq m).all V.isCell=true:=by
 rw [List.all_eq_true];intro x hx;unfold vsq at hx;obtain ⟨t,_,rfl⟩:=List.mem_map.1 hx;rfl
theorem aQf (a b:MediumR):dV { b with seq:=a.seq,frames:=a.frames,channels:=a.channels,samples:=a.samples }=(MediumR.c (sL a b)).map V.t:=by
 unfold sL dV;rfl
theorem cProj36 (L:List Int):aS Tryz.prog 18 [.t (bY L)] (dT (xD L)):=by
 refine dS Tryz.X18 Tryz.func18 rfl Tryz.ntmps18 (by rw [Tryz.results18]) (aD _ ?_);simp only [go_sem,simprocAttr];refine ⟨_,aTs L,?_⟩;simp only [go_sem,simprocAttr];have hs:=aR4 L;obtain ⟨P,hP⟩:∃ P,P=jP L:=⟨_,rfl⟩
 have eP:xD L=⟨Hz P.media ++ [{ P.media.getD 0 default with name:=spareN }],P.seqs⟩:=by rw [hP];rfl
 rw [eP];rw [← hP] at hs ⊢;refine ⟨⟨by unfold maxLen;omega,by omega⟩,fun h1=>?_,fun h1=>?_⟩
 ·simp only [bxx] at h1;unfold awS;simp only [go_sem,simprocAttr];refine aR 32 .done rfl (by kernel_rfl) (by kernel_rfl) (by decide) ?_;obtain ⟨a,ha⟩:∃ a,a=P.media.getD 0 default:=⟨_,rfl⟩
  obtain ⟨b,hb⟩:∃ b,b=P.media.getD 1 default:=⟨_,rfl⟩
  have n0:∀ d,nth d (P.media.map MediumR.c) 0=MediumR.c a:=fun d=>by rw [ha];exact Qj (by omega) d
  have n1:∀ d,nth d (P.media.map MediumR.c) 1=MediumR.c b:=fun d=>by rw [hb];exact Qj (by omega) d
  have hnr:∀ d r,mN d ((aL (P.media.map MediumR.c)).set 1 r) 1=r:=fun d r=>vC MediumR.c (by omega) d r
  have hnq:∀ d r,nth d ((P.media.map MediumR.c).set 1 r) 1=r:=fun d r=>nth_set (by rw [List.length_map];omega) d r
  have hnl:∀ r,((P.media.map MediumR.c).set 1 r).length=P.media.length:=fun r=>by rw [List.length_set,List.length_map]
  have hnr:∀ d r,mN d ((aL (P.media.map MediumR.c)).set 1 r) 1=r:=fun d r=>vC MediumR.c (by omega) d r
  simp only [go_sem,simprocAttr,n0,n1,vmed_s,aPw,aPv,aPu,vsq_len,yX,List.set_set,hnr,vput_s,aPr,aPq,aPp];refine ⟨by omega,by omega,by omega,by omega,by omega,by omega,by omega,by omega,by omega,⟨aPn a,by omega⟩,by omega,by omega,by omega,by omega,by omega,by omega,chkQ (by kernel_rfl),?_⟩;rw [sE MediumR.c (sL a b) (aQf a b)];have eM:Hz P.media=P.media.set 1 (sL a b):=by unfold Hz;rw [if_pos (by omega),ha,hb]
  have hl1:(P.media.set 1 (sL a b)).length=P.media.length:=List.length_set;have m0:∀ d,nth d ((P.media.set 1 (sL a b)).map MediumR.c) 0=MediumR.c a:=fun d=>by
   rw [Qj (by omega),ha,List.getD_eq_getElem?_getD,List.getElem?_set_ne (by decide), ← List.getD_eq_getElem?_getD]
  rw [eM, ← ha];simp only [go_sem,simprocAttr,m0,hl1,aBk];refine ⟨by omega,by omega,⟨by unfold maxLen;omega,by omega⟩,?_⟩;refine aD9 (d:=Tryz.z82.map T.lit) (R:=(P.media.set 1 (sL a b)).map MediumR.c ++ [MediumR.c { a with name:=spareN }]) ?_ ?_
  ·simp only [go_sem,simprocAttr];rfl
  ·rw [List.map_append];rfl
 ·simp only [bxx] at h1;have eM:Hz P.media=P.media:=by unfold Hz;rw [if_neg (by omega)]
  rw [eM];obtain ⟨a,ha⟩:∃ a,a=P.media.getD 0 default:=⟨_,rfl⟩
  have n0:∀ d,nth d (P.media.map MediumR.c) 0=MediumR.c a:=fun d=>by rw [ha];exact Qj (by omega) d
  unfold awS;simp only [go_sem,simprocAttr,n0,aBk];refine ⟨by omega,by omega,⟨by unfold maxLen;omega,by omega⟩,?_⟩;rw [← ha];refine aD9 (d:=Tryz.z82.map T.lit) (R:=P.media.map MediumR.c ++ [MediumR.c { a with name:=spareN }]) ?_ ?_
  ·simp only [go_sem,simprocAttr];rfl
  ·rw [List.map_append];rfl
theorem cSumN:aS Tryz.prog 68 [.t (.lit (.slice none 0 0))] (yF 14695981039346656037):=by
 refine aH Tryz.X68 Tryz.func68 rfl Tryz.ntmps68 (by rw [Tryz.results68]) (aD _ ?_);simp only [go_sem,simprocAttr,dtf];refine aE (fun (k:Nat) σ => σ) (fun k=>k=0) (fun k=>0) 0 (aA ?_) rfl ?_
 ·simp only [go_sem,simprocAttr,dtf]
 ·rintro k rfl;refine aD _ ?_;simp only [go_sem,simprocAttr,dtf]
def nF:ByteArray:=⟨#[102]⟩
def nA:ByteArray:=⟨#[97]⟩
def e0:ByteArray:=⟨#[]⟩
def aEs:List EventR:=[⟨1,e0,nF,e0,7⟩,⟨3,nA,nF,e0,0⟩,⟨2,e0,nF,e0,0⟩,⟨1,e0,nF,e0,7⟩]
def aSt:StateR:=⟨[⟨nF,7,true⟩],[⟨nA,nF,7,e0⟩]⟩
theorem a_run:bR ⟨[],[]⟩ aEs=(aSt,[⟨nA,1⟩,⟨nA,3⟩,⟨nA,1⟩],[0,0,0,0]):=by kernel_rfl
theorem a_st0:status ⟨[],[]⟩ nA=0:=by kernel_rfl
theorem a_st1:status aSt nA=1:=by kernel_rfl
theorem aU7:aS Tryz.prog 24 [] (aT true):=by
 have c1:=cPRun ⟨[],[]⟩ aEs aHd (by decide) (by decide);rw [a_run] at c1;have c2:=Ca ⟨[],[]⟩ nA (by decide) (by decide);rw [a_st0] at c2;have c3:=Ca aSt nA (by decide) (by decide);rw [a_st1] at c3;refine aH Tryz.X24 Tryz.func24 rfl Tryz.ntmps24 (by rw [Tryz.results24]) (aD _ ?_);simp only [go_sem,simprocAttr,dtf];refine Dz ?_;simp only [go_sem,simprocAttr,dtf];refine ⟨_,wB (.cons (nE (by exact ⟨jB,jB,trivial⟩)) (.cons pL .nil)) c1,?_⟩;simp only [go_sem,simprocAttr,dtf];refine ⟨_,cSumN,?_⟩;simp only [go_sem,simprocAttr,dtf];refine ⟨_,wB (.cons (nE (by exact ⟨jB,jB,trivial⟩)) (.cons pL .nil)) c2,?_⟩;simp only [go_sem,simprocAttr,dtf];refine ⟨_,c3,?_⟩;have t0:∀ (d x:List T) (l:List (List T)),nth d (x::l) 0=x:=fun _ _ _=>rfl
 have t1:∀ (d x y:List T) (l:List (List T)),nth d (x::y::l) 1=y:=fun _ _ _ _=>rfl
 have t2:∀ (d x y z:List T) (l:List (List T)),nth d (x::y::z::l) 2=z:=fun _ _ _ _ _=>rfl
 simp only [go_sem,simprocAttr,dtf,t0,t1,t2]
def aG2 (l:LinkR):Prop:=(l.file=bF0∨l.file=bF1∨l.file=bF2)∧(l.proxy=gP∨l.proxy=rK∨l.proxy=bM1)
def EvG (e:EventR):Prop:=(e.kind≠5→(e.file=bF0∨e.file=bF1∨e.file=bF2))∧(e.kind≤5)∧(e.proxy=gP∨e.proxy=rK∨e.proxy=bM1)
theorem Wy {l:List ByteArray} {n:Int} (h0 : 0≤n) (h:n<l.length):Cs l n∈l:=by
 unfold Cs;rw [List.getD_eq_getElem?_getD,List.getElem?_eq_getElem (by omega)];exact List.getElem_mem _
theorem aSu (L:List Int) (k:Nat):EvG (ev1 L k).1:=by
 have t9:=aF (L:=L) (k:=k) (n:=9) (by omega);have t3:=aF (L:=L) (k:=k+1) (n:=3) (by omega);have t5:=aF (L:=L) (k:=k+3) (n:=4) (by omega);have hf:=Wy (l:=[bF0,bF1,bF2]) t3.1 t3.2;have hp:=Wy (l:=[gP,rK,bM1,rK]) t5.1 t5.2;simp only [List.mem_cons,List.not_mem_nil,or_false] at hf hp;have hk:Kr [1,1,1,2,3,3,3,4,5] (aB L k 9)≤5:=by
  have:(aB L k 9).toNat=0∨(aB L k 9).toNat=1∨(aB L k 9).toNat=2∨(aB L k 9).toNat=3∨(aB L k 9).toNat=4∨(aB L k 9).toNat=5∨(aB L k 9).toNat=6∨(aB L k 9).toNat=7∨(aB L k 9).toNat=8:=by omega
  unfold Kr;rcases this with h | h | h | h | h | h | h | h | h<;>rw [h]<;>decide
 unfold ev1;simp only;split
 ·exact ⟨fun _=>hf,by simp only;omega, .inl rfl⟩
 ·split
  ·exact ⟨fun _=>hf,by simp only;omega, .inl rfl⟩
  ·split
   ·exact ⟨fun h=>absurd rfl h,by simp only;omega,by rcases hp with h | h | h | h<;>rw [h]<;>simp⟩
   ·exact ⟨fun _=>hf,hk, .inl rfl⟩
theorem Yg (L:List Int):∀ (c k:Nat), ∀ e∈(Sf L c k).1,EvG e
 | 0,k,e,h=>by cases h
 | c+1,k,e,h=>by
  simp only [Sf] at h;rcases List.mem_cons.1 h with rfl | h
  ·exact aSu L k
  ·exact Yg L c _ e h
theorem aSr (L:List Int) (k:Nat) (n:Int):∀ e∈(Mg L k n).1,EvG e:=Yg L _ _
theorem Ge {α : Type} [Inhabited α] {P : α → Prop} {l:List α} {j:Nat} {x : α} (h:∀ y∈l,P y) (hx:j<l.length→P x):∀ y∈l.set j x,P y:=by
 intro y hy
 by_cases hj:j<l.length
 ·rcases mem_set_or hy with hy | rfl
  ·exact h y hy
  ·exact hx hj
 ·rw [List.set_eq_of_length_le (by omega)] at hy;exact h y hy
theorem Uh {s:StateR} {e:EventR} (hs:∀ l∈s.links,aG2 l) (he:EvG e) (hv : 1≤e.kind):∀ l∈(bP s e).2.links,aG2 l:=by
 have hf:=he.1;have hp:=he.2.2;unfold bP;split
 ·unfold dH;split
  ·exact hs
  ·split<;>exact hs
 ·split
  ·unfold gJ;split<;>exact hs
  ·split
   ·rename_i h3;unfold cD;split
    ·exact hs
    ·split
     ·split
      ·exact hs
      ·intro l hl;rcases List.mem_append.1 hl with hl | hl
       ·exact hs l hl
       ·rw [List.mem_singleton] at hl;subst hl;exact ⟨hf (by omega), .inl rfl⟩
     ·exact hs
   ·split
    ·rename_i h4;unfold kL;split
     ·exact hs
     ·exact Ge hs fun hj=>⟨hf (by omega),(hs _ (aP hj)).2⟩
    ·unfold jA;split
     ·exact hs
     ·split
      ·exact hs
      ·exact Ge hs fun hj=>⟨(hs _ (aP hj)).1,hp⟩
theorem Zm {e:EventR} (h:jL e=true) : 1≤e.kind∧e.kind≤5:=by
 apply Classical.byContradiction;intro hc;unfold jL at h;rw [if_neg (by omega),if_neg (by omega),if_neg (by omega),if_neg (by omega)] at h;cases h
theorem Wf:∀ (es:List EventR) (acc:StateR×List OutR×List Int),(∀ e∈es,EvG e)→Ok acc.1→(∀ l∈acc.1.links,aG2 l)→Ok (es.foldl gV acc).1 ∧ ∀ l∈(es.foldl gV acc).1.links,aG2 l
 | [],acc,_,h1,h2=>⟨h1,h2⟩
 | e::r,acc,he,h1,h2=>by
  refine Wf r (gV acc e) (fun x hx=>he x (by simp [hx])) (Pm e h1) ?_;unfold gV;split
  ·rename_i h0;obtain ⟨q1,q2⟩:=aC2 h1 h0;rw [aJw h1 q1 q2];exact Uh h2 (he e (by simp)) (Zm q1).1
  ·exact h2
def aRv (L:List Int):StateR:=(bR ⟨[],[]⟩ (Mg L 0 14).1).1
theorem aRu (L:List Int):Ok (aRv L) ∧ ∀ l∈(aRv L).links,aG2 l:=Wf _ _ (aSr L 0 14) aHd (fun l hl=>by cases hl)
def aA9:ByteArray:=⟨#[111,116,104,101,114]⟩
def aUp:ByteArray:=⟨#[97,108,105,101,110]⟩
def oEs (sum:Int):List EventR:=[⟨1,gP,aA9,gP,sum⟩,⟨3,aUp,aA9,gP,0⟩,⟨2,gP,aA9,gP,0⟩]
structure SameBut (s t:StateR):Prop where
 ok:Ok t
 lk:∀ n,n≠aUp→nC t.links n=nC s.links n
 fl:∀ n,n≠aA9→uE t.files n=uE s.files n
theorem aMk {a b:MediumR} (ha:MedGood 0 a) (hb:MedGood 1 b):MedGood 1 (sL a b):=by
 have h1:=ha.ok;have h2:=hb.ok;refine ⟨hb.name,?_,⟨ha.fit.seq,ha.fit.frames,ha.fit.channels,ha.fit.samples,hb.fit.cues⟩,?_⟩
 ·unfold dX at h1 h2 ⊢;unfold sL;simp only [Bool.and_eq_true] at h1 h2 ⊢;exact ⟨⟨⟨⟨⟨h2.1.1.1.1.1,h1.1.1.1.1.2⟩,h1.1.1.1.2⟩,h1.1.1.2⟩,h1.1.2⟩,h2.2⟩
 ·have:=hb.small;unfold dQ at this ⊢;exact this
theorem aRt (M:List MediumR):(Hz M).length=M.length:=by
 unfold Hz;split<;>simp
theorem aKu {M:List MediumR} {x:Nat} (hx:x<M.length):(Hz M).getD x default=if x=1 then sL (M.getD 0 default) (M.getD 1 default) else M.getD x default:=by
 unfold Hz;split
 ·rename_i h1;rw [List.getD_eq_getElem?_getD,List.getElem?_set]
  by_cases h:x=1
  ·subst h;simp [h1]
  ·rw [if_neg (fun e=>h e.symm),if_neg h,List.getD_eq_getElem?_getD]
 ·rename_i h1;rw [if_neg (by omega)]
theorem aMw (L:List Int):∃ M N,SpareP (xD L) M N:=by
 obtain ⟨M,N,m1,m3,s1,s3,h1,h2,h3,h4⟩:=Kq L;have hl:=aRt (jP L).media;have h0:(Hz (jP L).media).getD 0 default=(jP L).media.getD 0 default:=by rw [aKu (by omega),if_neg (by decide)]
 refine ⟨M,N,m1,m3,s1,s3,?_,h2,fun x hx=>?_,?_,h4⟩
 ·unfold xD;rw [List.length_append,hl];simp [h1]
 ·unfold xD;simp only;rw [aUj _ (by omega),aKu (by omega)]
  by_cases hx1:x=1
  ·subst hx1;rw [if_pos rfl];exact aMk (h3 0 (by omega)) (h3 1 hx)
  ·rw [if_neg hx1];exact h3 x hx
 ·unfold xD;simp only;rw [aUj _ (by omega : 0<(Hz (jP L).media).length),h0,show M=(Hz (jP L).media).length by omega,app_end]
def s0N:ByteArray:=⟨#[115,48]⟩
theorem s0_eq:dF ⟨#[115]⟩ ((0:Nat):Int)=s0N:=ByteArray.ext (by kernel_rfl)
theorem SpareP.uses0 {p:ProjR} {M N:Nat} (h:SpareP p M N):(eG p s0N).2=0:=by
 have hn:=h.hn;have h1:=h.n1;have e:eH p.seqs s0N=some (p.seqs.getD 0 default):=by
  have hl:fJ SequenceR.name (p.seqs.getD 0 default).name p.seqs=_:=aNm h.lay.ns (by omega);rw [(h.seq 0 (by omega)).name,s0_eq] at hl;exact hl
 unfold eG;rw [Uq h.lay,e];rfl
def StpU (p:ProjR):Nat→ByteArray→ByteArray→Prop
 | 0,n,m=>n=m
 | k+1,n,m => ∃ x∈eY p n,StpU p k x m
def RchU (p:ProjR) (n m:ByteArray):Prop := ∃ k,StpU p k n m
theorem RchU.refl {p:ProjR} (n:ByteArray):RchU p n n:=⟨0,rfl⟩
theorem RchU.step {p:ProjR} {n x m:ByteArray} (h:x∈eY p n) (hr:RchU p x m):RchU p n m:=by
 obtain ⟨k,hk⟩:=hr;exact ⟨k+1,x,h,hk⟩
abbrev Pr:=List ByteArray×List ByteArray
structure CollOk (p:ProjR) (l:List ByteArray) (r r':Pr):Prop where
 s1:∀ x∈r.1,x∈r'.1
 s2:∀ x∈r.2,x∈r'.2
 all:∀ n∈l,n∈r'.2
 cl:∀ x∈r'.2,x∈r.2∨(∀ y∈eY p x,y∈r'.2) ∧ ∀ m∈sM p x 1,m∈r'.1
 r2:∀ x∈r'.2,x∈r.2 ∨ ∃ n∈l,RchU p n x
 r1:∀ m∈r'.1,m∈r.1 ∨ ∃ n∈l, ∃ x,RchU p n x∧m∈sM p x 1
theorem aJ2 (p:ProjR) (r:Pr):CollOk p [] r r:=⟨fun _ h=>h,fun _ h=>h,fun _ h=>(by cases h),fun _ h => .inl h,fun _ h => .inl h,fun _ h => .inl h⟩
theorem aFa {p:ProjR} {n:ByteArray} {l:List ByteArray} {a b c:Pr} (h1:CollOk p [n] a b) (h2:CollOk p l b c):CollOk p (n::l) a c:=by
 refine ⟨fun x hx=>h2.s1 x (h1.s1 x hx),fun x hx=>h2.s2 x (h1.s2 x hx),fun x hx=>?_,fun x hx=>?_,fun x hx=>?_,fun m hm=>?_⟩
 ·rcases List.mem_cons.1 hx with rfl | hx
  ·exact h2.s2 _ (h1.all _ (by simp))
  ·exact h2.all x hx
 ·rcases h2.cl x hx with h | h
  ·rcases h1.cl x h with h | h
   ·exact .inl h
   ·exact .inr ⟨fun y hy=>h2.s2 y (h.1 y hy),fun m hm=>h2.s1 m (h.2 m hm)⟩
  ·exact .inr h
 ·rcases h2.r2 x hx with h | ⟨k,hk,hr⟩
  ·rcases h1.r2 x h with h | ⟨k,hk,hr⟩
   ·exact .inl h
   ·exact .inr ⟨n,by simp,by simp only [List.mem_cons,List.not_mem_nil,or_false] at hk;rwa [← hk]⟩
  ·exact .inr ⟨k,by simp [hk],hr⟩
 ·rcases h2.r1 m hm with h | ⟨k,hk,hr⟩
  ·rcases h1.r1 m h with h | ⟨k,hk,hr⟩
   ·exact .inl h
   ·exact .inr ⟨n,by simp,by simp only [List.mem_cons,List.not_mem_nil,or_false] at hk;rwa [← hk]⟩
  ·exact .inr ⟨k,by simp [hk],hr⟩
theorem Lk {p:ProjR} {g:Pr→ByteArray→Pr}:∀ (l:List ByteArray) (r:Pr),(∀ n∈l, ∀ r,CollOk p [n] r (g r n))→CollOk p l r (l.foldl g r)
 | [],r,_=>aJ2 p r
 | n::l,r,h=>aFa (h n (by simp) r) (Lk l (g r n) fun x hx=>h x (by simp [hx]))
theorem aLc {p:ProjR}:∀ (f:Nat) (n:ByteArray) (r:Pr), ¬ Wk p f n→CollOk p [n] r (fX p f n r)
 | 0,n,r,h=>absurd trivial h
 | f+1,n,r,h=>by
  unfold fX;split
  ·rename_i hm;have hm:=sY.1 hm;exact ⟨fun _ h=>h,fun _ h=>h,fun x hx=>by simp only [List.mem_cons,List.not_mem_nil,or_false] at hx;rw [hx];exact hm,fun _ h => .inl h,fun _ h => .inl h,fun _ h => .inl h⟩
  ·have hf:=Lk (p:=p) (g:=fun r x=>fX p f x r) (sM p n 2) (r.1++sM p n 1,r.2 ++ [n]) fun x hx r=>aLc f x r (aBg h hx)
   generalize (sM p n 2).foldl (fun r x=>fX p f x r) (r.1++sM p n 1,r.2 ++ [n])=q at hf ⊢;have hn:n∈q.2:=hf.s2 n (by simp);refine ⟨fun x hx=>hf.s1 x (by simp [hx]),fun x hx=>hf.s2 x (by simp [hx]),fun x hx=>by simp only [List.mem_cons,List.not_mem_nil,or_false] at hx;rw [hx];exact hn,fun x hx=>?_,fun x hx=>?_,fun m hm=>?_⟩
   ·rcases hf.cl x hx with h1 | h1
    ·simp only [List.mem_append,List.mem_cons,List.not_mem_nil,or_false] at h1;rcases h1 with h1 | rfl
     ·exact .inl h1
     ·exact .inr ⟨fun y hy=>hf.all y hy,fun m hm=>hf.s1 m (by simp [hm])⟩
    ·exact .inr h1
   ·rcases hf.r2 x hx with h1 | ⟨k,hk,hr⟩
    ·simp only [List.mem_append,List.mem_cons,List.not_mem_nil,or_false] at h1;rcases h1 with h1 | rfl
     ·exact .inl h1
     ·exact .inr ⟨_,by simp,RchU.refl _⟩
    ·exact .inr ⟨n,by simp,hr.step hk⟩
   ·rcases hf.r1 m hm with h1 | ⟨k,hk,x,hr,hx⟩
    ·simp only [List.mem_append] at h1;rcases h1 with h1 | h1
     ·exact .inl h1
     ·exact .inr ⟨n,by simp,n,RchU.refl n,h1⟩
    ·exact .inr ⟨n,by simp,x,hr.step hk,hx⟩
theorem aTa {p:ProjR} {f:Nat} {n m:ByteArray} (h : ¬ Wk p f n):m∈(fX p f n ([],[])).1 ↔ ∃ x,RchU p n x∧m∈sM p x 1:=by
 have hc:=aLc f n ([],[]) h;generalize fX p f n ([],[])=q at hc ⊢;constructor
 ·intro hm;rcases hc.r1 m hm with h1 | ⟨k,hk,x,hr,hx⟩
  ·cases h1
  ·simp only [List.mem_cons,List.not_mem_nil,or_false] at hk;rw [hk] at hr;exact ⟨x,hr,hx⟩
 ·rintro ⟨x,⟨k,hk⟩,hx⟩;have key:∀ (k:Nat) (n x:ByteArray),n∈q.2→StpU p k n x→x∈q.2:=by
   intro k
   induction k with
   | zero=>intro n x hn hs;rw [← (show n=x from hs)];exact hn
   | succ k ih =>
    rintro n x hn ⟨y,hy,hs⟩;rcases hc.cl n hn with h1 | h1
    ·cases h1
    ·exact ih y x (h1.1 y hy) hs
  have hxq:=key k n x (hc.all n (by simp)) hk;rcases hc.cl x hxq with h1 | h1
  ·cases h1
  ·exact h1.2 m hx
theorem aGh {p:ProjR} {f g:ByteArray} (h:(fM p f g).2=0):(fM p f g).1=aBz p f g:=by
 unfold fM at h ⊢;split
 ·rename_i h1;rw [if_pos h1] at h;exact absurd h h1
 ·rename_i h1;rw [if_neg h1] at h;split
  ·rename_i a b e1 e2;simp only [e1,e2] at h;split
   ·rfl
   ·rename_i h2;rw [if_neg h2] at h;exact absurd h (by decide)
  ·rename_i h2;exfalso;revert h;split
   ·rename_i a b e1 e2;exact absurd e2 (fun e2=>h2 a b e1 e2)
   ·intro h;exact absurd h (by decide)
theorem aCs (s:StateR) (a:ProjR×List ByteArray) (n:ByteArray):(eK s a n).1.media=a.1.media∧(eK s a n).1.seqs.length=a.1.seqs.length:=by
 unfold eK;split
 ·rename_i h;rw [aGh h.2];exact ⟨rfl,by show (List.map _ _).length=_;rw [List.length_map]⟩
 ·exact ⟨rfl,rfl⟩
theorem aCu (s:StateR):∀ (K:List ByteArray) (a:ProjR×List ByteArray),(K.foldl (eK s) a).1.media=a.1.media∧(K.foldl (eK s) a).1.seqs.length=a.1.seqs.length
 | [],_=>⟨rfl,rfl⟩
 | n::K,a=>by
  have h1:=aCu s K (eK s a n);have h2:=aCs s a n;simp only [List.foldl_cons];exact ⟨h1.1.trans h2.1,h1.2.trans h2.2⟩
structure UInv (s:StateR) (p:ProjR) (K1:List ByteArray) (a:ProjR×List ByteArray):Prop where
 lay:Layered a.1
 fit:a.1.fit
 med:a.1.media=p.media
 seq:(eH a.1.seqs s0N).isSome=true
 on:∀ n∈(eG a.1 s0N).1,status s n=1∨n∈(eG p s0N).1
 lf:∀ n∈(eG a.1 s0N).1,n∈K1→n∈a.2
 sub:∀ n∈a.2,n∈K1
def Nj (m:ByteArray) (x:SourceR):Bool:=x.kind==1&&x.name.toList==m.toList
def Ka (p:ProjR) (m:ByteArray) (i:Nat):Bool:=(dU (p.seqs.getD i default)).any (Nj m)
def usI (p:ProjR) (K:IM):Nat→IM
 | 0=>K
 | i+1=>Mc p (usI p K i) (usI p K i) i
def usT (p:ProjR) (n:Int):Nat→IM
 | 0=>[n]
 | t+1=>usI p (usT p n t) p.seqs.length
def uV (p:ProjR) (m:ByteArray) (K:IM):Nat→Bool
 | 0=>false
 | i+1=>uV p m K i||(decide ((i:Int)∈usI p K i)&&Ka p m i)
def mE (p:ProjR) (m:ByteArray) (n:Int):Nat→Bool
 | 0=>false
 | t+1=>mE p m n t||uV p m (usT p n t) p.seqs.length
theorem Nm {p:ProjR} {m:ByteArray} {K:IM} {i:Nat} (h:uV p m K i=true):∀ e,uV p m K (i+e)=true
 | 0=>h
 | e+1=>by
  rw [← Nat.add_assoc];unfold uV;rw [Nm h e];rfl
theorem Nk {p:ProjR} {m:ByteArray} {n:Int} {t:Nat} (h:mE p m n t=true):∀ e,mE p m n (t+e)=true
 | 0=>h
 | e+1=>by
  rw [← Nat.add_assoc];unfold mE;rw [Nk h e];rfl
theorem aSh {p:ProjR} {m:ByteArray} {n:Int} {t i:Nat} (ht:t≤p.seqs.length) (hi:i<p.seqs.length) (h1:(i:Int)∈usI p (usT p n t) i) (h2:Ka p m i=true):mE p m n (p.seqs.length+1)=true:=by
 have a1:uV p m (usT p n t) (i+1)=true:=by
  unfold uV;rw [decide_eq_true h1,h2];simp
 have a2:=Nm a1 (p.seqs.length - (i+1));rw [show i+1+(p.seqs.length - (i+1))=p.seqs.length by omega] at a2;have a3:mE p m n (t+1)=true:=by
  unfold mE;rw [a2];simp
 have a4:=Nk a3 (p.seqs.length - t);rwa [show t+1+(p.seqs.length - t)=p.seqs.length+1 by omega] at a4
theorem aUm {α : Type} [Inhabited α] {f : α → Bool} {L:List α} (h:∀ k,k<L.length→f (L.getD k default)=false):L.any f=false:=by
 rw [List.any_eq_false];intro x hx;obtain ⟨k,hk,rfl⟩:=List.getElem_of_mem hx;have:=h k hk;rw [aK hk] at this;rw [this];decide
theorem any_hit {α : Type} [Inhabited α] {f : α → Bool} {L:List α} {k:Nat} (hk:k<L.length) (h:f (L.getD k default)=true):L.any f=true:=List.any_eq_true.2 ⟨_,aP hk,h⟩
set_option maxHeartbeats 4000000 in
theorem cRUses1 (p:ProjR) (hp:p.seqs.length≤16) (hs:∀ s∈p.seqs,s.video.length≤8∧s.sound.length≤8 ∧ ∀ t∈s.video++s.sound,t.length≤64) (n:Int) (m:ByteArray):aS Tryz.prog 134 [dT p,aC n,bT m] (aT (mE p m n (p.seqs.length+1))):=by
 refine aH Tryz.X134 Tryz.func134 rfl Tryz.ntmps134 (by rw [Tryz.results134]) (aD _ ?_);simp only [go_sem,simprocAttr];refine ⟨by decide,?_⟩;refine aE (fun (t:Nat) σ => sP 1 (.map (iE (usT p n t))) (bD 8 (aC t) (aW [9,10,11,15,16,17,18,19,20,21,22,23,24,25,26,27,28,29,30,31,32,33,34,35,36,37,38,39,40,41,42,43,44,45,46,47,48,49,50,51,52,53,54,55,56,57,58,59,60,61,62,63,64,65,66,67,68,69,70,71,72,73] (aX σ)))) (fun t=>t≤p.seqs.length+1∧mE p m n t=false) (fun t=>p.seqs.length+1 - t) 0 (aA ?_) ⟨Nat.zero_le _,rfl⟩ ?_
 ·simp only [go_sem,simprocAttr]
  all_goals first | rfl | (simp [usT,iE];done) | trace_state
 ·rintro t ⟨ht,hh⟩;refine aD _ ?_;simp only [go_sem,simprocAttr];obtain ⟨K,hK⟩:∃ K,K=usT p n t:=⟨_,rfl⟩
  rw [← hK];refine ⟨fun hgo=>?_,fun hstop=>?_⟩
  ·simp only [bxx] at hgo;have htl:t≤p.seqs.length:=by omega
   unfold awS;simp only [go_sem,simprocAttr];refine aE (fun (i:Nat) σ => sP 1 (.map (iE (usI p K i))) (bD 9 (aC i) (aW [10,11,22,23,24,25,26,27,28,29,30,31,32,33,34,35,36,37,38,39,40,41,42,43,44,45,46,47,48,49,50,51,52,53,54,55,56,57,58,59,60,61,62,63,64,65,66,67,68,69,70,71,72,73] (aX σ)))) (fun i=>i≤p.seqs.length∧uV p m K i=false) (fun i=>p.seqs.length - i) 0 (aA ?_) ⟨Nat.zero_le _,rfl⟩ ?_
   ·simp only [go_sem,simprocAttr]<;>simp [usI,iE]
   ·rintro i ⟨hi,hhi⟩;refine aD _ ?_;simp only [go_sem,simprocAttr];refine ⟨fun hlt=>?_,fun hge=>?_⟩
    ·simp only [bxx] at hlt;have hil:i<p.seqs.length:=by omega
     obtain ⟨N,hN⟩:∃ N,N=usI p K i:=⟨_,rfl⟩
     have hL1:usI p K (i+1)=Mc p N N i:=by rw [hN];rfl
     have hH1:uV p m K (i+1)=(uV p m K i||(decide ((i:Int)∈N)&&Ka p m i)):=by rw [hN];rfl
     rw [hhi,Bool.false_or] at hH1;have hfin:(i:Int)∈N→Ka p m i=true→mE p m n (p.seqs.length+1)=true:=fun h1 h2=>aSh htl hil (by rw [← hK, ← hN];exact h1) h2
     rw [← hN]
     by_cases hm:(i:Int)∈N
     ·have hlk:kY (.int .i64 (i:Int)) (iE N)=some (aT true):=by rw [Rb,if_pos hm]
      obtain ⟨s,hsd⟩:∃ s,s=p.seqs.getD i default:=⟨_,rfl⟩
      have hsm:s∈p.seqs:=by rw [hsd];exact aP hil
      obtain ⟨q1,q2,q3⟩:=hs s hsm;unfold Mc at hL1;rw [if_pos hm, ← hsd] at hL1;have hsl:(dU s).length≤4096:=by
       have a1:=vB (cQ s);have a2:=sG q3;rw [List.length_append] at a2;unfold dU cQ at *;omega
      have hfin:=hfin hm;rw [decide_eq_true hm,Bool.true_and] at hH1;unfold Ka at hfin hH1;rw [← hsd] at hfin hH1;unfold awS;simp only [go_sem,simprocAttr,hlk, ← hsd];refine ⟨by decide,⟨by omega,by omega⟩,_,Js s q1 q2 q3,?_⟩;simp only [go_sem,simprocAttr];obtain ⟨L,hL⟩:∃ L,L=dU s:=⟨_,rfl⟩
      rw [← hL] at hL1 hsl hfin hH1;rw [← hL];refine aE (fun (j:Nat) σ => sP 1 (.map (iE ((L.take j).foldl (zN p) N))) (bD 11 (aC j) (aW [39,40,41,42,43,44,45,46,47,48,49,50,51,52,53,54,55,56,57,58,59,60,61,62,63,64,65,66,67,68,69,70,71,72,73] (aX σ)))) (fun j=>j≤L.length ∧ ∀ k,k<j→Nj m (L.getD k default)=false) (fun j=>L.length - j) 0 (aA ?_) ⟨Nat.zero_le _,by omega⟩ ?_
      ·simp only [go_sem,simprocAttr]<;>simp
      ·rintro j ⟨hj,hnx1⟩;refine aD _ ?_;simp only [go_sem,simprocAttr];refine ⟨fun hlt2=>?_,fun hge2=>?_⟩
       ·simp only [bxx] at hlt2;have hjl:j<L.length:=by omega
        obtain ⟨x,hx⟩:∃ x,x=L.getD j default:=⟨_,rfl⟩
        have hnx:=Fg hjl;rw [← hx] at hnx;have hF:=Ry (zN p) N hjl;rw [← hx] at hF;obtain ⟨M,hM⟩:∃ M,M=(L.take j).foldl (zN p) N:=⟨_,rfl⟩
        rw [← hM] at hF;unfold awS;simp only [go_sem,simprocAttr,hnx];refine ⟨⟨by omega,by omega⟩,fun _=>⟨by omega,by omega⟩,?_⟩;refine brW (b:=Nj m x) ?_ ⟨fun hc=>?_,fun hc=>?_⟩
        ·unfold Nj;rfl
        ·unfold awS;simp only [go_sem,simprocAttr,hfin (any_hit hjl (by rw [← hx];exact hc))]
        ·have hnx2:∀ k,k<j+1→Nj m (L.getD k default)=false:=by
          intro k hk;rcases Nat.lt_or_ge k j with h | h
          ·exact hnx1 k h
          ·rw [show k=j by omega, ← hx];exact hc
         unfold awS;simp only [go_sem,simprocAttr,hnx];refine ⟨⟨by omega,by omega⟩,fun hk2=>?_,fun hk2=>?_⟩
         ·have e1:zN p M x=aA7 (mL p x.name) M:=by unfold zN;rw [if_pos (by simpa using hk2)]
          rw [e1] at hF;unfold awS;simp only [go_sem,simprocAttr];refine bZ [0,1,2,3,4,5,6,7] (.step 8 .done) rfl (by kernel_rfl) (by kernel_rfl) (by decide) ?_;simp only [go_sem,simprocAttr,hnx];refine ⟨⟨by omega,by omega⟩,_,tQ p x.name,?_⟩;simp only [go_sem,simprocAttr];rw [← hM,aR0];refine ⟨by decide,j+1,aA ?_,⟨by omega,hnx2⟩,by omega⟩;simp only [go_sem,simprocAttr];rw [hF];refine ⟨?_,?_⟩
          ·first
           | exact ⟨by simp,rfl,by simp⟩
           | (simp [mL];done)
           | trace_state
          ·first
           | rfl
           | (simp [aZ (show j<9223372036854775807 by omega)];done)
           | trace_state
         ·have e1:zN p M x=M:=by unfold zN;rw [if_neg (by simpa using hk2)]
          rw [e1] at hF;unfold awS;simp only [go_sem,simprocAttr];refine ⟨j+1,aA ?_,⟨by omega,hnx2⟩,by omega⟩;simp only [go_sem,simprocAttr];rw [hF,hM];simp [aZ (show j<9223372036854775807 by omega)]
       ·simp only [bxx] at hge2;have:j=L.length:=by omega
        subst this;unfold awS;simp only [go_sem,simprocAttr];refine ⟨i+1,aA ?_,⟨by omega,by rw [hH1];exact aUm hnx1⟩,by omega⟩;simp only [go_sem,simprocAttr];rw [List.take_length, ← hL1];simp [aZ (show i<9223372036854775807 by omega)]
     ·have hlk:kY (.int .i64 (i:Int)) (iE N)=none:=by rw [Rb,if_neg hm]
      unfold Mc at hL1;rw [if_neg hm] at hL1;rw [decide_eq_false hm,Bool.false_and] at hH1;unfold awS;simp only [go_sem,simprocAttr,hlk];refine ⟨by decide,i+1,aA ?_,⟨by omega,hH1⟩,by omega⟩;simp only [go_sem,simprocAttr];rw [hL1];simp [aZ (show i<9223372036854775807 by omega)]
    ·simp only [bxx] at hge;have:i=p.seqs.length:=by omega
     subst this;unfold awS;simp only [go_sem,simprocAttr];have hlv:usI p K p.seqs.length=usT p n (t+1):=by rw [hK];rfl
     refine ⟨t+1,aA ?_,⟨by omega,by unfold mE;rw [hh,Bool.false_or, ← hK];exact hhi⟩,by omega⟩;simp only [go_sem,simprocAttr];rw [hlv];simp [aZ (show t<9223372036854775807 by omega)]
  ·simp only [bxx] at hstop;have:t=p.seqs.length+1:=by omega
   subst this;unfold awS;simp only [go_sem,simprocAttr,hh]
