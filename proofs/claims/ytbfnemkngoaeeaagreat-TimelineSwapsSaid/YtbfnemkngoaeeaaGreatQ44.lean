/- Proved here: The project copied, in the reference; conditions stand in each theorem. -/
import Derived.Test.YtbfnemkngoaeeaaGreatQ40
import Derived.Test.YtbfnemkngoaeeaaGreatQ41
import Derived.Test.YtbfnemkngoaeeaaGreatQ37
import Derived.Test.YtbfnemkngoaeeaaGreatQ06
import Derived.Test.YtbfnemkngoaeeaaGreatQ38
import Derived.Test.YtbfnemkngoaeeaaGreatQ43
set_option linter.unusedSimpArgs false
set_option linter.unusedVariables false
set_option linter.unusedSectionVars false
set_option linter.unnecessarySimpa false
namespace Go.Proofs.YtbfnemkngoaeeaaGreat
open Go.RowKit
set_option maxRecDepth 4000
theorem aA7 (l:List CueR) (hl:l.length≤65536) (hll:∀ c∈l,c.lines.length≤65536):aN Tryz.prog 135 [.t (fA l)] (.t (fA l)):=by
 refine fQ Tryz.X135 Tryz.func135 rfl Tryz.ntmps135 (by rw [Tryz.results135]) (aD _ ?_);simp only [go_sem,simprocAttr,dtf];refine aF (fun (k:Nat) σ => (fun τ : St => { τ with h:=(0,RowQ (l.take k)) :: τ.h,nx:=1 }) (bL 3 (.own 0) (bL 4 (aC k) (aX [5,6,7,8,9,10,11,12,13,14,15,16,17,18,19,20,21,22,23,24,25,26,27,28,29,30,31] (bF σ))))) (fun k=>k≤l.length) (fun k=>l.length - k) 0 (aW [(0,none)] ?_) (Nat.zero_le _) ?_
 ·simp only [go_sem,simprocAttr,dtf]
 ·intro k hk;refine aD _ ?_;simp only [go_sem,simprocAttr,dtf];refine ⟨fun hlt=>?_,fun hge=>?_⟩
  ·simp only [bxx] at hlt;have hkl:k<l.length:=by omega
   have hlk:=hll _ (aQ (d:=default) hkl);unfold awS;simp only [go_sem,simprocAttr,dtf];refine aV 22 .done rfl (by kernel_rfl) (by kernel_rfl) (by decide) ?_;simp only [go_sem,simprocAttr,dtf];have hlt2:(l.take k).length≤65536:=by rw [List.length_take];omega
   have hq:l.take (k+1)=l.take k ++ [l.getD k default]:=bY hkl;refine ⟨⟨by omega,by omega⟩,⟨by omega,by omega⟩,⟨by omega,by omega⟩,⟨by unfold maxLen;omega,by omega⟩,⟨by unfold maxLen;omega,by omega⟩,by kernel_rfl,k+1,aW [(0,some 21)] ?_,by omega,by omega⟩;simp only [go_sem,simprocAttr,dtf];refine ⟨⟨by simp,?_,by simp⟩,?_⟩
   ·rw [hq,List.map_append];rfl
   ·rw [bJ (show k<9223372036854775807 by omega)];rfl
  ·simp only [bxx] at hge;have:k=l.length:=by omega
   subst this;rw [List.take_length];unfold awS;simp only [go_sem,simprocAttr,dtf];refine dW ?_ rfl;simp only [go_sem,simprocAttr,dtf]
open Go.RowKit
set_option maxRecDepth 4000
open Go.RowKit
set_option maxRecDepth 4000
structure OwnTr (H:Heap) (lo hi:Nat) (k:Nat) (rs:List Nat) (ts:List (List ClipR)):Prop where
 len:rs.length=ts.length
 row:H.look k=some (.row 27 1 (bS []) (rs.map fun r=>[V.own r]))
 clips:∀ i,i<ts.length→H.look (rs.getD i 0)=some (qS (ts.getD i default))
 nodup:rs.Nodup
 kr:lo≤k∧k<hi
 rr:∀ r∈rs,lo≤r∧r<hi
 ne:k ∉ rs
theorem OwnTr.snoc {H H2:Heap} {lo n n2 k k2 q:Nat} {rs:List Nat} {ts:List (List ClipR)} {L:List ClipR} (h:OwnTr H lo n k rs ts) (hln:lo≤n) (hq:n≤q∧q<n2) (hk:n≤k2∧k2<n2) (hqk:q≠k2)
  (h1:H2.look k2=some (.row 27 1 (bS []) (rs.map (fun r=>[V.own r]) ++ [[.own q]]))) (h2:H2.look q=some (qS L)) (h3:∀ m,m<n→m≠k→H2.look m=H.look m):OwnTr H2 lo n2 k2 (rs ++ [q]) (ts ++ [L]):=by
 refine ⟨by simp [h.len],by rw [h1,List.map_append];rfl,fun i hi=>?_,?_,⟨by omega,hk.2⟩,fun r hr=>?_,fun hm=>?_⟩
 ·by_cases hit:i<ts.length
  ·have hir:i<rs.length:=by rw [h.len];exact hit
   have hrm:rs.getD i 0∈rs:=by rw [List.getD_eq_getElem?_getD,List.getElem?_eq_getElem hir];exact List.getElem_mem _
   have e1:(rs ++ [q]).getD i 0=rs.getD i 0:=by simp only [List.getD_eq_getElem?_getD];rw [List.getElem?_append_left hir]
   have e2:(ts ++ [L]).getD i default=ts.getD i default:=by simp only [List.getD_eq_getElem?_getD];rw [List.getElem?_append_left hit]
   rw [e1,e2,h3 _ (h.rr _ hrm).2 (fun e=>h.ne (e ▸ hrm)),h.clips i hit]
  ·have hie:i=ts.length:=by simp at hi;omega
   have e1:(rs ++ [q]).getD i 0=q:=by simp only [List.getD_eq_getElem?_getD];rw [hie, ← h.len];simp
   have e2:(ts ++ [L]).getD i default=L:=by simp only [List.getD_eq_getElem?_getD];rw [hie];simp
   rw [e1,e2,h2]
 ·rw [List.nodup_append];refine ⟨h.nodup,by simp,fun a ha b hb=>?_⟩;simp only [List.mem_singleton] at hb;have:=(h.rr a ha).2;omega
 ·rcases List.mem_append.1 hr with hr | hr
  ·have:=h.rr r hr;omega
  ·simp only [List.mem_singleton] at hr;omega
 ·rcases List.mem_append.1 hm with hm | hm
  ·have:=(h.rr _ hm).2;omega
  ·simp only [List.mem_singleton] at hm;omega
theorem zT {σ : St} {d:Option Tmp} {K:St→Prop} (ts:List (List ClipR)) (h1:ts.length≤65536) (h2:∀ t∈ts,t.length≤65536 ∧ ∀ c∈t,c.chan.length≤65536) (hw:WFh σ)
  (hK:∀ k rs H n,OwnTr H σ.nx n k rs ts→(∀ j,j < σ.nx→H.look j = σ.h.look j)→(∀ q,n≤q→H.look q=none) → σ.nx≤n→K (({ σ with h:=H,nx:=n }:St).put d (.own k))) :
  XCall Tryz.prog σ d 136 [.t (cH ts)] K:=by
 unfold XCall;refine vV Tryz.X136 Tryz.func136 rfl Tryz.ntmps136 (by rw [Tryz.results136]) ?_;have hK2:∀ k rs H n,OwnTr H σ.nx n k rs ts→(∀ j,j < σ.nx→H.look j = σ.h.look j)→(∀ q,n≤q→H.look q=none) → σ.nx≤n → ∀ fr df,(fun (x:V) (σ':St)=>(fun s:St=>(pB σ.h s.h∧WFh s ∧ σ.nx≤s.nx)∧K s) (({ σ with h := σ'.h,nx := σ'.nx }:St).put d x)) (.own k) { fr:=fr,h:=H,nx:=n,df:=df }:=by
  intro k rs H n q1 q2 q3 q4 fr df;refine ⟨⟨fun j b hj=>?_,fun j hj=>?_,?_⟩,hK k rs H n q1 q2 q3 q4⟩
  ·rw [jF];show H.look j=some b
   rw [q2 j ?_]
   ·exact hj
   ·rcases Nat.lt_or_ge j σ.nx with h | h
    ·exact h
    ·rw [hw j h] at hj;cases hj
  ·rw [jF];rw [fE] at hj;exact q3 j hj
  ·rw [fE];exact q4
 revert hK2;generalize (fun (x:V) (σ':St)=>(fun s:St=>(pB σ.h s.h∧WFh s ∧ σ.nx≤s.nx)∧K s) (({ σ with h := σ'.h,nx := σ'.nx }:St).put d x))=K2;obtain ⟨fr0,H0,n0,df0⟩ := σ;intro hK2;have hw0:∀ q,n0≤q→H0.look q=none:=hw;have hK3:∀ k rs H n,OwnTr H n0 n k rs ts→(∀ j,j<n0→H.look j=H0.look j)→(∀ q,n≤q→H.look q=none)→n0≤n → ∀ fr df,K2 (.own k) { fr:=fr,h:=H,nx:=n,df:=df }:=hK2;clear hK2 hK;show AWP Tryz.prog n0 _ _ (yR Tryz.prog _ _ H0 n0)
 refine aD _ ?_;simp only [go_sem,simprocAttr,dtf];refine aF (fun (x:Nat×Nat×List Nat×Heap×Nat) σ => (fun τ : St => { τ with h:=x.2.2.2.1,nx:=x.2.2.2.2 }) (bL 3 (.own x.2.1) (bL 4 (aC x.1) (aX [5,6,7,8,9,10,11,12,13,14,15,16,17,18,19,20,21,22,23,24,25,26,27,28,29,30,31,32,33,34,35,36] σ))))
  (fun x=>x.1≤ts.length∧OwnTr x.2.2.2.1 n0 x.2.2.2.2 x.2.1 x.2.2.1 (ts.take x.1)∧n0≤x.2.2.2.2 ∧ ∀ j,j<n0→x.2.2.2.1.look j=H0.look j) (fun x=>ts.length - x.1)
  (0,n0,[],(n0, .row 27 1 (bS []) [])::H0,n0+1) (pJ (Vh 3 27 1 (bS []) (Nat.le_refl _) rfl) (eU ?_)) ?_ ?_
 ·simp only [go_sem,simprocAttr,dtf];exact Nat.le_refl _
 ·refine ⟨Nat.zero_le _,⟨by simp,by simp [Heap.look],fun i hi=>by simp at hi,by simp,⟨by simp,by simp⟩,by simp,by simp⟩,by simp,fun j hj=>?_⟩;show Heap.look _ j=_
  rw [Heap.look,if_neg (by omega)]
 ·rintro ⟨i,k,rs,H,n⟩ ⟨hi,hO,hn,hlo⟩;have hi:i≤ts.length:=hi;have hO:OwnTr H n0 n k rs (ts.take i):=hO;have hn:n0≤n:=hn;have hlo:∀ j,j<n0→H.look j=H0.look j:=hlo;refine xZ fun hwf=>aD _ ?_
  simp only [go_sem,simprocAttr,dtf];refine ⟨fun hlt=>?_,fun hge=>?_⟩
  ·simp only [bxx] at hlt;have hil:i<ts.length:=by omega
   obtain ⟨L,hL⟩:∃ L,L=ts.getD i default:=⟨_,rfl⟩
   have hLm:L∈ts:=by rw [hL];exact aQ hil
   obtain ⟨q1,q2⟩:=h2 L hLm;have hnt:∀ d,nth d (ts.map bS) i=bS L:=fun d=>by
    unfold nth;rw [List.getElem?_map,List.getElem?_eq_getElem hil,hL,aU hil];rfl
   unfold awS;simp only [go_sem,simprocAttr,dtf,hnt,List.length_map];refine aF (fun (x:Nat×Nat×Heap×Nat) σ => (fun τ : St => { τ with h:=x.2.2.1,nx:=x.2.2.2 }) (bL 5 (.own x.2.1) (bL 6 (aC x.1) (aX [13,14,15,16,17,18,19,20,21,22,23,24,25,26,27,28,29,30,31,32,33,34,35,36] σ))))
    (fun x=>x.1≤L.length∧x.2.2.1.look x.2.1=some (qS (L.take x.1))∧(n≤x.2.1∧x.2.1<x.2.2.2) ∧ ∀ m,m<n→x.2.2.1.look m=H.look m) (fun x=>L.length - x.1)
    (0,n,(n, .row 103 22 (ClipR.c default) [])::H,n+1) (pJ (Vh 5 103 22 (ClipR.c default) hn rfl) (eU ?_)) ?_ ?_
   ·simp only [go_sem,simprocAttr,dtf];simp
   ·refine ⟨Nat.zero_le _,by simp [Heap.look,aK],⟨by simp,by simp⟩,fun m hm=>?_⟩;show Heap.look _ m=_
    rw [Heap.look,if_neg (by omega)]
   ·rintro ⟨j,q,H1,n1⟩ ⟨hj,hq,hqn,hlo1⟩;have hj:j≤L.length:=hj;have hq:H1.look q=some (qS (L.take j)):=hq;have hqn:n≤q∧q<n1:=hqn;have hlo1:∀ m,m<n→H1.look m=H.look m:=hlo1;have hqn1:(q=n1)=False:=eq_false (by omega);refine xZ fun hwf1=>aD _ ?_
    simp only [go_sem,simprocAttr,dtf,hnt,List.length_map];refine ⟨⟨by omega,by omega⟩,fun hlt2=>?_,fun hge2=>?_⟩
    ·simp only [bxx] at hlt2;have hjl:j<L.length:=by omega
     have hqq:L.take (j+1)=L.take j ++ [L.getD j default]:=bY hjl;have hjt:(L.take j).length≤65536:=by rw [List.length_take];omega
     unfold awS;simp only [go_sem,simprocAttr,dtf,hnt,List.length_map];refine ⟨⟨by omega,by omega⟩,⟨by omega,by omega⟩,_,cCopy _ (q2 _ (aQ hjl)),?_⟩;simp only [go_sem,simprocAttr,dtf,hq,hqn1];refine ⟨⟨by unfold maxLen;omega,by omega⟩,(j+1,n1+1,_,n1+2),eU ⟨rfl,Nat.le_refl _,rfl,?_⟩,?_,by show L.length - (j+1)<_;omega⟩
     ·simp only [go_sem,simprocAttr,dtf];rw [bJ (show j<9223372036854775807 by omega)];rfl
     ·refine ⟨hjl,?_,⟨by show n≤n1+1;omega,Nat.lt_succ_self _⟩,fun m hm=>?_⟩
      ·show Heap.look _ (n1+1)=_
       rw [Heap.look,if_pos rfl,hqq,qS,List.map_append];rfl
      ·show Heap.look _ m=_
       rw [Heap.look,if_neg (by omega),Heap.look,if_neg (by omega),Heap.look_del,if_neg (by omega)];exact hlo1 m hm
    ·simp only [bxx] at hge2;have:j=L.length:=by omega
     subst this;rw [List.take_length] at hq;have hit:rs.length≤65536:=by rw [hO.len,List.length_take];omega
     have hkq:(k=n1)=False:=eq_false (by have:=hO.kr;omega);have hkl:H1.look k=some (.row 27 1 (bS []) (rs.map fun r=>[V.own r])):=by rw [hlo1 k hO.kr.2];exact hO.row
     unfold awS;simp only [go_sem,simprocAttr,dtf,hkl,hkq];refine ⟨⟨by unfold maxLen;omega,by omega⟩,(i+1,n1+1,rs ++ [q],_,n1+2),eU ⟨rfl,Nat.le_refl _,rfl,?_⟩,?_,by show ts.length - (i+1)<_;omega⟩
     ·simp only [go_sem,simprocAttr,dtf];rw [bJ (show i<9223372036854775807 by omega)];rfl
     ·refine ⟨hil,?_,by show n0≤n1+2;omega,fun m hm=>?_⟩
      ·have e1:ts.take (i+1)=ts.take i ++ [L]:=by rw [bY hil, ← hL]
       show OwnTr _ n0 (n1+2) (n1+1) (rs ++ [q]) (ts.take (i+1))
       rw [e1];refine hO.snoc hn ⟨hqn.1,by omega⟩ ⟨by omega,by omega⟩ (by omega) ?_ ?_ fun m hm hmk=>?_
       ·rw [Heap.look,if_pos rfl]
       ·rw [Heap.look,if_neg (by omega),Heap.look,if_neg (by omega),Heap.look_del,if_neg (by have:=hO.kr;omega)];exact hq
       ·rw [Heap.look,if_neg (by omega),Heap.look,if_neg (by omega),Heap.look_del,if_neg hmk];exact hlo1 m hm
      ·show Heap.look _ m=_
       have:=hO.kr;rw [Heap.look,if_neg (by omega),Heap.look,if_neg (by omega),Heap.look_del,if_neg (by omega),hlo1 m (by omega)];exact hlo m hm
  ·simp only [bxx] at hge;have:i=ts.length:=by omega
   subst this;rw [List.take_length] at hO;unfold awS;simp only [go_sem,simprocAttr,dtf];exact hK3 k rs H n hO hlo (fun q hq=>hwf q hq) hn _ _
open Go.RowKit
set_option maxRecDepth 4000
theorem OwnTr.keep {H H2:Heap} {lo lo2 n n2 k:Nat} {rs:List Nat} {ts:List (List ClipR)} (h:OwnTr H lo n k rs ts) (h1:H2.look k=H.look k) (h2:∀ r∈rs,H2.look r=H.look r) (hl:lo2≤lo) (hn:n≤n2):OwnTr H2 lo2 n2 k rs ts:=by
 refine ⟨h.len,by rw [h1];exact h.row,fun i hi=>?_,h.nodup,⟨by have:=h.kr;omega,by have:=h.kr;omega⟩,fun r hr=>by have:=h.rr r hr;omega,h.ne⟩;rw [h2 _ ?_]
 ·exact h.clips i hi
 ·have hir:i<rs.length:=by rw [h.len];exact hi
  rw [List.getD_eq_getElem?_getD,List.getElem?_eq_getElem hir];exact List.getElem_mem _
def Ss (q:SequenceR) (v u:Nat):List V:=[bP q.name,aC q.rate.num,aC q.rate.den,aC q.w,aC q.h, .own v, .own u, .t (fA q.cues),aC q.channels]
@[go_sem] theorem seqV_l (q:SequenceR) (v u:Nat):(Ss q v u).length=9:=rfl
abbrev KS:Type:=Nat×List Nat×Nat×List Nat
def cU (k:KS):List Nat:=(k.1::k.2.1)++(k.2.2.1::k.2.2.2)
def pL (qs:List SequenceR) (ks:List KS):List (List V):=(qs.zip ks).map fun x=>Ss x.1 x.2.1 x.2.2.2.1
structure OwnPr (H:Heap) (lo hi s:Nat) (ks:List KS) (qs:List SequenceR):Prop where
 len:ks.length=qs.length
 row:H.look s=some (.row 114 9 (SequenceR.c default) (pL qs ks))
 vid:∀ i,i<qs.length→OwnTr H lo hi (ks.getD i default).1 (ks.getD i default).2.1 (qs.getD i default).video
 snd:∀ i,i<qs.length→OwnTr H lo hi (ks.getD i default).2.2.1 (ks.getD i default).2.2.2 (qs.getD i default).sound
 nodup:(ks.flatMap cU).Nodup
 sr:lo≤s∧s<hi
 ne:s ∉ ks.flatMap cU
theorem OwnPr.num {H:Heap} {lo hi s:Nat} {ks:List KS} {qs:List SequenceR} (h:OwnPr H lo hi s ks qs):∀ r∈ks.flatMap cU,lo≤r∧r<hi:=by
 intro r hr;obtain ⟨k,hk,hr⟩:=List.mem_flatMap.1 hr;obtain ⟨i,hi,he⟩:=List.mem_iff_getElem.1 hk;have hiq:i<qs.length:=by rw [← h.len];exact hi
 have e1:ks.getD i default=k:=by rw [List.getD_eq_getElem?_getD,List.getElem?_eq_getElem hi, ← he];rfl
 have hv:=h.vid i hiq;have hu:=h.snd i hiq;rw [e1] at hv hu;unfold cU at hr;rcases List.mem_append.1 hr with hr | hr
 ·rcases List.mem_cons.1 hr with rfl | hr
  ·exact hv.kr
  ·exact hv.rr r hr
 ·rcases List.mem_cons.1 hr with rfl | hr
  ·exact hu.kr
  ·exact hu.rr r hr
theorem xU {α : Type} {l:List α} {x d : α} {i:Nat} (h:i<l.length):(l ++ [x]).getD i d=l.getD i d:=by
 simp only [List.getD_eq_getElem?_getD];rw [List.getElem?_append_left h]
theorem xT {α : Type} {l:List α} {x d : α}:(l ++ [x]).getD l.length d=x:=by simp
theorem OwnPr.snoc {H H2:Heap} {lo n n2 s s2 v u:Nat} {rv ru:List Nat} {ks:List KS} {qs:List SequenceR} {q:SequenceR} (h:OwnPr H lo n s ks qs) (hln:lo≤n) (hn:n≤n2) (hv:OwnTr H2 n n2 v rv q.video) (hu:OwnTr H2 n n2 u ru q.sound)
  (hd:(cU (v,rv,u,ru)).Nodup) (hs:n≤s2∧s2<n2) (hs2:s2 ∉ cU (v,rv,u,ru)) (h1:H2.look s2=some (.row 114 9 (SequenceR.c default) (pL qs ks ++ [Ss q v u])))
  (h3:∀ m,lo≤m→m<n→m≠s→H2.look m=H.look m):OwnPr H2 lo n2 s2 (ks ++ [(v,rv,u,ru)]) (qs ++ [q]):=by
 have hnum:∀ r∈cU (v,rv,u,ru),n≤r∧r<n2:=by
  intro r hr;unfold cU at hr;rcases List.mem_append.1 hr with hr | hr
  ·rcases List.mem_cons.1 hr with rfl | hr
   ·exact hv.kr
   ·exact hv.rr r hr
  ·rcases List.mem_cons.1 hr with rfl | hr
   ·exact hu.kr
   ·exact hu.rr r hr
 have hold:∀ r∈ks.flatMap cU,H2.look r=H.look r:=fun r hr=>h3 r (h.num r hr).1 (h.num r hr).2 fun e=>h.ne (e ▸ hr)
 have hmem:∀ i,i<ks.length → ∀ r∈cU (ks.getD i default),r∈ks.flatMap cU:=fun i hi r hr=>List.mem_flatMap.2 ⟨_,aQ hi,hr⟩
 refine ⟨by simp [h.len],?_,fun i hi=>?_,fun i hi=>?_,?_,⟨by omega,hs.2⟩,fun hm=>?_⟩
 ·rw [h1];unfold pL;rw [List.zip_append h.len.symm,List.map_append];rfl
 ·by_cases hiq:i<qs.length
  ·have hik:i<ks.length:=by rw [h.len];exact hiq
   rw [xU hiq,xU hik];refine (h.vid i hiq).keep (hold _ (hmem i hik _ ?_)) (fun r hr=>hold _ (hmem i hik _ ?_)) (Nat.le_refl _) hn
   ·exact List.mem_append_left _ List.mem_cons_self
   ·exact List.mem_append_left _ (List.mem_cons_of_mem _ hr)
  ·have:i=qs.length:=by simp at hi;omega
   subst this;rw [xT, ← h.len,xT];exact hv.keep rfl (fun _ _=>rfl) hln (Nat.le_refl _)
 ·by_cases hiq:i<qs.length
  ·have hik:i<ks.length:=by rw [h.len];exact hiq
   rw [xU hiq,xU hik];refine (h.snd i hiq).keep (hold _ (hmem i hik _ ?_)) (fun r hr=>hold _ (hmem i hik _ ?_)) (Nat.le_refl _) hn
   ·exact List.mem_append_right _ List.mem_cons_self
   ·exact List.mem_append_right _ (List.mem_cons_of_mem _ hr)
  ·have:i=qs.length:=by simp at hi;omega
   subst this;rw [xT, ← h.len,xT];exact hu.keep rfl (fun _ _=>rfl) hln (Nat.le_refl _)
 ·rw [List.flatMap_append,List.nodup_append];refine ⟨h.nodup,by simpa using hd,fun a ha b hb=>?_⟩;have h5:=(h.num a ha).2;have h6:=(hnum b (by simpa using hb)).1;omega
 ·rw [List.flatMap_append] at hm;rcases List.mem_append.1 hm with hm | hm
  ·have:=(h.num _ hm).2;omega
  ·exact hs2 (by simpa using hm)
theorem OwnPr.keepAll {H H2:Heap} {lo lo2 n n2 s:Nat} {ks:List KS} {qs:List SequenceR} (h:OwnPr H lo n s ks qs) (h1:∀ r∈ks.flatMap cU,H2.look r=H.look r) (h2:H2.look s=H.look s) (hl:lo2≤lo) (hn:n≤n2):OwnPr H2 lo2 n2 s ks qs:=by
 have hmem:∀ i,i<qs.length → ∀ r∈cU (ks.getD i default),r∈ks.flatMap cU:=fun i hi r hr=>List.mem_flatMap.2 ⟨_,aQ (by rw [h.len];exact hi),hr⟩
 refine ⟨h.len,by rw [h2];exact h.row,fun i hi=>?_,fun i hi=>?_,h.nodup,by have:=h.sr;omega,h.ne⟩
 ·refine (h.vid i hi).keep (h1 _ (hmem i hi _ ?_)) (fun r hr=>h1 _ (hmem i hi _ ?_)) hl hn
  ·exact List.mem_append_left _ List.mem_cons_self
  ·exact List.mem_append_left _ (List.mem_cons_of_mem _ hr)
 ·refine (h.snd i hi).keep (h1 _ (hmem i hi _ ?_)) (fun r hr=>h1 _ (hmem i hi _ ?_)) hl hn
  ·exact List.mem_append_right _ List.mem_cons_self
  ·exact List.mem_append_right _ (List.mem_cons_of_mem _ hr)
set_option maxHeartbeats 8000000 in
theorem aAm {σ : St} {d:Option Tmp} {K:St→Prop} (p:ProjR) (hp:p.media.length≤65536) (hq:p.seqs.length≤65536) (hm:∀ m∈p.media,m.cues.length≤65536 ∧ ∀ c∈m.cues,c.lines.length≤65536)
  (hs:∀ s∈p.seqs,(s.cues.length≤65536 ∧ ∀ c∈s.cues,c.lines.length≤65536)∧(s.video.length≤65536 ∧ ∀ t∈s.video,t.length≤65536 ∧ ∀ c∈t,c.chan.length≤65536)∧(s.sound.length≤65536 ∧ ∀ t∈s.sound,t.length≤65536 ∧ ∀ c∈t,c.chan.length≤65536))
  (hK:∀ m s ks H n,H.look m=some (qR p.media)→OwnPr H (m+1) n s ks p.seqs→(∀ j,j < σ.nx→H.look j = σ.h.look j) → σ.nx≤m→K (({ σ with h:=H,nx:=n }:St).put d (.agg [.own m, .own s]))) :
  ICall Tryz.prog σ d 63 [eD p] K:=by
 refine vV Tryz.X63 Tryz.func63 rfl Tryz.ntmps63 (by rw [Tryz.results63]) ?_;have hK2:∀ m s ks H n,H.look m=some (qR p.media)→OwnPr H (m+1) n s ks p.seqs→(∀ j,j < σ.nx→H.look j = σ.h.look j) → σ.nx≤m → ∀ fr df,(fun (x:V) (σ':St)=>K (({ σ with h := σ'.h,nx := σ'.nx }:St).put d x)) (.agg [.own m, .own s]) { fr:=fr,h:=H,nx:=n,df:=df }:=fun m s ks H n q1 q2 q3 q4 fr df=>hK m s ks H n q1 q2 q3 q4
 revert hK2;generalize (fun (x:V) (σ':St)=>K (({ σ with h := σ'.h,nx := σ'.nx }:St).put d x))=K2;obtain ⟨fr0,H0,n0,df0⟩ := σ;intro hK2;have hK3:∀ m s ks H n,H.look m=some (qR p.media)→OwnPr H (m+1) n s ks p.seqs→(∀ j,j<n0→H.look j=H0.look j)→n0≤m → ∀ fr df,K2 (.agg [.own m, .own s]) { fr:=fr,h:=H,nx:=n,df:=df }:=hK2;clear hK2 hK;show AWP Tryz.prog n0 _ _ (yR Tryz.prog _ _ H0 n0)
 refine aD _ ?_;simp only [go_sem,simprocAttr,dtf];obtain ⟨b1,hb1⟩:∃ b1,b1=n0+1:=⟨_,rfl⟩
 rw [← hb1];obtain ⟨b2,hb2⟩:∃ b2,b2=b1+1:=⟨_,rfl⟩
 rw [← hb2];obtain ⟨c0,hc0⟩:∃ c0,c0=V.t (.lit (.slice none 0 0)):=⟨_,rfl⟩
 refine aF (fun (x:Nat×Nat×Heap×Nat) σ => (fun τ : St => { τ with h:=x.2.2.1,nx:=x.2.2.2 }) (bL 4 (aC x.1) (aX [5,8,9,10,11,12,13,14,15,16,17,18,19,20,21,22,23,24,25,26,27,28,29] σ)))
  (fun x=>x.1≤p.media.length∧(x.2.2.1.look n0=some (.box [.t (fC p.media), .t (gV p.seqs)])∧x.2.2.1.look b1=some (.box [.t (.lit (.slice none 0 0)), .t (.lit (.slice none 0 0))])∧x.2.2.1.look b2=some (.box [.own x.2.1, .t (.lit (.slice none 0 0))]) ∧
   x.2.2.1.look x.2.1=some (qR (p.media.take x.1)))∧(b2<x.2.1∧x.2.1<x.2.2.2) ∧ ∀ j,j<n0→x.2.2.1.look j=H0.look j) (fun x=>p.media.length - x.1)
  (0,b2+1,(b2+1, .row 82 141 (MediumR.c default) [])::Heap.set ((b2, .box [.t (.lit (.slice none 0 0)), .t (.lit (.slice none 0 0))])::(b1, .box [.t (.lit (.slice none 0 0)), .t (.lit (.slice none 0 0))])::(n0, .box [.t (fC p.media), .t (gV p.seqs)])::H0) b2 (.box [.own (b2+1), .t (.lit (.slice none 0 0))]),b2+1+1)
  (pJ (Nn b2 0 82 141 (MediumR.c default) [.t (.lit (.slice none 0 0)), .t (.lit (.slice none 0 0))] (by show n0≤b2+1;omega) (by show Heap.look _ b2=_;rw [Heap.look,if_pos rfl]) rfl) (eU ?_)) ?_ ?_
 ·simp only [go_sem,simprocAttr,dtf];exact Nat.le_refl _
 ·refine ⟨Nat.zero_le _,⟨?_,?_,?_,?_⟩,⟨Nat.lt_succ_self _,Nat.lt_succ_self _⟩,fun j hj=>?_⟩
  ·show Heap.look _ n0=_
   rw [Heap.look,if_neg (by omega),Heap.set,if_pos rfl,Heap.look,if_neg (by omega),Heap.look,if_neg (by omega),Heap.look,if_pos rfl]
  ·show Heap.look _ b1=_
   rw [Heap.look,if_neg (by omega),Heap.set,if_pos rfl,Heap.look,if_neg (by omega),Heap.look,if_pos rfl]
  ·show Heap.look _ b2=_
   rw [Heap.look,if_neg (by omega),Heap.set,if_pos rfl,Heap.look,if_pos rfl]
  ·show Heap.look _ (b2+1)=_
   rw [Heap.look,if_pos rfl];rfl
  ·show Heap.look _ j=_
   rw [Heap.look,if_neg (by omega),Heap.set,if_pos rfl,Heap.look,if_neg (by omega),Heap.look,if_neg (by omega),Heap.look,if_neg (by omega)]
 ·rintro ⟨k,m,H,n⟩ ⟨hk,⟨g0,g1,g2,gm⟩,hmn,hlo⟩;have hk:k≤p.media.length:=hk;have g0:H.look n0=some (.box [.t (fC p.media), .t (gV p.seqs)]):=g0;have g1:H.look b1=some (.box [.t (.lit (.slice none 0 0)), .t (.lit (.slice none 0 0))]):=g1;have g2:H.look b2=some (.box [.own m, .t (.lit (.slice none 0 0))]):=g2;have gm:H.look m=some (qR (p.media.take k)):=gm;have hmn:b2<m∧m<n:=hmn;have hlo:∀ j,j<n0→H.look j=H0.look j:=hlo;have e0:(n0=n)=False:=eq_false (by omega);have e2:(b2=n)=False:=eq_false (by omega);have em:(m=n)=False:=eq_false (by omega);have em1:(m=n+1)=False:=eq_false (by omega);have e21:(b2=n+1)=False:=eq_false (by omega);have e22:(b2=n+1+1)=False:=eq_false (by omega);have e2m:(b2=m)=False:=eq_false (by omega);have hdel:∀ j,(H.del m).look j=if j=m then none else H.look j:=Heap.look_del H m
  refine xZ fun hwf=>aD _ ?_
  simp only [go_sem,simprocAttr,dtf,g0,g1,g2,gm,e0,e2,em];refine ⟨fun hlt=>?_,fun hge=>?_⟩
  ·simp only [bxx] at hlt;have hkl:k<p.media.length:=by omega
   have hq1:p.media.take (k+1)=p.media.take k ++ [p.media.getD k default]:=bY hkl;have hkt:(p.media.take k).length≤65536:=by rw [List.length_take];omega
   unfold awS;simp only [go_sem,simprocAttr,dtf,g0,g1,g2,gm,e0,e2,em];refine ⟨⟨by omega,by omega⟩,_,aA7 _ (hm _ (aQ hkl)).1 (hm _ (aQ hkl)).2,?_⟩;simp only [go_sem,simprocAttr,dtf,g0,g1,g2,gm,e0,e2,em];rw [Yg];simp only [go_sem,simprocAttr,dtf,g2,gm,e2,em,em1,e21,e22,e2m,hdel];have hl2:(H.del m).look b2=some (.box [.own m, .t (.lit (.slice none 0 0))]):=by rw [hdel,if_neg (by omega)];exact g2
   refine ⟨⟨by unfold maxLen;omega,by omega⟩,(k+1,n+1+1,_,n+1+1+1),eU ⟨rfl,Nat.le_refl _,rfl,?_⟩,?_,by show p.media.length - (k+1)<_;omega⟩
   ·simp only [go_sem,simprocAttr,dtf];rw [bJ (show k<9223372036854775807 by omega)];rfl
   ·refine ⟨hkl,⟨?_,?_,?_,?_⟩,⟨by show b2<n+1+1;omega,Nat.lt_succ_self _⟩,fun j hj=>?_⟩
    ·show Heap.look _ n0=_
     rw [Heap.look,if_neg (by omega),Heap.look,if_neg (by omega),Heap.look,if_neg (by omega),Heap.look_set _ _ _ hl2,if_neg (by omega),hdel,if_neg (by omega)];exact g0
    ·show Heap.look _ b1=_
     rw [Heap.look,if_neg (by omega),Heap.look,if_neg (by omega),Heap.look,if_neg (by omega),Heap.look_set _ _ _ hl2,if_neg (by omega),hdel,if_neg (by omega)];exact g1
    ·show Heap.look _ b2=_
     rw [Heap.look,if_neg (by omega),Heap.look,if_neg (by omega),Heap.look,if_neg (by omega),Heap.look_set _ _ _ hl2,if_pos rfl]
    ·show Heap.look _ (n+1+1)=_
     rw [Heap.look,if_pos rfl,hq1,qR,List.map_append];rfl
    ·show Heap.look _ j=_
     rw [Heap.look,if_neg (by omega),Heap.look,if_neg (by omega),Heap.look,if_neg (by omega),Heap.look_set _ _ _ hl2,if_neg (by omega),hdel,if_neg (by omega)];exact hlo j hj
  ·simp only [bxx] at hge;have:k=p.media.length:=by omega
   subst this;rw [List.take_length] at gm;unfold awS;simp only [go_sem,simprocAttr,dtf];refine aF (fun (x:Nat×Nat×List KS×Heap×Nat) σ => (fun τ : St => { τ with h:=x.2.2.2.1,nx:=x.2.2.2.2 }) (bL 6 (aC x.1) (aX [7,30,31,32,33,34,35,36,37,38,39,40,41,42,43,44,45,46,47,48,49,50,51,52,53,54,55,56,57,58,59] σ)))
    (fun x=>x.1≤p.seqs.length∧(x.2.2.2.1.look n0=some (.box [.t (fC p.media), .t (gV p.seqs)])∧x.2.2.2.1.look b1=some (.box [.t (.lit (.slice none 0 0)), .t (.lit (.slice none 0 0))])∧x.2.2.2.1.look b2=some (.box [.own m, .own x.2.1]) ∧
     x.2.2.2.1.look m=some (qR p.media))∧OwnPr x.2.2.2.1 n x.2.2.2.2 x.2.1 x.2.2.1 (p.seqs.take x.1)∧n≤x.2.2.2.2 ∧ ∀ j,j<n0→x.2.2.2.1.look j=H0.look j) (fun x=>p.seqs.length - x.1)
    (0,n,[],(n, .row 114 9 (SequenceR.c default) [])::Heap.set H b2 (.box [.own m, .own n]),n+1)
    (pJ (Nn b2 1 114 9 (SequenceR.c default) [.own m, .t (.lit (.slice none 0 0))] (by show n0≤n;omega) g2 rfl) (eU ?_)) ?_ ?_
   ·simp only [go_sem,simprocAttr,dtf];exact Nat.le_refl _
   ·have hl2:∀ B j,(H.set b2 B).look j=if j=b2 then some B else H.look j:=fun B j=>Heap.look_set H b2 B g2 j
    refine ⟨Nat.zero_le _,⟨?_,?_,?_,?_⟩,⟨by simp,?_,fun i hi=>by simp at hi,fun i hi=>by simp at hi,by simp,⟨Nat.le_refl _,Nat.lt_succ_self _⟩,by simp⟩,Nat.le_succ _,fun j hj=>?_⟩
    ·show Heap.look _ n0=_
     rw [Heap.look,if_neg (by omega),hl2,if_neg (by omega)];exact g0
    ·show Heap.look _ b1=_
     rw [Heap.look,if_neg (by omega),hl2,if_neg (by omega)];exact g1
    ·show Heap.look _ b2=_
     rw [Heap.look,if_neg (by omega),hl2,if_pos rfl]
    ·show Heap.look _ m=_
     rw [Heap.look,if_neg (by omega),hl2,if_neg (by omega)];exact gm
    ·show Heap.look _ n=_
     rw [Heap.look,if_pos rfl];rfl
    ·show Heap.look _ j=_
     rw [Heap.look,if_neg (by omega),hl2,if_neg (by omega)];exact hlo j hj
   ·rintro ⟨k,s,ks,H1,n1⟩ ⟨hk1,⟨a0,a1,a2,am⟩,hO,hn1,hlo1⟩;have hk1:k≤p.seqs.length:=hk1;have a0:H1.look n0=some (.box [.t (fC p.media), .t (gV p.seqs)]):=a0;have a1:H1.look b1=some (.box [.t (.lit (.slice none 0 0)), .t (.lit (.slice none 0 0))]):=a1;have a2:H1.look b2=some (.box [.own m, .own s]):=a2;have am:H1.look m=some (qR p.media):=am;have hO:OwnPr H1 n n1 s ks (p.seqs.take k):=hO;have hn1:n≤n1:=hn1;have hlo1:∀ j,j<n0→H1.look j=H0.look j:=hlo1;have hsr:=hO.sr;have f0:(n0=n1)=False:=eq_false (by omega);have f2:(b2=n1)=False:=eq_false (by omega);have f1:(b1=n1)=False:=eq_false (by omega);have f1b:(b1=b2)=False:=eq_false (by omega);refine xZ fun hwf1=>aD _ ?_
    simp only [go_sem,simprocAttr,dtf,a0,a2,f0,f2];refine ⟨fun hlt=>?_,fun hge=>?_⟩
    ·simp only [bxx] at hlt;have hkl:k<p.seqs.length:=by omega
     obtain ⟨q1,q2,q3⟩:=hs _ (aQ (d:=default) hkl);have hq1:p.seqs.take (k+1)=p.seqs.take k ++ [p.seqs.getD k default]:=bY hkl;have hkt:(p.seqs.take k).length≤65536:=by rw [List.length_take];omega
     unfold awS;simp only [go_sem,simprocAttr,dtf,a0,a2,f0,f2];refine ⟨⟨by omega,by omega⟩,?_⟩;refine aM6 [2,5] (.look 0 (.look 1 (.look 3 (.look 4 (.look 6 (.look 7 (.step 2 (.look 9 (.step 5 (.step 8 (.step 10 (.step 11 (.step 12 (.step 13 (.step 14 .done))))))))))))))) rfl (by kernel_rfl) ?_;simp only [go_sem,simprocAttr,dtf];obtain ⟨qq,hqq⟩:∃ qq,qq=p.seqs.getD k default:=⟨_,rfl⟩
     rw [← hqq] at q1 q2 q3 hq1 ⊢;obtain ⟨B0,hB0⟩:∃ B0,B0=Blk.box [bP qq.name,aC qq.rate.num,aC qq.rate.den,aC qq.w,aC qq.h,V.t (cH qq.video),V.t (cH qq.sound),V.t (fA qq.cues),aC qq.channels]:=⟨_,rfl⟩
     refine zT _ q2.1 q2.2 (fun j hj=>?_) ?_
     ·have hj:n1+1≤j:=hj;show Heap.look _ j=none
      rw [Heap.look,if_neg (by omega)];exact hwf1 j (by show n1≤j;omega)
     ·intro v rv H2 n2 hv hk2 hz2 hle2;have hle2:n1+1≤n2:=hle2;have hv:OwnTr H2 (n1+1) n2 v rv qq.video:=hv;have hk2':∀ j,j<n1→H2.look j=H1.look j:=fun j hj=>by
       have:=hk2 j (by show j<n1+1;omega);rw [this];show Heap.look _ j=_
       rw [Heap.look,if_neg (by omega)]
      have hn2:H2.look n1=some B0:=by
       rw [hk2 n1 (Nat.lt_succ_self _)];show Heap.look _ n1=_
       rw [Heap.look,if_pos rfl,hB0]
      rw [hB0] at hn2;simp only [go_sem,simprocAttr,dtf,hn2];refine zT _ q3.1 q3.2 hz2 ?_;intro u ru H3 n3 hu hk3 hz3 hle3;have hle3:n2≤n3:=hle3;have hu:OwnTr H3 n2 n3 u ru qq.sound:=hu;have hk3:∀ j,j<n2→H3.look j=H2.look j:=hk3;have hn3:H3.look n1=some (Blk.box [bP qq.name,aC qq.rate.num,aC qq.rate.den,aC qq.w,aC qq.h,V.t (cH qq.video),V.t (cH qq.sound),V.t (fA qq.cues),aC qq.channels]):=by
       rw [hk3 n1 (by omega)];exact hn2
      have hb3:H3.look b2=some (.box [.own m, .own s]):=by
       rw [hk3 b2 (by omega),hk2' b2 (by omega)];exact a2
      have hset:∀ B j,(H3.set n1 B).look j=if j=n1 then some B else H3.look j:=fun B j=>Heap.look_set H3 n1 B hn3 j
      have hsr3:H3.look s=some (.row 114 9 (SequenceR.c default) (pL (p.seqs.take k) ks)):=by
       rw [hk3 s (by omega),hk2' s (by omega)];exact hO.row
      have x1:(b2=n1)=False:=eq_false (by omega);have x2:(s=n1)=False:=eq_false (by omega);have x3:(s=n3)=False:=eq_false (by omega);have x4:(n1=n3)=False:=eq_false (by omega);have x5:(b2=n3)=False:=eq_false (by omega);have x6:(b2=n3+1)=False:=eq_false (by omega);have x7:(b2=s)=False:=eq_false (by omega);simp only [go_sem,simprocAttr,dtf,hn3,hset];refine ⟨_,aA7 _ q1.1 q1.2,?_⟩;have hdel:∀ B j,((H3.set n1 B).del s).look j=if j=s then none else if j=n1 then some B else H3.look j:=fun B j=>by rw [Heap.look_del,hset]
      simp only [go_sem,simprocAttr,dtf,hn3,hset,hb3,hsr3,x1,x2,x3,x4,x5,x6,x7,hdel];have hsl:(pL (p.seqs.take k) ks).length≤65536:=by
       unfold pL;rw [List.length_map,List.length_zip,hO.len,Nat.min_self];exact hkt
      obtain ⟨G,hG⟩:∃ G,G=(H3.set n1 (Blk.box [bP qq.name,aC qq.rate.num,aC qq.rate.den,aC qq.w,aC qq.h,V.own v,V.own u,V.t (fA qq.cues),aC qq.channels])).del s:=⟨_,rfl⟩
      have hGl:∀ j,G.look j=if j=s then none else if j=n1 then some (Blk.box [bP qq.name,aC qq.rate.num,aC qq.rate.den,aC qq.w,aC qq.h,V.own v,V.own u,V.t (fA qq.cues),aC qq.channels]) else H3.look j:=fun j=>by rw [hG,hdel]
      rw [← hG];have hGb:G.look b2=some (.box [.own m, .own s]):=by rw [hGl,if_neg (by omega),if_neg (by omega)];exact hb3
      have hGs:∀ B j,(G.set b2 B).look j=if j=b2 then some B else G.look j:=fun B j=>Heap.look_set G b2 B hGb j
      have hvk:=hv.kr;have huk:=hu.kr;have hv3:OwnTr H3 (n1+1) n2 v rv qq.video:=hv.keep (hk3 v hvk.2) (fun r hr=>hk3 r (hv.rr r hr).2) (Nat.le_refl _) (Nat.le_refl _);refine ⟨⟨by unfold maxLen;omega,by omega⟩,(k+1,n3+1,ks ++ [(v,rv,u,ru)],_,n3+1+1),eU ⟨rfl,Nat.le_refl _,rfl,?_⟩,?_,by show p.seqs.length - (k+1)<_;omega⟩
      ·simp only [go_sem,simprocAttr,dtf];rw [bJ (show k<9223372036854775807 by omega)];rfl
      ·have hfin:∀ X Y B j,Heap.look ((n3+1,X)::(n3,Y)::G.set b2 B) j=if j=n3+1 then some X else if j=n3 then some Y else if j=b2 then some B else if j=s then none else if j=n1 then some (Blk.box [bP qq.name,aC qq.rate.num,aC qq.rate.den,aC qq.w,aC qq.h,V.own v,V.own u,V.t (fA qq.cues),aC qq.channels]) else H3.look j:=fun X Y B j=>by
        rw [Heap.look,Heap.look,hGs,hGl]
       have hold:∀ j,j<n1→H3.look j=H1.look j:=fun j hj=>by rw [hk3 j (by omega),hk2' j hj]
       refine ⟨hkl,⟨?_,?_,?_,?_⟩,?_,by show n≤n3+1+1;omega,fun j hj=>?_⟩
       ·show Heap.look _ n0=_
        rw [hfin,if_neg (by omega),if_neg (by omega),if_neg (by omega),if_neg (by omega),if_neg (by omega),hold _ (by omega)];exact a0
       ·show Heap.look _ b1=_
        rw [hfin,if_neg (by omega),if_neg (by omega),if_neg (by omega),if_neg (by omega),if_neg (by omega),hold _ (by omega)];exact a1
       ·show Heap.look _ b2=_
        rw [hfin,if_neg (by omega),if_neg (by omega),if_pos rfl]
       ·show Heap.look _ m=_
        rw [hfin,if_neg (by omega),if_neg (by omega),if_neg (by omega),if_neg (by omega),if_neg (by omega),hold _ (by omega)];exact am
       ·show OwnPr _ n (n3+1+1) (n3+1) (ks ++ [(v,rv,u,ru)]) (p.seqs.take (k+1))
        rw [hq1];have hmv:∀ r∈v::rv,n1+1≤r∧r<n2:=fun r hr=>by
         rcases List.mem_cons.1 hr with rfl | hr
         ·exact hvk
         ·exact hv.rr r hr
        have hmu:∀ r∈u::ru,n2≤r∧r<n3:=fun r hr=>by
         rcases List.mem_cons.1 hr with rfl | hr
         ·exact huk
         ·exact hu.rr r hr
        refine hO.snoc hn1 (by omega) (hv3.keep ?_ (fun r hr=>?_) (by omega) (by omega)) (hu.keep ?_ (fun r hr=>?_) (by omega) (by omega)) ?_ ⟨by omega,by omega⟩ ?_ ?_ fun j hjl hj hjs=>?_
        ·have:=hmv v (by simp);rw [hfin,if_neg (by omega),if_neg (by omega),if_neg (by omega),if_neg (by omega),if_neg (by omega)]
        ·have:=hv.rr r hr;rw [hfin,if_neg (by omega),if_neg (by omega),if_neg (by omega),if_neg (by omega),if_neg (by omega)]
        ·rw [hfin,if_neg (by omega),if_neg (by omega),if_neg (by omega),if_neg (by omega),if_neg (by omega)]
        ·have:=hu.rr r hr;rw [hfin,if_neg (by omega),if_neg (by omega),if_neg (by omega),if_neg (by omega),if_neg (by omega)]
        ·unfold cU;rw [List.nodup_append];refine ⟨List.nodup_cons.2 ⟨hv.ne,hv.nodup⟩,List.nodup_cons.2 ⟨hu.ne,hu.nodup⟩,fun a ha b hb=>?_⟩;have:=(hmv a ha).2;have:=(hmu b hb).1;omega
        ·intro hm';unfold cU at hm';rcases List.mem_append.1 hm' with hm' | hm'
         ·have:=(hmv _ hm').2;omega
         ·have:=(hmu _ hm').2;omega
        ·rw [hfin,if_pos rfl];rfl
        ·rw [hfin,if_neg (by omega),if_neg (by omega),if_neg (by omega),if_neg hjs,if_neg (by omega),hold _ hj]
       ·show Heap.look _ j=_
        rw [hfin,if_neg (by omega),if_neg (by omega),if_neg (by omega),if_neg (by omega),if_neg (by omega),hold _ (by omega)];exact hlo1 j hj
    ·simp only [bxx] at hge;have:k=p.seqs.length:=by omega
     subst this;rw [List.take_length] at hO;unfold awS;have hs1:∀ B j,(H1.set b1 B).look j=if j=b1 then some B else H1.look j:=fun B j=>Heap.look_set H1 b1 B a1 j
     simp only [go_sem,simprocAttr,dtf,a1,a2,f1,f2,f1b,hs1];have hmn2:∀ r∈ks.flatMap cU,r≠b1:=fun r hr=>by have:=hO.num r hr;omega
     refine hK3 m s ks _ n1 ?_ (hO.keepAll (fun r hr=>?_) ?_ (by omega) (Nat.le_refl _)) (fun j hj=>?_) (by omega) _ _
     ·rw [hs1,if_neg (by omega)];exact am
     ·rw [hs1,if_neg (hmn2 r hr)]
     ·rw [hs1,if_neg (by omega)]
     ·rw [hs1,if_neg (by omega)];exact hlo1 j hj
open Go.RowKit
set_option maxRecDepth 4000
theorem aEt (s:SourceR) (f g:ByteArray):aN Tryz.prog 87 [mM s,bP f,bP g] (mM (Bq f g s)):=by
 refine aH Tryz.X87 Tryz.func87 rfl Tryz.ntmps87 (by rw [Tryz.results87]) (aD _ ?_);simp only [go_sem,simprocAttr,dtf];refine brW (b:=s.kind==1&&s.name.toList==f.toList) rfl ⟨fun h=>?_,fun h=>?_⟩
 ·unfold awS Bq;rw [if_pos h];simp only [go_sem,simprocAttr,dtf]
 ·unfold awS Bq;rw [h];simp only [go_sem,simprocAttr,dtf]
theorem OwnTr.upd {H H2:Heap} {lo n k t:Nat} {rs:List Nat} {ts:List (List ClipR)} {L:List ClipR} (h:OwnTr H lo n k rs ts) (ht:t<ts.length) (h1:H2.look (rs.getD t 0)=some (qS L)) (h2:∀ j,j≠rs.getD t 0→H2.look j=H.look j):OwnTr H2 lo n k rs (ts.set t L):=by
 have htr:t<rs.length:=by rw [h.len];exact ht
 have hrm:rs.getD t 0∈rs:=by rw [List.getD_eq_getElem?_getD,List.getElem?_eq_getElem htr];exact List.getElem_mem _
 refine ⟨by rw [List.length_set];exact h.len,?_,fun i hi=>?_,h.nodup,h.kr,h.rr,h.ne⟩
 ·rw [h2 k (fun e=>h.ne (by rw [e];exact hrm))];exact h.row
 ·rw [List.length_set] at hi;have hir:i<rs.length:=by rw [h.len];exact hi
  by_cases hit:t=i
  ·subst hit;rw [h1];simp only [List.getD_eq_getElem?_getD,List.getElem?_set_self ht,Option.getD_some]
  ·rw [h2 _ fun e=>hit ?_,h.clips i hi]
   ·simp only [List.getD_eq_getElem?_getD,List.getElem?_set_ne hit]
   ·simp only [List.getD_eq_getElem?_getD,List.getElem?_eq_getElem htr,List.getElem?_eq_getElem hir,Option.getD_some] at e;exact ((List.getElem_inj h.nodup).1 e).symm
theorem aE5 {ks:List KS} {i j:Nat} {r:Nat} (h:(ks.flatMap cU).Nodup) (hi:i<ks.length) (hj:j<ks.length) (hri:r∈cU (ks.getD i default)) (hrj:r∈cU (ks.getD j default)):i=j:=by
 induction ks generalizing i j with
 | nil=>simp at hi
 | cons k ks ih =>
  rw [List.flatMap_cons,List.nodup_append] at h;cases i with
  | zero =>
   cases j with
   | zero=>rfl
   | succ j =>
    exfalso;have hj':j<ks.length:=by simpa using hj
    refine h.2.2 r (by simpa using hri) r (List.mem_flatMap.2 ⟨_,aQ (d:=default) hj',by simpa using hrj⟩) rfl
  | succ i =>
   have hi':i<ks.length:=by simpa using hi
   cases j with
   | zero =>
    exfalso;exact h.2.2 r (by simpa using hrj) r (List.mem_flatMap.2 ⟨_,aQ (d:=default) hi',by simpa using hri⟩) rfl
   | succ j =>
    rw [ih h.2.1 hi' (by simpa using hj) (by simpa using hri) (by simpa using hrj)]
theorem Qv {ks:List KS} {i:Nat} (h:(ks.flatMap cU).Nodup) (hi:i<ks.length):(cU (ks.getD i default)).Nodup:=by
 induction ks generalizing i with
 | nil=>simp at hi
 | cons k ks ih =>
  rw [List.flatMap_cons,List.nodup_append] at h;cases i with
  | zero=>simpa using h.1
  | succ i=>simpa using ih h.2.1 (by simpa using hi)
theorem Ph {qs:List SequenceR} {ks:List KS} {i:Nat} {q:SequenceR} (hi:i<qs.length) (h:ks.length=qs.length) (hq:∀ v u,Ss q v u=Ss (qs.getD i default) v u):pL (qs.set i q) ks=pL qs ks:=by
 unfold pL;apply List.ext_getElem?;intro j;simp only [List.getElem?_map,List.getElem?_zip_eq_some]
 by_cases hj:j<qs.length
 ·have hjk:j<ks.length:=by rw [h];exact hj
  have hz1:j<((qs.set i q).zip ks).length:=by rw [List.length_zip,List.length_set,h,Nat.min_self];exact hj
  have hz2:j<(qs.zip ks).length:=by rw [List.length_zip,h,Nat.min_self];exact hj
  rw [List.getElem?_eq_getElem hz1,List.getElem?_eq_getElem hz2];simp only [Option.map_some,List.getElem_zip]
  by_cases hij:i=j
  ·subst hij;rw [List.getElem_set_self,hq,List.getD_eq_getElem?_getD,List.getElem?_eq_getElem hj];rfl
  ·rw [List.getElem_set_ne hij]
 ·rw [List.getElem?_eq_none (by rw [List.length_zip,List.length_set];omega),List.getElem?_eq_none (by rw [List.length_zip];omega)]
theorem xS {α : Type} [Inhabited α] {l:List α} {i:Nat} {x : α} (hi:i<l.length):(l.set i x).getD i default=x:=by
 simp only [List.getD_eq_getElem?_getD,List.getElem?_set_self hi,Option.getD_some]
theorem xR {α : Type} [Inhabited α] {l:List α} {i j:Nat} {x : α} (hi:i≠j):(l.set i x).getD j default=l.getD j default:=by
 simp only [List.getD_eq_getElem?_getD,List.getElem?_set_ne hi]
theorem mem_v {k:KS}:k.1∈cU k:=List.mem_append_left _ List.mem_cons_self
theorem Tw {k:KS} {r:Nat} (h:r∈k.2.1):r∈cU k:=List.mem_append_left _ (List.mem_cons_of_mem _ h)
theorem mem_u {k:KS}:k.2.2.1∈cU k:=List.mem_append_right _ List.mem_cons_self
theorem Tx {k:KS} {r:Nat} (h:r∈k.2.2.2):r∈cU k:=List.mem_append_right _ (List.mem_cons_of_mem _ h)
theorem OwnPr.updV {H H2:Heap} {lo n s i:Nat} {ks:List KS} {qs:List SequenceR} {q:SequenceR} (h:OwnPr H lo n s ks qs) (hi:i<qs.length) (hq:q = { qs.getD i default with video:=q.video })
  (hT:OwnTr H2 lo n (ks.getD i default).1 (ks.getD i default).2.1 q.video) (h2:∀ j,j ∉ (ks.getD i default).2.1→H2.look j=H.look j):OwnPr H2 lo n s ks (qs.set i q):=by
 have hik:i<ks.length:=by rw [h.len];exact hi
 have hself:=Qv h.nodup hik;have hne:∀ j,j<ks.length → ∀ r∈cU (ks.getD j default),j≠i→H2.look r=H.look r:=fun j hj r hr hji=>h2 r fun hm=>hji (aE5 h.nodup hj hik hr (Tw hm))
 have hsnd:∀ r∈(ks.getD i default).2.2.1::(ks.getD i default).2.2.2,H2.look r=H.look r:=fun r hr=>h2 r fun hm=>by
  unfold cU at hself;exact (List.nodup_append.1 hself).2.2 r (List.mem_cons_of_mem _ hm) r hr rfl
 refine ⟨by rw [List.length_set];exact h.len,?_,fun j hj=>?_,fun j hj=>?_,h.nodup,h.sr,h.ne⟩
 ·rw [h2 s fun hm=>h.ne (List.mem_flatMap.2 ⟨_,aQ hik,Tw hm⟩),h.row,Ph hi h.len fun v u=>by rw [hq];rfl]
 ·rw [List.length_set] at hj;have hjk:j<ks.length:=by rw [h.len];exact hj
  by_cases hij:i=j
  ·subst hij;rw [xS hi];exact hT
  ·rw [xR hij];exact (h.vid j hj).keep (hne j hjk _ mem_v (Ne.symm hij)) (fun r hr=>hne j hjk r (Tw hr) (Ne.symm hij)) (Nat.le_refl _) (Nat.le_refl _)
 ·rw [List.length_set] at hj;have hjk:j<ks.length:=by rw [h.len];exact hj
  by_cases hij:i=j
  ·subst hij;rw [xS hi,hq];exact (h.snd i hi).keep (hsnd _ List.mem_cons_self) (fun r hr=>hsnd r (List.mem_cons_of_mem _ hr)) (Nat.le_refl _) (Nat.le_refl _)
  ·rw [xR hij];exact (h.snd j hj).keep (hne j hjk _ mem_u (Ne.symm hij)) (fun r hr=>hne j hjk r (Tx hr) (Ne.symm hij)) (Nat.le_refl _) (Nat.le_refl _)
theorem OwnPr.updS {H H2:Heap} {lo n s i:Nat} {ks:List KS} {qs:List SequenceR} {q:SequenceR} (h:OwnPr H lo n s ks qs) (hi:i<qs.length) (hq:q = { qs.getD i default with sound:=q.sound })
  (hT:OwnTr H2 lo n (ks.getD i default).2.2.1 (ks.getD i default).2.2.2 q.sound) (h2:∀ j,j ∉ (ks.getD i default).2.2.2→H2.look j=H.look j):OwnPr H2 lo n s ks (qs.set i q):=by
 have hik:i<ks.length:=by rw [h.len];exact hi
 have hself:=Qv h.nodup hik;have hne:∀ j,j<ks.length → ∀ r∈cU (ks.getD j default),j≠i→H2.look r=H.look r:=fun j hj r hr hji=>h2 r fun hm=>hji (aE5 h.nodup hj hik hr (Tx hm))
 have hvid:∀ r∈(ks.getD i default).1::(ks.getD i default).2.1,H2.look r=H.look r:=fun r hr=>h2 r fun hm=>by
  unfold cU at hself;exact (List.nodup_append.1 hself).2.2 r hr r (List.mem_cons_of_mem _ hm) rfl
 refine ⟨by rw [List.length_set];exact h.len,?_,fun j hj=>?_,fun j hj=>?_,h.nodup,h.sr,h.ne⟩
 ·rw [h2 s fun hm=>h.ne (List.mem_flatMap.2 ⟨_,aQ hik,Tx hm⟩),h.row,Ph hi h.len fun v u=>by rw [hq];rfl]
 ·rw [List.length_set] at hj;have hjk:j<ks.length:=by rw [h.len];exact hj
  by_cases hij:i=j
  ·subst hij;rw [xS hi,hq];exact (h.vid i hi).keep (hvid _ List.mem_cons_self) (fun r hr=>hvid r (List.mem_cons_of_mem _ hr)) (Nat.le_refl _) (Nat.le_refl _)
  ·rw [xR hij];exact (h.vid j hj).keep (hne j hjk _ mem_v (Ne.symm hij)) (fun r hr=>hne j hjk r (Tw hr) (Ne.symm hij)) (Nat.le_refl _) (Nat.le_refl _)
 ·rw [List.length_set] at hj;have hjk:j<ks.length:=by rw [h.len];exact hj
  by_cases hij:i=j
  ·subst hij;rw [xS hi];exact hT
  ·rw [xR hij];exact (h.snd j hj).keep (hne j hjk _ mem_u (Ne.symm hij)) (fun r hr=>hne j hjk r (Tx hr) (Ne.symm hij)) (Nat.le_refl _) (Nat.le_refl _)
theorem Yt {H:Heap} {r n:Nat} {L:List ClipR} (h:H.look r=some (qS L)):aR H (n+1) (.own r)=some (dD L):=by
 simp only [aR,h,uD];rw [sK _ (fF H n)]
theorem Cs {f:V→Option T}:∀ {xs:List (List V)} {ts:List (List T)},xs.length=ts.length→(∀ i,i<xs.length→lendCs f (xs.getD i [])=some (ts.getD i []))→lendRs f xs=some ts
 | [],[],_,_=>rfl
 | x::xs,t::ts,hl,h=>by
  have h0:=h 0 (by simp);have h1:=Cs (f:=f) (xs:=xs) (ts:=ts) (by simpa using hl) fun i hi=>by simpa using h (i+1) (by simpa using hi)
  simp only [List.getD_cons_zero] at h0;simp only [lendRs,h0,h1]
 | [],_::_,hl,_=>by simp at hl
 | _::_,[],hl,_=>by simp at hl
theorem Bb {H:Heap} {lo hi k n:Nat} {rs:List Nat} {ts:List (List ClipR)} (h:OwnTr H lo hi k rs ts):aR H (n+2) (.own k)=some (cH ts):=by
 simp only [aR,h.row,uD];rw [Cs (ts:=ts.map bS) (by simp [h.len]) fun i hi=>?_];have hir:i<rs.length:=by simpa using hi
 have hit:i<ts.length:=by rw [← h.len];exact hir
 have e1:(rs.map fun r=>[V.own r]).getD i [] = [V.own (rs.getD i 0)]:=by
  simp only [List.getD_eq_getElem?_getD,List.getElem?_map,List.getElem?_eq_getElem hir,Option.map_some,Option.getD_some]
 have e2:(ts.map bS).getD i []=bS (ts.getD i default):=by
  simp only [List.getD_eq_getElem?_getD,List.getElem?_map,List.getElem?_eq_getElem hit,Option.map_some,Option.getD_some]
 rw [e1,e2];simp only [lendCs];rw [Yt (h.clips i hit)];rfl
theorem Ch {qs:List SequenceR} {ks:List KS} (h:ks.length=qs.length):(pL qs ks).length=qs.length:=by
 unfold pL;rw [List.length_map,List.length_zip,h,Nat.min_self]
theorem Wm {qs:List SequenceR} {ks:List KS} (h:ks.length=qs.length) {i:Nat} (hi:i<qs.length) (d:List V):(pL qs ks).getD i d=Ss (qs.getD i default) (ks.getD i default).1 (ks.getD i default).2.2.1:=by
 have hik:i<ks.length:=by rw [h];exact hi
 have hiz:i<(qs.zip ks).length:=by rw [List.length_zip,h,Nat.min_self];exact hi
 unfold pL;simp only [List.getD_eq_getElem?_getD,List.getElem?_map,List.getElem?_eq_getElem hiz,List.getElem?_eq_getElem hi,List.getElem?_eq_getElem hik,Option.map_some,Option.getD_some,List.getElem_zip]
theorem aBx {H:Heap} {lo hi s:Nat} {ks:List KS} {qs:List SequenceR} (h:OwnPr H lo hi s ks qs):aR H 6 (.own s)=some (gV qs):=by
 have h0:aR H 6 (.own s)=uD (aR H 5) (H.look s):=rfl;rw [h0,h.row];simp only [uD];rw [Cs (ts:=qs.map SequenceR.c) (by rw [Ch h.len,List.length_map]) fun i hi=>?_];have hiq:i<qs.length:=by rw [Ch h.len] at hi;exact hi
 have e2:(qs.map SequenceR.c).getD i []=SequenceR.c (qs.getD i default):=by
  simp only [List.getD_eq_getElem?_getD,List.getElem?_map,List.getElem?_eq_getElem hiq,Option.map_some,Option.getD_some]
 rw [e2,Wm h.len hiq];unfold Ss;simp only [lendCs,fF];rw [Bb (n:=3) (h.vid i hiq),Bb (n:=3) (h.snd i hiq)];rfl
theorem aGn {H:Heap} {lo hi s:Nat} {ks:List KS} {qs:List SequenceR} (h:OwnPr H lo hi s ks qs):V.lend H (.own s) = .t (gV qs):=by
 have h0:V.lend H (.own s)=Ba (aR H 5) s (H.look s) (aR H 6 (.own s)):=rfl;rw [h0,aBx h,h.row];rfl
theorem aBv {H:Heap} {m:Nat} {l:List MediumR} (h:H.look m=some (qR l)):V.lend H (.own m) = .t (fC l):=by
 have h0:V.lend H (.own m)=Ba (aR H 5) m (H.look m) (aR H 6 (.own m)):=rfl;have h1:aR H 6 (.own m)=uD (aR H 5) (H.look m):=rfl;rw [h0,h1,h];simp only [uD];rw [sK _ (fF H 5)];rfl
open Go.RowKit
set_option maxRecDepth 4000
set_option maxHeartbeats 8000000 in
theorem aMr (p:ProjR) (f g:ByteArray) (h:p.fit):aN Tryz.prog 30 [eD p,bP f,bP g] (aHx (eY p f g)):=by
 refine fQ Tryz.X30 Tryz.func30 rfl Tryz.ntmps30 (by rw [Tryz.results30]) ?_;refine dK (aD _ ?_);simp only [go_sem,simprocAttr,dtf];refine dK (aD _ ?_);simp only [go_sem,simprocAttr,dtf];refine ⟨_,aMq p h,?_⟩;simp only [go_sem,simprocAttr,dtf];refine brW (b:=decide (cB p≠0)) ?_ ⟨fun hv=>?_,fun hv=>?_⟩
 ·rw [Bool.eq_iff_iff,decide_eq_true_eq,bne_iff_ne]
 ·have hv':=of_decide_eq_true hv;have e:eY p f g=(⟨[],[]⟩,cB p):=by unfold eY;rw [if_pos hv']
  rw [e];unfold awS;simp only [go_sem,simprocAttr,dtf];exact gA _
 ·have hv':cB p=0:=by simpa using hv
  have hok:=Rb h hv';unfold awS;simp only [go_sem,simprocAttr,dtf];refine dK (aD _ ?_);simp only [go_sem,simprocAttr,dtf];refine aV 8 .done rfl (by kernel_rfl) (by kernel_rfl) (by decide) ?_;simp only [go_sem,simprocAttr,dtf];refine ⟨_,Bs p f,?_⟩;simp only [go_sem,simprocAttr,dtf];refine ⟨_,Bs p g,?_⟩;simp only [go_sem,simprocAttr,dtf];refine ⟨by kernel_rfl,?_⟩;obtain ⟨x,hx⟩:∃ x,x=qH (fun m:MediumR=>m.name.toList==f.toList) p.media:=⟨_,rfl⟩
  obtain ⟨y,hy⟩:∃ y,y=qH (fun m:MediumR=>m.name.toList==g.toList) p.media:=⟨_,rfl⟩
  rw [← hx, ← hy];refine dK (aD _ ?_);simp only [go_sem,simprocAttr,dtf];refine brW (b:=decide (x<0∨y<0)) ?_ ⟨fun hn=>?_,fun hn=>?_⟩
  ·rw [Bool.eq_iff_iff,decide_eq_true_eq,Bool.or_eq_true,decide_eq_true_eq,decide_eq_true_eq]
  ·have hn':=of_decide_eq_true hn;have e:eY p f g=(⟨[],[]⟩,7):=by
    unfold eY;rw [if_neg (by rw [hv'];decide)];rcases hn' with hn' | hn'
    ·rw [hx] at hn';rw [show jY p.media f=none from sQ.1 hn']
    ·rw [hy] at hn';rw [show jY p.media g=none from sQ.1 hn'];cases jY p.media f<;>rfl
   rw [e];unfold awS;simp only [go_sem,simprocAttr,dtf];exact gA _
  ·have hn' : ¬ (x<0∨y<0):=by simpa using hn
   obtain ⟨a,ha⟩:∃ a,jY p.media f=some a:=by
    cases hm:jY p.media f with
    | none=>exact absurd (.inl (by rw [hx];exact sQ.2 hm)) hn'
    | some a=>exact ⟨a,rfl⟩
   obtain ⟨b,hb⟩:∃ b,jY p.media g=some b:=by
    cases hm:jY p.media g with
    | none=>exact absurd (.inr (by rw [hy];exact sQ.2 hm)) hn'
    | some a=>exact ⟨a,rfl⟩
   obtain ⟨i,hi,ei,ai⟩:=aLt hok.uniq.1 ha;obtain ⟨j,hj,ej,aj⟩:=aLt hok.uniq.1 hb;have hxi:x=(i:Int):=by rw [hx];exact ei
   have hyj:y=(j:Int):=by rw [hy];exact ej
   subst hxi hyj;clear hx hy;unfold awS;simp only [go_sem,simprocAttr,dtf];refine dK (aD _ ?_);simp only [go_sem,simprocAttr,dtf];refine aV 14 .done rfl (by kernel_rfl) (by kernel_rfl) (by decide) ?_;simp only [go_sem,simprocAttr,dtf];refine ⟨⟨by omega,by omega⟩,⟨by omega,by omega⟩,by kernel_rfl,?_⟩;rw [ai,aj];refine dK (aD _ ?_);simp only [go_sem,simprocAttr,dtf];refine ⟨_,Zu _ _,?_⟩;refine brW (b := !nT a b) ?_ ⟨fun hm=>?_,fun hm=>?_⟩
   ·unfold nT
    (try simp only [bne]);cases (a.seq.rate.eqb b.seq.rate)<;>cases (a.frames==b.frames)<;>cases (a.channels==b.channels)<;>cases (a.samples==b.samples)<;>rfl
   ·have e:eY p f g=(⟨[],[]⟩,1):=by
     unfold eY;rw [hv',ha,hb];have:nT a b=false:=by simpa using hm
     simp [this]
    rw [e];unfold awS;simp only [go_sem,simprocAttr,dtf];exact gA _
   ·have e:eY p f g=(aJg p f g,0):=by
     unfold eY;rw [hv',ha,hb];have:nT a b=true:=by simpa using hm
     simp [this]
    rw [e];unfold awS;simp only [go_sem,simprocAttr,dtf];have hsm:=hok.small;unfold cK at hsm;simp only [Bool.and_eq_true,decide_eq_true_eq] at hsm;have hls:=Wj hok;refine dK (uF 1 ?_);simp only [go_sem,simprocAttr,dtf];refine semS_io rfl rfl ?_;simp only [go_sem,simprocAttr,dtf];refine aAm p (by omega) (by omega) (Yh hok) hls ?_;intro m s ks H o hm hO hold hm24;have hold:∀ j,j<24→H.look j=Heap.look [(21,Blk.box (dA b)),(20,Blk.box (dA a)),(1,Blk.box [V.t (.lit (.slice none 0 0)),V.t (.lit (.slice none 0 0))]),(0,Blk.box [V.t (fC p.media),V.t (gV p.seqs)])] j:=hold;have hm24 : 24≤m:=hm24;have h1:H.look 1=some (Blk.box [V.t (.lit (.slice none 0 0)),V.t (.lit (.slice none 0 0))]):=by rw [hold 1 (by omega)];rfl
    clear hold;refine Ht ?_;simp only [go_sem,simprocAttr,dtf];have hsr:=hO.sr;refine xZ fun hwf=>?_
    have hwf:∀ q,o+1≤q→Heap.look ((o,Blk.box [V.own m,V.own s])::H) q=none:=hwf;obtain ⟨Q,hQ⟩:∃ Q:SequenceR→SequenceR,Q=chgQ f g:=⟨_,rfl⟩
    refine dK (dK (aD _ ?_));simp only [go_sem,simprocAttr,dtf];refine Ru ?_;refine aF (fun (x:Nat×Heap×Nat) σ => (fun τ : St => { τ with h:=x.2.1,nx:=x.2.2 }) (bL 14 (aC x.1) (aX [8,9,10,11,12,15,16,17,18,19,20,21,22,23,24,25,26,27,28,29,30,31,32,33,34,35,36,37,38,39,40,41,42,43,44,45,46,47,48,49,50,51,52,53,54,55,56,57,58,59,60,61,62,63,64,65,66,67,68,69,70,71,72,73,74,75,76,77,78,79,80,81,82,83,84,85,86,87,88,89,90,91,92,93,94,95,96,97,98,99,100,101,102,103,104,105,106,107,108,109,110,111,112,113,114,115,116,117,118,119,120,121,122,123,124,125,126,127,128,129,130,131,132,133,134,135,136,137,138,139,140,141,142,143,144,145,146,147,148,149,150,151,152,153,154,155] σ)))
     (fun x=>x.1≤p.seqs.length∧(x.2.1.look o=some (.box [.own m, .own s])∧x.2.1.look m=some (qR p.media)∧x.2.1.look 1=some (Blk.box [V.t (.lit (.slice none 0 0)),V.t (.lit (.slice none 0 0))])) ∧
      OwnPr x.2.1 (m+1) o s ks (dV Q p.seqs x.1)∧o<x.2.2) (fun x=>p.seqs.length - x.1)
     (0,(o,Blk.box [V.own m,V.own s])::H,o+1) (eU ?_) ?_ ?_
    ·simp only [go_sem,simprocAttr,dtf];exact Nat.le_refl _
    ·refine ⟨Nat.zero_le _,⟨?_,?_,?_⟩,?_,Nat.lt_succ_self _⟩
     ·show Heap.look _ o=_
      rw [Heap.look,if_pos rfl]
     ·show Heap.look _ m=_
      rw [Heap.look,if_neg (by omega)];exact hm
     ·show Heap.look _ 1=_
      rw [Heap.look,if_neg (by omega)];exact h1
     ·rw [Qj];refine hO.keepAll (fun r hr=>?_) ?_ (Nat.le_refl _) (Nat.le_refl _)
      ·have:=hO.num r hr;show Heap.look _ r=_
       rw [Heap.look,if_neg (by omega)]
      ·show Heap.look _ s=_
       rw [Heap.look,if_neg (by omega)]
    ·rintro ⟨k,H1,n1⟩ ⟨hk,⟨g0,gm,g1⟩,hP,hon⟩;have hk:k≤p.seqs.length:=hk;have g0:H1.look o=some (.box [.own m, .own s]):=g0;have gm:H1.look m=some (qR p.media):=gm;have g1:H1.look 1=some (Blk.box [V.t (.lit (.slice none 0 0)),V.t (.lit (.slice none 0 0))]):=g1;have hP:OwnPr H1 (m+1) o s ks (dV Q p.seqs k):=hP;have hon:o<n1:=hon;have gs:=hP.row;have hkl':ks.length=(dV Q p.seqs k).length:=hP.len;have hsl:(pL (dV Q p.seqs k) ks).length=p.seqs.length:=by rw [Ch hkl',dX]
     refine xZ fun hwf1=>aD _ ?_
     simp only [go_sem,simprocAttr,dtf,g0,gs,hsl];refine ⟨fun hlt=>?_,fun hge=>?_⟩
     ·simp only [bxx] at hlt;have hkl:k<p.seqs.length:=by omega
      unfold awS;simp only [go_sem,simprocAttr,dtf,g0,gs,hsl];obtain ⟨q,hq⟩:∃ q,q=p.seqs.getD k default:=⟨_,rfl⟩
      have hqm:q∈p.seqs:=by rw [hq];exact aQ hkl
      obtain ⟨kk,hkk⟩:∃ kk,kk=ks.getD k default:=⟨_,rfl⟩
      obtain ⟨v,rv,u,ru⟩:=kk;have hkm:k<(dV Q p.seqs k).length:=by rw [dX];exact hkl
      have hnS:∀ d,jW d (pL (dV Q p.seqs k) ks) k=Ss q v u:=fun d=>by
       have e1:=Wm hkl' hkm (d.map .t);rw [nW Q hkl, ← hq, ← hkk] at e1;rw [← e1];unfold jW;rw [List.getD_eq_getElem?_getD]
      refine bM [0,1,2,3,4,5,6,7,8,9,10,11,14] (.step 12 (.step 13 .done)) rfl (by kernel_rfl) (by kernel_rfl) (by decide) ?_;simp only [go_sem,simprocAttr,dtf,g0,gs,hsl,hnS,Ss];refine ⟨⟨by omega,by omega⟩,hkl,⟨by omega,by omega⟩,hkl,?_⟩;obtain ⟨C,hC⟩:∃ C:List ClipR→List ClipR,C=fun t=>t.map (mJ f g):=⟨_,rfl⟩
      obtain ⟨qz,hqz⟩:∃ qz:Nat→SequenceR,qz=fun z => { q with video:=if 0<z then q.video.map C else q.video,sound:=if 1<z then q.sound.map C else q.sound }:=⟨_,rfl⟩
      have hq0:qz 0=q:=by rw [hqz];rfl
      have hq2:qz 2=Q q:=by rw [hqz,hQ,hC];rfl
      refine aF (fun (x:Nat×Heap) σ => (fun τ : St => { τ with h:=x.2,nx:=n1+1 }) (bL 100 (aC x.1) (aX [15,16,17,18,79,80,81,82,83,84,85,86,87,88,89,90,91,92,93,94,95,96,97,101,102,103,104,105,106,107,108,109,110,111,112,113,114,115,116,117,118,119,120,121,122,123,124,125,126,127,128,129,130,131,132,133,134,135,136,137,138,139,140,141,142,143,144,145,146,147,148,149,150,151,152,153,154,155] σ)))
       (fun x=>x.1≤2∧(x.2.look o=some (.box [.own m, .own s])∧x.2.look m=some (qR p.media)∧x.2.look 1=some (Blk.box [V.t (.lit (.slice none 0 0)),V.t (.lit (.slice none 0 0))]) ∧
        x.2.look n1=some (.row 112 1 [.lit (.slice none 0 0)] [[V.own v],[V.own u]]))∧OwnPr x.2 (m+1) o s ks ((dV Q p.seqs k).set k (qz x.1))) (fun x=>2 - x.1)
       (0,(n1, .row 112 1 [.lit (.slice none 0 0)] [[V.own v],[V.own u]])::H1) (eU ?_) ?_ ?_
      ·simp only [go_sem,simprocAttr,dtf];exact Nat.le_refl _
      ·have hmem:=hP.num;refine ⟨Nat.zero_le _,⟨?_,?_,?_,?_⟩,?_⟩
       ·show Heap.look _ o=_
        rw [Heap.look,if_neg (by omega)];exact g0
       ·show Heap.look _ m=_
        rw [Heap.look,if_neg (by omega)];exact gm
       ·show Heap.look _ 1=_
        rw [Heap.look,if_neg (by omega)];exact g1
       ·show Heap.look _ n1=_
        rw [Heap.look,if_pos rfl]
       ·have e1:(dV Q p.seqs k).set k (qz 0)=dV Q p.seqs k:=by
         have e2:=nW Q hkl;rw [hq0,hq, ← e2];exact rZ hkm (aU hkm).symm
        show OwnPr _ (m+1) o s ks ((dV Q p.seqs k).set k (qz 0))
        rw [e1];refine hP.keepAll (fun r hr=>?_) ?_ (Nat.le_refl _) (Nat.le_refl _)
        ·have:=hmem r hr;show Heap.look _ r=_
         rw [Heap.look,if_neg (by omega)]
        ·show Heap.look _ s=_
         rw [Heap.look,if_neg (by omega)]
      ·rintro ⟨z,H2⟩ ⟨hz,⟨a0,am,a1,an⟩,hP2⟩;have hz:z≤2:=hz;have a0:H2.look o=some (.box [.own m, .own s]):=a0;have am:H2.look m=some (qR p.media):=am;have a1:H2.look 1=some (Blk.box [V.t (.lit (.slice none 0 0)),V.t (.lit (.slice none 0 0))]):=a1;have an:H2.look n1=some (.row 112 1 [.lit (.slice none 0 0)] [[V.own v],[V.own u]]):=an;have hP2:OwnPr H2 (m+1) o s ks ((dV Q p.seqs k).set k (qz z)):=hP2;refine aD _ ?_;simp only [go_sem,simprocAttr,dtf,an];refine ⟨fun hlt2=>?_,fun hge2=>?_⟩
       ·simp only [bxx] at hlt2;have hz2:z<2:=by omega
        have key:∃ kT rT ts,(∀ d:List T,jW d [[V.own v],[V.own u]] z = [V.own kT])∧OwnTr H2 (m+1) o kT rT ts∧(ts.length≤65536 ∧ ∀ t∈ts,t.length≤65536 ∧ ∀ c∈t,c.chan.length≤65536) ∧
          ∀ H3,OwnTr H3 (m+1) o kT rT (ts.map C)→(∀ j,j ∉ rT→H3.look j=H2.look j)→OwnPr H3 (m+1) o s ks ((dV Q p.seqs k).set k (qz (z+1))):=by
         have hkeys:ks.getD k default=(v,rv,u,ru):=hkk.symm;have hgz:∀ z,((dV Q p.seqs k).set k (qz z)).getD k default=qz z:=fun z=>by
          simp only [List.getD_eq_getElem?_getD,List.getElem?_set_self hkm,Option.getD_some]
         have hkz:∀ z,k<((dV Q p.seqs k).set k (qz z)).length:=fun z=>by rw [List.length_set];exact hkm
         have hvz:=hP2.vid k (hkz z);have huz:=hP2.snd k (hkz z);rw [hkeys,hgz] at hvz huz;obtain ⟨_,⟨c1,c2⟩,⟨c3,c4⟩⟩:=hls q hqm;have hcase:z=0∨z=1:=by omega
         rcases hcase with rfl | rfl
         ·refine ⟨v,rv,q.video,fun d=>rfl,by rw [hq0] at hvz;exact hvz,⟨c1,c2⟩,fun H3 h3 h4=>?_⟩;have e1:=hP2.updV (q:=qz 1) (H2:=H3) (hkz 0) (by rw [hgz,hqz];rfl) (by rw [hkeys,hqz];exact h3) (by rw [hkeys];exact h4);rw [List.set_set] at e1;exact e1
         ·refine ⟨u,ru,q.sound,fun d=>rfl,by rw [hqz] at huz;exact huz,⟨c3,c4⟩,fun H3 h3 h4=>?_⟩;have e1:=hP2.updS (q:=qz 2) (H2:=H3) (hkz 1) (by rw [hgz,hqz];rfl) (by rw [hkeys,hqz];exact h3) (by rw [hkeys];exact h4);rw [List.set_set] at e1;exact e1
        obtain ⟨kT,rT,ts,hnz,hT,hlen,hfin⟩:=key;unfold awS;simp only [go_sem,simprocAttr,dtf,an,hnz];refine ⟨⟨by omega,by omega⟩,hz2,?_⟩;refine aF (fun (x:Nat×Heap) σ => (fun τ : St => { τ with h:=x.2,nx:=n1+1 }) (bL 17 (aC x.1) (aX [18,102,103,104,105,106,107,108,109,110,111,112,113,114,115,116,117,118,119,120,121,122,123,124,125,126,127,128,129,130,131,132,133,134,135,136,137,138,139,140,141,142,143,144,145,146,147,148,149,150,151,152,153] σ)))
         (fun x=>x.1≤ts.length∧OwnTr x.2 (m+1) o kT rT (dV C ts x.1) ∧ ∀ j,j ∉ rT→x.2.look j=H2.look j) (fun x=>ts.length - x.1) (0,H2) (eU ?_) ⟨Nat.zero_le _,hT,fun _ _=>rfl⟩ ?_
        ·simp only [go_sem,simprocAttr,dtf];exact Nat.le_refl _
        ·rintro ⟨t,H3⟩ ⟨ht,hT3,hk3⟩;have ht:t≤ts.length:=ht;have hT3:OwnTr H3 (m+1) o kT rT (dV C ts t):=hT3;have hk3:∀ j,j ∉ rT→H3.look j=H2.look j:=hk3;have hrl:rT.length=ts.length:=by rw [hT3.len,dX]
         have gk:=hT3.row;refine aD _ ?_;simp only [go_sem,simprocAttr,dtf,gk,hrl,List.length_map];refine ⟨fun hlt3=>?_,fun hge3=>?_⟩
         ·simp only [bxx] at hlt3;have htl:t<ts.length:=by omega
          obtain ⟨L,hL⟩:∃ L,L=ts.getD t default:=⟨_,rfl⟩
          have hLm:L∈ts:=by rw [hL];exact aQ htl
          obtain ⟨b1,b2⟩:=hlen.2 L hLm;obtain ⟨r,hr⟩:∃ r,r=rT.getD t 0:=⟨_,rfl⟩
          have hrm:r∈rT:=by rw [hr,List.getD_eq_getElem?_getD,List.getElem?_eq_getElem (by omega)];exact List.getElem_mem _
          have hnk:∀ d:List T,jW d (rT.map fun r=>[V.own r]) t = [V.own r]:=fun d=>by
           unfold jW;rw [List.getElem?_map,List.getElem?_eq_getElem (by omega:t<rT.length),hr,List.getD_eq_getElem?_getD,List.getElem?_eq_getElem (by omega:t<rT.length)];rfl
          have hgr:H3.look r=some (qS L):=by
           rw [hr,hT3.clips t (by rw [dX];exact htl),nW C htl,hL]
          unfold awS;simp only [go_sem,simprocAttr,dtf,gk,hrl,hnk,List.length_map];have hkr:(kT=r)=False:=eq_false fun e=>hT3.ne (by rw [e];exact hrm)
          refine aF (fun (x:Nat×Heap) σ => (fun τ : St => { τ with h:=x.2,nx:=n1+1 }) (bL 18 (aC x.1) (aX [110,111,112,113,114,115,116,117,118,119,120,121,122,123,124,125,126,127,128,129,130,131,132,133,134,135,136,137,138,139,140,141,142,143,144,145,146,147,148,149,150,151,152,153] σ)))
           (fun x=>x.1≤L.length∧x.2.look r=some (qS (dV (mJ f g) L x.1)) ∧ ∀ j,j≠r→x.2.look j=H3.look j) (fun x=>L.length - x.1) (0,H3) (eU ?_) ⟨Nat.zero_le _,hgr,fun _ _=>rfl⟩ ?_
          ·simp only [go_sem,simprocAttr,dtf];exact Nat.le_refl _
          ·rintro ⟨c,H4⟩ ⟨hc,gr,hk4⟩;have hc:c≤L.length:=hc;have gr:H4.look r=some (qS (dV (mJ f g) L c)):=gr;have hk4:∀ j,j≠r→H4.look j=H3.look j:=hk4;have gk4:H4.look kT=some (.row 27 1 (bS []) (rT.map fun r=>[V.own r])):=by rw [hk4 kT (of_eq_false hkr)];exact gk
           have hml:=dX (mJ f g) L c;refine aD _ ?_;simp only [go_sem,simprocAttr,dtf,gk4,gr,hrl,hnk,List.length_map,hml];refine ⟨⟨by omega,by omega⟩,htl,fun hlt4=>?_,fun hge4=>?_⟩
           ·simp only [bxx] at hlt4;have hcl:c<L.length:=by omega
            obtain ⟨X,hX⟩:∃ X,X=L.getD c default:=⟨_,rfl⟩
            have hn2:∀ d,nth d ((dV (mJ f g) L c).map ClipR.c) c=ClipR.c X:=fun d=>by
             unfold nth;have e0:=nW (mJ f g) hcl;rw [List.getD_eq_getElem?_getD] at e0;have hlt3:c<(dV (mJ f g) L c).length:=by rw [dX];exact hcl
             rw [List.getElem?_eq_getElem hlt3,Option.getD_some] at e0;rw [List.getElem?_map,List.getElem?_eq_getElem hlt3,e0,hX];rfl
            have hset:∀ B j,(H4.set r B).look j=if j=r then some B else H4.look j:=fun B j=>Heap.look_set H4 r B gr j
            unfold awS;simp only [go_sem,simprocAttr,dtf];refine bM [0,1,2,3,4,5,6,7,8,10,11,12,13,14,15,16,17,18,19,20,21,22,23,24,25,26,27,28,29,30,31]
             (.alt (.step 9 (.step 32 (.step 33 (.step 34 (.step 35 (.step 36 (.step 37 .done))))))) (.step 32 (.alt (.step 9 (.step 33 (.step 34 (.step 35 (.step 36 (.step 37 .done)))))) (.step 33 (.alt (.step 9 (.step 34 (.step 35 (.step 36 (.step 37 .done))))) (.step 34 (.step 9 (.step 35 (.step 36 (.step 37 .done)))))))))) rfl (by kernel_rfl) (by kernel_rfl) (by decide) ?_
            simp only [go_sem,simprocAttr,dtf,gk4,gr,hrl,hnk,hn2,List.length_map,hml];refine ⟨⟨by omega,by omega⟩,htl,⟨by omega,by omega⟩,htl,⟨by omega,by omega⟩,htl,⟨by omega,by omega⟩,hcl,_,aEt X.a f g,?_⟩;simp only [go_sem,simprocAttr,dtf,gk4,gr,hrl,hnk,hn2,List.length_map,hml];refine ⟨⟨by omega,by omega⟩,htl,⟨by omega,by omega⟩,hcl,_,aEt X.b f g,?_⟩;have hn3:∀ (d:List T) (Y:List T),nth d (((dV (mJ f g) L c).map ClipR.c).set c Y) c=Y:=fun d Y=>by
             unfold nth;rw [List.getElem?_set_self (by rw [List.length_map,dX];exact hcl)];rfl
            simp only [go_sem,simprocAttr,dtf,gk4,gr,hrl,hnk,hn2,List.length_map,hml,hset,hn3,List.length_set,List.set_set];have eM:=sE (mJ f g) hcl;rw [← hX] at eM;refine ⟨⟨by omega,by omega⟩,hcl,⟨by omega,by omega⟩,hcl,(c+1,_),eU ⟨rfl,Nat.le_refl _,rfl,?_⟩,⟨hcl,?_,fun j hj=>?_⟩,by show L.length - (c+1)<_;omega⟩
            ·simp only [go_sem,simprocAttr,dtf];rw [bJ (show c<9223372036854775807 by omega)];rfl
            ·show Heap.look _ r=_
             rw [hset,if_pos rfl, ← eM,qS,List.map_set];rfl
            ·show Heap.look _ j=_
             rw [hset,if_neg hj];exact hk4 j hj
           ·simp only [bxx] at hge4;have:c=L.length:=by omega
            subst this;rw [sF] at gr;unfold awS;simp only [go_sem,simprocAttr,dtf];have eM:=sE C htl;rw [← hL] at eM;have hT5:=hT3.upd (t:=t) (L:=C L) (H2:=H4) (by rw [dX];exact htl) (by rw [← hr,gr,hC]) (by rw [← hr];exact hk4);rw [eM] at hT5;refine ⟨(t+1,H4),eU ⟨rfl,Nat.le_refl _,rfl,?_⟩,⟨htl,hT5,fun j hj=>?_⟩,by show ts.length - (t+1)<_;omega⟩
            ·simp only [go_sem,simprocAttr,dtf];rw [bJ (show t<9223372036854775807 by omega)];rfl
            ·show H4.look j=_
             rw [hk4 j (fun e=>hj (by rw [e];exact hrm))];exact hk3 j hj
         ·simp only [bxx] at hge3;have:t=ts.length:=by omega
          subst this;rw [sF] at hT3;unfold awS;simp only [go_sem,simprocAttr,dtf];have hnr:∀ j,j≤m∨o≤j→j ∉ rT:=fun j hj hjr=>by
           have:=hT.rr j hjr;omega
          refine ⟨(z+1,H3),eU ⟨rfl,Nat.le_refl _,rfl,?_⟩,⟨hz2,⟨?_,?_,?_,?_⟩,hfin H3 hT3 hk3⟩,by show 2 - (z+1)<_;omega⟩
          ·simp only [go_sem,simprocAttr,dtf];rw [bJ (show z<9223372036854775807 by omega)];rfl
          ·exact (hk3 o (hnr o (by omega))).trans a0
          ·exact (hk3 m (hnr m (by omega))).trans am
          ·exact (hk3 1 (hnr 1 (by omega))).trans a1
          ·exact (hk3 n1 (hnr n1 (by omega))).trans an
       ·simp only [bxx] at hge2;have:z=2:=by omega
        subst this;rw [hq2,hq,sE Q hkl] at hP2;unfold awS;simp only [go_sem,simprocAttr,dtf];refine ⟨(k+1,H2,n1+1),eU ⟨rfl,Nat.le_refl _,rfl,?_⟩,⟨hkl,⟨a0,am,a1⟩,hP2,by show o<n1+1;omega⟩,by show p.seqs.length - (k+1)<_;omega⟩;simp only [go_sem,simprocAttr,dtf];rw [bJ (show k<9223372036854775807 by omega)];rfl
     ·simp only [bxx] at hge;have:k=p.seqs.length:=by omega
      subst this;rw [sF] at hP;have e0:(1=o)=False:=eq_false (by omega);unfold awS;simp only [go_sem,simprocAttr,dtf,g0,g1,e0];have e0':(o=1)=False:=eq_false (by omega);have hset:∀ B j,(H1.set 1 B).look j=if j=1 then some B else H1.look j:=fun B j=>Heap.look_set H1 1 B g1 j
      refine aD _ ?_;simp only [go_sem,simprocAttr,dtf,g0,g1,e0,e0',hset];refine dW ?_ rfl;have hP3:OwnPr (H1.set 1 (Blk.box [V.own m,V.own s])) (m+1) o s ks (p.seqs.map Q):=hP.keepAll (fun r hr=>by have:=hP.num r hr;rw [hset,if_neg (by omega)]) (by rw [hset,if_neg (by omega)]) (Nat.le_refl _) (Nat.le_refl _);have hm3:(H1.set 1 (Blk.box [V.own m,V.own s])).look m=some (qR p.media):=by rw [hset,if_neg (by omega)];exact gm
      show V.tup [V.agg [V.lend (H1.set 1 (Blk.box [V.own m,V.own s])) (V.own m),V.lend (H1.set 1 (Blk.box [V.own m,V.own s])) (V.own s)],aC 0]=_
      rw [aGn hP3,aBv hm3,hQ];rfl
end Go.Proofs.YtbfnemkngoaeeaaGreat
