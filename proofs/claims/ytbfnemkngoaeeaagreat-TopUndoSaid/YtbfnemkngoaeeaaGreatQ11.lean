/- Proved here: The walk of edits.adjust (the six kinds). -/
import Derived.Test.YtbfnemkngoaeeaaGreatQ10
set_option linter.unusedSimpArgs false
set_option linter.unusedVariables false
set_option linter.unusedSectionVars false
set_option linter.unnecessarySimpa false
namespace Go.Proofs.YtbfnemkngoaeeaaGreat
open Go.RowKit
set_option maxRecDepth 4000
set_option maxHeartbeats 8000000 in
theorem aTr {N F:List ClipR} (h:CutOk 1000 N F) (hl:N.length≤60) (hF:F.length≤500) {q:Nat} (hq:q<N.length) {b:Int} (hb:b.natAbs≤100) (sp:RatR) (cs:T) {Q:Exit→St→Prop} {B E0:Int} (hB : 0≤B∧B≤E0∧E0≤500)
  (hR:qB Q (kS N (N.set q (kK (N.getD q default) b)) 5 q b sp cs (min E0 (E0+b)) (max E0 (E0+b)) (if decide (b > 0)=true then 2 else 1))):mD Q (rA N 5 q b sp cs B E0):=by
 have hcb:=Gq h hq;obtain ⟨c,hc⟩:∃ c,c=N.getD q default:=⟨_,rfl⟩
 rw [← hc] at hcb hR;unfold mD rA;refine dM (aC _ ?_);simp only [go_sem,simprocAttr,dtf];refine gS Tryz.X112 (cQ (Gu N q hq 5 q b sp cs hb (by rw [← hc];omega)) [3,0,2] rfl (by omega) (by decide) ?_ rfl rfl rfl rfl ?_)
 ·simp only [go_sem,simprocAttr,dtf,List.getElem?_cons_zero,List.getElem?_cons_succ]
 simp only [go_sem,simprocAttr,dtf,List.getElem?_cons_zero,List.getElem?_cons_succ];rw [← hc];refine aQ 14 .done rfl (by kernel_rfl) (by kernel_rfl) (by decide) ?_;simp only [go_sem,simprocAttr,dtf];refine ⟨by kernel_rfl,?_⟩;rw [wrap64 (x:=E0+b) (by omega) (by omega)];refine ⟨_,Sk _,?_⟩;simp only [go_sem,simprocAttr,dtf];refine sZ (aT [(5,some 5),(4,some 4),(3,some 3),(2,some 2),(1,some 1),(0,some 0)] ?_) hR;unfold kS jE;simp only [go_sem,simprocAttr,dtf];simp
set_option maxHeartbeats 8000000 in
theorem aTq {N F:List ClipR} (h:CutOk 1000 N F) (hl:N.length≤60) (hF:F.length≤500) {q:Nat} (hq:q<N.length) {b:Int} (hb:b.natAbs≤100) (sp:RatR) (cs:T) {Q:Exit→St→Prop} {B E0:Int} (hB : 0≤B∧B≤E0∧E0≤500)
  (hR:qB Q (kS N (N.set q (cV (N.getD q default) b)) 6 q b sp cs B (B+max b (-b)) (if decide (b<0)=true then 2 else 1))):mD Q (rA N 6 q b sp cs B E0):=by
 have hG:=h.gd _ (aP (d:=default) hq);unfold mD rA;refine dM (aC _ ?_);simp only [go_sem,simprocAttr,dtf];refine gS Tryz.X115 (cQ (aG4 N q hq 6 q b sp cs hb hG.fit hG.ok) [3,0,2,4] rfl (by omega) (by decide) ?_ rfl rfl rfl rfl ?_)
 ·simp only [go_sem,simprocAttr,dtf,List.getElem?_cons_zero,List.getElem?_cons_succ]
 simp only [go_sem,simprocAttr,dtf,List.getElem?_cons_zero,List.getElem?_cons_succ];refine aQ 11 .done rfl (by kernel_rfl) (by kernel_rfl) (by decide) ?_;simp only [go_sem,simprocAttr,dtf];refine ⟨by kernel_rfl,?_⟩;rw [show IntKind.i64.wrap (0 - b) = -b by rw [wrap64 (by omega) (by omega)];omega,wrap64 (x:=B+max b (-b)) (by omega) (by omega)];refine ⟨_,Sk _,?_⟩;simp only [go_sem,simprocAttr,dtf];refine sZ (aT [(5,some 5),(4,some 4),(3,some 3),(2,some 2),(1,some 1),(0,some 0)] ?_) hR;unfold kS jE;simp only [go_sem,simprocAttr,dtf];simp
set_option maxHeartbeats 8000000 in
theorem aTp {N F:List ClipR} (h:CutOk 1000 N F) (hl:N.length≤60) (hF:F.length≤500) {q:Nat} (hq:q+1<N.length) {b:Int} (hb:b.natAbs≤100) (sp:RatR) (cs:T) {Q:Exit→St→Prop} {B E0:Int} (hB : 0≤B∧B≤E0∧E0≤500)
  (hR:qB Q (kS N ((N.set q (kK (N.getD q default) b)).set (q+1) (cV (N.getD (q+1) default) b)) 7 q b sp cs (min E0 (E0+b)) (max E0 (E0+b)) 3)):mD Q (rA N 7 q b sp cs B E0):=by
 have hq0:q<N.length:=by omega
 have hcb:=Gq h hq0;have hG:=h.gd _ (aP (d:=default) hq);obtain ⟨L,hL⟩:∃ L,L=N.set q (kK (N.getD q default) b):=⟨_,rfl⟩
 have hLl:q+1<L.length:=by rw [hL,List.length_set];exact hq
 have hLq:L.getD (q+1) default=N.getD (q+1) default:=by rw [hL,List.getD_eq_getElem?_getD,List.getElem?_set_ne (by omega), ← List.getD_eq_getElem?_getD]
 rw [← hL] at hR;unfold mD rA;refine dM (aC _ ?_);simp only [go_sem,simprocAttr,dtf];refine gS Tryz.X112 (cQ (Gu N q hq0 7 q b sp cs hb (by omega)) [3,0,2] rfl (by omega) (by decide) ?_ rfl rfl rfl rfl ?_)
 ·simp only [go_sem,simprocAttr,dtf,List.getElem?_cons_zero,List.getElem?_cons_succ]
 simp only [go_sem,simprocAttr,dtf,List.getElem?_cons_zero,List.getElem?_cons_succ];rw [← hL,dC (show q<9223372036854775807 by omega)];refine gS Tryz.X115 (cQ (aG4 L (q+1) hLl 7 q b sp cs hb (by rw [hLq];exact hG.fit) (by rw [hLq];exact hG.ok)) [3,0,2,4] rfl (by omega) (by decide) ?_ rfl rfl rfl rfl ?_)
 ·simp only [go_sem,simprocAttr,dtf,List.getElem?_cons_zero,List.getElem?_cons_succ]
 simp only [go_sem,simprocAttr,dtf,List.getElem?_cons_zero,List.getElem?_cons_succ];rw [hLq];refine aQ 14 .done rfl (by kernel_rfl) (by kernel_rfl) (by decide) ?_;simp only [go_sem,simprocAttr,dtf];refine ⟨by kernel_rfl,?_⟩;rw [wrap64 (x:=E0+b) (by omega) (by omega)];refine sZ (aT [(5,some 5),(4,some 4),(3,some 3),(2,some 2),(1,some 1),(0,some 0)] ?_) hR;unfold kS jE;simp only [go_sem,simprocAttr,dtf];simp
set_option maxHeartbeats 8000000 in
theorem aTn {N F:List ClipR} (h:CutOk 1000 N F) (hl:N.length≤60) (hF:F.length≤500) {q:Nat} (hq:q<N.length) {b:Int} (hb:b.natAbs≤100) (sp:RatR) (cs:T) {Q:Exit→St→Prop} {B E0:Int} (hB : 0≤B∧B≤E0∧E0≤500)
  (hR:qB Q (kS N (N.set q (nV (N.getD q default) b)) 8 q b sp cs B E0 3)):mD Q (rA N 8 q b sp cs B E0):=by
 have hG:=h.gd _ (aP (d:=default) hq);unfold mD rA;refine dM (aC _ ?_);simp only [go_sem,simprocAttr,dtf];refine gS Tryz.X113 (cQ (cSlip N q hq 8 q b sp cs hb hG.fit hG.ok) [3,0,2] rfl (by omega) (by decide) ?_ rfl rfl rfl rfl ?_)
 ·simp only [go_sem,simprocAttr,dtf,List.getElem?_cons_zero,List.getElem?_cons_succ]
 simp only [go_sem,simprocAttr,dtf,List.getElem?_cons_zero,List.getElem?_cons_succ];refine sZ (aT [(5,some 5),(4,some 4),(3,some 3),(2,some 2),(1,some 1),(0,some 0)] ?_) hR;unfold kS jE;simp only [go_sem,simprocAttr,dtf];simp
set_option maxHeartbeats 8000000 in
theorem aTm {N F:List ClipR} (h:CutOk 1000 N F) (hl:N.length≤60) (hF:F.length≤500) {q:Nat} (hq:q+2<N.length) {b:Int} (hb:b.natAbs≤100) (sp:RatR) (cs:T) {Q:Exit→St→Prop} {B E0:Int} (hB : 0≤B∧B≤E0∧E0≤500)
  (hR:qB Q (kS N ((N.set q (kK (N.getD q default) b)).set (q+2) (cV (N.getD (q+2) default) b)) 9 ((q+1:Nat):Int) b sp cs (min B (B+b)) (max E0 (E0+b)) 3)):mD Q (rA N 9 ((q+1:Nat):Int) b sp cs B E0):=by
 have hq0:q<N.length:=by omega
 have hcb:=Gq h hq0;have hG:=h.gd _ (aP (d:=default) hq);obtain ⟨L,hL⟩:∃ L,L=N.set q (kK (N.getD q default) b):=⟨_,rfl⟩
 have hLl:q+2<L.length:=by rw [hL,List.length_set];exact hq
 have hLq:L.getD (q+2) default=N.getD (q+2) default:=by rw [hL,List.getD_eq_getElem?_getD,List.getElem?_set_ne (by omega), ← List.getD_eq_getElem?_getD]
 rw [← hL] at hR;unfold mD rA;refine dM (aC _ ?_);simp only [go_sem,simprocAttr,dtf];rw [show IntKind.i64.wrap (((q+1:Nat):Int) - 1)=(q:Int) by rw [wrap64 (by omega) (by omega)];omega];refine gS Tryz.X112 (cQ (Gu N q hq0 9 ((q+1:Nat):Int) b sp cs hb (by omega)) [3,0,2] rfl (by omega) (by decide) ?_ rfl rfl rfl rfl ?_)
 ·simp only [go_sem,simprocAttr,dtf,List.getElem?_cons_zero,List.getElem?_cons_succ]
 simp only [go_sem,simprocAttr,dtf,List.getElem?_cons_zero,List.getElem?_cons_succ];rw [← hL,show IntKind.i64.wrap (((q+1:Nat):Int)+1)=((q+2:Nat):Int) by rw [wrap64 (by omega) (by omega)];omega];refine gS Tryz.X115 (cQ (aG4 L (q+2) hLl 9 ((q+1:Nat):Int) b sp cs hb (by rw [hLq];exact hG.fit) (by rw [hLq];exact hG.ok)) [3,0,2,4] rfl (by omega) (by decide) ?_ rfl rfl rfl rfl ?_)
 ·simp only [go_sem,simprocAttr,dtf,List.getElem?_cons_zero,List.getElem?_cons_succ]
 simp only [go_sem,simprocAttr,dtf,List.getElem?_cons_zero,List.getElem?_cons_succ];rw [hLq];refine aQ 14 .done rfl (by kernel_rfl) (by kernel_rfl) (by decide) ?_;simp only [go_sem,simprocAttr,dtf];refine ⟨by kernel_rfl,?_⟩;rw [wrap64 (x:=E0+b) (by omega) (by omega),wrap64 (x:=B+b) (by omega) (by omega)];refine sZ (aT [(5,some 5),(4,some 4),(3,some 3),(2,some 2),(1,some 1),(0,some 0)] ?_) hR;unfold kS jE;simp only [go_sem,simprocAttr,dtf];simp
def Fq (c:ClipR) (sp:RatR):ClipR := { c with a := { c.a with speed:=sp } }
set_option maxHeartbeats 8000000 in
theorem aN2 {N F:List ClipR} (h:CutOk 1000 N F) (hl:N.length≤60) (hF:F.length≤500) {q:Nat} (hq:q<N.length) {b:Int} (hb:b.natAbs≤100) (sp:RatR) (cs:T) {Q:Exit→St→Prop} {B E0:Int} (hB : 0≤B∧B≤E0∧E0≤500)
  (hR:qB Q (kS N (N.set q (Fq (N.getD q default) sp)) 10 q b sp cs B E0 3)):mD Q (rA N 10 q b sp cs B E0):=by
 obtain ⟨c,hc⟩:∃ c,c=N.getD q default:=⟨_,rfl⟩
 rw [← hc] at hR;have hn:∀ d,nth d (N.map ClipR.c) q=ClipR.c c:=fun d=>by rw [vF hq,hc]
 unfold mD rA;refine dM (aC _ ?_);simp only [go_sem,simprocAttr,dtf,hn,List.length_map];refine ⟨⟨by omega,by omega⟩,hq,?_⟩;refine sZ (aT [(5,some 5),(4,some 4),(3,some 3),(2,some 2),(1,some 1),(0,some 0)] ?_) hR;unfold kS jE;simp only [go_sem,simprocAttr,dtf];simp;rfl
def Ge (p:ProjR) (s:SourceR):Bool:=((s.kind==1)&&p.media.any fun m=>m.name.toList==s.name.toList)||((s.kind==2)&&p.seqs.any fun q=>q.name.toList==s.name.toList)||(s.kind==0)
theorem has_med {p:ProjR} {s:SourceR} {k:Nat} (hk:k<p.media.length) (h:(s.kind==1&&(p.media.getD k default).name.toList==s.name.toList)=true):Ge p s=true:=by
 obtain ⟨h1,h2⟩:=Bool.and_eq_true_iff.1 h;have h3:(p.media.any fun m=>m.name.toList==s.name.toList)=true:=List.any_eq_true.2 ⟨_,aP hk,h2⟩;unfold Ge;rw [h1,h3];rfl
theorem has_seq {p:ProjR} {s:SourceR} {k:Nat} (hk:k<p.seqs.length) (h:(s.kind==2&&(p.seqs.getD k default).name.toList==s.name.toList)=true):Ge p s=true:=by
 obtain ⟨h1,h2⟩:=Bool.and_eq_true_iff.1 h;have h3:(p.seqs.any fun m=>m.name.toList==s.name.toList)=true:=List.any_eq_true.2 ⟨_,aP hk,h2⟩;unfold Ge;rw [h1,h3];simp
theorem aR6 {p:ProjR} {s:SourceR} (h1:∀ i,i<p.media.length→(s.kind==1&&(p.media.getD i default).name.toList==s.name.toList)=false) (h2:∀ i,i<p.seqs.length→(s.kind==2&&(p.seqs.getD i default).name.toList==s.name.toList)=false) :
  Ge p s=(s.kind==0):=by
 have a1:((s.kind==1)&&p.media.any fun m=>m.name.toList==s.name.toList)=false:=by
  cases hk:(s.kind==1) with
  | false=>rfl
  | true =>
   rw [Bool.true_and,List.any_eq_false];intro m hm;obtain ⟨i,hi,rfl⟩:=uP hm;have:=h1 i hi;rw [hk,Bool.true_and] at this;rw [this];decide
 have a2:((s.kind==2)&&p.seqs.any fun m=>m.name.toList==s.name.toList)=false:=by
  cases hk:(s.kind==2) with
  | false=>rfl
  | true =>
   rw [Bool.true_and,List.any_eq_false];intro m hm;obtain ⟨i,hi,rfl⟩:=uP hm;have:=h2 i hi;rw [hk,Bool.true_and] at this;rw [this];decide
 unfold Ge;rw [a1,a2];simp
theorem cHas (p:ProjR) (s:SourceR) (hm:p.media.length≤1000) (hs:p.seqs.length≤1000):aK Tryz.prog 40 [uV p,kW s] (aX (Ge p s)):=by
 refine aG Tryz.X40 Tryz.func40 rfl Tryz.ntmps40 (by rw [Tryz.results40]) (aC _ ?_);simp only [go_sem,simprocAttr,dtf];refine aJ (fun (k:Nat) σ => dW 5 (aA k) (dD [7,8,9,10,11,12,13,14,15,16,17,18,19,20,21,22,23,24,25,26,27] (eH σ))) (fun k=>k≤p.media.length ∧ ∀ i,i<k→(s.kind==1&&(p.media.getD i default).name.toList==s.name.toList)=false) (fun k=>p.media.length - k) 0 (aE ?_) ⟨Nat.zero_le _,by omega⟩ ?_
 ·simp only [go_sem,simprocAttr,dtf]<;>simp
 ·rintro k ⟨hk,hi⟩;refine aC _ ?_;simp only [go_sem,simprocAttr,dtf];refine ⟨fun hlt=>?_,fun hge=>?_⟩
  ·simp only [bxx] at hlt;have hkl:k<p.media.length:=by omega
   unfold awS;simp only [go_sem,simprocAttr,dtf];refine aQ 14 .done rfl (by kernel_rfl) (by kernel_rfl) (by decide) ?_;simp only [go_sem,simprocAttr,dtf,List.length_map];refine ⟨fun _=>⟨by omega,by omega⟩,by kernel_rfl,fun h=>?_,fun h=>?_⟩
   ·rw [has_med hkl h];unfold awS;simp only [go_sem,simprocAttr,dtf]
   ·unfold awS;simp only [go_sem,simprocAttr,dtf];refine ⟨k+1,aE ?_,⟨by omega,fun i hi2=>?_⟩,by omega⟩
    ·simp only [go_sem,simprocAttr,dtf];simp [dC (show k<9223372036854775807 by omega)]
    ·rcases Nat.lt_succ_iff_lt_or_eq.1 hi2 with h3 | rfl
     ·exact hi i h3
     ·exact h
  ·simp only [bxx] at hge;unfold awS;simp only [go_sem,simprocAttr,dtf];refine aJ (fun (k:Nat) σ => dW 6 (aA k) (dD [28,29,30,31,32,33,34,35,36,37,38,39,40,41,42,43,44,45,46,47,48] (eH σ))) (fun k=>k≤p.seqs.length ∧ ∀ i,i<k→(s.kind==2&&(p.seqs.getD i default).name.toList==s.name.toList)=false) (fun k=>p.seqs.length - k) 0 (aE ?_) ⟨Nat.zero_le _,by omega⟩ ?_
   ·simp only [go_sem,simprocAttr,dtf]<;>simp
   ·rintro j ⟨hj,hj2⟩;refine aC _ ?_;simp only [go_sem,simprocAttr,dtf];refine ⟨fun hlt=>?_,fun hge2=>?_⟩
    ·simp only [bxx] at hlt;have hkl:j<p.seqs.length:=by omega
     unfold awS;simp only [go_sem,simprocAttr,dtf];refine aQ 14 .done rfl (by kernel_rfl) (by kernel_rfl) (by decide) ?_;simp only [go_sem,simprocAttr,dtf,List.length_map];refine ⟨fun _=>⟨by omega,by omega⟩,by kernel_rfl,fun h=>?_,fun h=>?_⟩
     ·rw [has_seq hkl h];unfold awS;simp only [go_sem,simprocAttr,dtf]
     ·unfold awS;simp only [go_sem,simprocAttr,dtf];refine ⟨j+1,aE ?_,⟨by omega,fun i hi2=>?_⟩,by omega⟩
      ·simp only [go_sem,simprocAttr,dtf];simp [dC (show j<9223372036854775807 by omega)]
      ·rcases Nat.lt_succ_iff_lt_or_eq.1 hi2 with h3 | rfl
       ·exact hj2 i h3
       ·exact h
    ·simp only [bxx] at hge2;rw [aR6 (fun i hi2=>hi i (by omega)) (fun i hi2=>hj2 i (by omega))];unfold awS;simp only [go_sem,simprocAttr,dtf]
def kZ (p:ProjR) (t:List ClipR):List ClipR:=t.filter fun c=>Ge p c.a&&Ge p c.b
theorem aC8 (p:ProjR) (t:List ClipR) (k:Nat) (hk:k<t.length):kZ p (t.take (k+1))=kZ p (t.take k)++if (Ge p (t.getD k default).a&&Ge p (t.getD k default).b)=true then [t.getD k default] else []:=by
 unfold kZ;rw [List.take_add_one,List.filter_append,List.getElem?_eq_getElem hk,aU hk];simp only [Option.toList_some,List.filter_cons,List.filter_nil]
theorem Cc (p:ProjR) (t:List ClipR):(kZ p t).length≤t.length:=List.length_filter_le ..
set_option maxHeartbeats 4000000 in
theorem aSr (p:ProjR) (t:List ClipR) (hm:p.media.length≤1000) (hs:p.seqs.length≤1000) (ht:t.length≤1000):aK Tryz.prog 12 [uV p, .t (aM t)] (.t (aM (kZ p t))):=by
 refine aG Tryz.X12 Tryz.func12 rfl Tryz.ntmps12 (by rw [Tryz.results12]) (aC _ ?_);simp only [go_sem,simprocAttr,dtf];refine aJ (fun (k:Nat) σ => (fun τ : St => { τ with h:=(1,tB (kZ p (t.take k))) :: τ.h,nx:=2 }) (dW 5 (.own 1) (dW 6 (aA k) (dD [7,8,9,10,13,14,15,16,17,18,19,20,21,22,23,24,25,26,27,28,29,30,31,32,33,34,35] (eH σ))))) (fun k=>k≤t.length) (fun k=>t.length - k) 0 (aT [(1,none),(0,some 0)] ?_) (Nat.zero_le _) ?_
 ·simp only [go_sem,simprocAttr,dtf]<;>simp [kZ,aS]
 ·rintro k hk;refine aC _ ?_;simp only [go_sem,simprocAttr,dtf];refine ⟨fun hlt=>?_,fun hge=>?_⟩
  ·simp only [bxx] at hlt;have hkl:k<t.length:=by omega
   have hns:=aC8 p t k hkl;have hnl:=Cc p (t.take k);rw [List.length_take] at hnl;unfold awS;simp only [go_sem,simprocAttr,dtf];obtain ⟨c,hc⟩:∃ c,c=t.getD k default:=⟨_,rfl⟩
   have hn:∀ d,nth d (t.map ClipR.c) k=ClipR.c c:=fun d=>by rw [vF hkl,hc]
   rw [← hc] at hns;refine aQ 16 .done rfl (by kernel_rfl) (by kernel_rfl) (by decide) ?_;simp only [go_sem,simprocAttr,dtf,hn,List.length_map];refine ⟨⟨by omega,by omega⟩,_,cHas p c.a hm hs,?_⟩;simp only [go_sem,simprocAttr,dtf,hn,List.length_map];refine ⟨fun _=>⟨by omega,by omega⟩,_,fun _=>cHas p c.b hm hs,?_⟩;simp only [go_sem,simprocAttr,dtf,hn,List.length_map];refine ⟨by kernel_rfl,fun h=>?_,fun h=>?_⟩
   ·rw [if_pos h] at hns;unfold awS;simp only [go_sem,simprocAttr,dtf,hn,List.length_map];refine ⟨⟨by omega,by omega⟩,⟨by unfold maxLen;omega,by omega⟩,k+1,aT [(1,some 19),(0,some 0)] ?_,by omega,by omega⟩;simp only [go_sem,simprocAttr,dtf];rw [hns];simp [dC (show k<9223372036854775807 by omega)];rfl
   ·rw [if_neg (by simpa using h),List.append_nil] at hns;unfold awS;simp only [go_sem,simprocAttr,dtf];refine ⟨k+1,aT [(1,some 1),(0,some 0)] ?_,by omega,by omega⟩;simp only [go_sem,simprocAttr,dtf];rw [hns];simp [dC (show k<9223372036854775807 by omega)]
  ·simp only [bxx] at hge;unfold awS;simp only [go_sem,simprocAttr,dtf];rw [List.take_of_length_le (by omega)]
structure EdR where
 kind:Int
 pos:Int
 len:Int
 clip:Int
 by':Int
 sp:RatR
 cs:List ClipR
 raw:T
abbrev vEd (e:EdR):V := .agg [aA e.kind,aA e.pos,aA e.len,aA e.clip,aA e.by',aA e.sp.num,aA e.sp.den, .t e.raw]
def Tz (L:List Int) (k:Nat):Int:=if aB L k 11 - 5=0 then 6 else aB L k 11 - 5
def bN (L:List Int) (k:Nat):Int:=1+aB L k 10
def jD (L:List Int) (k:Nat):List ClipR:=(bP L k 3 2 3).1 ++ [(bQ L (bP L k 3 2 3).2 3 2).1]
def eB (L:List Int) (k:Nat) (n:Int):EdR :=
 if bN L k=1∨bN L k=3 then ⟨bN L k,aB L (k+1) 60,0,0,0,⟨0,0⟩,jD L (k+2),aM (jD L (k+2))⟩
 else if bN L k=2∨bN L k=4 then ⟨bN L k,aB L (k+1) 60,1+aB L (k+2) 20,0,0,⟨0,0⟩,[], .lit (.slice none 0 0)⟩
 else if bN L k=10 then ⟨10,0,0,aB L (k+1) (n+1),0,pW L (k+2),[], .lit (.slice none 0 0)⟩
 else ⟨bN L k,0,0,aB L (k+1) (n+1),Tz L (k+2),⟨0,0⟩,[], .lit (.slice none 0 0)⟩
def Rm (L:List Int) (k:Nat):Nat:=if bN L k=1∨bN L k=3 then (bQ L (bP L (k+2) 3 2 3).2 3 2).2 else k+3
set_option maxHeartbeats 8000000 in
theorem cEditAt (L:List Int) (k:Nat) (n:Int) (hk:k≤50000) (h0 : 0≤n) (h1:n≤1000) (hk2:(bP L (k+2) 3 2 3).2≤100000) (hl:(bP L (k+2) 3 2 3).1.length≤1000) :
  CIO Tryz.prog 11 1 [(0, .box [.t (bS L),aA k])] [.own 0,aA n] (vEd (eB L k n)) [(0, .box [.t (bS L),aA (Rm L k:Int)])] 1:=by
 have t1:=aD (L:=L) (k:=k) (n:=10) (by omega);have t2:=aD (L:=L) (k:=k+1) (n:=60) (by omega);have t3:=aD (L:=L) (k:=k+2) (n:=20) (by omega);have t4:=aD (L:=L) (k:=k+1) (n:=n+1) (by omega);have t5:=aD (L:=L) (k:=k+2) (n:=11) (by omega);obtain ⟨kd,hkd⟩:∃ kd,kd=bN L k:=⟨_,rfl⟩
 have hkd1:IntKind.i64.wrap (1+aB L k 10)=kd:=by rw [hkd];unfold bN;exact wrap64 (by omega) (by omega)
 have hk1 : 1≤kd∧kd≤10:=by rw [hkd];unfold bN;omega
 rcases (show kd=1∨kd=3∨kd=2∨kd=4∨kd=10∨(kd≠1∧kd≠3∧kd≠2∧kd≠4∧kd≠10) from by omega) with rfl | rfl | rfl | rfl | rfl | ⟨d1,d3,d2,d4,d10⟩
 ·have e1:bN L k=1∨bN L k=3:=by omega
  have ee:eB L k n=⟨bN L k,aB L (k+1) 60,0,0,0,⟨0,0⟩,jD L (k+2),aM (jD L (k+2))⟩:=if_pos e1;have ek:Rm L k=(bQ L (bP L (k+2) 3 2 3).2 3 2).2:=if_pos e1;rw [ee,ek, ← hkd];refine kQ Tryz.X11 Tryz.func11 rfl Tryz.ntmps11 (by rw [Tryz.results11]) (dV fun hf=>Au [5] (aC _ ?_));simp only [go_sem,simprocAttr,dtf];refine aH (bD L k 10 (by omega) (by omega) (by omega)) rfl rfl rfl ?_;simp only [go_sem,simprocAttr,dtf,hkd1];refine aH (bD L (k+1) 60 (by omega) (by omega) (by omega)) rfl rfl rfl ?_;simp only [go_sem,simprocAttr,dtf];refine cQ (Sg L (k+2) 3 2 3 (by omega) (by omega) (by omega) (by omega) (by omega)) [0] rfl (by omega) (by decide) ?_ rfl rfl rfl rfl ?_
  ·simp only [go_sem,simprocAttr,dtf]<;>rfl
  simp only [go_sem,simprocAttr,dtf,List.getElem?_nil];have cC:=aJx L (bP L (k+2) 3 2 3).2 3 2 (by omega) (by omega) (by omega);have eC:jD L (k+2)=(bP L (k+2) 3 2 3).1 ++ [(bQ L (bP L (k+2) 3 2 3).2 3 2).1]:=rfl;rw [eC];generalize (bQ L (bP L (k+2) 3 2 3).2 3 2)=q0 at *;obtain ⟨c0,kq⟩:=q0;generalize (bP L (k+2) 3 2 3).1=A0 at *;generalize (bP L (k+2) 3 2 3).2=k2 at *;refine aH cC rfl rfl rfl ?_;simp only [go_sem,simprocAttr,dtf];have ec:∀ d:ClipR,[T.lit (.int .i64 d.len), .lit (.int .i64 d.kind), .lit (.int .i64 d.a.kind), .lit (.string d.a.name), .lit (.int .i64 d.a.pos.num), .lit (.int .i64 d.a.pos.den), .lit (.int .i64 d.a.speed.num), .lit (.int .i64 d.a.speed.den), .lit (.bool d.a.smooth),
    .lit (.int .i64 d.b.kind), .lit (.string d.b.name), .lit (.int .i64 d.b.pos.num), .lit (.int .i64 d.b.pos.den), .lit (.int .i64 d.b.speed.num), .lit (.int .i64 d.b.speed.den), .lit (.bool d.b.smooth), .lit (.int .i64 d.off), .lit (.int .i64 d.total), .lit (.int .i64 d.param), .lit (.string d.text), .lit (.int .i64 d.gain), .list 1 (sS 0) (d.chan.map sS)]=ClipR.c d:=fun _=>rfl
  simp only [ec];refine ⟨⟨by unfold maxLen;omega,by omega⟩,?_⟩;refine aT [(0,some 0)] ?_;simp only [go_sem,simprocAttr,dtf];simp
 ·have e1:bN L k=1∨bN L k=3:=by omega
  have ee:eB L k n=⟨bN L k,aB L (k+1) 60,0,0,0,⟨0,0⟩,jD L (k+2),aM (jD L (k+2))⟩:=if_pos e1;have ek:Rm L k=(bQ L (bP L (k+2) 3 2 3).2 3 2).2:=if_pos e1;rw [ee,ek, ← hkd];refine kQ Tryz.X11 Tryz.func11 rfl Tryz.ntmps11 (by rw [Tryz.results11]) (dV fun hf=>Au [5] (aC _ ?_));simp only [go_sem,simprocAttr,dtf];refine aH (bD L k 10 (by omega) (by omega) (by omega)) rfl rfl rfl ?_;simp only [go_sem,simprocAttr,dtf,hkd1];refine aH (bD L (k+1) 60 (by omega) (by omega) (by omega)) rfl rfl rfl ?_;simp only [go_sem,simprocAttr,dtf];refine cQ (Sg L (k+2) 3 2 3 (by omega) (by omega) (by omega) (by omega) (by omega)) [0] rfl (by omega) (by decide) ?_ rfl rfl rfl rfl ?_
  ·simp only [go_sem,simprocAttr,dtf]<;>rfl
  simp only [go_sem,simprocAttr,dtf,List.getElem?_nil];have cC:=aJx L (bP L (k+2) 3 2 3).2 3 2 (by omega) (by omega) (by omega);have eC:jD L (k+2)=(bP L (k+2) 3 2 3).1 ++ [(bQ L (bP L (k+2) 3 2 3).2 3 2).1]:=rfl;rw [eC];generalize (bQ L (bP L (k+2) 3 2 3).2 3 2)=q0 at *;obtain ⟨c0,kq⟩:=q0;generalize (bP L (k+2) 3 2 3).1=A0 at *;generalize (bP L (k+2) 3 2 3).2=k2 at *;refine aH cC rfl rfl rfl ?_;simp only [go_sem,simprocAttr,dtf];have ec:∀ d:ClipR,[T.lit (.int .i64 d.len), .lit (.int .i64 d.kind), .lit (.int .i64 d.a.kind), .lit (.string d.a.name), .lit (.int .i64 d.a.pos.num), .lit (.int .i64 d.a.pos.den), .lit (.int .i64 d.a.speed.num), .lit (.int .i64 d.a.speed.den), .lit (.bool d.a.smooth),
    .lit (.int .i64 d.b.kind), .lit (.string d.b.name), .lit (.int .i64 d.b.pos.num), .lit (.int .i64 d.b.pos.den), .lit (.int .i64 d.b.speed.num), .lit (.int .i64 d.b.speed.den), .lit (.bool d.b.smooth), .lit (.int .i64 d.off), .lit (.int .i64 d.total), .lit (.int .i64 d.param), .lit (.string d.text), .lit (.int .i64 d.gain), .list 1 (sS 0) (d.chan.map sS)]=ClipR.c d:=fun _=>rfl
  simp only [ec];refine ⟨⟨by unfold maxLen;omega,by omega⟩,?_⟩;refine aT [(0,some 0)] ?_;simp only [go_sem,simprocAttr,dtf];simp
 ·have e1 : ¬ (bN L k=1∨bN L k=3):=by omega
  have e2:bN L k=2∨bN L k=4:=by omega
  have ee:eB L k n=⟨bN L k,aB L (k+1) 60,1+aB L (k+2) 20,0,0,⟨0,0⟩,[], .lit (.slice none 0 0)⟩:=by unfold eB;rw [if_neg e1,if_pos e2]
  have ek:Rm L k=k+3:=if_neg e1;rw [ee,ek, ← hkd];refine kQ Tryz.X11 Tryz.func11 rfl Tryz.ntmps11 (by rw [Tryz.results11]) (dV fun hf=>aC _ ?_);simp only [go_sem,simprocAttr,dtf];refine aH (bD L k 10 (by omega) (by omega) (by omega)) rfl rfl rfl ?_;simp only [go_sem,simprocAttr,dtf,hkd1];refine aH (bD L (k+1) 60 (by omega) (by omega) (by omega)) rfl rfl rfl ?_;simp only [go_sem,simprocAttr,dtf];refine aH (bD L (k+2) 20 (by omega) (by omega) (by omega)) rfl rfl rfl ?_;simp only [go_sem,simprocAttr,dtf,wrap64 (x:=1+aB L (k+2) 20) (by omega) (by omega)];refine aT [(0,some 0)] ?_;simp only [go_sem,simprocAttr,dtf];simp
 ·have e1 : ¬ (bN L k=1∨bN L k=3):=by omega
  have e2:bN L k=2∨bN L k=4:=by omega
  have ee:eB L k n=⟨bN L k,aB L (k+1) 60,1+aB L (k+2) 20,0,0,⟨0,0⟩,[], .lit (.slice none 0 0)⟩:=by unfold eB;rw [if_neg e1,if_pos e2]
  have ek:Rm L k=k+3:=if_neg e1;rw [ee,ek, ← hkd];refine kQ Tryz.X11 Tryz.func11 rfl Tryz.ntmps11 (by rw [Tryz.results11]) (dV fun hf=>aC _ ?_);simp only [go_sem,simprocAttr,dtf];refine aH (bD L k 10 (by omega) (by omega) (by omega)) rfl rfl rfl ?_;simp only [go_sem,simprocAttr,dtf,hkd1];refine aH (bD L (k+1) 60 (by omega) (by omega) (by omega)) rfl rfl rfl ?_;simp only [go_sem,simprocAttr,dtf];refine aH (bD L (k+2) 20 (by omega) (by omega) (by omega)) rfl rfl rfl ?_;simp only [go_sem,simprocAttr,dtf,wrap64 (x:=1+aB L (k+2) 20) (by omega) (by omega)];refine aT [(0,some 0)] ?_;simp only [go_sem,simprocAttr,dtf];simp
 ·have e1 : ¬ (bN L k=1∨bN L k=3):=by omega
  have e2 : ¬ (bN L k=2∨bN L k=4):=by omega
  have ee:eB L k n=⟨10,0,0,aB L (k+1) (n+1),0,pW L (k+2),[], .lit (.slice none 0 0)⟩:=by unfold eB;rw [if_neg e1,if_neg e2,if_pos hkd.symm]
  have ek:Rm L k=k+3:=if_neg e1;rw [ee,ek];refine kQ Tryz.X11 Tryz.func11 rfl Tryz.ntmps11 (by rw [Tryz.results11]) (dV fun hf=>aC _ ?_);simp only [go_sem,simprocAttr,dtf];refine aH (bD L k 10 (by omega) (by omega) (by omega)) rfl rfl rfl ?_;simp only [go_sem,simprocAttr,dtf,hkd1,wrap64 (x:=n+1) (by omega) (by omega)];refine aH (bD L (k+1) (n+1) (by omega) (by omega) (by omega)) rfl rfl rfl ?_;simp only [go_sem,simprocAttr,dtf];refine aH (aSe L (k+2) (by omega)) rfl rfl rfl ?_;simp only [go_sem,simprocAttr,dtf];refine aT [(0,some 0)] ?_;simp only [go_sem,simprocAttr,dtf];simp
 ·have e1 : ¬ (bN L k=1∨bN L k=3):=by omega
  have e2 : ¬ (bN L k=2∨bN L k=4):=by omega
  have e3 : ¬ bN L k=10:=by omega
  have ee:eB L k n=⟨bN L k,0,0,aB L (k+1) (n+1),Tz L (k+2),⟨0,0⟩,[], .lit (.slice none 0 0)⟩:=by unfold eB;rw [if_neg e1,if_neg e2,if_neg e3]
  have ek:Rm L k=k+3:=if_neg e1;have b1:(kd==1)=false:=by simpa using d1
  have b2:(kd==2)=false:=by simpa using d2
  have b3:(kd==3)=false:=by simpa using d3
  have b4:(kd==4)=false:=by simpa using d4
  have b10:(kd==10)=false:=by simpa using d10
  rw [ee,ek, ← hkd];refine kQ Tryz.X11 Tryz.func11 rfl Tryz.ntmps11 (by rw [Tryz.results11]) (dV fun hf=>aC _ ?_);simp only [go_sem,simprocAttr,dtf];refine aH (bD L k 10 (by omega) (by omega) (by omega)) rfl rfl rfl ?_;simp only [go_sem,simprocAttr,dtf,hkd1,b1,b2,b3,b4,b10,wrap64 (x:=n+1) (by omega) (by omega)];refine aH (bD L (k+1) (n+1) (by omega) (by omega) (by omega)) rfl rfl rfl ?_;simp only [go_sem,simprocAttr,dtf];refine aH (bD L (k+2) 11 (by omega) (by omega) (by omega)) rfl rfl rfl ?_;simp only [go_sem,simprocAttr,dtf,wrap64 (x:=aB L (k+2) 11 - 5) (by omega) (by omega)];refine ⟨fun h=>?_,fun h=>?_⟩
  ·have hb:Tz L (k+2)=6:=by unfold Tz;rw [if_pos (by simpa using h)]
   rw [hb];unfold awS;simp only [go_sem,simprocAttr,dtf];refine aT [(0,some 0)] ?_;simp only [go_sem,simprocAttr,dtf];simp
  ·have hb:Tz L (k+2)=aB L (k+2) 11 - 5:=by unfold Tz;rw [if_neg (by simpa using h)]
   rw [hb];unfold awS;simp only [go_sem,simprocAttr,dtf];refine aT [(0,some 0)] ?_;simp only [go_sem,simprocAttr,dtf];simp
def chgS (f g:ByteArray) (x:SourceR):SourceR:=if (x.kind==1&&x.name.toList==f.toList)=true then { x with name:=g } else x
def chgP (f g:ByteArray) (c:ClipR):Nat→ClipR
 | 0=>c
 | 1 => { c with a:=chgS f g c.a }
 | _ => { c with a:=chgS f g c.a,b:=chgS f g c.b }
open Go.RowKit
set_option maxRecDepth 4000
def chgC (f g:ByteArray) (c:ClipR):ClipR:=chgP f g c 2
def chgT (f g:ByteArray) (ts:List (List ClipR)):List (List ClipR):=ts.map fun t=>t.map (chgC f g)
def chgQ (f g:ByteArray) (s:SequenceR):SequenceR := { s with video:=chgT f g s.video,sound:=chgT f g s.sound }
def swapT (p:ProjR) (f g:ByteArray):ProjR:=⟨p.media,p.seqs.map (chgQ f g)⟩
open Go.RowKit
set_option maxRecDepth 4000
abbrev strP (s:ByteArray):V := .elem 1 [fZ s] [[fZ s]] 0 0
open Go.RowKit
set_option maxRecDepth 4000
def mixT {α : Type} (h : α → α) (l:List α) (i:Nat):List α := (l.take i).map h++l.drop i
def sameMed (a b:MediumR):Bool:=a.seq.rate.eqb b.seq.rate&&a.frames==b.frames&&a.channels==b.channels&&a.samples==b.samples
def swapP (p:ProjR) (f g:ByteArray):ProjR×Int :=
 if cK p≠0 then (⟨[],[]⟩,cK p) else
 match vG p.media f,vG p.media g with
 | some a,some b=>if sameMed a b=true then (swapT p f g,0) else (⟨[],[]⟩,1)
 | _,_=>(⟨[],[]⟩,7)
abbrev vswap (r:ProjR×Int):V := .tup [uV r.1,aA r.2]
open Go.RowKit
set_option maxRecDepth 4000
def spareN:ByteArray:=⟨#[115,112,97,114,101]⟩
theorem aNw:dS spareN=true:=of_decide_eq_true (by kernel_rfl)
theorem aKu:((List.range 9).all fun i=>(cX ⟨#[109]⟩ (i:Int)).toList != spareN.toList)=true:=by kernel_rfl
theorem aNx {i:Nat} (hi:i<9):cX ⟨#[109]⟩ (i:Int)≠spareN:=by
 have h1:=List.all_eq_true.1 aKu i (List.mem_range.2 hi);intro h;rw [h] at h1;simp at h1
structure SpareP (p:ProjR) (M N:Nat):Prop where
 m1 : 1≤M
 m3:M≤3
 n1 : 1≤N
 n3:N≤3
 hm:p.media.length=M+1
 hn:p.seqs.length=N
 med:∀ x,x<M→MedGood x (p.media.getD x default)
 sp:p.media.getD M default = { p.media.getD 0 default with name:=spareN }
 seq:∀ x,x<N→SeqGood M x (p.seqs.getD x default)
theorem SpareP.name {p:ProjR} {M N:Nat} (h:SpareP p M N) {x:Nat} (hx:x≤M):(p.media.getD x default).name=if x<M then cX ⟨#[109]⟩ (x:Int) else spareN:=by
 by_cases h1:x<M
 ·rw [if_pos h1];exact (h.med x h1).name
 ·have:x=M:=by omega
  subst this;rw [if_neg h1,h.sp]
theorem SpareP.mok {p:ProjR} {M N:Nat} (h:SpareP p M N) {x:Nat} (hx:x≤M):fF (p.media.getD x default)=true∧gC (p.media.getD x default)=true∧(p.media.getD x default).fit:=by
 by_cases h1:x<M
 ·have:=h.med x h1;exact ⟨this.ok,this.small,this.fit⟩
 ·have:x=M:=by omega
  subst this;have h0:=h.med 0 (by have:=h.m1;omega);rw [h.sp];have e:=h0.ok;unfold fF at e ⊢;simp only [Bool.and_eq_true] at e ⊢;exact ⟨⟨⟨⟨⟨⟨aNw,e.1.1.1.1.2⟩,e.1.1.1.2⟩,e.1.1.2⟩,e.1.2⟩,e.2⟩,h0.small,⟨h0.fit.seq,h0.fit.frames,h0.fit.channels,h0.fit.samples,h0.fit.cues⟩⟩
theorem SpareP.nm {p:ProjR} {M N:Nat} (h:SpareP p M N):(p.media.map MediumR.name).Nodup:=by
 have hm:=h.hm;have h3:=h.m3;refine List.pairwise_iff_getElem.2 fun i j hi hj hij e=>?_
 rw [List.length_map] at hi hj;simp only [List.getElem_map] at e;have e1:=h.name (x:=i) (by omega);have e2:=h.name (x:=j) (by omega);rw [aU hi] at e1;rw [aU hj] at e2;rw [e1,e2,if_pos (by omega)] at e
 by_cases hjM:j<M
 ·rw [if_pos hjM] at e;have:=Pg (by omega) (by omega) (.inl e);omega
 ·rw [if_neg hjM] at e;exact aNx (by omega) e
theorem SpareP.src {p:ProjR} {M N:Nat} (h:SpareP p M N) {j:Nat} (hj:j<N):∀ x∈gA (p.seqs.getD j default),SrcIn M j x:=fun x hx=>by
 unfold gA Hc at hx;obtain ⟨c,hc,hx⟩:=List.mem_flatMap.1 (List.mem_filter.1 hx).1;unfold dL at hc;obtain ⟨t,ht,hct⟩:=List.mem_flatten.1 hc;obtain ⟨g1,g2⟩:=(h.seq j hj).src t ht c hct;simp only [List.mem_cons,List.not_mem_nil,or_false] at hx;rcases hx with rfl | rfl<;>assumption
theorem SpareP.fit {p:ProjR} {M N:Nat} (h:SpareP p M N):p.fit:=by
 have hm:=h.hm;have hn:=h.hn;refine ⟨fun y hy=>?_,fun y hy=>?_⟩
 ·obtain ⟨i,hi,rfl⟩:=uP hy;exact (h.mok (by omega)).2.2
 ·obtain ⟨i,hi,rfl⟩:=uP hy;exact (h.seq i (by omega)).fit
theorem Du (L:List Int) : 1≤(dH L).media.length∧(dH L).media.length≤3∧1≤(dH L).seqs.length∧(dH L).seqs.length≤3:=by
 obtain ⟨M,N,m1,m3,s1,s3,h1,h2,h3,h4⟩:=qJ L;exact ⟨by omega,by omega,by omega,by omega⟩
def projSp (L:List Int):ProjR:=⟨(dH L).media ++ [{ (dH L).media.getD 0 default with name:=spareN }],(dH L).seqs⟩
def m0N:ByteArray:=⟨#[109,48]⟩
theorem aMq (L l:List Int) (k:Nat) (hk:k≤50000) (hl:(bP l k 3 3 6).1.length≤1000) :
  CIO Tryz.prog 10 1 [(0, .box [.t (bS l),aA k])] [.t (bS L), .own 0,aA 6] (.t (aM (kZ (dH L) (bP l k 3 3 6).1))) [(0, .box [.t (bS l),aA ((bP l k 3 3 6).2:Int)])] 1:=by
 obtain ⟨m1,m3,s1,s3⟩:=Du L;have cN:=aSr (dH L) (bP l k 3 3 6).1 (by omega) (by omega) hl;have cP:=Sm L;have cT:=Sg l k 3 3 6 (by omega) (by omega) (by omega) (by omega) (by omega);generalize (bP l k 3 3 6).1=A0 at *;generalize (bP l k 3 3 6).2=k2 at *;generalize dH L=P at *;refine kQ Tryz.X10 Tryz.func10 rfl Tryz.ntmps10 (by rw [Tryz.results10]) (aC _ ?_);simp only [go_sem,simprocAttr,dtf];refine ⟨_,cP,?_⟩;simp only [go_sem,simprocAttr,dtf];refine cQ cT [0] rfl (by omega) (by decide) ?_ rfl rfl rfl rfl ?_
 ·simp only [go_sem,simprocAttr,dtf]<;>rfl
 simp only [go_sem,simprocAttr,dtf,List.getElem?_nil];refine pK ?_;simp only [go_sem,simprocAttr,dtf];refine ⟨_,cN,?_⟩;simp only [go_sem,simprocAttr,dtf];refine aT [(0,some 0)] ?_;simp only [go_sem,simprocAttr,dtf];simp
theorem aLa (L:List Int):Layered (dH L):=by
 obtain ⟨M,N,m1,m3,s1,s3,h1,h2,h3,h4⟩:=qJ L;obtain ⟨p,hp⟩:∃ p,p=dH L:=⟨_,rfl⟩
 rw [← hp] at h1 h2 h3 h4 ⊢;have src:∀ j,j<N → ∀ x∈gA (p.seqs.getD j default),SrcIn M j x:=fun j hj x hx=>by
  unfold gA Hc at hx;obtain ⟨c,hc,hx⟩:=List.mem_flatMap.1 (List.mem_filter.1 hx).1;unfold dL at hc;obtain ⟨t,ht,hct⟩:=List.mem_flatten.1 hc;obtain ⟨g1,g2⟩:=(h4 j hj).src t ht c hct;simp only [List.mem_cons,List.not_mem_nil,or_false] at hx;rcases hx with rfl | rfl<;>assumption
 refine ⟨?_,?_,?_,?_,by omega,fun j hj x hx k1=>?_,fun j hj x hx k2=>?_⟩
 ·unfold dQ;rw [decide_eq_true (by omega:(p.media.length:Int)≤16),decide_eq_true (by omega:(p.seqs.length:Int)≤16),cU (d:=default) (p:=gC) (fun i hi=>(h3 i (by omega)).small),cU (d:=default) (p:=dY) (fun i hi=>(h4 i (by omega)).small)];rfl
 ·rw [cU (d:=default) (p:=fF) (fun i hi=>(h3 i (by omega)).ok),cU (d:=default) (p:=eK) (fun i hi=>(h4 i (by omega)).ok)];rfl
 ·refine List.pairwise_iff_getElem.2 fun i j hi hj hij e=>?_
  rw [List.length_map] at hi hj;simp only [List.getElem_map] at e;have e1:=(h3 i (by omega)).name;have e2:=(h3 j (by omega)).name;rw [aU hi] at e1;rw [aU hj] at e2;rw [e1,e2] at e;have:=Pg (by omega) (by omega) (.inl e);omega
 ·refine List.pairwise_iff_getElem.2 fun i j hi hj hij e=>?_
  rw [List.length_map] at hi hj;simp only [List.getElem_map] at e;have e1:=(h4 i (by omega)).name;have e2:=(h4 j (by omega)).name;rw [aU hi] at e1;rw [aU hj] at e2;rw [e1,e2] at e;have:=Pg (by omega) (by omega) (.inr e);omega
 ·obtain ⟨i,hi,hnm⟩:=(src j (by omega) x hx).m1 k1;exact ⟨i,by omega,by rw [hnm,(h3 i (by omega)).name]⟩
 ·obtain ⟨i,hi,hnm⟩:=(src j (by omega) x hx).s2 k2;exact ⟨i,by omega,by rw [hnm,(h4 i (by omega)).name]⟩
abbrev cutN:ByteArray:=⟨#[99,117,116]⟩
theorem cutN_ok:dS cutN=true:=of_decide_eq_true (by kernel_rfl)
theorem aS1:((List.range 9).all fun i=>(cX ⟨#[115]⟩ (i:Int)).toList != cutN.toList)=true:=by kernel_rfl
theorem cutN_ne {i:Nat} (hi:i<9):cX ⟨#[115]⟩ (i:Int)≠cutN:=by
 have h1:=List.all_eq_true.1 aS1 i (List.mem_range.2 hi);intro h;rw [h] at h1;simp at h1
theorem aRz (L:List Int) {t:List ClipR} (h:TrkP (dH L) t):SeqIn (dH L) cutN [t]:=by
 obtain ⟨M,N,m1,m3,s1,s3,h1,h2,h3,h4⟩:=qJ L;refine ⟨cutN_ok,fun q hq e=>?_,by simp,fun x hx=>?_⟩
 ·obtain ⟨i,hi,rfl⟩:=uP hq;rw [(h4 i (by omega)).name] at e;exact cutN_ne (by omega) e
 ·rw [List.mem_singleton] at hx;rw [hx];exact h
theorem aMr (L:List Int) (t:List ClipR):aK Tryz.prog 52 [.t (bS L), .t (aM t)] (uV (tA (dH L) (rB cutN [t]))):=by
 obtain ⟨m1,m3,s1,s3⟩:=Du L;have cP:=Sm L;generalize dH L=P at *;refine eD Tryz.X52 Tryz.func52 rfl Tryz.ntmps52 (by rw [Tryz.results52]) (aC _ ?_);simp only [go_sem,simprocAttr,dtf];refine ⟨_,cP,?_⟩;simp only [go_sem,simprocAttr,dtf];refine ⟨⟨by unfold maxLen;omega,by omega⟩,⟨by unfold maxLen;omega,by omega⟩,?_⟩;refine yC (r' := .agg [.t (Fj P.media), .t (.list 9 (zSeqV.map fun v=>match v with | .t t=>t | _=>default) (P.seqs.map SequenceR.c ++ [[fZ cutN,ti 25,ti 1,ti 16,ti 16, .list 1 [.lit (.slice none 0 0)] [[aM t]], .lit (.slice none 0 0), .lit (.slice none 0 0),ti 0]]))]) ?_ rfl ?_
 ·simp only [go_sem,simprocAttr,dtf]<;>rfl
 ·refine Gw ⟨dN,aGb ?_,trivial⟩;have e:(tA P (rB cutN [t])).seqs.map SequenceR.c=P.seqs.map SequenceR.c ++ [SequenceR.c (rB cutN [t])]:=by
   unfold tA;rw [List.map_append];rfl
  unfold Un;rw [e];refine Qm (aR2 (by exact ⟨fD,fD,fD,fD,fD,Qm (by exact ⟨⟨fD,trivial⟩,trivial⟩),Ks,Ks,fD,trivial⟩) _)
theorem aRk (L:List Int) {t:List ClipR} (h:TrkP (dH L) t) (n:Nat) (hn:n≤65536) :
  En (tA (dH L) (rB cutN [t])) cutN 0 n=(Fg (dH L) [t] n,0):=by
 have hin:=aRz L h;have hsz:=Du L;have hv:=Ts (lay_add (aLa L) hin (by omega));have hs:bZ (tA (dH L) (rB cutN [t])).seqs cutN=some (rB cutN [t]):=by
  unfold tA;simp only;rw [Fs];exact if_pos rfl
 unfold En;rw [hv,hs];simp only [ne_eq,not_true_eq_false,if_false];rw [if_neg (by omega),if_neg (by omega),Int.toNat_natCast];congr 1;unfold aD4 Fg;refine List.map_congr_left fun k hk=>?_
 rw [List.mem_range] at hk;have hlt:Qd 0 k=false:=by unfold Qd;rw [decide_eq_false_iff_not];omega
 rw [hlt,if_neg (by decide),Int.zero_add];exact aRj (Gh (Vq L) (aBx L)) hin.fresh (fun x hx=>aKm (hin.trk x hx)) k
theorem Sh (L:List Int) {t:List ClipR} (h:TrkP (dH L) t) (n:Nat) (hn:n≤65536) :
  aK Tryz.prog 15 [.t (bS L), .t (aM t),aA 0,aA n] (.tup [.t (jM (Fg (dH L) [t] n)),aX true]):=by
 have cS:=aMr L t;have cD:=cDFilm (tA (dH L) (rB cutN [t])) (fit_add (Vq L) (aRz L h)) cutN 0 n ⟨by decide,by decide⟩;rw [aRk L h n hn] at cD;have hl:=aAp (dH L) [t] n;generalize Fg (dH L) [t] n=Q at *;generalize tA (dH L) (rB cutN [t])=P at *;refine aG Tryz.X15 Tryz.func15 rfl Tryz.ntmps15 (by rw [Tryz.results15]) (aC _ ?_);simp only [go_sem,simprocAttr,dtf];refine ⟨_,cS,?_⟩;simp only [go_sem,simprocAttr,dtf];refine ⟨_,cD,?_⟩;simp only [go_sem,simprocAttr,dtf,hl]
theorem aMs (Q:List ExprR) (hq:Q.length≤100000):aK Tryz.prog 16 [.t (jM Q), .t (jM Q)] (aX true):=by
 refine aG Tryz.X16 Tryz.func16 rfl Tryz.ntmps16 (by rw [Tryz.results16]) (aC _ ?_);simp only [go_sem,simprocAttr,dtf];refine aJ (fun (k:Nat) σ => dW 5 (aA k) (dD [11,12,13,14,15,16,17,18,19,20,21,22,23,24,25,26] (eH σ))) (fun k=>k≤Q.length) (fun k=>Q.length - k) 0 (aE ?_) (Nat.zero_le _) ?_
 ·simp only [go_sem,simprocAttr,dtf]<;>simp
 ·intro k hk;refine aC _ ?_;simp only [go_sem,simprocAttr,dtf];refine ⟨fun hlt=>?_,fun hge=>?_⟩
  ·simp only [bxx] at hlt;have hkl:k<Q.length:=by omega
   have hs:=aSh (Q.getD k default) (Q.getD k default);rw [Kv.2 rfl] at hs;have hwk:IntKind.i64.wrap ((k:Int)+1)=((k+1:Nat):Int):=by rw [dC (by omega)];omega
   have hnx:∀ d,nth d (Q.map ExprR.c) k=ExprR.c (Q.getD k default):=fun d=>Pc d hkl
   generalize Q.getD k default=x at hs hnx;rcases x with ⟨op,media,frame,num,den,param,text,args⟩;simp only [ExprR.c,qT] at hnx;unfold awS;simp only [go_sem,simprocAttr,dtf];refine aQ 10 .done rfl (by kernel_rfl) (by kernel_rfl) (by decide) ?_;simp only [go_sem,simprocAttr,dtf,hnx];refine ⟨⟨by omega,by omega⟩,⟨by omega,by omega⟩,_,hs,?_⟩;simp only [go_sem,simprocAttr,dtf];refine ⟨by kernel_rfl,k+1,aE ?_,by omega,by omega⟩;simp only [go_sem,simprocAttr,dtf,hwk]
  ·simp only [bxx] at hge;unfold awS;simp only [go_sem,simprocAttr,dtf]
theorem Zw {N:List ClipR} {q:Nat} (hq:q<N.length) (c':ClipR):fr (N.set q c')=fr (N.take q)++(frC c'++fr (N.drop (q+1))):=by
 rw [List.set_eq_take_append_cons_drop,if_pos hq,mP,fX]
theorem aD1 {N:List ClipR} {q:Nat} (hq:q<N.length):fr N=fr (N.take q)++(frC (N.getD q default)++fr (N.drop (q+1))):=by
 conv=>lhs;rw [← List.take_append_drop q N]
 rw [mP,List.drop_eq_getElem_cons hq,fX,aU hq]
theorem Zx {N:List ClipR} {q:Nat} (hq:q<N.length):fr (N.drop q)=frC (N.getD q default)++fr (N.drop (q+1)):=by
 rw [List.drop_eq_getElem_cons hq,fX,aU hq]
theorem Xu {c:ClipR} {b:Int} (h1 : 1≤c.len) (hb : 0<b):∃ X,frC (kK c b)=frC c++X∧(X.length:Int)=b:=by
 have h2:=Qu (kK c b) c.len (by show c.len≤c.len+b;omega);have h3:({ kK c b with len:=c.len }:ClipR)=c:=rfl;rw [h3] at h2;refine ⟨(frC (kK c b)).drop c.len.toNat,by rw [h2,List.take_append_drop],?_⟩;rw [List.length_drop,fA];show (((c.len+b).toNat - c.len.toNat:Nat):Int)=b
 omega
theorem Xv {c:ClipR} {b:Int} (h1 : 1≤c.len+b) (hb:b<0):∃ X,frC c=frC (kK c b)++X∧(X.length:Int) = -b:=by
 have h2:frC (kK c b)=(frC c).take (c.len+b).toNat:=Qu c (c.len+b) (by omega);refine ⟨(frC c).drop (c.len+b).toNat,by rw [h2,List.take_append_drop],?_⟩;rw [List.length_drop,fA];omega
theorem Lf {c:ClipR} {b:Int} (hv:aN c=true) (hb : 0<b) (h1:b<c.len):∃ X,frC c=X++frC (cV c b)∧(X.length:Int)=b:=by
 have h2:=Qv hv (o:=b) (by omega) (by omega);refine ⟨(frC c).take b.toNat,by rw [h2,List.take_append_drop],?_⟩;rw [List.length_take,fA];omega
theorem aAb {c:ClipR} {b:Int} (hv:aN c=true) (hb:b<0) (hv2:aN (cV c b)=true):∃ X,frC (cV c b)=X++frC c∧(X.length:Int) = -b:=by
 have h0:=aL hv;have e:cV (cV c b) (-b)=c:=by rw [aDy hv,show b + -b=0 by omega,Gx hv]
 have hl:(cV c b).len=c.len - b:=rfl;obtain ⟨X,h1,h2⟩:=Lf hv2 (b := -b) (by omega) (by omega);rw [e] at h1;exact ⟨X,h1,h2⟩
structure UShape (F G:List ClipR) (A E uk:Int):Prop where
 lt:A<E
 ex:∃ P Y Z S,G=P++(Y++S)∧F=P++(Z++S)∧(P.length:Int)=A∧((uk=2∧Z = []∧(Y.length:Int)=E - A)∨(uk=1∧Y = []∧(Z.length:Int)=E - A)∨(uk=3∧(Y.length:Int)=E - A∧(Z.length:Int)=E - A))
theorem qR {N:List ClipR} (h:∀ c∈N,aN c=true) (q:Nat):((fr (N.take q)).length:Int)=totL (N.take q):=wW fun c hc=>(aL (h c (List.mem_of_mem_take hc))).1
theorem aAa {N:List ClipR} {q:Nat} {c:ClipR} (hq:q<N.length) (h:(N.set q c).all aN=true):aN c=true:=by
 have:=List.all_eq_true.1 h c (List.mem_iff_getElem.2 ⟨q,by rw [List.length_set];exact hq,by simp⟩);exact this
section
variable {N:List ClipR} (hv:∀ c∈N,aN c=true) {q:Nat}
include hv
theorem shape5 (hq:q<N.length) {b:Int} (hb:b≠0) (ha:(N.set q (kK (N.getD q default) b)).all aN=true) :
  UShape (fr N) (fr (N.set q (kK (N.getD q default) b))) (min (totL (N.take q)+(N.getD q default).len) (totL (N.take q)+(N.getD q default).len+b)) (max (totL (N.take q)+(N.getD q default).len) (totL (N.take q)+(N.getD q default).len+b)) (if decide (b > 0)=true then 2 else 1):=by
 have hT:=qR hv q;have h1:=hv _ (aP (d:=default) hq);have h2:=aAa hq ha;rw [Zw hq,aD1 hq];generalize N.getD q default=c at *;have l1:=aL h1;have l2 : 1≤c.len+b:=(aL h2).1;refine ⟨by omega,?_⟩
 by_cases h : 0<b
 ·obtain ⟨X,e1,e2⟩:=Xu l1.1 h;refine ⟨fr (N.take q)++frC c,X,[],fr (N.drop (q+1)),by rw [e1];simp only [List.append_assoc],by simp only [List.append_assoc,List.nil_append],?_, .inl ⟨by rw [decide_eq_true h,if_pos rfl],rfl,by omega⟩⟩;rw [List.length_append,fA];omega
 ·obtain ⟨X,e1,e2⟩:=Xv l2 (by omega);refine ⟨fr (N.take q)++frC (kK c b),[],X,fr (N.drop (q+1)),by simp only [List.append_assoc,List.nil_append],by rw [e1];simp only [List.append_assoc],?_, .inr (.inl ⟨by rw [decide_eq_false h];rfl,rfl,by omega⟩)⟩;rw [List.length_append,fA];show (((fr (N.take q)).length+(c.len+b).toNat:Nat):Int)=_
  omega
theorem shape6 (hq:q<N.length) {b:Int} (hb:b≠0) (ha:(N.set q (cV (N.getD q default) b)).all aN=true) :
  UShape (fr N) (fr (N.set q (cV (N.getD q default) b))) (totL (N.take q)) (totL (N.take q)+max b (-b)) (if decide (b<0)=true then 2 else 1):=by
 have hT:=qR hv q;have h1:=hv _ (aP (d:=default) hq);have h2:=aAa hq ha;rw [Zw hq,aD1 hq];generalize N.getD q default=c at *;have l1:=aL h1;have l2 : 1≤c.len - b:=(aL h2).1;refine ⟨by omega,?_⟩
 by_cases h:b<0
 ·obtain ⟨X,e1,e2⟩:=aAb h1 h h2;exact ⟨fr (N.take q),X,[],frC c++fr (N.drop (q+1)),by rw [e1];simp only [List.append_assoc],by simp only [List.nil_append],hT, .inl ⟨by rw [decide_eq_true h,if_pos rfl],rfl,by omega⟩⟩
 ·obtain ⟨X,e1,e2⟩:=Lf h1 (show 0<b by omega) (by omega);exact ⟨fr (N.take q),[],X,frC (cV c b)++fr (N.drop (q+1)),by simp only [List.nil_append],by rw [e1];simp only [List.append_assoc],hT, .inr (.inl ⟨by rw [decide_eq_false h];rfl,rfl,by omega⟩)⟩
theorem aP0 (hq:q<N.length) {c':ClipR} (hl:c'.len=(N.getD q default).len):UShape (fr N) (fr (N.set q c')) (totL (N.take q)) (totL (N.take q)+(N.getD q default).len) 3:=by
 have hT:=qR hv q;have h1:=hv _ (aP (d:=default) hq);rw [Zw hq,aD1 hq];generalize N.getD q default=c at *;have l1:=aL h1;refine ⟨by omega,fr (N.take q),frC c',frC c,fr (N.drop (q+1)),rfl,rfl,hT, .inr (.inr ⟨rfl,?_,?_⟩)⟩
 ·rw [fA,hl];omega
 ·rw [fA];omega
theorem Ms {c' d':ClipR} {i j:Nat} (hij:i<j) (hj:j<N.length):fr ((N.set i c').set j d')=fr (N.take i)++(frC c'++(fr ((N.drop (i+1)).take (j - (i+1)))++(frC d'++fr (N.drop (j+1))))):=by
 have hi:i<N.length:=by omega
 rw [List.set_eq_take_append_cons_drop (l:=N),if_pos hi,List.set_append_right _ _ (by rw [List.length_take];omega),List.length_take,Nat.min_eq_left (by omega)];obtain ⟨m,hm⟩:∃ m,j - i=m+1:=⟨j - i - 1,by omega⟩
 rw [hm,List.set_cons_succ,show j - (i+1)=m by omega,mP,fX,Zw (by rw [List.length_drop];omega),List.drop_drop,show i+1+(m+1)=j+1 by omega]
theorem Tc {c' d':ClipR} {i j:Nat} (hij:i<j) (hj:j<N.length) (h:((N.set i c').set j d').all aN=true):aN c'=true∧aN d'=true:=by
 have h1:=List.all_eq_true.1 h;refine ⟨h1 c' (List.mem_iff_getElem.2 ⟨i,by rw [List.length_set,List.length_set];omega,?_⟩),h1 d' (List.mem_iff_getElem.2 ⟨j,by rw [List.length_set,List.length_set];exact hj,by simp⟩)⟩;rw [List.getElem_set_ne (by omega),List.getElem_set_self]
theorem shape7 (hq:q+1<N.length) {b:Int} (hb:b≠0) (ha:((N.set q (kK (N.getD q default) b)).set (q+1) (cV (N.getD (q+1) default) b)).all aN=true) :
  UShape (fr N) (fr ((N.set q (kK (N.getD q default) b)).set (q+1) (cV (N.getD (q+1) default) b))) (min (totL (N.take q)+(N.getD q default).len) (totL (N.take q)+(N.getD q default).len+b)) (max (totL (N.take q)+(N.getD q default).len) (totL (N.take q)+(N.getD q default).len+b)) 3:=by
 have hq0:q<N.length:=by omega
 have hT:=qR hv q;have h1:=hv _ (aP (d:=default) hq0);have hd:=hv _ (aP (d:=default) hq);obtain ⟨h2,hd2⟩:=Tc hv (Nat.lt_succ_self q) hq ha;rw [Ms hv (Nat.lt_succ_self q) hq,aD1 hq0,Zx hq,show q+1 - (q+1)=0 by omega,List.take_zero,show fr ([]:List ClipR) = [] from rfl,List.nil_append];generalize N.getD q default=c at *;generalize N.getD (q+1) default=d at *;have l1:=aL h1;have l2 : 1≤c.len+b:=(aL h2).1;have l3 : 1≤d.len - b:=(aL hd2).1;refine ⟨by omega,?_⟩
 by_cases h : 0<b
 ·obtain ⟨X,e1,e2⟩:=Xu l1.1 h;obtain ⟨Y,f1,f2⟩:=Lf hd h (by omega);refine ⟨fr (N.take q)++frC c,X,Y,frC (cV d b)++fr (N.drop (q+1+1)),by rw [e1];simp only [List.append_assoc],by rw [f1];simp only [List.append_assoc],?_, .inr (.inr ⟨rfl,by omega,by omega⟩)⟩;rw [List.length_append,fA];omega
 ·obtain ⟨X,e1,e2⟩:=Xv l2 (by omega);obtain ⟨Y,f1,f2⟩:=aAb hd (show b<0 by omega) hd2;refine ⟨fr (N.take q)++frC (kK c b),Y,X,frC d++fr (N.drop (q+1+1)),by rw [f1];simp only [List.append_assoc],by rw [e1];simp only [List.append_assoc],?_, .inr (.inr ⟨rfl,by omega,by omega⟩)⟩;rw [List.length_append,fA];show (((fr (N.take q)).length+(c.len+b).toNat:Nat):Int)=_
  omega
theorem shape9 (hq:q+2<N.length) {b:Int} (hb:b≠0) (ha:((N.set q (kK (N.getD q default) b)).set (q+2) (cV (N.getD (q+2) default) b)).all aN=true) :
  UShape (fr N) (fr ((N.set q (kK (N.getD q default) b)).set (q+2) (cV (N.getD (q+2) default) b))) (min (totL (N.take (q+1))) (totL (N.take (q+1))+b)) (max (totL (N.take (q+1))+(N.getD (q+1) default).len) (totL (N.take (q+1))+(N.getD (q+1) default).len+b)) 3:=by
 have hq0:q<N.length:=by omega
 have hq1:q+1<N.length:=by omega
 have hT:=qR hv q;have h1:=hv _ (aP (d:=default) hq0);have hm:=hv _ (aP (d:=default) hq1);have hd:=hv _ (aP (d:=default) hq);obtain ⟨h2,hd2⟩:=Tc hv (show q<q+2 by omega) hq ha;rw [Ms hv (show q<q+2 by omega) hq,aD1 hq0,Zx hq1,Zx hq,show q+2 - (q+1)=1 by omega,dU N q hq0];have hmid:fr ((N.drop (q+1)).take 1)=frC (N.getD (q+1) default):=by
  rw [List.drop_eq_getElem_cons hq1,List.take_succ_cons,List.take_zero,fX,aU hq1];simp [fr]
 rw [hmid];generalize N.getD q default=c at *;generalize N.getD (q+1) default=m at *;generalize N.getD (q+2) default=d at *;have l1:=aL h1;have l2 : 1≤c.len+b:=(aL h2).1;have l3 : 1≤d.len - b:=(aL hd2).1;have lm:=aL hm;have hml:=fA m;refine ⟨by omega,?_⟩
 by_cases h : 0<b
 ·obtain ⟨X,e1,e2⟩:=Xu l1.1 h;obtain ⟨Y,f1,f2⟩:=Lf hd h (by omega);refine ⟨fr (N.take q)++frC c,X++frC m,frC m++Y,frC (cV d b)++fr (N.drop (q+2+1)),by rw [e1];simp only [List.append_assoc],by rw [f1];simp only [List.append_assoc],?_, .inr (.inr ⟨rfl,?_,?_⟩)⟩
  ·rw [List.length_append,fA];omega
  ·rw [List.length_append,hml];omega
  ·rw [List.length_append,hml];omega
 ·obtain ⟨X,e1,e2⟩:=Xv l2 (by omega);obtain ⟨Y,f1,f2⟩:=aAb hd (show b<0 by omega) hd2;refine ⟨fr (N.take q)++frC (kK c b),frC m++Y,X++frC m,frC d++fr (N.drop (q+2+1)),by rw [f1];simp only [List.append_assoc],by rw [e1];simp only [List.append_assoc],?_, .inr (.inr ⟨rfl,?_,?_⟩)⟩
  ·rw [List.length_append,fA];show (((fr (N.take q)).length+(c.len+b).toNat:Nat):Int)=_
   omega
  ·rw [List.length_append,hml];omega
  ·rw [List.length_append,hml];omega
end
theorem wD {s:SourceR} (hv:aY s=true) (hs:rW s) {n:Int} (hn:n.natAbs≤100000):bU (aR s n)=true:=by
 cases hb:s.isZ with
 | true=>rw [sK hb];unfold bU;rw [hb];rfl
 | false =>
  obtain ⟨p,d,ok⟩:=jN hv hb;have hsm:s.pos.num.natAbs≤1000000∧s.speed.num.natAbs≤1000000:=by
   rcases hs with h | h
   ·rw [hb] at h;cases h
   ·exact h
  have hms:aR s n = { s with pos:=ofQ (bM s n) }:=by unfold aR;rw [hb];rfl
  obtain ⟨q1,q2⟩:=yJ ok n;have hL : 0<Nat.lcm p d:=Nat.lcm_pos ok.p1 ok.d1;have hN:(Dx s n p d).natAbs≤1099511627776*Nat.lcm p d:=by
   unfold Dx;have b1:(s.pos.num*((Nat.lcm p d / p:Nat):Int)).natAbs≤1000000*Nat.lcm p d:=by
    rw [Int.natAbs_mul,Int.natAbs_natCast];exact Nat.mul_le_mul hsm.1 (Nat.div_le_self _ _)
   have b2:(n*s.speed.num*((Nat.lcm p d / d:Nat):Int)).natAbs≤100000*1000000*Nat.lcm p d:=by
    rw [Int.natAbs_mul,Int.natAbs_natCast,Int.natAbs_mul];exact Nat.mul_le_mul (Nat.mul_le_mul hn hsm.2) (Nat.div_le_self _ _)
   have b3:=Int.natAbs_add_le (s.pos.num*((Nat.lcm p d / p:Nat):Int)) (n*s.speed.num*((Nat.lcm p d / d:Nat):Int));omega
  have hh:((bM s n).num.natAbs:Int)≤1099511627776*((bM s n).den:Int):=by
   rw [q1,q2];generalize Dx s n p d=N at *;generalize Nat.lcm p d=L at *;have hg0 : 0<Nat.gcd N.natAbs L:=Nat.gcd_pos_of_pos_right _ hL;obtain ⟨L',hL'⟩:=Nat.gcd_dvd_right N.natAbs L;obtain ⟨N',hN'⟩:((Nat.gcd N.natAbs L:Nat):Int) ∣ N:=Int.ofNat_dvd_left.2 (Nat.gcd_dvd_left N.natAbs L);generalize Nat.gcd N.natAbs L=g at *;have e1:N / (g:Int)=N':=by rw [hN'];exact Int.mul_ediv_cancel_left _ (by omega)
   have e2:L / g=L':=by rw [hL'];exact Nat.mul_div_cancel_left _ hg0
   rw [e1,e2];have h1:g*N'.natAbs≤g*(1099511627776*L'):=by
    have:N.natAbs=g*N'.natAbs:=by rw [hN',Int.natAbs_mul,Int.natAbs_natCast]
    rw [← this]
    calc N.natAbs≤1099511627776*L:=hN
     _=g*(1099511627776*L'):=by rw [hL',Nat.mul_left_comm]
   have h2:=Nat.le_of_mul_le_mul_left h1 hg0;omega
  unfold bU;rw [hms,Bool.or_eq_true];right;unfold kH;exact decide_eq_true hh
theorem vN {c:ClipR} (hv:aN c=true) (hf:c.fit) (ha:rW c.a) (hb:rW c.b):Gd 90000 c:=by
 obtain ⟨v1,v2,v3,v4,v5,v6,v7,v8⟩:=bF hv;exact ⟨hv,hf,fun k k0 k1=>⟨wD v6 ha (by omega),wD v7 hb (by omega)⟩⟩
theorem Qr {c c':ClipR} (hv:aN c=true) (ha:rW c.a) (hb:rW c.b) {b:Int} (h100:b.natAbs≤100) (hv':aN c'=true) (hf':c'.fit) (ea:c'.a=aR c.a b) (eb:c'.b=aR c.b b):Gd 90000 c':=by
 obtain ⟨v1,v2,v3,v4,v5,v6,v7,v8⟩:=bF hv;refine ⟨hv',hf',fun k k0 k1=>?_⟩;rw [ea,eb,jQ v6,jQ v7];exact ⟨wD v6 ha (by omega),wD v7 hb (by omega)⟩
theorem Df {c:ClipR} (h:c.fit) (hv:aN c=true) {b:Int} (hb:b.natAbs≤100):(kK c b).fit:=by
 have:=aL hv;exact ⟨⟨by show _≤c.len+b;omega,by show c.len+b≤_;omega⟩,h.kind,h.a,h.b,h.off,h.total,h.param,h.gain⟩
theorem Uy {c:ClipR} (h:c.fit) (hv:aN c=true) {b:Int} (hb:b.natAbs≤100):(nV c b).fit:=by
 obtain ⟨v1,v2,v3,v4,v5,v6,v7,v8⟩:=bF hv;exact ⟨h.len,h.kind,(gG h.a v6 (by omega)).1,(gG h.b v7 (by omega)).1,h.off,h.total,h.param,h.gain⟩
theorem Aw {c:ClipR} (h:c.fit) (hv:aN c=true) {n:Int} (hn:n.natAbs≤100):(cV c n).fit:=by
 obtain ⟨v1,v2,v3,v4,v5,v6,v7,v8⟩:=bF hv;refine ⟨⟨by show _≤c.len - n;omega,by show c.len - n≤_;omega⟩,h.kind,(gG h.a v6 (by omega)).1,(gG h.b v7 (by omega)).1,?_,h.total,h.param,h.gain⟩;show I64 (if shK c.kind=true then c.off+n else c.off)
 split
 ·rename_i hs;have:=rN hv hs;exact ⟨by omega,by omega⟩
 ·exact h.off
theorem Mk {c:ClipR} (h:c.fit) {sp:RatR} (hs:sp.fit):(Fq c sp).fit:=⟨h.len,h.kind,⟨h.a.kind,h.a.pos,hs⟩,h.b,h.off,h.total,h.param,h.gain⟩
theorem aMj {p:ProjR} {c:ClipR} (h:CliP p c) (k:Int):CliP p (nV c k):=⟨h.sil,vX h.a k,vX h.b k⟩
theorem aDj {p:ProjR} {c:ClipR} (h:CliP p c) (k:Int):CliP p (kK c k):=⟨h.sil,h.a,h.b⟩
theorem aFx {p:ProjR} {c:ClipR} (h:CliP p c) (sp:RatR):CliP p (Fq c sp):=⟨h.sil,⟨h.a.m1,h.a.s2⟩,h.b⟩
def atF (F:List ClipR) (i:Nat):ClipR:=(F[i]?).getD (mA 1)
theorem Sz (F G:List ClipR) {i:Nat} (h:i<F.length):atF (F++G) i=atF F i:=by
 unfold atF;rw [List.getElem?_append_left h]
theorem pS (F G:List ClipR) {i:Nat} (h:F.length≤i):atF (F++G) i=atF G (i - F.length):=by
 unfold atF;rw [List.getElem?_append_right h]
theorem aTd {F:List ClipR} {i:Nat} (h:F.length≤i):atF F i=mA 1:=by
 unfold atF;rw [List.getElem?_eq_none h];rfl
theorem atF_rep (n i:Nat):atF (List.replicate n (mA 1)) i=mA 1:=by
 unfold atF;rw [List.getElem?_replicate];split<;>rfl
theorem aK2 (F:List ClipR) (n i:Nat):atF (F++List.replicate n (mA 1)) i=atF F i:=by
 rcases Nat.lt_or_ge i F.length with h | h
 ·exact Sz _ _ h
 ·rw [pS _ _ h,atF_rep,aTd h]
theorem aTe (F:List ClipR) (r i:Nat):atF (F.drop r) i=atF F (r+i):=by
 unfold atF;rw [List.getElem?_drop]
theorem Lb (F:List ClipR) {a n i:Nat} (h:i<n):atF (tE F a n) i=atF F (a+i):=by
 unfold tE;rw [aK2];unfold atF;rw [List.getElem?_take_of_lt h,List.getElem?_drop]
theorem aCz (p:ProjR) (F:List ClipR) (k:Nat):aM3 p F (k:Int)=frE p (atF F k):=by
 rw [frsE_at];unfold atF;cases F[k]? with
 | none=>exact (frE_gap p).symm
 | some x=>rfl
theorem aRb {p:ProjR} {F G:List ClipR} (h:∀ i,atF F i=atF G i) (n:Nat):Zv p F n=Zv p G n:=by
 unfold Zv;exact List.map_congr_left fun k _=>by rw [aCz,aCz,h]
theorem aS2 {F G:List ClipR} (h:∀ i,atF F i=atF G i):F=tE G 0 F.length:=by
 refine List.ext_getElem? fun i=>?_
 rcases Nat.lt_or_ge i F.length with hi | hi
 ·have h1:=h i;have h2:=Lb G (a:=0) hi;rw [Nat.zero_add, ← h1] at h2;unfold atF at h2;rw [List.getElem?_eq_getElem hi,List.getElem?_eq_getElem (by rw [gU];exact hi)] at h2 ⊢;simp only [Option.getD_some] at h2;rw [h2]
 ·rw [List.getElem?_eq_none hi,List.getElem?_eq_none (by rw [gU];exact hi)]
structure UAt (F G:List ClipR) (a e:Nat) (uk:Int):Prop where
 lt:a<e
 lo:∀ i,i<a→atF G i=atF F i
 hi:(uk=2 ∧ ∀ i,a≤i→atF G (i+(e - a))=atF F i)∨(uk=1 ∧ ∀ i,e≤i→atF G (i - (e - a))=atF F i)∨(uk=3 ∧ ∀ i,e≤i→atF G i=atF F i)
theorem Uj {F G:List ClipR} {A E uk:Int} (h:UShape F G A E uk) : 0≤A∧UAt F G A.toNat E.toNat uk:=by
 obtain ⟨hlt,P,Y,Z,S,rfl,rfl,h3,h4⟩:=h;refine ⟨by omega,by omega,fun i hi=>?_,?_⟩
 ·rw [Sz _ _ (by omega),Sz _ _ (by omega)]
 ·rcases h4 with ⟨h4,rfl,h5⟩ | ⟨h4,rfl,h5⟩ | ⟨h4,h5,h6⟩
  ·refine .inl ⟨h4,fun i hi=>?_⟩;rw [List.nil_append,pS _ _ (by omega),pS _ _ (by omega),pS _ _ (by omega)];congr 1;omega
  ·refine .inr (.inl ⟨h4,fun i hi=>?_⟩);rw [List.nil_append,pS _ _ (by omega),pS _ _ (by omega),pS _ _ (by omega)];congr 1;omega
  ·refine .inr (.inr ⟨h4,fun i hi=>?_⟩);rw [pS _ _ (by omega),pS _ _ (by omega),pS _ _ (by omega),pS _ _ (by omega)];congr 1;omega
theorem jX (F C:List ClipR) (a r i:Nat):atF (tE F 0 a++C++F.drop r) i=if i<a then atF F i else if i<a+C.length then atF C (i - a) else atF F (i - (a+C.length)+r):=by
 have hl:=gU F 0 a
 by_cases h1:i<a
 ·rw [if_pos h1,List.append_assoc,Sz _ _ (by omega),Lb _ h1,Nat.zero_add]
 ·rw [if_neg h1]
  by_cases h2:i<a+C.length
  ·rw [if_pos h2,List.append_assoc,pS _ _ (by omega),Sz _ _ (by omega),hl]
  ·rw [if_neg h2,pS _ _ (by rw [List.length_append];omega),aTe,List.length_append,hl];congr 1;omega
theorem aTc {F G:List ClipR} {a e:Nat} {uk:Int} (h:UAt F G a e uk) :
  (uk=2 ∧ ∀ i,atF (tE G 0 a ++ []++G.drop e) i=atF F i)∨(uk=1 ∧ ∀ i,atF (tE G 0 a++tE F a (e - a)++G.drop a) i=atF F i)∨(uk=3 ∧ ∀ i,atF (tE G 0 a++tE F a (e - a)++G.drop e) i=atF F i):=by
 have hlt:=h.lt;have hcl:=gU F a (e - a);rcases h.hi with ⟨h1,h2⟩ | ⟨h1,h2⟩ | ⟨h1,h2⟩
 ·refine .inl ⟨h1,fun i=>?_⟩;rw [jX];split
  ·exact h.lo i (by assumption)
  ·rw [if_neg (by simp;omega)];rw [← h2 i (by omega)];congr 1;simp;omega
 ·refine .inr (.inl ⟨h1,fun i=>?_⟩);rw [jX,hcl];split
  ·exact h.lo i (by assumption)
  ·split
   ·rw [Lb _ (by omega)];congr 1;omega
   ·rw [← h2 i (by omega)];congr 1;omega
 ·refine .inr (.inr ⟨h1,fun i=>?_⟩);rw [jX,hcl];split
  ·exact h.lo i (by assumption)
  ·split
   ·rw [Lb _ (by omega)];congr 1;omega
   ·rw [← h2 i (by omega)];congr 1;omega
structure AdjOk (p:ProjR) (N F L:List ClipR) (A E uk:Int):Prop where
 all:L.all aN=true
 gd:∀ c∈L,Gd 90000 c
 cl:∀ c∈L,CliP p c
 len:L.length=N.length
 sh:UShape F (fr L) A E uk
 e:E≤600
 tot:(fr L).length≤600
structure AdjN (p:ProjR) (N:List ClipR):Prop where
 fit:∀ c∈N,c.fit
 a:∀ c∈N,rW c.a
 b:∀ c∈N,rW c.b
 cl:∀ c∈N,CliP p c
theorem mem_set {N:List ClipR} {q:Nat} {c' c:ClipR} (h:c∈N.set q c'):c=c'∨c∈N:=by
 rcases List.mem_or_eq_of_mem_set h with h | h
 ·exact .inr h
 ·exact .inl h
theorem aKh {F G:List ClipR} {A E uk:Int} (h:UShape F G A E uk) (hu:uk=2→E - A≤100) (hF:F.length≤500):G.length≤600:=by
 obtain ⟨hlt,P,Y,Z,S,rfl,rfl,h3,h4⟩:=h;simp only [List.length_append] at hF ⊢;rcases h4 with ⟨h4,rfl,h5⟩ | ⟨h4,rfl,h5⟩ | ⟨h4,h5,h6⟩
 ·have:=hu h4;simp only [List.length_nil] at hF;omega
 ·simp only [List.length_nil];omega
 ·omega
theorem tW {c:ClipR} (h:aN c=true) {F:List ClipR} {N:List ClipR} (hN:CutOk 1000 N F) (hc:c∈N) (hF:F.length≤500):c.len.natAbs≤500:=by
 have h1:∀ d∈N,1≤d.len:=fun d hd=>(aL (hN.gd d hd).ok).1
 have h2:=pJ h1 c hc;have h3:=hN.tot;have h4:=h1 c hc;omega
theorem aTs {N F:List ClipR} (h:CutOk 1000 N F) (hl:N.length≤60) (hF:F.length≤500) {k:Int} {q:Nat} {b:Int} {sp:RatR} {cs:T} (hq:q≤1000) {L:List ClipR} {A E uk:Int}
  (hmid:∀ Q:Exit→St→Prop,qB Q (kS N L k q b sp cs A E uk)→mD Q (rA N k q b sp cs (totL (N.take q)) (totL (N.take q)+(N.getD q default).len)))
  (hm:tU k q N.length=false) (hz : ¬ (k=10∧(N.getD q default).a.isZ=true)) (hf:∀ c∈L,c.fit) (hlen:∀ c∈L,c.len.natAbs≤100000) (hLl:L.length=N.length) (hA:L.all aN=true→0≤A∧A≤E∧E≤900) :
  aK Tryz.prog 49 [.t (aM N), .agg (qC k q b sp cs)] (aE0 N L A E uk) :=
 aAc N F h hl hF k q b sp cs hq (fun hm2=>absurd (hm.symm.trans hm2) (by decide)) (fun _ h10 hz2=>absurd ⟨h10,hz2⟩ hz)
  (fun _ _ _=>hmid _ (aTk N F h hl hF L hf (by omega) hlen k q b sp cs A E uk hA))
structure AdjK (p:ProjR) (N F:List ClipR) (k:Int) (q:Nat) (b:Int) (sp:RatR) (cs:T) (L:List ClipR) (A E uk:Int):Prop where
 mid:∀ Q:Exit→St→Prop,qB Q (kS N L k q b sp cs A E uk)→mD Q (rA N k q b sp cs (totL (N.take q)) (totL (N.take q)+(N.getD q default).len))
 fit:∀ c∈L,c.fit
 l5:∀ c∈L,c.len.natAbs≤100000
 len:L.length=N.length
 gd:L.all aN=true → ∀ c∈L,Gd 90000 c
 cl:∀ c∈L,CliP p c
 sh:L.all aN=true→UShape F (fr L) A E uk
 e:E≤600
 u2:uk=2→E - A≤100
theorem AdjK.ok {p:ProjR} {N F:List ClipR} {k:Int} {q:Nat} {b:Int} {sp:RatR} {cs:T} {L:List ClipR} {A E uk:Int} (hk:AdjK p N F k q b sp cs L A E uk) (h:CutOk 1000 N F) (hl:N.length≤60) (hF:F.length≤500) (hq:q≤1000)
  (hm:tU k q N.length=false) (hz : ¬ (k=10∧(N.getD q default).a.isZ=true)) :
  aK Tryz.prog 49 [.t (aM N), .agg (qC k q b sp cs)] (xH 2)∨(AdjOk p N F L A E uk∧aK Tryz.prog 49 [.t (aM N), .agg (qC k q b sp cs)] (aE0 N L A E uk)):=by
 have key:=aTs h hl hF hq hk.mid hm hz hk.fit hk.l5 hk.len (fun ha=>by
  have h1:=hk.sh ha;have h2:=(Uj h1).1;have h3:=h1.lt;have h4:=hk.e;omega)
 cases ha:L.all aN with
 | false =>
  left;unfold aE0 at key;rw [if_neg (by rw [ha];decide)] at key;exact key
 | true=>exact .inr ⟨⟨ha,hk.gd ha,hk.cl,hk.len,hk.sh ha,hk.e,aKh (hk.sh ha) hk.u2 hF⟩,key⟩
section
variable {p:ProjR} {N F:List ClipR} (hN:AdjN p N) (h:CutOk 1000 N F) (hl:N.length≤60) (hF:F.length≤500) {q:Nat} {b:Int} (hb:b≠0) (hb1:b.natAbs≤100) (sp:RatR) (cs:T)
include hN h hl hF hb1
theorem Ab (hq:q<N.length) {c':ClipR} (hf:c'.fit) (hl5:c'.len.natAbs≤100000) (hg:aN c'=true→Gd 90000 c') (hc:CliP p c') :
  (∀ c∈N.set q c',c.fit)∧(∀ c∈N.set q c',c.len.natAbs≤100000)∧(N.set q c').length=N.length∧((N.set q c').all aN=true → ∀ c∈N.set q c',Gd 90000 c)∧(∀ c∈N.set q c',CliP p c):=by
 refine ⟨fun c hc2=>?_,fun c hc2=>?_,List.length_set,fun ha c hc2=>?_,fun c hc2=>?_⟩
 ·rcases mem_set hc2 with rfl | hc2
  ·exact hf
  ·exact hN.fit c hc2
 ·rcases mem_set hc2 with rfl | hc2
  ·exact hl5
  ·have:=tW (h.gd c hc2).ok h hc2 hF;omega
 ·rcases mem_set hc2 with rfl | hc2
  ·exact hg (aAa hq ha)
  ·exact vN (h.gd c hc2).ok (hN.fit c hc2) (hN.a c hc2) (hN.b c hc2)
 ·rcases mem_set hc2 with rfl | hc2
  ·exact hc
  ·exact hN.cl c hc2
theorem adjk8 (hq:q<N.length):AdjK p N F 8 q b sp cs (N.set q (nV (N.getD q default) b)) (totL (N.take q)) (totL (N.take q)+(N.getD q default).len) 3:=by
 have hm:=aP (d:=default) hq;have hg:=h.gd _ hm;have hcb:=Gq h hq;have hv:∀ c∈N,aN c=true:=fun c hc=>(h.gd c hc).ok
 have hl5:=tW hg.ok h hm hF;obtain ⟨f1,f2,f3,f4,f5⟩:=Ab hN h hl hF hb1 hq (c':=nV (N.getD q default) b) (Uy hg.fit hg.ok hb1) (by show (N.getD q default).len.natAbs≤_;omega)
  (fun hv'=>Qr hg.ok (hN.a _ hm) (hN.b _ hm) hb1 hv' (Uy hg.fit hg.ok hb1) rfl rfl) (aMj (hN.cl _ hm) b)
 exact ⟨fun Q hR=>aTn h hl hF hq hb1 sp cs (by omega) hR,f1,f2,f3,f4,f5,fun _=>by rw [← h.fr];exact aP0 hv hq rfl,by omega,fun h2=>absurd h2 (by decide)⟩
include hb
theorem adjk5 (hq:q<N.length):AdjK p N F 5 q b sp cs (N.set q (kK (N.getD q default) b)) (min (totL (N.take q)+(N.getD q default).len) (totL (N.take q)+(N.getD q default).len+b)) (max (totL (N.take q)+(N.getD q default).len) (totL (N.take q)+(N.getD q default).len+b)) (if decide (b > 0)=true then 2 else 1):=by
 have hm:=aP (d:=default) hq;have hg:=h.gd _ hm;have hcb:=Gq h hq;have hv:∀ c∈N,aN c=true:=fun c hc=>(h.gd c hc).ok
 have hl5:=tW hg.ok h hm hF;obtain ⟨f1,f2,f3,f4,f5⟩:=Ab hN h hl hF hb1 hq (c':=kK (N.getD q default) b) (Df hg.fit hg.ok hb1) (by show ((N.getD q default).len+b).natAbs≤_;omega)
  (fun hv'=>vN hv' (Df hg.fit hg.ok hb1) (hN.a (N.getD q default) hm) (hN.b (N.getD q default) hm)) (aDj (hN.cl _ hm) b)
 exact ⟨fun Q hR=>aTr h hl hF hq hb1 sp cs (by omega) hR,f1,f2,f3,f4,f5,fun ha=>by rw [← h.fr];exact shape5 hv hq hb ha,by omega,fun h2=>by omega⟩
theorem adjk6 (hq:q<N.length):AdjK p N F 6 q b sp cs (N.set q (cV (N.getD q default) b)) (totL (N.take q)) (totL (N.take q)+max b (-b)) (if decide (b<0)=true then 2 else 1):=by
 have hm:=aP (d:=default) hq;have hg:=h.gd _ hm;have hcb:=Gq h hq;have hv:∀ c∈N,aN c=true:=fun c hc=>(h.gd c hc).ok
 have hl5:=tW hg.ok h hm hF;obtain ⟨f1,f2,f3,f4,f5⟩:=Ab hN h hl hF hb1 hq (c':=cV (N.getD q default) b) (Aw hg.fit hg.ok hb1) (by show ((N.getD q default).len - b).natAbs≤_;omega)
  (fun hv'=>Qr hg.ok (hN.a _ hm) (hN.b _ hm) hb1 hv' (Aw hg.fit hg.ok hb1) rfl rfl) (Rz (hN.cl _ hm) b)
 exact ⟨fun Q hR=>aTq h hl hF hq hb1 sp cs (by omega) hR,f1,f2,f3,f4,f5,fun ha=>by rw [← h.fr];exact shape6 hv hq hb ha,by omega,fun h2=>by omega⟩
theorem Uk {i j:Nat} (hij:i<j) (hj:j<N.length):(∀ c∈(N.set i (kK (N.getD i default) b)).set j (cV (N.getD j default) b),c.fit)∧(∀ c∈(N.set i (kK (N.getD i default) b)).set j (cV (N.getD j default) b),c.len.natAbs≤100000) ∧
  ((N.set i (kK (N.getD i default) b)).set j (cV (N.getD j default) b)).length=N.length∧(((N.set i (kK (N.getD i default) b)).set j (cV (N.getD j default) b)).all aN=true → ∀ c∈(N.set i (kK (N.getD i default) b)).set j (cV (N.getD j default) b),Gd 90000 c) ∧
  (∀ c∈(N.set i (kK (N.getD i default) b)).set j (cV (N.getD j default) b),CliP p c):=by
 have hi:i<N.length:=by omega
 have hm:=aP (d:=default) hi;have hg:=h.gd _ hm;have hl5:=tW hg.ok h hm hF;have hm2:=aP (d:=default) hj;have hg2:=h.gd _ hm2;have hl52:=tW hg2.ok h hm2 hF;have hv:∀ c∈N,aN c=true:=fun c hc=>(h.gd c hc).ok
 generalize N.getD i default=c at *;generalize N.getD j default=d at *;refine ⟨fun x hx=>?_,fun x hx=>?_,by rw [List.length_set,List.length_set],fun ha x hx=>?_,fun x hx=>?_⟩
 ·rcases mem_set hx with rfl | hx
  ·exact Aw hg2.fit hg2.ok hb1
  rcases mem_set hx with rfl | hx
  ·exact Df hg.fit hg.ok hb1
  ·exact hN.fit x hx
 ·rcases mem_set hx with rfl | hx
  ·show (d.len - b).natAbs≤_;omega
  rcases mem_set hx with rfl | hx
  ·show (c.len+b).natAbs≤_;omega
  ·have:=tW (h.gd x hx).ok h hx hF;omega
 ·obtain ⟨a1,a2⟩:=Tc hv hij hj ha;rcases mem_set hx with rfl | hx
  ·exact Qr hg2.ok (hN.a _ hm2) (hN.b _ hm2) hb1 a2 (Aw hg2.fit hg2.ok hb1) rfl rfl
  rcases mem_set hx with rfl | hx
  ·exact vN a1 (Df hg.fit hg.ok hb1) (hN.a c hm) (hN.b c hm)
  ·exact vN (h.gd x hx).ok (hN.fit x hx) (hN.a x hx) (hN.b x hx)
 ·rcases mem_set hx with rfl | hx
  ·exact Rz (hN.cl _ hm2) b
  rcases mem_set hx with rfl | hx
  ·exact aDj (hN.cl _ hm) b
  ·exact hN.cl x hx
theorem adjk7 (hq:q+1<N.length):AdjK p N F 7 q b sp cs ((N.set q (kK (N.getD q default) b)).set (q+1) (cV (N.getD (q+1) default) b)) (min (totL (N.take q)+(N.getD q default).len) (totL (N.take q)+(N.getD q default).len+b)) (max (totL (N.take q)+(N.getD q default).len) (totL (N.take q)+(N.getD q default).len+b)) 3:=by
 have hq0:q<N.length:=by omega
 have hcb:=Gq h hq0;have hv:∀ c∈N,aN c=true:=fun c hc=>(h.gd c hc).ok
 obtain ⟨f1,f2,f3,f4,f5⟩:=Uk hN h hl hF hb hb1 (i:=q) (j:=q+1) (by omega) hq;exact ⟨fun Q hR=>aTp h hl hF hq hb1 sp cs (by omega) hR,f1,f2,f3,f4,f5,fun ha=>by rw [← h.fr];exact shape7 hv hq hb ha,by omega,fun h2=>absurd h2 (by decide)⟩
theorem adjk9 (hq:q+2<N.length):AdjK p N F 9 (q+1) b sp cs ((N.set q (kK (N.getD q default) b)).set (q+2) (cV (N.getD (q+2) default) b)) (min (totL (N.take (q+1))) (totL (N.take (q+1))+b)) (max (totL (N.take (q+1))+(N.getD (q+1) default).len) (totL (N.take (q+1))+(N.getD (q+1) default).len+b)) 3:=by
 have hq0:q+1<N.length:=by omega
 have hcb:=Gq h hq0;have hv:∀ c∈N,aN c=true:=fun c hc=>(h.gd c hc).ok
 obtain ⟨f1,f2,f3,f4,f5⟩:=Uk hN h hl hF hb hb1 (i:=q) (j:=q+2) (by omega) hq;exact ⟨fun Q hR=>aTm h hl hF hq hb1 sp cs (by omega) hR,f1,f2,f3,f4,f5,fun ha=>by rw [← h.fr];exact shape9 hv hq hb ha,by omega,fun h2=>absurd h2 (by decide)⟩
omit hb
theorem adjk10 (hq:q<N.length) (hsp:sp.fit) (hs6:sp.num.natAbs≤1000000) (hz:(N.getD q default).a.isZ=false):AdjK p N F 10 q b sp cs (N.set q (Fq (N.getD q default) sp)) (totL (N.take q)) (totL (N.take q)+(N.getD q default).len) 3:=by
 have hm:=aP (d:=default) hq;have hg:=h.gd _ hm;have hcb:=Gq h hq;have hv:∀ c∈N,aN c=true:=fun c hc=>(h.gd c hc).ok
 have hl5:=tW hg.ok h hm hF;have hsm:rW (Fq (N.getD q default) sp).a:=by
  rcases hN.a _ hm with h1 | h1
  ·rw [hz] at h1;cases h1
  ·exact .inr ⟨h1.1,hs6⟩
 obtain ⟨f1,f2,f3,f4,f5⟩:=Ab hN h hl hF hb1 hq (c':=Fq (N.getD q default) sp) (Mk hg.fit hsp) (by show (N.getD q default).len.natAbs≤_;omega)
  (fun hv'=>vN hv' (Mk hg.fit hsp) hsm (hN.b (N.getD q default) hm)) (aFx (hN.cl _ hm) sp)
 exact ⟨fun Q hR=>aN2 h hl hF hq hb1 sp cs (by omega) hR,f1,f2,f3,f4,f5,fun _=>by rw [← h.fr];exact aP0 hv hq rfl,by omega,fun h2=>absurd h2 (by decide)⟩
end
abbrev nR:T := .lit (.slice none 0 0)
theorem aG6 (k q b:Int) (hk : 5≤k∧k≤9) (hq : 0≤q) (hb:b≠0) (hb1:b.natAbs≤100):aK Tryz.prog 46 [.agg (qC k q b ⟨0,0⟩ nR)] (aX true):=by
 have c1:=zD b (-2147483647);have e1:(decide ((-2147483647:Int)≤b)&&decide (b≤2147483647))=true:=by rw [decide_eq_true (by omega),decide_eq_true (by omega)];rfl
 rw [e1] at c1;have hb':(b != 0)=true:=by simpa using hb
 have hb2:(b==0)=false:=by simpa using hb
 have hq':decide (q ≥ 0)=true:=decide_eq_true hq;rcases (show k=5∨k=6∨k=7∨k=8∨k=9 by omega) with rfl | rfl | rfl | rfl | rfl
 all_goals
  refine aG Tryz.X46 Tryz.func46 rfl Tryz.ntmps46 (by rw [Tryz.results46]) (aC _ ?_);simp only [go_sem,simprocAttr,dtf,hb',hq',hb2];refine ⟨true,eqR0,_,c1,?_⟩;simp only [go_sem,simprocAttr,dtf,hb',hq',hb2]
theorem aG7 (q:Int) (sp:RatR) (hf:sp.fit) (hs:fG sp=true) (hq : 0≤q):aK Tryz.prog 46 [.agg (qC 10 q 0 sp nR)] (aX true):=by
 have c1:=Sp sp hf;rw [hs] at c1;have hq':decide (q ≥ 0)=true:=decide_eq_true hq;refine aG Tryz.X46 Tryz.func46 rfl Tryz.ntmps46 (by rw [Tryz.results46]) (aC _ ?_);simp only [go_sem,simprocAttr,dtf,hq'];refine ⟨_,aJb sp ⟨0,0⟩,_,c1,?_⟩;simp only [go_sem,simprocAttr,dtf,hq']
theorem aG5 (k a:Int) (hk:k=1∨k=3):aK Tryz.prog 46 [kG k a 0 (aM [])] (aX false):=by
 have c1:=zD a 0;have c2:=Jw [] (fun c hc=>(by cases hc));rcases hk with rfl | rfl
 all_goals
  refine aG Tryz.X46 Tryz.func46 rfl Tryz.ntmps46 (by rw [Tryz.results46]) (aC _ ?_);simp only [go_sem,simprocAttr,dtf];refine ⟨true,eqR0,_,c1,?_⟩;simp only [go_sem,simprocAttr,dtf];refine ⟨_,fun _=>c2,?_⟩;simp only [go_sem,simprocAttr,dtf];try simp
theorem aMw (p:ProjR):aK Tryz.prog 12 [uV p, .t nR] (.t nR):=by
 refine aG Tryz.X12 Tryz.func12 rfl Tryz.ntmps12 (by rw [Tryz.results12]) (aC _ ?_);simp only [go_sem,simprocAttr,dtf];refine aJ (fun (k:Nat) σ => dW 6 (aA k) (dD [] (eH σ))) (fun k=>k=0) (fun _=>0) 0 (aE ?_) rfl ?_
 ·simp only [go_sem,simprocAttr,dtf]<;>simp
 ·rintro k rfl;refine aC _ ?_;simp only [go_sem,simprocAttr,dtf]
theorem Sv {t N:List ClipR} (hvt:bB t=true) (htf:∀ c∈t,c.fit) (hN:gR t=N) (k:Int) (hk : 5≤k∧k≤10) (q b:Int) (sp:RatR) (c2:aK Tryz.prog 46 [.agg (qC k q b sp nR)] (aX true)) (n:Int) (hn:n≠0)
  (c4:aK Tryz.prog 49 [.t (aM N), .agg (qC k q b sp nR)] (xH n)):aK Tryz.prog 14 [.t (aM t), .agg (qC k q b sp nR)] (xH n):=by
 have c1:=kX t htf;have c3:=As t htf;rw [hvt] at c1;rw [hN] at c3;have hn':(n != 0)=true:=by simpa using hn
 unfold xH jE at c4;unfold xH jE;rcases (show k=5∨k=6∨k=7∨k=8∨k=9∨k=10 by omega) with rfl | rfl | rfl | rfl | rfl | rfl
 all_goals
  refine aG Tryz.X14 Tryz.func14 rfl Tryz.ntmps14 (by rw [Tryz.results14]) (aC _ ?_);simp only [go_sem,simprocAttr,dtf];refine ⟨_,c1,?_⟩;simp only [go_sem,simprocAttr,dtf];refine ⟨_,c2,?_⟩;simp only [go_sem,simprocAttr,dtf];refine ⟨_,c3,?_⟩;simp only [go_sem,simprocAttr,dtf];refine ⟨_,c4,?_⟩;simp only [go_sem,simprocAttr,dtf,hn'];refine aQ 5 .done rfl (by kernel_rfl) (by kernel_rfl) (by decide) ?_;simp only [go_sem,simprocAttr,dtf];exact ⟨by kernel_rfl,sJ⟩
def tK (N:List ClipR) (A E uk:Int):List V:=if uk=2 then [aA 2,aA A,aA (E - A),aA 0,aA 0,aA 0,aA 0, .t nR] else [aA uk,aA A,aA 0,aA 0,aA 0,aA 0,aA 0, .t (aM (pk (cW N A (E - A))))]
theorem adjR_ok {N L:List ClipR} {A E uk:Int} (h:L.all aN=true):aE0 N L A E uk = .tup [.t (aM L), .agg (tK N A E uk),aA 0]:=by
 unfold aE0 tK;rw [if_pos h];split<;>rfl
theorem aT4 {t N:List ClipR} (hvt:bB t=true) (htf:∀ c∈t,c.fit) (hN:gR t=N) (k:Int) (hk : 5≤k∧k≤10) (q b:Int) (sp:RatR) (c2:aK Tryz.prog 46 [.agg (qC k q b sp nR)] (aX true)) {L:List ClipR} {A E uk:Int}
  (c4:aK Tryz.prog 49 [.t (aM N), .agg (qC k q b sp nR)] (aE0 N L A E uk)) (hL:L.all aN=true) (hX:Trk L) (hXf:∀ c∈L,c.fit) (h64:(kB L).length≤64) :
  aK Tryz.prog 14 [.t (aM t), .agg (qC k q b sp nR)] (.tup [.t (aM (kB L)), .agg (tK N A E uk),aA 0]):=by
 have c1:=kX t htf;have c3:=As t htf;have c5:=zF _ hX hXf;rw [hvt] at c1;rw [hN] at c3;rw [adjR_ok hL] at c4;have hu:∃ u0 u1 u2 u3 u4 u5 u6 u7:T,tK N A E uk = [.t u0, .t u1, .t u2, .t u3, .t u4, .t u5, .t u6, .t u7]:=by
  unfold tK;split<;>exact ⟨_,_,_,_,_,_,_,_,rfl⟩
 obtain ⟨u0,u1,u2,u3,u4,u5,u6,u7,hu⟩:=hu;rw [hu] at c4 ⊢;generalize kB L=Y at *;have d1:decide ((Y.length:Int) > 64)=false:=decide_eq_false (by omega);rcases (show k=5∨k=6∨k=7∨k=8∨k=9∨k=10 by omega) with rfl | rfl | rfl | rfl | rfl | rfl
 all_goals
  refine aG Tryz.X14 Tryz.func14 rfl Tryz.ntmps14 (by rw [Tryz.results14]) (aC _ ?_);simp only [go_sem,simprocAttr,dtf];refine ⟨_,c1,?_⟩;simp only [go_sem,simprocAttr,dtf];refine ⟨_,c2,?_⟩;simp only [go_sem,simprocAttr,dtf];refine ⟨_,c3,?_⟩;simp only [go_sem,simprocAttr,dtf];refine ⟨_,c4,?_⟩;simp only [go_sem,simprocAttr,dtf];refine ⟨_,c5,?_⟩;simp only [go_sem,simprocAttr,dtf,d1];refine aQ 5 .done rfl (by kernel_rfl) (by kernel_rfl) (by decide) ?_;simp only [go_sem,simprocAttr,dtf];exact ⟨by kernel_rfl,sJ⟩
theorem aMx {t:List ClipR} (hvt:bB t=true) (htf:∀ c∈t,c.fit) (k a:Int) (hk:k=1∨k=3):aK Tryz.prog 14 [.t (aM t),kG k a 0 (aM [])] (xH 1):=by
 have c1:=kX t htf;have c2:=aG5 k a hk;rw [hvt] at c1;unfold xH jE;refine aG Tryz.X14 Tryz.func14 rfl Tryz.ntmps14 (by rw [Tryz.results14]) (aC _ ?_);simp only [go_sem,simprocAttr,dtf];refine ⟨_,c1,?_⟩;simp only [go_sem,simprocAttr,dtf];refine ⟨_,c2,?_⟩;simp only [go_sem,simprocAttr,dtf];exact sJ
theorem dark_eq {X:List ClipR} (hv:∀ c∈X,aN c=true) {x:ClipR} (hx:x∈fr X) (hk:x.kind=0):x=mA 1:=by
 unfold fr at hx;obtain ⟨c,hc,hx⟩:=List.mem_flatMap.1 hx;have hx0:=hx;unfold frC at hx;obtain ⟨k,_,rfl⟩:=List.mem_map.1 hx;have e:c=mA c.len:=aFk (hv c hc) hk;rw [e,Zz] at hx0;rw [e];exact (List.mem_replicate.1 hx0).2
theorem dark_at {X F G:List ClipR} (hv:∀ c∈X,aN c=true) (e:fr X=F++G) (hG:aTv G) (i:Nat):atF F i=atF (fr X) i:=by
 have e2:G=List.replicate G.length (mA 1):=List.eq_replicate_iff.2 ⟨rfl,fun x hx=>dark_eq hv (by rw [e];exact List.mem_append_right _ hx) (hG x hx)⟩;rw [e,e2,aK2]
structure PartX (m:Int) (p:ProjR) (X:List ClipR):Prop where
 gd:∀ c∈X,Gd m c
 cl:∀ c∈X,CliP p c
 len:X.length≤200
 tot:(fr X).length≤1000
theorem PartX.totL {m:Int} {p:ProjR} {X:List ClipR} (h:PartX m p X):totL X=(fr X).length:=(wW fun c hc=>(aL (h.gd c hc).ok).1).symm
theorem PartX.trk {m:Int} {p:ProjR} {X:List ClipR} (h:PartX m p X):Trk X:=by
 have h1:=h.totL;have h2:=h.tot;exact uG h.len (fun c hc=>(h.gd c hc).ok) (by omega)
theorem aC6 {m:Int} {p:ProjR} {X:List ClipR} (h:PartX m p X):PartX m p (kB X)∧(kB X).length≤(pk X).length∧(fr (kB X)).length≤(fr X).length ∧ ∀ i,atF (fr (kB X)) i=atF (fr X) i:=by
 have ht:=h.totL;have h4:=h.tot;have hl:=h.len;have hv:∀ c∈X,aN c=true:=fun c hc=>(h.gd c hc).ok
 obtain ⟨G,hG,e⟩:=fr_nrmE hv (by omega);have a1:=aFz (pk X);have a2:=eT X;have a3:(kB X).length≤(pk X).length:=by unfold kB;exact a1
 refine ⟨⟨fun c hc=>aPt h.gd (by omega) c (Sb hc),fun c hc=>pk_cl h.cl c (Sb hc),by omega,?_⟩,a3,by rw [e,List.length_append];omega,dark_at hv e hG⟩;rw [e,List.length_append] at h4;omega
theorem PartX.vt {m:Int} {p:ProjR} {X:List ClipR} (h:PartX m p X) (h64:X.length≤64):bB X=true:=by
 have h1:=h.totL;have h2:=h.tot;exact zJ h64 (fun c hc=>(h.gd c hc).ok) (by omega)
theorem PartX.tp {m:Int} {p:ProjR} {X:List ClipR} (h:PartX m p X) (h64:X.length≤64):TrkP p X:=trkP_mk (h.vt h64) (fun c hc=>(h.gd c hc).fit) h.cl
theorem aJa {m:Int} {p:ProjR} {X F:List ClipR} (h:PartX m p X) (hm : 1000≤m) (hm2:m≤2147483648) (hF:∀ i,atF (fr X) i=atF F i) (n:Nat):Fg p [X] n=Zv p F n:=by
 have h1:=h.totL;have h2:=h.tot;have hp:∀ c∈X,1≤c.len:=fun c hc=>(aL (h.gd c hc).ok).1
 rw [trkL_fr hm2 (fun c hc=>⟨h.gd c hc,by have:=pJ hp c hc;omega⟩)];exact aRb hF n
theorem normX {m:Int} {p:ProjR} {X:List ClipR} (h:PartX m p X) (h64:X.length≤64):PartX m p (gR X)∧(gR X).length≤X.length∧(fr (gR X)).length≤(fr X).length ∧ ∀ i,atF (fr (gR X)) i=atF (fr X) i:=by
 have hvt:=h.vt h64;have hf:∀ c∈X,c.fit:=fun c hc=>(h.gd c hc).fit
 have e:gR X=kB X:=by
  unfold gR kB sD;rw [if_pos hvt,Ny hvt hf]
 rw [e];obtain ⟨a,b,d,c⟩:=aC6 h;exact ⟨a,Nat.le_trans b (eT X),d,c⟩
theorem PartX.cut {m:Int} {p:ProjR} {X:List ClipR} (h:PartX m p X) (h64:X.length≤64):CutOk m X (fr X):=⟨h.gd,h.vt h64,rfl,h.totL⟩
theorem Rc {p:ProjR} {m:Int} (hm : 1000≤m) {N:List ClipR} (h:PartX (m+600) p N) (hl:N.length≤50) (hF:(fr N).length≤500) {C:List ClipR} (hC:∀ c∈C,Gd m c∧CliP p c) (hCl:C.length≤60) (hCt:(fr C).length≤300)
  {a r:Int} (ha : 0≤a) (ha2:a≤300) (har:a≤r) (hr2:r≤600) (hgap:a+(fr C).length+((fr N).length - r)≤1000):PartX m p (cY N a C r)∧fr (cY N a C r)=tE (fr N) 0 a.toNat++fr C++(fr N).drop r.toNat∧(cY N a C r).length≤2*N.length+3+C.length:=by
 have hcu:=h.cut (by omega);have ht:=hcu.tot;have hN:=h.tp (by omega);have hcu1:CutOk 1000 N (fr N):=⟨fun c hc=>yV (hcu.gd c hc) (by omega),hcu.tr,hcu.fr,hcu.tot⟩
 have e:=aRd hcu1 (by omega) (by omega) ha (by omega) (show r≤1000 by omega) (by omega) C;obtain ⟨b1,b2,b3⟩:=Dd hcu hN (by omega) (a:=0) (n:=min a (totL N)) (by omega) (by omega) (by omega) (by omega);have hrest:(∀ c∈gB N r,Gd m c∧CliP p c)∧(gB N r).length≤N.length+1:=by
  unfold gB;split
  ·obtain ⟨c1,c2,c3⟩:=Dd hcu hN (by omega) (a:=r) (n:=totL N - r) (by omega) (by omega) (by omega) (by omega);exact ⟨fun c hc=>⟨yV (c1.gd c hc) (by omega),c3 c hc⟩,by omega⟩
  ·exact ⟨fun c hc=>(by cases hc),by simp⟩
 have hgl:=sT (a - totL N);have hall:∀ c∈cY N a C r,Gd m c∧CliP p c:=fun c hc=>by
  unfold cY at hc;rcases List.mem_append.1 hc with hc | hc
  ·rcases List.mem_append.1 hc with hc | hc
   ·rcases List.mem_append.1 hc with hc | hc
    ·exact ⟨yV (b1.gd c hc) (by omega),b3 c hc⟩
    ·obtain ⟨q1,rfl⟩:=aCg hc;exact ⟨Zs _ _ q1 (by omega),Ry p _⟩
   ·exact hC c hc
  ·exact hrest.1 c hc
 have hlen:(cY N a C r).length≤2*N.length+3+C.length:=by
  unfold cY;simp only [List.length_append];omega
 refine ⟨⟨fun c hc=>(hall c hc).1,fun c hc=>(hall c hc).2,?_,?_⟩,e,hlen⟩
 ·omega
 ·rw [e,List.length_append,List.length_append,gU,List.length_drop];omega
theorem few {p:ProjR} {m m':Int} (hm : 1000≤m) (hm2:m≤100000) (hm' : 1000≤m') (hm2':m'≤100000) {N X:List ClipR} (hN:PartX m p N) (hl:N.length≤50) (hX:PartX m' p X) (h:∀ i,atF (fr X) i=atF (fr N) i):(pk X).length≤N.length+1:=by
 have hn:=hX.tot;have e1:=aS2 h;obtain ⟨n,hne⟩:∃ n,n=(fr X).length:=⟨_,rfl⟩
 rw [← hne] at e1 hn;obtain ⟨b1,b2,_⟩:=Dd (hN.cut (by omega)) (hN.tp (by omega)) (by omega) (a:=0) (n:=(n:Int)) (by omega) (by omega) (by omega) (by omega);rw [Int.toNat_natCast,show (0:Int).toNat=0 from rfl, ← e1] at b1;have hp:∀ c∈X,1≤c.len:=fun c hc=>(aL (hX.gd c hc).ok).1
 have hXt:=hX.totL;have q1:=aPv hm2' X [] (fun c hc=>⟨hX.gd c hc,by have:=pJ hp c hc;omega⟩) (fun d hd=>(by cases hd));have hp2:∀ c∈pk (cW N 0 n),1≤c.len:=fun c hc=>(aL (b1.gd c hc).ok).1
 have hbt:=b1.tot;have q2:=aPv (m:=m - 0) (by omega) (pk (cW N 0 n)) [] (fun c hc=>⟨b1.gd c hc,by have:=pJ hp2 c hc;omega⟩) (fun d hd=>(by cases hd));rw [List.nil_append,List.nil_append] at q1 q2;rw [b1.fr] at q2;rw [← q1,q2];have:=eT (pk (cW N 0 n));omega
theorem undo_ok {p:ProjR} {N:List ClipR} (hN:PartX 5000 p N) (hNl:N.length≤40) (hNf:(fr N).length≤300) {X:List ClipR} (hX:PartX 5000 p X) (hXl:X.length≤50) (hXf:(fr X).length≤500)
  {a e:Nat} {uk:Int} (hU:UAt (fr N) (fr X) a e uk) (ha:a≤300) (he:e - a≤300) :
  ∃ (v:List ClipR) (u0 u1 u2 u3 u4 u5 u6 u7:T),aK Tryz.prog 14 [.t (aM (kB X)), .agg (tK N a e uk)] (.tup [.t (aM v), .agg [.t u0, .t u1, .t u2, .t u3, .t u4, .t u5, .t u6, .t u7],aA 0])∧TrkP p v ∧ ∀ n,Fg p [v] n=Zv p (fr N) n:=by
 obtain ⟨hu1,hu2,hu4,hu3⟩:=aC6 hX;have hpk:=eT X;obtain ⟨hn1,hn2,hn4,hn3⟩:=normX hu1 (by omega);have hlt:=hU.lt;have hvu:=hu1.vt (by omega);have hfu:∀ c∈kB X,c.fit:=fun c hc=>(hu1.gd c hc).fit
 generalize kB X=u at *;obtain ⟨N',hN'⟩:∃ N',N'=gR u:=⟨_,rfl⟩
 rw [← hN'] at hn1 hn2 hn3 hn4;have hXt:∀ i,atF (fr N') i=atF (fr X) i:=fun i=>(hn3 i).trans (hu3 i)
 have hU':UAt (fr N) (fr N') a e uk:=⟨hlt,fun i hi=>(hXt i).trans (hU.lo i hi),by
  rcases hU.hi with ⟨h1,h2⟩ | ⟨h1,h2⟩ | ⟨h1,h2⟩
  ·exact .inl ⟨h1,fun i hi=>(hXt _).trans (h2 i hi)⟩
  ·exact .inr (.inl ⟨h1,fun i hi=>(hXt _).trans (h2 i hi)⟩)
  ·exact .inr (.inr ⟨h1,fun i hi=>(hXt _).trans (h2 i hi)⟩)⟩
 have hF':(fr N').length≤500:=by omega
 have hcu:=hn1.cut (by omega);have hcu1:CutOk 1000 N' (fr N'):=⟨fun c hc=>yV (hcu.gd c hc) (by omega),hcu.tr,hcu.fr,hcu.tot⟩
 have hn1':PartX (4400+600) p N':=hn1;obtain ⟨r1,r2,r3⟩:=Dd (hN.cut (by omega)) (hN.tp (by omega)) (by omega) (a:=(a:Int)) (n:=((e - a:Nat):Int)) (by omega) (by omega) (by omega) (by omega);rw [Int.toNat_natCast,Int.toNat_natCast] at r1;have hea:(e:Int) - a=((e - a:Nat):Int):=by omega
 have hcp:∀ c∈pk (cW N a ((e:Int) - a)),Gd 4400 c∧CliP p c:=fun c hc=>by
  rw [hea] at hc;exact ⟨yV (r1.gd c hc) (by omega),r3 c hc⟩
 have hcl:(pk (cW N a ((e:Int) - a))).length≤41:=by rw [hea];omega
 have hcf:fr (pk (cW N a ((e:Int) - a)))=tE (fr N) a (e - a):=by rw [hea];exact r1.fr
 have hcv:bB (pk (cW N a ((e:Int) - a)))=true:=by rw [hea];exact r1.tr
 have hct:totL (pk (cW N a ((e:Int) - a)))=((e - a:Nat):Int):=by rw [hea,r1.tot,gU]
 have hfl:(tE (fr N) a (e - a)).length=e - a:=gU _ _ _;have hu:=aTc hU';have fin:∀ {C:List ClipR} {r:Int},PartX 4400 p (cY N' a C r)→(∀ i,atF (fr (cY N' a C r)) i=atF (fr N) i) →
   (kB (cY N' a C r)).length≤64∧TrkP p (kB (cY N' a C r)) ∧ ∀ n,Fg p [kB (cY N' a C r)] n=Zv p (fr N) n:=fun {C r} hp hat=>by
  obtain ⟨z1,z2,_,z3⟩:=aC6 hp;have:=few (m:=5000) (m':=4400) (by omega) (by omega) (by omega) (by omega) hN (by omega) hp hat;exact ⟨by omega,z1.tp (by omega),aJa z1 (by omega) (by omega) fun i=>(z3 i).trans (hat i)⟩
 unfold tK;rcases hu with ⟨rfl,h2⟩ | ⟨rfl,h2⟩ | ⟨rfl,h2⟩
 ·obtain ⟨x1,x2,_⟩:=Rc (m:=4400) (by omega) hn1' (by omega) hF' (C:=[]) (fun c hc=>(by cases hc)) (by simp) (by simp [fr]) (a:=(a:Int)) (r:=(e:Int)) (by omega) (by omega) (by omega) (by omega) (by rw [show fr ([]:List ClipR) = [] from rfl,List.length_nil];omega);rw [Int.toNat_natCast,Int.toNat_natCast,show fr ([]:List ClipR) = [] from rfl] at x2;obtain ⟨y1,y2,y3⟩:=fin x1 (fun i=>by rw [x2];exact h2 i);have key:=aJz hvu hfu hN'.symm hcu1 (by omega) (by omega) (a:Int) (by omega) (by omega) ((e:Int) - a) (by omega) (by omega);rw [show (a:Int)+((e:Int) - a)=e by omega] at key;have key2:=key x1.trk (fun c hc=>(x1.gd c hc).fit) y1;rw [if_pos rfl];exact ⟨_,_,_,_,_,_,_,_,_,key2,y2,y3⟩
 ·obtain ⟨x1,x2,_⟩:=Rc (m:=4400) (by omega) hn1' (by omega) hF' hcp (by omega) (by rw [hcf,hfl];omega) (a:=(a:Int)) (r:=(a:Int)) (by omega) (by omega) (by omega) (by omega) (by rw [hcf,hfl];omega);rw [Int.toNat_natCast,hcf] at x2;obtain ⟨y1,y2,y3⟩:=fin x1 (fun i=>by rw [x2];exact h2 i);rw [if_neg (by decide)];generalize pk (cW N a ((e:Int) - a))=C at *;have hCp:∀ c∈C,c.fit:=fun c hc=>(hcp c hc).1.fit
  have hC0 : 0<C.length:=by
   rcases C with _ | ⟨c,C⟩
   ·simp only [totL] at hct;omega
   ·simp
  have key:=aK0 hvu hfu hN'.symm hcu1 (by omega) (by omega) (a:Int) (by omega) (by omega) C (uG (by omega) (cZ hcv).2.1 (cZ hcv).2.2) hcv hCp hC0 (by omega);rw [Int.add_zero] at key;exact ⟨_,_,_,_,_,_,_,_,_,key x1.trk (fun c hc=>(x1.gd c hc).fit) y1,y2,y3⟩
 ·obtain ⟨x1,x2,_⟩:=Rc (m:=4400) (by omega) hn1' (by omega) hF' hcp (by omega) (by rw [hcf,hfl];omega) (a:=(a:Int)) (r:=(e:Int)) (by omega) (by omega) (by omega) (by omega) (by rw [hcf,hfl];omega);rw [Int.toNat_natCast,Int.toNat_natCast,hcf] at x2;obtain ⟨y1,y2,y3⟩:=fin x1 (fun i=>by rw [x2];exact h2 i);rw [if_neg (by decide)];generalize pk (cW N a ((e:Int) - a))=C at *;have hCp:∀ c∈C,c.fit:=fun c hc=>(hcp c hc).1.fit
  have hC0 : 0<C.length:=by
   rcases C with _ | ⟨c,C⟩
   ·simp only [totL] at hct;omega
   ·simp
  have key:=aJy hvu hfu hN'.symm hcu1 (by omega) (by omega) (a:Int) (by omega) (by omega) C (uG (by omega) (cZ hcv).2.1 (cZ hcv).2.2) hcv hCp hC0 (by omega);rw [show (a:Int)+totL C=e by omega] at key;exact ⟨_,_,_,_,_,_,_,_,_,key x1.trk (fun c hc=>(x1.gd c hc).fit) y1,y2,y3⟩
theorem PartX.le {m m':Int} {p:ProjR} {X:List ClipR} (h:PartX m p X) (hm:m'≤m):PartX m' p X:=⟨fun c hc=>yV (h.gd c hc) hm,h.cl,h.len,h.tot⟩
theorem aJ7 {p:ProjR} {s:SourceR} (h:Ge p s=true):SrcP p s:=by
 unfold Ge at h;simp only [Bool.or_eq_true,Bool.and_eq_true,beq_iff_eq] at h;refine ⟨fun h1=>?_,fun h2=>?_⟩
 ·rcases h with (⟨_,h⟩ | ⟨h,_⟩) | h
  ·obtain ⟨m,hm,e⟩:=List.any_eq_true.1 h;obtain ⟨i,hi,rfl⟩:=uP hm;exact ⟨i,hi,pP (beq_iff_eq.1 e)⟩
  ·omega
  ·omega
 ·rcases h with (⟨h,_⟩ | ⟨_,h⟩) | h
  ·omega
  ·obtain ⟨m,hm,e⟩:=List.any_eq_true.1 h;obtain ⟨i,hi,rfl⟩:=uP hm;exact ⟨i,hi,pP (beq_iff_eq.1 e)⟩
  ·omega
structure TClips (p:ProjR) (C:List ClipR):Prop where
 nice:∀ c∈C,Nice c
 cl:∀ c∈C,CliP p c
theorem Hw {p:ProjR} {C:List ClipR} {m s:Int} (hn:∀ c∈C,Nice c∧VidOk m s c):TClips p (kZ p C):=by
 refine ⟨fun c hc=>(hn c ((List.mem_filter.1 hc).1)).1,fun c hc=>?_⟩;have h:=(List.mem_filter.1 hc).2;rw [Bool.and_eq_true] at h;exact ⟨(hn c ((List.mem_filter.1 hc).1)).2.sil,aJ7 h.1,aJ7 h.2⟩
theorem TClips.gd {p:ProjR} {C:List ClipR} (h:TClips p C):∀ c∈C,Gd 90000 c:=fun c hc=>vN (h.nice c hc).ok (h.nice c hc).fit (h.nice c hc).sa (h.nice c hc).sb
theorem TClips.tot {p:ProjR} {C:List ClipR} (h:TClips p C):totL C=(fr C).length∧totL C≤9*C.length:=⟨(wW fun c hc=>(aL (h.nice c hc).ok).1).symm,zM C fun c hc=>(h.nice c hc).l9⟩
theorem TClips.px {p:ProjR} {C:List ClipR} (h:TClips p C) (hl:C.length≤64):PartX 90000 p C:=by
 obtain ⟨h1,h2⟩:=h.tot;exact ⟨h.gd,h.cl,by omega,by omega⟩
structure TrkU (p:ProjR) (t N:List ClipR):Prop where
 tp:TrkP p t
 nt:gR t=N
 px:PartX 90000 p N
 adj:AdjN p N
 l:N.length≤18
 f:(fr N).length≤162
 film:∀ n,Fg p [t] n=Zv p (fr N) n
theorem trkU_of {p:ProjR} {t:List ClipR} (h:TClips p t) (hl:t.length≤18):TrkU p t (gR t):=by
 have hp:=h.px (by omega);obtain ⟨h1,h2⟩:=h.tot;obtain ⟨n1,n2,n3,n4⟩:=normX hp (by omega);refine ⟨hp.tp (by omega),rfl,n1,⟨fun c hc=>(n1.gd c hc).fit,fun c hc=>?_,fun c hc=>?_,n1.cl⟩,by omega,by omega,fun n=>aJa hp (by omega) (by omega) (fun i=>(n4 i).symm) n⟩
 ·obtain ⟨d,hd,e1,e2,_,_⟩:=Vv t c hc;rw [e1];exact (h.nice d hd).sa
 ·obtain ⟨d,hd,e1,e2,_,_⟩:=Vv t c hc;rw [e2];exact (h.nice d hd).sb
theorem aAs (p:ProjR) (l:List Int):TClips p (kZ p (bP l 0 3 3 6).1)∧(kZ p (bP l 0 3 3 6).1).length≤18∧(bP l 0 3 3 6).1.length≤18:=by
 obtain ⟨n1,n2⟩:=qE l 0 3 3 6 (by omega) (by omega) (by omega) (by omega);obtain ⟨_,h2⟩:=aGy l 0 3 6 (by omega) (by omega) (by omega);refine ⟨Hw (m:=3) (s:=3) fun c hc=>⟨n1 c hc,(h2 c hc).2⟩,Nat.le_trans (Cc p _) n2,n2⟩
theorem Rn (p:ProjR) (l:List Int) (k:Nat):TClips p (kZ p (jD l k))∧(kZ p (jD l k)).length≤7∧(jD l k).length≤7:=by
 obtain ⟨n1,n2⟩:=qE l k 3 2 3 (by omega) (by omega) (by omega) (by omega);obtain ⟨_,h2⟩:=aGy l k 2 3 (by omega) (by omega) (by omega);have h:=(xT l 3 2 (by omega) (by omega) (aB l k 4).toNat (k+1)).2;have h3:=aD (L:=l) (k:=k) (n:=4) (by omega);have e:(bP l k 3 2 3).1=(jK l 3 2 (aB l k 4).toNat (k+1)).1:=rfl;have hl:(jD l k).length≤7:=by
  unfold jD;rw [List.length_append,e];simp only [List.length_cons,List.length_nil];omega
 refine ⟨Hw (m:=3) (s:=2) fun c hc=>?_,Nat.le_trans (Cc p _) hl,hl⟩;unfold jD at hc;rcases List.mem_append.1 hc with hc | hc
 ·exact ⟨n1 c hc,(h2 c hc).2⟩
 ·rw [List.mem_singleton.1 hc];exact ⟨Jn l _ 3 2 (by omega) (by omega),Rx l _ 3 2 (by omega) (by omega)⟩
def Xm (p:ProjR) (t N:List ClipR) (V0:V):Prop :=
 (∃ n,n≠0∧aK Tryz.prog 14 [.t (aM t),V0] (xH n)) ∨
 ∃ (X:List ClipR) (a e:Nat) (uk:Int),aK Tryz.prog 14 [.t (aM t),V0] (.tup [.t (aM (kB X)), .agg (tK N a e uk),aA 0])∧PartX 5000 p X∧X.length≤50∧(fr X).length≤500∧UAt (fr N) (fr X) a e uk∧a≤300∧e - a≤300
section
variable {p:ProjR} {t N:List ClipR} (h:TrkU p t N)
include h
theorem TrkU.cut:CutOk 1000 N (fr N):=by
 have hl:=h.l;have hc:=h.px.cut (by omega);exact ⟨fun c hc2=>yV (hc.gd c hc2) (by omega),hc.tr,hc.fr,hc.tot⟩
theorem aRv {k:Int} {q:Nat} {b:Int} {sp:RatR} (hk : 5≤k∧k≤10) (hq:q≤1000) (c2:aK Tryz.prog 46 [.agg (qC k q b sp nR)] (aX true))
  (hA:tU k q N.length=false → ¬ (k=10∧(N.getD q default).a.isZ=true) → ∃ L A E uk,AdjK p N (fr N) k q b sp nR L A E uk∧E - A≤300):Xm p t N (.agg (qC k q b sp nR)):=by
 have hl:=h.l;have hf:=h.f;have hcu:=h.cut;have htf:∀ c∈t,c.fit:=fun c hc=>(h.tp.cl c hc).1
 cases hm:tU k q N.length with
 | true =>
  exact .inl ⟨7,by decide,Sv h.tp.ok htf h.nt k hk q b sp c2 7 (by decide) (aAc N (fr N) hcu (by omega) (by omega) k q b sp nR hq (fun _=>rfl) (fun h2=>absurd (hm.symm.trans h2) (by decide)) (fun h2=>absurd (hm.symm.trans h2) (by decide)))⟩
 | false =>
  by_cases hz:k=10∧(N.getD q default).a.isZ=true
  ·exact .inl ⟨13,by decide,Sv h.tp.ok htf h.nt k hk q b sp c2 13 (by decide) (aAc N (fr N) hcu (by omega) (by omega) k q b sp nR hq (fun h2=>absurd (hm.symm.trans h2) (by decide)) (fun _ _ _=>rfl) (fun _ h2=>absurd hz h2))⟩
  ·obtain ⟨L,A,E,uk,hK,h3⟩:=hA hm hz;rcases hK.ok hcu (by omega) (by omega) hq hm hz with h1 | ⟨h1,h2⟩
   ·exact .inl ⟨2,by decide,Sv h.tp.ok htf h.nt k hk q b sp c2 2 (by decide) h1⟩
   ·have hX:PartX 5000 p L:=⟨fun c hc=>yV (h1.gd c hc) (by omega),h1.cl,by rw [h1.len];omega,by have:=h1.tot;omega⟩
    obtain ⟨u1,u2⟩:=Uj h1.sh;obtain ⟨z1,z2,_⟩:=aC6 hX;have z3:=eT L;have hlen:=h1.len;have hlt:=h1.sh.lt;obtain ⟨hlt2,P,Y,Z,S,e1,e2,e3,e4⟩:=h1.sh;have eF:(fr N).length=P.length+(Z.length+S.length):=by rw [e2];simp
    have eG:(fr L).length=P.length+(Y.length+S.length):=by rw [e1];simp
    have c4:=aT4 h.tp.ok htf h.nt k hk q b sp c2 h2 h1.all hX.trk (fun c hc=>(h1.gd c hc).fit) (by omega);have eA:((A.toNat:Nat):Int)=A:=by omega
    have eE:((E.toNat:Nat):Int)=E:=by omega
    refine .inr ⟨L,A.toNat,E.toNat,uk,by rw [eA,eE];exact c4,hX,by omega,?_,u2,by omega,by omega⟩;rcases e4 with ⟨_,rfl,e5⟩ | ⟨_,rfl,e5⟩ | ⟨_,e5,e6⟩
    ·simp only [List.length_nil] at eF;omega
    ·simp only [List.length_nil] at eG;omega
    ·omega
end
theorem aNv (L:List Int) (k:Nat):fG (pW L k)=true∧(pW L k).fit∧(pW L k).num.natAbs≤1000000:=by
 have h:=xW L 0 k;unfold Nj at h;simp only [Bool.and_eq_true,decide_eq_true_eq] at h;obtain ⟨⟨⟨⟨⟨⟨⟨⟨h1,h2⟩,h3⟩,h4⟩,h5⟩,h6⟩,h7⟩,h8⟩,h9⟩:=h;exact ⟨h2,⟨⟨by omega,by omega⟩,by omega,by omega⟩,by omega⟩
section
variable {p:ProjR} {t N:List ClipR} (h:TrkU p t N)
include h
theorem ed_59 {k:Int} {q:Nat} {b:Int} (hk : 5≤k∧k≤9) (hq:q≤1000) (hb:b≠0) (hb1:b.natAbs≤6):Xm p t N (.agg (qC k q b ⟨0,0⟩ nR)):=by
 have hl:=h.l;have hf:=h.f;have hcu:=h.cut;refine aRv h (by omega) hq (aG6 k q b hk (by omega) hb (by omega)) fun hm hz=>?_
 unfold tU at hm;simp only [Bool.or_eq_false_iff,decide_eq_false_iff_not] at hm;obtain ⟨⟨m1,m2⟩,m3⟩:=hm;rcases (show k=5∨k=6∨k=7∨k=8∨k=9 by omega) with rfl | rfl | rfl | rfl | rfl
 ·exact ⟨_,_,_,_,adjk5 h.adj hcu (by omega) (by omega) hb (by omega) ⟨0,0⟩ nR (by omega),by omega⟩
 ·exact ⟨_,_,_,_,adjk6 h.adj hcu (by omega) (by omega) hb (by omega) ⟨0,0⟩ nR (by omega),by omega⟩
 ·rw [if_pos (.inl rfl)] at m3;exact ⟨_,_,_,_,adjk7 h.adj hcu (by omega) (by omega) hb (by omega) ⟨0,0⟩ nR (by omega),by omega⟩
 ·have hc:=Gq hcu (q:=q) (by omega);exact ⟨_,_,_,_,adjk8 h.adj hcu (by omega) (by omega) (by omega) ⟨0,0⟩ nR (by omega),by omega⟩
 ·rw [if_pos (.inr rfl)] at m3;rw [if_pos rfl] at m2;obtain ⟨r,rfl⟩:∃ r,q=r+1:=⟨q - 1,by omega⟩
  have hc:=Gq hcu (q:=r+1) (by omega);exact ⟨_,_,_,_,adjk9 h.adj hcu (by omega) (by omega) hb (by omega) ⟨0,0⟩ nR (by omega),by omega⟩
theorem ed_10 {q:Nat} {sp:RatR} (hq:q≤1000) (hs:fG sp=true) (hsf:sp.fit) (hs6:sp.num.natAbs≤1000000):Xm p t N (.agg (qC 10 q 0 sp nR)):=by
 have hl:=h.l;have hf:=h.f;have hcu:=h.cut;refine aRv h (by omega) hq (aG7 q sp hsf hs (by omega)) fun hm hz=>?_
 unfold tU at hm;simp only [Bool.or_eq_false_iff,decide_eq_false_iff_not] at hm;obtain ⟨⟨m1,m2⟩,m3⟩:=hm;have hz':(N.getD q default).a.isZ=false:=by
  cases e:(N.getD q default).a.isZ with
  | false=>rfl
  | true=>exact absurd ⟨rfl,e⟩ hz
 have hc:=Gq hcu (q:=q) (by omega);exact ⟨_,_,_,_,adjk10 h.adj hcu (by omega) (by omega) (b:=0) (by decide) sp nR (by omega) hsf hs6 hz',by omega⟩
theorem ed_13 {k:Int} (hk:k=1∨k=3) {a:Nat} (ha:a≤60) {C:List ClipR} (hC:TClips p C) (hl7:C.length≤7):Xm p t N (kG k a 0 (aM C)):=by
 have hl:=h.l;have hf:=h.f;have hcu:=h.cut;have htf:∀ c∈t,c.fit:=fun c hc=>(h.tp.cl c hc).1
 rcases C with _ | ⟨c0,C0⟩
 ·exact .inl ⟨1,by decide,aMx h.tp.ok htf k a hk⟩
 ·have hpC:=hC.px (by omega);obtain ⟨t1,t2⟩:=hC.tot;have hC0 : 0<(c0::C0).length:=by simp
  generalize c0::C0=C at *;have hgC:∀ c∈C,Gd 5000 c∧CliP p c:=fun c hc=>⟨yV (hC.gd c hc) (by omega),hC.cl c hc⟩
  have hCf:∀ c∈C,c.fit:=fun c hc=>(hC.nice c hc).fit
  have htC:=Ma hpC.trk hC0;have e2:((a+(fr C).length:Nat):Int) - a=(fr C).length:=by omega
  rcases hk with rfl | rfl
  ·obtain ⟨x1,x2,x3⟩:=Rc (m:=5000) (by omega) (h.px.le (by omega)) (by omega) (by omega) hgC (by omega) (by omega) (a:=(a:Int)) (r:=(a:Int)) (by omega) (by omega) (by omega) (by omega) (by omega);rw [Int.toNat_natCast] at x2;obtain ⟨z1,z2,_⟩:=aC6 x1;have z3:=eT (cY N a C a);have hxl:(cY N a C a).length≤50:=by omega
   have key:=aK0 h.tp.ok htf h.nt hcu (by omega) (by omega) (a:Int) (by omega) (by omega) C hpC.trk (hpC.vt (by omega)) hCf hC0 (by omega);rw [Int.add_zero] at key;have key2:=key x1.trk (fun c hc=>(x1.gd c hc).fit) (by omega);refine .inr ⟨cY N a C a,a,a+(fr C).length,2,?_,x1,hxl,?_,⟨by omega,fun i hi=>?_, .inl ⟨rfl,fun i hi=>?_⟩⟩,by omega,by omega⟩
   ·unfold tK;rw [if_pos rfl,e2, ← t1];exact key2
   ·rw [x2];simp only [List.length_append,gU,List.length_drop];omega
   ·rw [x2,jX,if_pos hi]
   ·rw [x2,jX,if_neg (by omega),if_neg (by omega)];congr 1;omega
  ·obtain ⟨x1,x2,x3⟩:=Rc (m:=5000) (by omega) (h.px.le (by omega)) (by omega) (by omega) hgC (by omega) (by omega) (a:=(a:Int)) (r:=((a+(fr C).length:Nat):Int)) (by omega) (by omega) (by omega) (by omega) (by omega);rw [Int.toNat_natCast,Int.toNat_natCast] at x2;obtain ⟨z1,z2,_⟩:=aC6 x1;have z3:=eT (cY N a C ((a+(fr C).length:Nat):Int));have hxl:(cY N a C ((a+(fr C).length:Nat):Int)).length≤50:=by omega
   have key:=aJy h.tp.ok htf h.nt hcu (by omega) (by omega) (a:Int) (by omega) (by omega) C hpC.trk (hpC.vt (by omega)) hCf hC0 (by omega);rw [show (a:Int)+totL C=((a+(fr C).length:Nat):Int) by omega] at key;have key2:=key x1.trk (fun c hc=>(x1.gd c hc).fit) (by omega);refine .inr ⟨_,a,a+(fr C).length,3,?_,x1,hxl,?_,⟨by omega,fun i hi=>?_, .inr (.inr ⟨rfl,fun i hi=>?_⟩)⟩,by omega,by omega⟩
   ·unfold tK;rw [if_neg (by decide),e2, ← t1];exact key2
   ·rw [x2];simp only [List.length_append,gU,List.length_drop];omega
   ·rw [x2,jX,if_pos hi]
   ·rw [x2,jX,if_neg (by omega),if_neg (by omega)];congr 1;omega
theorem ed_24 {k:Int} (hk:k=2∨k=4) {a l:Nat} (ha:a≤60) (hl1 : 1≤l) (hl2:l≤20):Xm p t N (kG k a l nR):=by
 have hl:=h.l;have hf:=h.f;have hcu:=h.cut;have htf:∀ c∈t,c.fit:=fun c hc=>(h.tp.cl c hc).1
 have e2:((a+l:Nat):Int) - a=l:=by omega
 rcases hk with rfl | rfl
 ·obtain ⟨x1,x2,x3⟩:=Rc (m:=5000) (by omega) (h.px.le (by omega)) (by omega) (by omega) (C:=[]) (fun c hc=>(by cases hc)) (by simp) (by simp [fr]) (a:=(a:Int)) (r:=((a+l:Nat):Int)) (by omega) (by omega) (by omega) (by omega) (by rw [show fr ([]:List ClipR) = [] from rfl,List.length_nil];omega);rw [Int.toNat_natCast,Int.toNat_natCast,show fr ([]:List ClipR) = [] from rfl] at x2;rw [List.length_nil] at x3;obtain ⟨z1,z2,_⟩:=aC6 x1;have z3:=eT (cY N a [] ((a+l:Nat):Int));have key:=aJz h.tp.ok htf h.nt hcu (by omega) (by omega) (a:Int) (by omega) (by omega) (l:Int) (by omega) (by omega);rw [show (a:Int)+l=((a+l:Nat):Int) by omega] at key;have key2:=key x1.trk (fun c hc=>(x1.gd c hc).fit) (by omega);refine .inr ⟨_,a,a+l,1,?_,x1,by omega,?_,⟨by omega,fun i hi=>?_, .inr (.inl ⟨rfl,fun i hi=>?_⟩)⟩,by omega,by omega⟩
  ·unfold tK;rw [if_neg (by decide),e2];exact key2
  ·rw [x2];simp only [List.length_append,gU,List.length_drop,List.length_nil];omega
  ·rw [x2,jX,if_pos hi]
  ·rw [x2,jX,if_neg (by omega),List.length_nil,if_neg (by omega)];congr 1;omega
 ·have hg:∀ c∈kV (l:Int),Gd 5000 c∧CliP p c:=fun c hc=>by
   obtain ⟨q1,rfl⟩:=aCg hc;exact ⟨Zs _ _ q1 (by omega),Ry p _⟩
  have hgl:=sT (l:Int);have hgf:(fr (kV (l:Int))).length=l:=by rw [aJ8];simp
  obtain ⟨x1,x2,x3⟩:=Rc (m:=5000) (by omega) (h.px.le (by omega)) (by omega) (by omega) hg (by omega) (by omega) (a:=(a:Int)) (r:=((a+l:Nat):Int)) (by omega) (by omega) (by omega) (by omega) (by omega);rw [Int.toNat_natCast,Int.toNat_natCast] at x2;obtain ⟨z1,z2,_⟩:=aC6 x1;have z3:=eT (cY N a (kV (l:Int)) ((a+l:Nat):Int));have key:=cApply4 h.tp.ok htf h.nt hcu (by omega) (by omega) (a:Int) (by omega) (by omega) (l:Int) (by omega) (by omega);rw [show (a:Int)+l=((a+l:Nat):Int) by omega] at key;have key2:=key x1.trk (fun c hc=>(x1.gd c hc).fit) (by omega);refine .inr ⟨_,a,a+l,3,?_,x1,by omega,?_,⟨by omega,fun i hi=>?_, .inr (.inr ⟨rfl,fun i hi=>?_⟩)⟩,by omega,by omega⟩
  ·unfold tK;rw [if_neg (by decide),e2];exact key2
  ·rw [x2];simp only [List.length_append,gU,List.length_drop];omega
  ·rw [x2,jX,if_pos hi]
  ·rw [x2,jX,if_neg (by omega),if_neg (by omega)];congr 1;omega
end
def aPk (p:ProjR) (e:EdR):T:=if e.kind=1∨e.kind=3 then aM (kZ p e.cs) else nR
theorem aRt {p:ProjR} {t N:List ClipR} (h:TrkU p t N) (l:List Int) (k:Nat) {n:Int} (h0 : 0≤n) (hn:n≤100) :
  Xm p t N (.agg [aA (eB l k n).kind,aA (eB l k n).pos,aA (eB l k n).len,aA (eB l k n).clip,aA (eB l k n).by',aA (eB l k n).sp.num,aA (eB l k n).sp.den, .t (aPk p (eB l k n))]):=by
 have t1:=aD (L:=l) (k:=k) (n:=10) (by omega);have t2:=aD (L:=l) (k:=k+1) (n:=60) (by omega);have t3:=aD (L:=l) (k:=k+2) (n:=20) (by omega);have t4:=aD (L:=l) (k:=k+1) (n:=n+1) (by omega);have t5:=aD (L:=l) (k:=k+2) (n:=11) (by omega);have hk : 1≤bN l k∧bN l k≤10:=by unfold bN;omega
 unfold aPk eB
 by_cases e1:bN l k=1∨bN l k=3
 ·rw [if_pos e1];simp only;rw [if_pos e1];obtain ⟨q1,q2,_⟩:=Rn p l (k+2);have key:=ed_13 h e1 (a:=(aB l (k+1) 60).toNat) (by omega) q1 q2;rw [show (((aB l (k+1) 60).toNat:Nat):Int)=aB l (k+1) 60 by omega] at key;exact key
 ·rw [if_neg e1]
  by_cases e2:bN l k=2∨bN l k=4
  ·rw [if_pos e2];simp only;rw [if_neg e1];have key:=ed_24 h e2 (a:=(aB l (k+1) 60).toNat) (l:=(1+aB l (k+2) 20).toNat) (by omega) (by omega) (by omega);rw [show (((aB l (k+1) 60).toNat:Nat):Int)=aB l (k+1) 60 by omega,show (((1+aB l (k+2) 20).toNat:Nat):Int)=1+aB l (k+2) 20 by omega] at key;exact key
  ·rw [if_neg e2]
   by_cases e3:bN l k=10
   ·rw [if_pos e3];simp only;rw [if_neg (by omega)];obtain ⟨s1,s2,s3⟩:=aNv l (k+2);have key:=ed_10 h (q:=(aB l (k+1) (n+1)).toNat) (by omega) s1 s2 s3;rw [show (((aB l (k+1) (n+1)).toNat:Nat):Int)=aB l (k+1) (n+1) by omega] at key;exact key
   ·rw [if_neg e3];simp only;rw [if_neg e1];have hb:Tz l (k+2)≠0∧(Tz l (k+2)).natAbs≤6:=by
     unfold Tz;split<;>omega
    have key:=ed_59 h (k:=bN l k) (q:=(aB l (k+1) (n+1)).toNat) (b:=Tz l (k+2)) (by omega) (by omega) hb.1 hb.2;rw [show (((aB l (k+1) (n+1)).toNat:Nat):Int)=aB l (k+1) (n+1) by omega] at key;exact key
theorem aMv (p:ProjR) (e:EdR) (hm:p.media.length≤1000) (hs:p.seqs.length≤1000) (hl:e.cs.length≤1000) (hr:e.raw=if e.kind=1∨e.kind=3 then aM e.cs else nR):aK Tryz.prog 12 [uV p, .t e.raw] (.t (aPk p e)):=by
 rw [hr];unfold aPk;split
 ·exact aSr p e.cs hm hs hl
 ·exact aMw p
theorem aRu (l:List Int) (k:Nat) (n:Int):(eB l k n).raw=(if (eB l k n).kind=1∨(eB l k n).kind=3 then aM (eB l k n).cs else nR)∧(eB l k n).cs.length≤7:=by
 unfold eB
 by_cases e1:bN l k=1∨bN l k=3
 ·rw [if_pos e1];simp only;rw [if_pos e1];exact ⟨rfl,(Rn default l (k+2)).2.2⟩
 ·rw [if_neg e1]
  by_cases e2:bN l k=2∨bN l k=4
  ·rw [if_pos e2];simp only;rw [if_neg e1];exact ⟨rfl,by simp⟩
  ·rw [if_neg e2]
   by_cases e3:bN l k=10
   ·rw [if_pos e3];simp only;rw [if_neg (by omega)];exact ⟨rfl,by simp⟩
   ·rw [if_neg e3];simp only;rw [if_neg e1];exact ⟨rfl,by simp⟩
set_option maxHeartbeats 8000000 in
theorem aKj (L l:List Int):aK Tryz.prog 3 [.t (bS L), .t (bS l)] (aX true):=by
 obtain ⟨m1,m3,s1,s3⟩:=Du L;obtain ⟨q1,q2,q3⟩:=aAs (dH L) l;have a1:=Lz l 0 3 3 6 (by omega) (by omega) (by omega) (by omega);have cT:=aMq L l 0 (by omega) (by omega);have hT:=trkU_of q1 q2;obtain ⟨k1,hk1⟩:∃ k1,k1=(bP l 0 3 3 6).2:=⟨_,rfl⟩
 rw [← hk1] at cT a1;generalize kZ (dH L) (bP l 0 3 3 6).1=t at *;have a2:=Lz l (k1+2) 3 2 3 (by omega) (by omega) (by omega) (by omega);obtain ⟨f1,f2⟩:=qE l (k1+2) 3 2 3 (by omega) (by omega) (by omega) (by omega);have cE:=cEditAt l k1 t.length (by omega) (by omega) (by omega) (by omega) (by omega);obtain ⟨r1,r2⟩:=aRu l k1 t.length;have cN:=aMv (dH L) _ (by omega) (by omega) (by omega) r1;have hR:=aRt hT l k1 (n:=t.length) (by omega) (by omega);have cP:=Sm L;have film20:=Sh L hT.tp 20 (by omega);have film80:=Sh L hT.tp 80 (by omega);have hfl:=hT.film 80;generalize eB l k1 t.length=e at *;obtain ⟨ek,ep,el,ec,eb,es,ecs,er⟩:=e;generalize aPk (dH L) _=raw at *;refine aG Tryz.X3 Tryz.func3 rfl Tryz.ntmps3 (by rw [Tryz.results3]) (aC _ ?_);simp only [go_sem,simprocAttr,dtf];refine cQ cT [0] rfl (by omega) (by decide) ?_ rfl rfl rfl rfl ?_
 ·simp only [go_sem,simprocAttr,dtf]<;>rfl
 simp only [go_sem,simprocAttr,dtf,List.getElem?_nil];refine cQ cE [0] rfl (by omega) (by decide) ?_ rfl rfl rfl rfl ?_
 ·simp only [go_sem,simprocAttr,dtf]<;>rfl
 simp only [go_sem,simprocAttr,dtf,List.getElem?_nil];refine aQ 7 .done rfl (by kernel_rfl) (by kernel_rfl) (by decide) ?_;simp only [go_sem,simprocAttr,dtf];refine ⟨_,cP,?_⟩;simp only [go_sem,simprocAttr,dtf];refine ⟨_,cN,?_⟩;simp only [go_sem,simprocAttr,dtf];refine ⟨by kernel_rfl,?_⟩;rcases hR with ⟨n,hn,hA⟩ | ⟨X,a,en,uk,hA,hX,hXl,hXf,hU,ha,he⟩
 ·have hn':(n != 0)=true:=by simpa using hn
  unfold xH jE at hA;refine ⟨_,hA,?_⟩;simp only [go_sem,simprocAttr,dtf,hn'];refine ⟨_,film20,?_⟩;simp only [go_sem,simprocAttr,dtf]
 ·obtain ⟨v,u0,u1,u2,u3,u4,u5,u6,u7,hB,hv,hvf⟩:=undo_ok (hT.px.le (by omega)) (by have:=hT.l;omega) (by have:=hT.f;omega) hX hXl hXf hU ha he;have hu:∃ y0 y1 y2 y3 y4 y5 y6 y7:T,tK (gR t) a en uk = [.t y0, .t y1, .t y2, .t y3, .t y4, .t y5, .t y6, .t y7]:=by
   unfold tK;split<;>exact ⟨_,_,_,_,_,_,_,_,rfl⟩
  obtain ⟨y0,y1,y2,y3,y4,y5,y6,y7,hu⟩:=hu;rw [hu] at hA hB;have film80v:=Sh L hv 80 (by omega);rw [hvf 80, ← hfl] at film80v;have hQl:=aAp (dH L) [t] 80;generalize Fg (dH L) [t] 80=Q at *;have cS:=aMs Q (by omega);refine ⟨_,hA,?_⟩;simp only [go_sem,simprocAttr,dtf];refine ⟨_,hB,?_⟩;simp only [go_sem,simprocAttr,dtf];refine ⟨_,film80,?_⟩;simp only [go_sem,simprocAttr,dtf];refine ⟨_,film80v,?_⟩;simp only [go_sem,simprocAttr,dtf];refine ⟨_,cS,?_⟩;simp only [go_sem,simprocAttr,dtf]
