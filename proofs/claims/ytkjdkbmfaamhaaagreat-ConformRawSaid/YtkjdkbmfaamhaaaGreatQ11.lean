/- Proved here: The mixer's source: a place within bounds. -/
import Derived.Test.YtkjdkbmfaamhaaaGreatQ10
set_option linter.unusedSimpArgs false
set_option linter.unusedVariables false
set_option linter.unnecessarySimpa false
namespace Go.Proofs.YtkjdkbmfaamhaaaGreat
open Go.RowKit
set_option maxRecDepth 4000
theorem aM8 {p:ProjR} (hp:PrjV p) {A:List AudioR} (hA:AudP A) {i:Nat} {s:SourceR} (hs:SrcV p i s) {j j':Int} {a b:List Int} (ha:pU p A (eA p A i) s j = .ok a) (hb:pU p A (eA p A i) s j' = .ok b):a.length=b.length∧a.length≤4:=by
 unfold pU at ha hb;split at ha
 ·rename_i hk;rw [if_pos hk] at hb;have hx : 0≤fR p s.name:=by
   rcases hs.kind with h | h | h
   ·omega
   ·omega
   ·exact h.2.1
  obtain ⟨k,hkl,hki,hkn⟩:=kQ hx;rw [hki,Int.toNat_natCast] at ha hb;unfold eA at ha hb;split at ha
  ·rename_i hd;rw [if_pos hd] at hb;have h1:=(Ce hp hkl ha).1;have h2:=(Ce hp hkl hb).1;have:=aNu hp k;omega
  ·cases ha
 ·rename_i hk;rw [if_neg hk] at hb;cases hw:pR A s.name with
  | none=>rw [hw] at ha;cases ha
  | some w =>
   rw [hw] at ha hb;injection ha with ha;injection hb with hb;subst ha;subst hb;have hm:w∈A:=List.mem_of_find?_eq_some hw;have:=(hA.four hm).1;rw [List.length_map,List.length_map];exact ⟨rfl,by omega⟩
theorem aG3 {a b:Int} (h0 : -9223372036854775808≤a - b) (h1:a - b≤9223372036854775807):IntKind.i64.wrap (a - IntKind.i64.wrap b)=a - b:=by
 have e1:(2:Int) ^ IntKind.i64.bits=18446744073709551616:=by decide
 have e2:(2:Int) ^ (IntKind.i64.bits - 1)=9223372036854775808:=by decide
 unfold IntKind.wrap;simp only [IntKind.signed,e1,e2,Bool.true_and,decide_eq_true_eq]
 repeat' split
 all_goals omega
set_option maxHeartbeats 4000000 in
theorem pSrcE {p:ProjR} (hp:PrjV p) {A:List AudioR} (hA:AudP A) {N:LayN} {σ : St} {KP:List PanicEntry→St→Prop} {d:Option Tmp} {K:St→Prop} (hM:MixH p A N σ.nx σ.h) {i:Nat} (hS:Hp p A N i) {s:SourceR} (hs:SrcV p i s) (hk:s.kind≠0) (hau:aZ (cF p s)=true) (hf:(cF p s).fit) (k:Rat) (hfk:bV k=true) (hsp:bV (toQ s.speed)=true) (hse:s.speed=ofQ (toQ s.speed)) (h1x:bV (k*toQ s.speed)=true) (hps:bV (toQ s.pos)=true) (hpe:s.pos=ofQ (toQ s.pos)) (h2x:bV (toQ s.pos+k*toQ s.speed)=true) (y:Rat) (hy:y=(toQ s.pos+k*toQ s.speed)*fC (cF p s)) (h3x:bV y=true) (hz : -1099511627776≤y.floor∧y.floor<1099511627776)
  (hO:OutK p A N σ KP d K (mapE uC (aGb p A (eA p A i) s y))) :
  PCall Tryz.prog (DN p N) KP σ d 91 [.own N.m,dT s,bK (ofQ k)] K:=by
 have hkb:(s.kind==0)=false:=by rw [beq_eq_false_iff_ne];exact hk
 have cau:=pH (cF p s) hf;rw [hau] at cau;refine eV Tryz.X91 Tryz.func91 rfl Tryz.ntmps91 (by rw [Tryz.results91]) ?_;obtain ⟨fr0,H0,n0,df0⟩ := σ;simp only at hO hM ⊢;have h1:=fun b=>MixH.top hM (k:=n0) b (Nat.le_refl _)
 have h2:=fun b c=>MixH.top (h1 b) (k:=n0+1) c (Nat.le_refl _)
 have h3:=fun b c e=>MixH.top (h2 b c) (k:=n0+2) e (Nat.le_refl _)
 have hD:∀ b c e,aY (DN p N) H0 ((n0+2,e)::(n0+1,c)::(n0,b)::H0):=fun b c e q x _ hq=>aK (h2 b c).wf (aK (h1 b).wf (aK hM.wf hq (Nat.le_refl _)) (Nat.le_refl _)) (Nat.le_refl _)
 refine aF (aB _ ?_);simp only [go_sem,simprocAttr,Nat.add_assoc];refine aF (aB _ ?_);simp only [go_sem,simprocAttr,hkb,Nat.left_eq_add];refine aF (aN 2 ?_);simp only [go_sem,simprocAttr,Nat.left_eq_add];refine mM rfl rfl ?_;simp only [go_sem,simprocAttr];refine dB (Rv hp (h3 _ _ _) hs hk fun h' nx' hle hD' hM'=>cQ ?_);generalize hqe:cF p s=q at *;simp only [go_sem,simprocAttr];refine aF ?_;refine aF (aB _ ?_);simp only [go_sem,simprocAttr];refine ⟨_,cau,?_⟩;simp only [go_sem,simprocAttr];refine eB (b:=false) rfl ?_;rw [if_neg (by decide)];refine aB _ ?_;simp only [go_sem,simprocAttr];refine aF (aB _ ?_);simp only [go_sem,simprocAttr];have hle':n0+2+1≤nx':=hle;have dn:∀ q,n0≤q→DN p N q:=fun q hq i hi=>by have:=(hM.lb i hi).2.2;omega
 have d0:DN p N n0:=dn n0 (Nat.le_refl _);have d1:DN p N (n0+1):=dn _ (by omega);have g0:(n0=nx')=False:=by simp;omega
 have g1:(n0+1=nx')=False:=by simp;omega
 have g2:(n0=nx'+1)=False:=by simp;omega
 have g3:(n0+1=nx'+1)=False:=by simp;omega
 have hb0:h'.look n0=some (.box [aA s.kind,cA s.name,aA s.pos.num,aA s.pos.den,aA s.speed.num,aA s.speed.den,aL s.smooth]):=hD' _ _ d0 (by show Heap.look ((n0+2,_)::(n0+1,_)::(n0,_)::_) n0=_;rw [Heap.look,if_neg (by omega),Heap.look,if_neg (by omega),Heap.look,if_pos rfl]);have hb1:h'.look (n0+1)=some (.box [aA (ofQ k).num,aA (ofQ k).den]):=hD' _ _ d1 (by show Heap.look ((n0+2,_)::(n0+1,_)::(n0,_)::_) (n0+1)=_;rw [Heap.look,if_neg (by omega),Heap.look,if_pos rfl]);have cm:aJ Tryz.prog 124 [bK (ofQ k),bK s.speed] (jP (k*toQ s.speed)):=by have:=Ea hfk hsp;rwa [← hse] at this
 simp only [jP,h1x,cond_true] at cm;have ca:aJ Tryz.prog 89 [bK s.pos,bK (ofQ (k*toQ s.speed))] (jP (toQ s.pos+k*toQ s.speed)):=by have:=Tk hps h1x;rwa [← hpe] at this
 simp only [jP,h2x,cond_true] at ca;have cfr:aJ Tryz.prog 49 [aA (IntKind.i64.wrap (48000*q.den)),aA q.num] (.tup [bK (ofQ (fC q)),aA 0]):=by
  obtain ⟨n,d,en,ed,n1,n2,d1',d2,_⟩:=pE hau;have ew:IntKind.i64.wrap (48000*q.den)=48000*q.den:=by rw [ed];exact wrap64 (by omega) (by omega)
  have:=cOfZ (48000*q.den) n n1 (by rw [ed];omega) (by omega);rw [ew,en];unfold fC;rw [en];exact this
 have hDs:aY (DN p N) H0 h':=fun y x dy hq=>hD' y x dy (hD _ _ _ y x dy hq)
 have hM4:=MixH.top hM' (k:=nx') (.box [aA q.num,aA q.den]) (Nat.le_refl _);have hDt:aY (DN p N) H0 ((nx', .box [aA q.num,aA q.den])::h'):=fun y x dy hq=>aK hM'.wf (hDs y x dy hq) (Nat.le_refl _)
 have ff:bV (fC q)=true:=by
  obtain ⟨n,d,_,_,_,_,_,_,_,_,f,_⟩:=pE hau;exact f
 have cm3:=Ea h2x ff;rw [← hy] at cm3;simp only [jP,h3x,cond_true] at cm3;refine aQ 15 .done rfl (by kernel_rfl) (by kernel_rfl) (by decide) ?_;simp only [go_sem,simprocAttr,g0,g1,hb0,hb1,Nat.add_assoc];refine ⟨_,cm,?_⟩;simp only [go_sem,simprocAttr];refine ⟨_,gV _,?_⟩;simp only [go_sem,simprocAttr];refine ⟨_,ca,?_⟩;simp only [go_sem,simprocAttr];refine ⟨_,gV _,?_⟩;simp only [go_sem,simprocAttr,Nat.add_assoc];refine ⟨gL ?_,?_⟩
 ·have o0:mY (nx'+1) n0=0:=bQ (by omega);have o1:mY (nx'+1) (n0+1)=0:=bQ (by omega);have o2:mY (nx'+1) nx'=0:=bQ (by omega);simp only [fJ,gG,o0,o1,pT,Nat.reduceLeDiff,Nat.reduceSub,Nat.reduceAdd];show tV _ _ _=true
  kernel_rfl
 refine aF (aB _ ?_);simp only [go_sem,simprocAttr,Nat.left_eq_add];refine ⟨_,cfr,?_⟩;simp only [go_sem,simprocAttr];refine ⟨_,gV _,?_⟩;simp only [go_sem,simprocAttr,Nat.add_assoc];refine aF (aB _ ?_);simp only [go_sem,simprocAttr,Nat.add_left_cancel_iff];refine ⟨_,cm3,?_⟩;simp only [go_sem,simprocAttr];refine ⟨_,gV _,?_⟩;simp only [go_sem,simprocAttr,Nat.add_assoc];refine aF (aB _ ?_);simp only [go_sem,simprocAttr];obtain ⟨fy,vy⟩:=dN h3x;have cf:=aPt _ fy vy;rw [Ub] at cf;refine ⟨_,cf,?_⟩;simp only [go_sem,simprocAttr];refine aF ?_;have hM6:=MixH.top hM4 (k:=nx'+14) (.box [aA (ofQ (toQ s.pos+k*toQ s.speed)).num,aA (ofQ (toQ s.pos+k*toQ s.speed)).den]) (by omega);have hM7:=MixH.top hM6 (k:=nx'+16) (.box [aA (ofQ (fC q)).num,aA (ofQ (fC q)).den]) (by omega);have hM8:=MixH.top hM7 (k:=nx'+17) (.box [aA (ofQ y).num,aA (ofQ y).den]) (by omega);have hD8:aY (DN p N) H0 ((nx'+17, .box [aA (ofQ y).num,aA (ofQ y).den])::(nx'+16, .box [aA (ofQ (fC q)).num,aA (ofQ (fC q)).den])::(nx'+14, .box [aA (ofQ (toQ s.pos+k*toQ s.speed)).num,aA (ofQ (toQ s.pos+k*toQ s.speed)).den])::(nx', .box [aA q.num,aA q.den])::h'):=fun y x dy hq=>aK hM7.wf (aK hM6.wf (aK hM4.wf (hDt y x dy hq) (show nx'+1≤nx'+14 by omega)) (show nx'+14+1≤nx'+16 by omega)) (show nx'+16+1≤nx'+17 by omega)
 obtain ⟨z,ez⟩:∃ z,z=y.floor:=⟨_,rfl⟩
 rw [← ez] at hz ⊢;refine aF (aB _ ?_);have hlo : ¬ z < -1099511627776:=by omega
 have hhi : ¬ 1099511627776≤z:=by omega
 simp only [go_sem,simprocAttr,decide_false,hlo,hhi];refine eB (b:=false) rfl ?_;rw [if_neg (by decide)];refine aB _ ?_;simp only [go_sem,simprocAttr];refine aF (aB _ ?_);simp only [go_sem,simprocAttr];have gn:∀ j,(n0=nx'+j)=False:=fun j=>by simp;omega
 have dm1:DN p N N.m:=hM.dm.1;have dk:∀ j,DN p N (nx'+j):=fun j=>dn _ (by omega)
 have d2:DN p N (n0+2):=dn _ (by omega);obtain ⟨fy1,fy2⟩:=cX.1 h3x;obtain ⟨sr1,sr2⟩:=sW y;rw [← ez] at sr1 sr2;have wd:IntKind.i64.wrap ((ofQ y).num - IntKind.i64.wrap (z*(ofQ y).den))=y.num - z*(y.den:Int):=aG3 (by show _≤y.num - z*(y.den:Int);omega) (by show y.num - z*(y.den:Int)≤_;omega);have wz:IntKind.i64.wrap (z+1)=z+1:=wrap64 (by omega) (by omega);have hB:=Sb hp A i;have hb2:h'.look (n0+2)=some (.box [aA 0,aA 0,aA 0,aA 0,aA 0]):=hD' _ _ d2 (by show Heap.look ((n0+2,_)::_) (n0+2)=_;rw [Heap.look,if_pos rfl]);refine aA9 (DN p N) [4,9,19] (.look 0 (.look 1 (.look 2 (.look 3 (.look 5 (.look 6 (.look 7 (.look 8 (.look 10 (.look 11 (.look 12 (.look 13 (.look 14 (.look 15 (.look 16 (.look 17 (.look 18 (.step 4 (.step 9 (.step 19 (.step 20 .done))))))))))))))))))))) rfl (by kernel_rfl) ?_;simp only [go_sem,simprocAttr,g0,gn,hb0,dm1,d0,dk,wd,wz];have hle8:n0≤nx'+18:=by omega
 unfold aGb at hO;rw [← ez] at hO;refine pNum hp hA hM8 hS hs (by rw [hqe];exact hau) z (by omega) (by omega) ⟨fun x hx h2 nx2 hl2 hD2 hM2=>?_,fun n hn h2 nx2 hl2 hD2 hM2=>?_⟩
 rotate_left
 ·cases hn1:pU p A (eA p A i) s z with
  | ok a=>rw [hn1] at hn;cases hn
  | error e =>
   rw [hn1] at hn hO;injection hn with hn;subst hn;intro fr;exact ⟨rfl,hO.bad _ rfl h2 nx2 (Nat.le_trans hle8 hl2) (bC hD8 hD2) hM2⟩
 cases hn1:pU p A (eA p A i) s z with
 | error e=>rw [hn1] at hx;cases hx
 | ok a =>
 rw [hn1] at hx hO;injection hx with hx;subst hx;have hl2:nx'+18≤nx2:=hl2;simp only [go_sem,simprocAttr];refine pNum hp hA hM2 hS hs (by rw [hqe];exact hau) (z+1) (by omega) (by omega) ⟨fun x hx h3 nx3 hl3 hD3 hM3=>?_,fun n hn h3 nx3 hl3 hD3 hM3=>?_⟩
 rotate_left
 ·cases hn2:pU p A (eA p A i) s (z+1) with
  | ok b=>rw [hn2] at hn;cases hn
  | error e =>
   rw [hn2] at hn hO;injection hn with hn;subst hn;intro fr;exact ⟨rfl,hO.bad _ rfl h3 nx3 (Nat.le_trans (Nat.le_trans hle8 hl2) hl3) (bC hD8 (bC hD2 hD3)) hM3⟩
 cases hn2:pU p A (eA p A i) s (z+1) with
 | error e=>rw [hn2] at hx;cases hx
 | ok b =>
 rw [hn2] at hx hO;injection hx with hx;subst hx;have hl3:nx2≤nx3:=hl3;have b1:=xT hA.toAudF hB hn1;have b2:=xT hA.toAudF hB hn2;obtain ⟨el,e4⟩:=aM8 hp hA hs hn1 hn2;have cb:=cBetG el e4 (fun u hu=>by have:=b1 u hu;omega) (fun u hu=>by have:=b2 u hu;omega) (n:=y.num - z*(y.den:Int)) (d:=y.den) (by omega) (by omega) (by omega);have hDe:aY (DN p N) H0 h3:=bC hD8 (bC hD2 hD3);have hb3:h3.look (n0+2)=some (.box [aA 0,aA 0,aA 0,aA 0,aA 0]):=hD3 _ _ d2 (hD2 _ _ d2 (aK hM7.wf (aK hM6.wf (aK hM4.wf (aK hM'.wf hb2 (Nat.le_refl _)) (show nx'+1≤nx'+14 by omega)) (show nx'+14+1≤nx'+16 by omega)) (show nx'+16+1≤nx'+17 by omega)));simp only [go_sem,simprocAttr];refine aH0 cb rfl ?_;have eL:List.zipWith (fun u v=>kC u v (y.num - z*(y.den:Int)) y.den) a b=Ge y a b:=by rw [ez];rfl
 rw [eL];have hOk:=hO.ok _ rfl;clear hO cb eL;generalize Ge y a b=L at *;obtain ⟨B,hBB⟩:∃ B,B=Blk.box [V.t (.lit (.int .i64 (L.length:Int))),aA (L.getD 0 0),aA (L.getD 1 0),aA (L.getD 2 0),aA (L.getD 3 0)]:=⟨_,rfl⟩
 have hs0:(h3.set (n0+2) B).look (n0+2)=some B:=by rw [Heap.look_set _ _ _ hb3,if_pos rfl]
 have hDf:aY (DN p N) H0 (h3.set (n0+2) B):=fun q b dq hq=>by
  rw [Heap.look_set _ _ _ hb3,if_neg]
  ·exact hDe q b dq hq
  ·intro e;rw [e,hM.wf _ (by show n0≤n0+2;omega)] at hq;cases hq
 have hMf:MixH p A N nx3 (h3.set (n0+2) B):=hM.later (by show n0≤nx3;omega) hDf (fun j hj=>by
  obtain ⟨es,q1,q2⟩:=hM3.kept j hj;refine ⟨es,?_,q2⟩;rw [Heap.look_set _ _ _ hb3,if_neg]
  ·exact q1
  ·intro e;exact d2 j hj e.symm) fun q hq=>by
  rw [Heap.look_set _ _ _ hb3,if_neg (by omega)];exact hM3.wf q hq
 unfold uC;simp only [go_sem,simprocAttr,hb3];rw [← hBB];rw [hBB] at hs0;refine aB _ ?_;simp only [go_sem,simprocAttr];unfold uJ;rw [hBB];simp only [go_sem,simprocAttr,hs0];rw [hBB] at hDf hMf;exact ⟨hDf,hOk _ nx3 (by show n0≤nx3;omega) hDf hMf⟩
theorem aLn {p:ProjR} (hp:PrjV p) {i:Nat} {s:SourceR} (hs:SrcV p i s) (hk:s.kind≠0):(cF p s).fit:=by
 unfold cF;rcases hs.kind with h | h | h
 ·exact absurd h hk
 ·rw [if_pos h.1];obtain ⟨k,h1,h2,h3⟩:=yM h.2;have hm:Db p s.name=(k:Int):=h2;rw [hm,Int.toNat_natCast];exact (hp.med _ (aR h1)).2
 ·rw [if_neg (by omega)];obtain ⟨k,h1,h2,h3⟩:=kQ h.2.1;rw [h2,Int.toNat_natCast];exact (hp.seq k h1).fit.rate
theorem pSrc {p:ProjR} (hp:PrjV p) {A:List AudioR} (hA:AudP A) {N:LayN} {σ : St} {KP:List PanicEntry→St→Prop} {d:Option Tmp} {K:St→Prop} (hM:MixH p A N σ.nx σ.h) {i:Nat} (hS:Hp p A N i) {s:SourceR} (hs:SrcV p i s) (k:Rat) (hfk:bV k=true)
  (hO:OutK p A N σ KP d K (mapE uC (uF p A (eA p A i) s k))) :
  PCall Tryz.prog (DN p N) KP σ d 91 [.own N.m,dT s,bK (ofQ k)] K:=by
 obtain ⟨R,hR⟩:∃ R,R=uF p A (eA p A i) s k:=⟨_,rfl⟩
 rw [← hR] at hO;unfold uF at hR
 by_cases hk:s.kind=0
 ·rw [if_pos hk] at hR;rw [hR] at hO;exact pSrc0 hM hk _ (hO.ok _ rfl)
 rw [if_neg hk] at hR;have hf:=aLn hp hs hk;obtain ⟨hvp,hvs⟩:cU s.pos=true∧cU s.speed=true:=by
  have:=hs.ok;unfold aX at this;have hz:s.isZ=false:=by
   cases hz:s.isZ with
   | false=>rfl
   | true=>exact absurd (yF hz) hk
  rw [hz,Bool.false_or] at this;simp only [Bool.and_eq_true] at this;exact ⟨this.1.1.1.1.2,this.1.1.1.2⟩
 have hps:=Dq hs.fit.pos hvp;have hsp:=Dq hs.fit.speed hvs;have hpe:=(Ct hvp).symm;have hse:=(Ct hvs).symm;cases hau:aZ (cF p s) with
 | false =>
  rw [if_pos hau] at hR;rw [hR] at hO;exact pSrcN hp hM hs hk hau hf _ (hO.bad _ rfl)
 | true =>
 rw [if_neg (by rw [hau];decide)] at hR;cases h1x:bV (k*toQ s.speed) with
 | false =>
  rw [if_pos h1x] at hR;rw [hR] at hO;exact pSrcA hp hM hs hk hau hf k hfk hsp hse h1x (hO.bad _ rfl)
 | true =>
 rw [if_neg (by rw [h1x];decide)] at hR;cases h2x:bV (toQ s.pos+k*toQ s.speed) with
 | false =>
  rw [if_pos h2x] at hR;rw [hR] at hO;exact pSrcB hp hM hs hk hau hf k hfk hsp hse h1x hps hpe h2x (hO.bad _ rfl)
 | true =>
 rw [if_neg (by rw [h2x];decide)] at hR;cases h3x:bV ((toQ s.pos+k*toQ s.speed)*fC (cF p s)) with
 | false =>
  rw [if_pos h3x] at hR;rw [hR] at hO;exact pSrcC hp hM hs hk hau hf k hfk hsp hse h1x hps hpe h2x h3x (hO.bad _ rfl)
 | true =>
 rw [if_neg (by rw [h3x];decide)] at hR
 by_cases hz:((toQ s.pos+k*toQ s.speed)*fC (cF p s)).floor < -1099511627776∨1099511627776≤((toQ s.pos+k*toQ s.speed)*fC (cF p s)).floor
 ·rw [if_pos hz] at hR;rw [hR] at hO;exact pSrcD hp hM hs hk hau hf k hfk hsp hse h1x hps hpe h2x h3x hz (hO.bad _ rfl)
 ·rw [if_neg hz] at hR;rw [hR] at hO;exact pSrcE hp hA hM hS hs hk hau hf k hfk hsp hse h1x hps hpe h2x _ rfl h3x (by omega) hO
theorem uV {D D':Nat→Prop} {a b:Heap} (hs:∀ q,D' q→D q) (h:aY D a b):aY D' a b:=fun q x hq hx=>h q x (hs q hq) hx
theorem Tj (l:List Int) (h4:l.length≤4) (x:Int):aJ Tryz.prog 92 [uC l,aA x] (aA (aT l x)):=by
 by_cases h : 0≤x∧x<(l.length:Int)
 ·obtain ⟨i,rfl⟩:=eW h.1;have hi:i<l.length:=by omega
  have c:=aJg (l.length:Int) (l.getD 0 0) (l.getD 1 0) (l.getD 2 0) (l.getD 3 0) i (by omega) (by omega);have e:aT l (i:Int) = [l.getD 0 0,l.getD 1 0,l.getD 2 0,l.getD 3 0].getD i 0:=by
   unfold aT;rw [if_pos (by omega),Int.toNat_natCast];have:i=0∨i=1∨i=2∨i=3:=by omega
   rcases this with rfl | rfl | rfl | rfl<;>rfl
  rw [e];exact c
 ·have e:aT l x=0:=by
   by_cases h0:x<0
   ·exact fQ (.inl h0)
   ·exact fQ (.inr (by omega))
  rw [e];exact aJh _ _ _ _ _ x (by omega)
structure OffN (p:ProjR) (N:LayN) (q:Nat):Prop where
 m:q≠N.m∧q≠N.m0∧q≠N.m1∧q≠N.m2
 b:∀ i,i<p.seqs.length→q≠N.b i∧q≠N.t i∧q≠N.c i
theorem OffN.dn {p:ProjR} {N:LayN} {q:Nat} (h:OffN p N q):DN p N q:=fun i hi=>(h.b i hi).2.2
theorem MixH.off {p:ProjR} {A:List AudioR} {N:LayN} {n0:Nat} {H:Heap} (h:MixH p A N n0 H) {q:Nat} (hq:n0≤q):OffN p N q:=by
 obtain ⟨l1,l2,l3,l4⟩:=h.lm;refine ⟨⟨by omega,by omega,by omega,by omega⟩,fun i hi=>?_⟩;obtain ⟨b1,b2,b3⟩:=h.lb i hi;exact ⟨by omega,by omega,by omega⟩
theorem MixH.put {p:ProjR} {A:List AudioR} {N:LayN} {n0:Nat} {H:Heap} (h:MixH p A N n0 H) {q:Nat} (ho:OffN p N q) {b:Blk} (hb:H.look q=some b) (B:Blk):MixH p A N n0 (H.set q B):=by
 obtain ⟨R,r1,r2⟩:=h.rt;obtain ⟨U,u1,u2⟩:=h.au;obtain ⟨S,v1,v2⟩:=h.sq;have L:∀ r x,q≠r→H.look r=some x→(H.set q B).look r=some x:=fun r x hr hx=>by
  rw [Heap.look_set _ _ _ hb,if_neg (fun e=>hr e.symm)];exact hx
 refine ⟨L _ _ ho.m.1 h.box,⟨R,L _ _ ho.m.2.1 r1,r2⟩,⟨U,L _ _ ho.m.2.2.1 u1,u2⟩,⟨S,L _ _ ho.m.2.2.2 v1,v2⟩,fun i hi=>L _ _ (ho.b i hi).1 (h.seq i hi),fun i hi=>L _ _ (ho.b i hi).2.1 (h.trk i hi),fun i hi=>?_,h.dm,h.db,h.inj,h.lm,h.lb,fun r hr=>?_⟩
 ·obtain ⟨es,q1,q2⟩:=h.kept i hi;exact ⟨es,L _ _ (ho.b i hi).2.2 q1,q2⟩
 ·have hn:=h.wf r hr;rw [Heap.look_set _ _ _ hb,if_neg]
  ·exact hn
  ·intro e;rw [e,hb] at hn;cases hn
structure OutA (p:ProjR) (A:List AudioR) (N:LayN) (q:Nat) (acc:List Int) (σ : St) (KP:List PanicEntry→St→Prop) (d:Option Tmp) (K:St→Prop) (e:Ev (List Int)):Prop where
 ok:∀ g,e = .ok g → ∀ h' nx', σ.nx≤nx'→aY (fun r=>DN p N r∧r≠q) σ.h h'→h'.look q=some (.box [aA ((Bu acc g).getD 0 0),aA ((Bu acc g).getD 1 0),aA ((Bu acc g).getD 2 0),aA ((Bu acc g).getD 3 0)])→MixH p A N nx' h'→K (({ σ with h:=h',nx:=nx' }:St).put d (.tup []))
 bad:∀ n,e = .error n → ∀ h' nx', σ.nx≤nx'→aY (fun r=>DN p N r∧r≠q) σ.h h'→MixH p A N nx' h'→KP [{ v:=gK n,recovered:=false }] { σ with fr:=[],h:=h',nx:=nx' }
def Qj (acc g:List Int) (k i:Nat):Int:=if i<k then IntKind.i64.wrap (acc.getD i 0+g.getD i 0) else acc.getD i 0
theorem aJt {acc g:List Int} (h:g.length=acc.length) (i:Nat):Qj acc g acc.length i=(Bu acc g).getD i 0:=by
 unfold Qj Bu;split
 ·rename_i hi;simp only [List.getD_eq_getElem?_getD,List.getElem?_zipWith,List.getElem?_eq_getElem hi,List.getElem?_eq_getElem (show i<g.length by omega)]
  all_goals rfl
 ·simp only [List.getD_eq_getElem?_getD,List.getElem?_zipWith,List.getElem?_eq_none (show acc.length≤i by omega)]
  all_goals rfl
theorem out_at {c:ClipR} {q:Rat} {a b:List Int} {j:Nat} (h:j<c.chan.length):(Hu c q a b).getD j 0=tH (aHb c q a b (c.chan.getD j 0)) c.gain:=by
 unfold Hu;simp only [List.getD_eq_getElem?_getD,List.getElem?_map,List.getElem?_eq_getElem h]
 all_goals rfl
set_option maxHeartbeats 4000000 in
theorem pAdd {p:ProjR} (hp:PrjV p) {A:List AudioR} (hA:AudP A) {N:LayN} {σ : St} {KP:List PanicEntry→St→Prop} {d:Option Tmp} {K:St→Prop} (hM:MixH p A N σ.nx σ.h) {i:Nat} (hS:Hp p A N i) {c:ClipR} (hc:ClpV p i c) (k:Rat) (hfk:bV k=true) (hsh:∀ q,Cf c k = .ok q→0≤q.num∧q.num≤(q.den:Int)) {qs:Nat} (ho:OffN p N qs) (hqn:qs < σ.nx) {acc:List Int} (hl:acc.length=c.chan.length)
  (hb : σ.h.look qs=some (.box [aA (acc.getD 0 0),aA (acc.getD 1 0),aA (acc.getD 2 0),aA (acc.getD 3 0)])) (hO:OutA p A N qs acc σ KP d K (qU p A (eA p A i) c k)) :
  PCall Tryz.prog (fun r=>DN p N r∧r≠qs) KP σ d 52 [.own N.m, .own qs,kZ c,bK (ofQ k)] K:=by
 obtain ⟨R,hR⟩:∃ R,R=qU p A (eA p A i) c k:=⟨_,rfl⟩
 rw [← hR] at hO;unfold qU at hR;have h4:=Pa hc.ok;refine eV Tryz.X52 Tryz.func52 rfl Tryz.ntmps52 (by rw [Tryz.results52]) ?_;obtain ⟨fr0,H0,n0,df0⟩ := σ;simp only at hO hM hqn hb ⊢;have dn:∀ q,n0≤q→DN p N q:=fun q hq=>(hM.off hq).dn
 have d0:DN p N n0:=dn n0 (Nat.le_refl _);have dk:∀ j,DN p N (n0+j):=fun j=>dn _ (by omega)
 have hM1:=fun b=>MixH.top hM (k:=n0) b (Nat.le_refl _)
 have hM2:=fun b b'=>MixH.top (hM1 b) (k:=n0+1) b' (Nat.le_refl _)
 have hM3:=fun b b' b''=>MixH.top (hM2 b b') (k:=n0+2) b'' (Nat.le_refl _)
 have hD:∀ b c e,aY (DN p N) H0 ((n0+2,e)::(n0+1,c)::(n0,b)::H0):=fun b c e q x _ hq=>aK (hM2 b c).wf (aK (hM1 b).wf (aK hM.wf hq (Nat.le_refl _)) (Nat.le_refl _)) (Nat.le_refl _)
 refine aF (aB _ ?_);simp only [go_sem,simprocAttr,Nat.add_assoc];refine aF (aB _ ?_);simp only [go_sem,simprocAttr,Nat.add_assoc];have hM3':=hM3 (.box [aA c.len,aA c.kind,aA c.a.kind,cA c.a.name,aA c.a.pos.num,aA c.a.pos.den,aA c.a.speed.num,aA c.a.speed.den,aL c.a.smooth,aA c.b.kind,cA c.b.name,aA c.b.pos.num,aA c.b.pos.den,aA c.b.speed.num,aA c.b.speed.den,aL c.b.smooth,aA c.off,aA c.total,aA c.param,cA c.text,aA c.gain, .t (.list 1 (dU 0) (c.chan.map dU))]) (.box [aA (ofQ k).num,aA (ofQ k).den]) (.box [aA 0,aA 0]);refine qB (fun (x:Heap×Nat×Int×Int) => { fr:=[V.own N.m, .own qs,kZ c,bK (ofQ k), .dead, .dead, .own n0, .own (n0+1), .own (n0+2)]++List.replicate 81 .dead,h:=x.1,nx:=x.2.1 })
  (fun x=>(∃ q,Cf c k = .ok q∧(c.kind=2→x.2.2.1=q.num∧x.2.2.2=(q.den:Int)∧q.den≤9223372036854775807))∧n0+3≤x.2.1∧(x.1.look n0=some (.box [aA c.len,aA c.kind,aA c.a.kind,cA c.a.name,aA c.a.pos.num,aA c.a.pos.den,aA c.a.speed.num,aA c.a.speed.den,aL c.a.smooth,aA c.b.kind,cA c.b.name,aA c.b.pos.num,aA c.b.pos.den,aA c.b.speed.num,aA c.b.speed.den,aL c.b.smooth,aA c.off,aA c.total,aA c.param,cA c.text,aA c.gain, .t (.list 1 (dU 0) (c.chan.map dU))])∧x.1.look (n0+1)=some (.box [aA (ofQ k).num,aA (ofQ k).den])∧x.1.look (n0+2)=some (.box [aA x.2.2.1,aA x.2.2.2]))∧aY (DN p N) H0 x.1∧MixH p A N x.2.1 x.1) ?_ ?_
 ·refine aF (aB _ ?_)
  by_cases hk2:c.kind=2
  ·have kb:(c.kind==2)=true:=by rw [beq_iff_eq];exact hk2
   have hkk:dC c=true:=by
    have:=hc.ok;unfold cZ at this;rw [Bool.and_eq_true] at this;exact this.2
   unfold dC at hkk;rw [if_neg (by omega),if_neg (by omega),if_pos hk2] at hkk;unfold jN at hkk;simp only [Bool.and_eq_true,decide_eq_true_eq] at hkk;obtain ⟨⟨⟨⟨⟨s1,s2⟩,s3⟩,s4⟩,_⟩,_⟩:=hkk;have hlen:=(eS hc.ok).1;obtain ⟨m,hm⟩:=eW (n:=c.total+1) (by omega);have e2:(c.total+1).toNat=m:=by omega
   obtain ⟨S,hSe⟩:∃ S,S=Cf c k:=⟨_,rfl⟩
   rw [← hSe];rw [← hSe] at hR hsh;unfold Cf at hSe;rw [if_pos hk2,e2] at hSe;have c1:=Tk hfk (zX (n:=c.off+1) (by omega));rw [zQ] at c1;have w1:IntKind.i64.wrap (c.off+1)=c.off+1:=wrap64 (by omega) (by omega);have w2:IntKind.i64.wrap (c.total+1)=(m:Int):=by rw [wrap64 (by omega) (by omega)];exact hm
   generalize k+((c.off+1:Int):Rat)=z1 at *;simp only [go_sem,simprocAttr,kb,Nat.left_eq_add];refine eB (b:=true) rfl ?_;rw [if_pos rfl];cases hf1:bV z1 with
   | false =>
    rw [nP hf1] at c1;rw [if_pos hf1] at hSe;rw [hSe] at hR;dsimp only at hR;rw [hR] at hO;refine aF (aN 8 ?_);simp only [go_sem,simprocAttr,w1,Nat.add_left_cancel_iff,Nat.left_eq_add];refine ⟨_,c1,?_⟩;simp only [go_sem,simprocAttr];refine mM rfl rfl ?_;simp only [go_sem,simprocAttr];refine dB (gH hM3' ⟨0,0⟩ 2 (by decide) fun h2 nx2 hl2 hD2 hM2 fr=>⟨rfl,hO.bad _ rfl _ nx2 (by have:n0+3≤nx2:=hl2;show n0≤nx2;omega) (uV (fun r hr=>hr.1) (bC (hD _ _ _) hD2)) hM2⟩)
   | true =>
   rw [kD hf1] at c1;rw [if_neg (by rw [hf1];decide)] at hSe;have c2:=cDivG hf1 m (by omega) (by omega);generalize z1*inv m=q at *;refine aF (aB _ ?_);simp only [go_sem,simprocAttr,w1,Nat.add_left_cancel_iff,Nat.left_eq_add];refine ⟨_,c1,?_⟩;simp only [go_sem,simprocAttr];refine ⟨_,gV _,?_⟩;simp only [go_sem,simprocAttr,Nat.add_assoc];have hM4:=MixH.top hM3' (k:=n0+3) (.box [aA (ofQ z1).num,aA (ofQ z1).den]) (Nat.le_refl _);have hD4:aY (DN p N) H0 ((n0+3, .box [aA (ofQ z1).num,aA (ofQ z1).den])::(n0+2, .box [aA 0,aA 0])::(n0+1, .box [aA (ofQ k).num,aA (ofQ k).den])::(n0, .box [aA c.len,aA c.kind,aA c.a.kind,cA c.a.name,aA c.a.pos.num,aA c.a.pos.den,aA c.a.speed.num,aA c.a.speed.den,aL c.a.smooth,aA c.b.kind,cA c.b.name,aA c.b.pos.num,aA c.b.pos.den,aA c.b.speed.num,aA c.b.speed.den,aL c.b.smooth,aA c.off,aA c.total,aA c.param,cA c.text,aA c.gain, .t (.list 1 (dU 0) (c.chan.map dU))])::H0):=fun r x dr hq=>aK hM3'.wf (hD _ _ _ r x dr hq) (Nat.le_refl _)
   cases hf2:bV q with
   | false =>
    rw [nP hf2] at c2;rw [if_pos hf2] at hSe;rw [hSe] at hR;dsimp only at hR;rw [hR] at hO;refine aN 8 ?_;simp only [go_sem,simprocAttr,w2,Nat.left_eq_add];refine ⟨_,c2,?_⟩;simp only [go_sem,simprocAttr];refine mM rfl rfl ?_;simp only [go_sem,simprocAttr];refine dB (gH hM4 ⟨0,0⟩ 2 (by decide) fun h2 nx2 hl2 hD2 hM2 fr=>⟨rfl,hO.bad _ rfl _ nx2 (by have:n0+4≤nx2:=hl2;show n0≤nx2;omega) (uV (fun r hr=>hr.1) (bC hD4 hD2)) hM2⟩)
   | true =>
   rw [kD hf2] at c2;rw [if_neg (by rw [hf2];decide)] at hSe;refine aB _ ?_;simp only [go_sem,simprocAttr,w2,Nat.left_eq_add];refine ⟨_,c2,?_⟩;simp only [go_sem,simprocAttr];refine ⟨_,gV _,?_⟩;simp only [go_sem,simprocAttr,Nat.add_left_cancel_iff];have hM5:=MixH.top (hM3 (.box [aA c.len,aA c.kind,aA c.a.kind,cA c.a.name,aA c.a.pos.num,aA c.a.pos.den,aA c.a.speed.num,aA c.a.speed.den,aL c.a.smooth,aA c.b.kind,cA c.b.name,aA c.b.pos.num,aA c.b.pos.den,aA c.b.speed.num,aA c.b.speed.den,aL c.b.smooth,aA c.off,aA c.total,aA c.param,cA c.text,aA c.gain, .t (.list 1 (dU 0) (c.chan.map dU))]) (.box [aA (ofQ k).num,aA (ofQ k).den]) (.box [aA (ofQ q).num,aA (ofQ q).den])) (k:=n0+3) (.box [aA (ofQ z1).num,aA (ofQ z1).den]) (Nat.le_refl _);refine ⟨(_,_,q.num,(q.den:Int)),cR ⟨rfl,Nat.le_refl _,rfl,?_⟩,⟨q,hSe,fun _=>⟨rfl,rfl,(cX.1 hf2).2⟩⟩,Nat.le_succ _,⟨?_,?_,?_⟩,?_,hM5⟩
   ·simp only [go_sem,simprocAttr]
   ·show Heap.look ((n0+3,_)::(n0+2,_)::(n0+1,_)::(n0,_)::_) n0=_
    rw [Heap.look,if_neg (by omega),Heap.look,if_neg (by omega),Heap.look,if_neg (by omega),Heap.look,if_pos rfl]
   ·show Heap.look ((n0+3,_)::(n0+2,_)::(n0+1,_)::_) (n0+1)=_
    rw [Heap.look,if_neg (by omega),Heap.look,if_neg (by omega),Heap.look,if_pos rfl]
   ·show Heap.look ((n0+3,_)::(n0+2,_)::_) (n0+2)=_
    rw [Heap.look,if_neg (by omega),Heap.look,if_pos rfl];rfl
   ·exact fun r x dr hq=>aK (hM3 _ _ _).wf (hD _ _ _ r x dr hq) (Nat.le_refl _)
  ·have hkb:(c.kind==2)=false:=by rw [beq_eq_false_iff_ne];exact hk2
   have he:Cf c k = .ok 0:=by unfold Cf;rw [if_neg hk2]
   simp only [go_sem,simprocAttr,hkb,Nat.left_eq_add];refine eB (b:=false) rfl ?_;rw [if_neg (by decide)];refine aB _ ?_;simp only [go_sem,simprocAttr];refine ⟨(_,_,0,0),cR ⟨rfl,Nat.le_refl _,rfl,?_⟩,⟨0,he,fun h=>absurd h hk2⟩,Nat.le_refl _,⟨?_,?_,?_⟩,hD _ _ _,hM3'⟩
   ·simp only [go_sem,simprocAttr]
   ·show Heap.look ((n0+2,_)::(n0+1,_)::(n0,_)::_) n0=_
    rw [Heap.look,if_neg (by omega),Heap.look,if_neg (by omega),Heap.look,if_pos rfl]
   ·show Heap.look ((n0+2,_)::(n0+1,_)::_) (n0+1)=_
    rw [Heap.look,if_neg (by omega),Heap.look,if_pos rfl]
   ·show Heap.look ((n0+2,_)::_) (n0+2)=_
    rw [Heap.look,if_pos rfl]
 rintro ⟨H,n,sn,sd⟩ ⟨⟨q,hq,hqv⟩,hn,⟨g0,g1,g2⟩,hDH,hMH⟩;simp only at hqv hn g0 g1 g2 hDH hMH;have e0:(n0=n)=False:=eq_false (by omega);have e1:∀ j,(n0=n+j)=False:=fun j=>eq_false (by omega)
 have f0:(n0+1=n)=False:=eq_false (by omega);have f1:∀ j,(n0+1=n+j)=False:=fun j=>eq_false (by omega)
 have f2:(n0+2=n)=False:=eq_false (by omega);have f3:∀ j,(n0+2=n+j)=False:=fun j=>eq_false (by omega)
 rw [hq] at hR;dsimp only at hR;refine aF (aN 4 ?_);simp only [go_sem,simprocAttr,g0,g1];refine mM rfl rfl ?_;simp only [go_sem,simprocAttr];refine dB (pSrc hp hA hMH hS hc.a k hfk ⟨fun x hx h2 n2 hl2 hD2 hM2=>cQ ?_,fun m hm h2 n2 hl2 hD2 hM2=>?_⟩)
 rotate_left
 ·cases hs:uF p A (eA p A i) c.a k with
  | ok a=>rw [hs] at hm;cases hm
  | error e =>
   rw [hs] at hm hR;injection hm with hm;subst hm;dsimp only at hR;rw [hR] at hO;intro fr;exact ⟨rfl,hO.bad _ rfl h2 n2 (by have:n≤n2:=hl2;show n0≤n2;omega) (uV (fun r hr=>hr.1) (bC hDH hD2)) hM2⟩
 cases hs:uF p A (eA p A i) c.a k with
 | error e=>rw [hs] at hx;cases hx
 | ok a =>
 rw [hs] at hx hR;injection hx with hx;subst hx;dsimp only at hR;obtain ⟨ba,la4⟩:=xJ hA (Sb hp A i) hs;have hl2:n≤n2:=hl2;have g0:=hD2 _ _ d0 g0;have g1:=hD2 _ _ (dk 1) g1;have g2:=hD2 _ _ (dk 2) g2;have hDH2:=bC hDH hD2;unfold uC;simp only [go_sem,simprocAttr];refine aF (aB _ ?_);simp only [go_sem,simprocAttr,Nat.add_assoc];have hMA:=MixH.top hM2 (k:=n2) (.box [aA a.length,aA (a.getD 0 0),aA (a.getD 1 0),aA (a.getD 2 0),aA (a.getD 3 0)]) (Nat.le_refl _);have hMB:=MixH.top hMA (k:=n2+1) (.box [aA 0,aA 0,aA 0,aA 0,aA 0]) (Nat.le_refl _);have up:∀ r x,h2.look r=some x→Heap.look ((n2+1, .box [aA 0,aA 0,aA 0,aA 0,aA 0])::(n2, .box [aA a.length,aA (a.getD 0 0),aA (a.getD 1 0),aA (a.getD 2 0),aA (a.getD 3 0)])::h2) r=some x:=fun r x hq=>aK hMA.wf (aK hM2.wf hq (Nat.le_refl _)) (Nat.le_refl _)
 have kA:Heap.look ((n2+1, .box [aA 0,aA 0,aA 0,aA 0,aA 0])::(n2, .box [aA a.length,aA (a.getD 0 0),aA (a.getD 1 0),aA (a.getD 2 0),aA (a.getD 3 0)])::h2) n2=some (.box [aA a.length,aA (a.getD 0 0),aA (a.getD 1 0),aA (a.getD 2 0),aA (a.getD 3 0)]):=by rw [Heap.look,if_neg (by omega),Heap.look,if_pos rfl]
 have kB:Heap.look ((n2+1, .box [aA 0,aA 0,aA 0,aA 0,aA 0])::(n2, .box [aA a.length,aA (a.getD 0 0),aA (a.getD 1 0),aA (a.getD 2 0),aA (a.getD 3 0)])::h2) (n2+1)=some (.box [aA 0,aA 0,aA 0,aA 0,aA 0]):=by rw [Heap.look,if_pos rfl]
 refine qB (fun (x:Heap×Nat×List Int) => { fr:=[V.own N.m, .own qs,kZ c,bK (ofQ k), .dead, .dead, .own n0, .own (n0+1), .own (n0+2), .dead, .own n2, .own (n2+1)]++List.replicate 78 .dead,h:=x.1,nx:=x.2.1 })
  (fun x=>(R = .ok (Hu c q a x.2.2)∧Qk 262144 x.2.2∧x.2.2.length≤4)∧n2+2≤x.2.1∧(x.1.look n0=some (.box [aA c.len,aA c.kind,aA c.a.kind,cA c.a.name,aA c.a.pos.num,aA c.a.pos.den,aA c.a.speed.num,aA c.a.speed.den,aL c.a.smooth,aA c.b.kind,cA c.b.name,aA c.b.pos.num,aA c.b.pos.den,aA c.b.speed.num,aA c.b.speed.den,aL c.b.smooth,aA c.off,aA c.total,aA c.param,cA c.text,aA c.gain, .t (.list 1 (dU 0) (c.chan.map dU))])∧x.1.look (n0+2)=some (.box [aA sn,aA sd])∧x.1.look n2=some (.box [aA a.length,aA (a.getD 0 0),aA (a.getD 1 0),aA (a.getD 2 0),aA (a.getD 3 0)])∧x.1.look (n2+1)=some (.box [aA x.2.2.length,aA (x.2.2.getD 0 0),aA (x.2.2.getD 1 0),aA (x.2.2.getD 2 0),aA (x.2.2.getD 3 0)]))∧aY (DN p N) H0 x.1∧MixH p A N x.2.1 x.1) ?_ ?_
 ·refine aF (aB _ ?_);have g0':=up _ _ g0;have g1':=up _ _ g1;have g2':=up _ _ g2;have hDB:aY (DN p N) H0 ((n2+1, .box [aA 0,aA 0,aA 0,aA 0,aA 0])::(n2, .box [aA a.length,aA (a.getD 0 0),aA (a.getD 1 0),aA (a.getD 2 0),aA (a.getD 3 0)])::h2):=fun r x dr hq=>up _ _ (hDH2 r x dr hq)
  generalize ((n2+1,Blk.box [aA 0,aA 0,aA 0,aA 0,aA 0])::(n2,Blk.box [aA a.length,aA (a.getD 0 0),aA (a.getD 1 0),aA (a.getD 2 0),aA (a.getD 3 0)])::h2:Heap)=HB at *
  by_cases hk2:c.kind=2
  ·have kb:(c.kind==2)=true:=by rw [beq_iff_eq];exact hk2
   rw [if_pos hk2] at hR;simp only [go_sem,simprocAttr,kb,g0'];refine eB (b:=true) rfl ?_;rw [if_pos rfl];refine aN 4 ?_;simp only [go_sem,simprocAttr,g0',g1'];refine mM rfl rfl ?_;simp only [go_sem,simprocAttr];refine dB (pSrc hp hA hMB hS hc.b k hfk ⟨fun x hx h3 n3 hl3 hD3 hM3=>cQ ?_,fun m hm h3 n3 hl3 hD3 hM3=>?_⟩)
   rotate_left
   ·cases hs:uF p A (eA p A i) c.b k with
    | ok b=>rw [hs] at hm;cases hm
    | error e =>
     rw [hs] at hm hR;injection hm with hm;subst hm;dsimp only at hR;rw [hR] at hO;intro fr;exact ⟨rfl,hO.bad _ rfl h3 n3 (by have:n2+2≤n3:=hl3;show n0≤n3;omega) (uV (fun r hr=>hr.1) (bC hDB hD3)) hM3⟩
   cases hs:uF p A (eA p A i) c.b k with
   | error e=>rw [hs] at hx;cases hx
   | ok b =>
   rw [hs] at hx hR;injection hx with hx;subst hx;dsimp only at hR;obtain ⟨bb,lb4⟩:=xJ hA (Sb hp A i) hs;have hl3:n2+2≤n3:=hl3;have k0:=hD3 _ _ d0 g0';have k2:=hD3 _ _ (dk 2) g2';have dn2:DN p N n2:=dn n2 (by omega);have dn21:DN p N (n2+1):=dn _ (by omega);have kA:=hD3 _ _ dn2 kA;have kB:=hD3 _ _ dn21 kB;unfold uC;simp only [go_sem,simprocAttr,kB];have hL:∀ r,(h3.set (n2+1) (.box [aA b.length,aA (b.getD 0 0),aA (b.getD 1 0),aA (b.getD 2 0),aA (b.getD 3 0)])).look r=if r=n2+1 then some (.box [aA b.length,aA (b.getD 0 0),aA (b.getD 1 0),aA (b.getD 2 0),aA (b.getD 3 0)]) else h3.look r:=fun r=>Heap.look_set _ _ _ kB r
   refine ⟨(_,_,b),cR ⟨rfl,Nat.le_refl _,rfl,?_⟩,⟨hR,bb,lb4⟩,hl3,⟨?_,?_,?_,?_⟩,fun r x dr hq=>?_,MixH.put hM3 (hM.off (show n0≤n2+1 by omega)) kB _⟩
   ·simp only [go_sem,simprocAttr]
   ·rw [hL,if_neg (by omega)];exact k0
   ·rw [hL,if_neg (by omega)];exact k2
   ·rw [hL,if_neg (by omega)];exact kA
   ·rw [hL,if_pos rfl]
   ·rw [hL,if_neg]
    ·exact bC hDB hD3 r x dr hq
    ·intro e;rw [e,hM.wf _ (show n0≤n2+1 by omega)] at hq;cases hq
  ·have hkb:(c.kind==2)=false:=by rw [beq_eq_false_iff_ne];exact hk2
   rw [if_neg hk2] at hR;simp only [go_sem,simprocAttr,hkb,g0'];refine eB (b:=false) rfl ?_;rw [if_neg (by decide)];refine aB _ ?_;simp only [go_sem,simprocAttr];refine ⟨(_,_,[]),cR ⟨rfl,Nat.le_refl _,rfl,?_⟩,⟨hR,fun u hu=>absurd hu (by simp),by simp⟩,Nat.le_refl _,⟨g0',g2',kA,kB⟩,hDB,hMB⟩;simp only [go_sem,simprocAttr]
 rintro ⟨H3,n3,b⟩ ⟨⟨hR,bb,lb4⟩,hl3,⟨g0,g2,kA,kB⟩,hDH,hMH⟩;simp only at hR bb lb4 hl3 g0 g2 kA kB hDH hMH;refine aF (aB _ ?_);simp only [go_sem,simprocAttr,g0];refine aB _ ?_;simp only [go_sem,simprocAttr];obtain ⟨g,hg⟩:∃ g,g=Hu c q a b:=⟨_,rfl⟩
 rw [← hg] at hR;rw [hR] at hO;have hOk:=hO.ok g rfl;have hgl:g.length=acc.length:=by rw [hg,Yu,hl]
 have hga:=fun j (h:j<c.chan.length)=>out_at (c:=c) (q:=q) (a:=a) (b:=b) h
 rw [← hg] at hga;have hbq:H3.look qs=some (.box [aA (acc.getD 0 0),aA (acc.getD 1 0),aA (acc.getD 2 0),aA (acc.getD 3 0)]):=hDH _ _ ho.dn hb;refine aE (fun (x:Nat×Heap×Nat) σ => (fun τ : St => { τ with h:=x.2.1,nx:=x.2.2 }) (bM 52 (aA x.1) (aW [12,13,14,53,54,55,56,57,58,59,60,61,62,63,64,65,66,67,68,69,70,71,72,73,74,75,76,77,78,79,80,81,82,83,84,85,86,87,88,89] σ)))
  (fun x=>(x.1≤c.chan.length∧n3≤x.2.2)∧(x.2.1.look n0=some (.box [aA c.len,aA c.kind,aA c.a.kind,cA c.a.name,aA c.a.pos.num,aA c.a.pos.den,aA c.a.speed.num,aA c.a.speed.den,aL c.a.smooth,aA c.b.kind,cA c.b.name,aA c.b.pos.num,aA c.b.pos.den,aA c.b.speed.num,aA c.b.speed.den,aL c.b.smooth,aA c.off,aA c.total,aA c.param,cA c.text,aA c.gain, .t (.list 1 (dU 0) (c.chan.map dU))])∧x.2.1.look (n0+2)=some (.box [aA sn,aA sd])∧x.2.1.look n2=some (.box [aA a.length,aA (a.getD 0 0),aA (a.getD 1 0),aA (a.getD 2 0),aA (a.getD 3 0)])∧x.2.1.look (n2+1)=some (.box [aA b.length,aA (b.getD 0 0),aA (b.getD 1 0),aA (b.getD 2 0),aA (b.getD 3 0)])∧x.2.1.look qs=some (.box [aA (Qj acc g x.1 0),aA (Qj acc g x.1 1),aA (Qj acc g x.1 2),aA (Qj acc g x.1 3)]))∧aY (fun r=>DN p N r∧r≠qs) H0 x.2.1∧MixH p A N x.2.2 x.2.1)
  (fun x=>c.chan.length - x.1) (0,H3,n3) (cR ⟨rfl,Nat.le_refl _,rfl,?_⟩) ⟨⟨Nat.zero_le _,Nat.le_refl _⟩,⟨g0,g2,kA,kB,hbq⟩,uV (fun r hr=>hr.1) hDH,hMH⟩ ?_
 ·simp only [go_sem,simprocAttr]
 rintro ⟨j,H,nn⟩ ⟨⟨hj,hnn⟩,⟨j0,j2,jA,jB,jq⟩,hDJ,hMJ⟩;simp only at hj hnn j0 j2 jA jB jq hDJ hMJ;refine aB _ ?_;simp only [go_sem,simprocAttr];refine ⟨fun hlt=>?_,fun hge=>?_⟩
 ·simp only [bxx] at hlt;have hjl:j<c.chan.length:=by omega
  obtain ⟨j',hj'⟩:∃ j',j'=j+1:=⟨_,rfl⟩
  have hwj:IntKind.i64.wrap ((j:Int)+1)=(j':Int):=by rw [bF (by omega)];omega
  have hcn:=rP hjl;have hgj:=hga j hjl;obtain ⟨x,hx⟩:∃ x,x=c.chan.getD j 0:=⟨_,rfl⟩
  rw [← hx] at hgj;simp only [← hx] at hcn;unfold awS;simp only [go_sem,simprocAttr,hcn,jA];refine ⟨⟨by omega,by omega⟩,_,Tj a la4 x,?_⟩;obtain ⟨u1,u2⟩:=uM ba (by omega) x;obtain ⟨v1,v2⟩:=uM bb (by omega) x;have ww1:IntKind.i64.wrap 1=1:=by decide
  have ww2:IntKind.i64.wrap 2=2:=by decide
  have ww3:IntKind.i64.wrap 3=3:=by decide
  have cb:=Tj b lb4 x;obtain ⟨y,hy⟩:∃ y,y=aHb c q a b x:=⟨_,rfl⟩
  have hgy:g.getD j 0=IntKind.i64.wrap (IntKind.i64.wrap (y*c.gain)+2048) / 4096:=by rw [hgj, ← hy];rfl
  have key:∀ i,Qj acc g j' i=if i=j then IntKind.i64.wrap (Qj acc g j i+g.getD j 0) else Qj acc g j i:=fun i=>by
   rw [hj'];unfold Qj
   by_cases e:i=j
   ·subst e;rw [if_pos (by omega),if_pos rfl,if_neg (by omega)]
   ·rw [if_neg e]
    by_cases e2:i<j
    ·rw [if_pos (by omega),if_pos e2]
    ·rw [if_neg (by omega),if_neg e2]
  unfold aHb at hy;generalize aT a x=u at *;generalize aT b x=v at *;rcases Classical.em (c.kind=2) with hk2 | hk2
  case' inl =>
   obtain ⟨hs1,hs2,hs3⟩:=hqv hk2;obtain ⟨t1,t2⟩:=hsh q hq;have kb:(c.kind==2)=true:=by rw [beq_iff_eq];exact hk2
   rw [if_pos hk2] at hy;have y3:=q.den_pos;have hsq:=eC (x:=v - u) t1 t2 y3;have hnr:=dK (x:=v - u) t1 t2 y3;have cp:=fV (v - u) q.num q.den ⟨by omega,by omega⟩ ⟨by omega,by omega⟩ y3 (by omega) ⟨by omega,by omega⟩;have cp':aJ Tryz.prog 93 [aA (v - u),aA sn,aA sd] (aA (fM (v - u) q.num q.den)):=by rw [hs1,hs2];exact cp
   have wy:IntKind.i64.wrap (u+fM (v - u) q.num q.den)=y:=by rw [hy];exact wrap64 (by omega) (by omega)
   have wv:IntKind.i64.wrap (v - u)=v - u:=wrap64 (by omega) (by omega);simp only [go_sem,simprocAttr,kb,j0];refine aQ 13 .done rfl (by kernel_rfl) (by kernel_rfl) (by decide) ?_;simp only [go_sem,simprocAttr,jB];refine ⟨_,cb,?_⟩;simp only [go_sem,simprocAttr,wv,j2];refine ⟨_,cp',?_⟩;simp only [go_sem,simprocAttr,wy];refine ⟨gL ?_,?_⟩
   ·have o1:mY nn n0=0:=bQ (by omega);have o2:mY nn (n0+2)=0:=bQ (by omega);have o3:mY nn n2=0:=bQ (by omega);have o4:mY nn (n2+1)=0:=bQ (by omega);simp only [fJ,gG,o2,o4];show tV _ _ _=true
    kernel_rfl
  case' inr =>
   have hkb:(c.kind==2)=false:=by rw [beq_eq_false_iff_ne];exact hk2
   rw [if_neg hk2] at hy;subst hy;simp only [go_sem,simprocAttr,hkb,j0]
  all_goals
   obtain rfl | rfl | rfl | rfl:j=0∨j=1∨j=2∨j=3:=by omega
  all_goals
   refine aQ 15 .done rfl (by kernel_rfl) (by kernel_rfl) (by decide) ?_;simp only [go_sem,simprocAttr,ww1,ww2,ww3,j0,jq,Nat.add_assoc];refine ⟨gL ?_,?_⟩
   ·have o1:mY nn n0=0:=bQ (by omega);have o2:mY nn qs=0:=bQ (by omega);have o5:mY (nn+13) n0=0:=bQ (by omega);have o6:mY (nn+13) qs=0:=bQ (by omega);simp only [fJ,gG,o1,o2,o5,o6];show tV _ _ _=true
    kernel_rfl
   have hL:∀ (B:Blk) r,(H.set qs B).look r=if r=qs then some B else H.look r:=fun B r=>Heap.look_set _ _ _ jq r
   refine ⟨(j',_,_),cR ⟨rfl,Nat.le_refl _,rfl,?_⟩,⟨⟨by show j'≤_;omega,?_⟩,⟨?_,?_,?_,?_,?_⟩,fun r z dr hq=>?_,MixH.nx (MixH.put hMJ ho jq _) ?_⟩,by show _ - j'<_ - _;omega⟩
   ·simp only [go_sem,simprocAttr]
    all_goals
     subst hj';rfl
   ·exact Nat.le_trans hnn (Nat.le_add_right _ _)
   ·rw [hL,if_neg (by omega)];exact j0
   ·rw [hL,if_neg (by omega)];exact j2
   ·rw [hL,if_neg (by omega)];exact jA
   ·rw [hL,if_neg (by omega)];exact jB
   ·rw [hL,if_pos rfl];simp only [key,hgy];rfl
   ·rw [hL,if_neg dr.2];exact hDJ r z dr hq
   ·exact Nat.le_add_right _ _
 ·simp only [bxx] at hge;have hjl:j=acc.length:=by omega
  subst hjl;simp only [aJt hgl] at jq;unfold awS;simp only [go_sem,simprocAttr];unfold uJ;simp only [go_sem,simprocAttr];exact ⟨hDJ,hOk H nn (by show n0≤nn;omega) hDJ jq hMJ⟩
theorem Sj {D:Nat→Prop} {a b c:Heap} {q:Nat} (hq:a.look q=none) (h1:aY D a b) (h2:aY (fun r=>D r∧r≠q) b c):aY D a c:=fun r x hr hx=>h2 r x ⟨hr,fun e=>by rw [e,hq] at hx;cases hx⟩ (h1 r x hr hx)
theorem aKj {ts:List (List ClipR)} {k:Nat} (h:k<ts.length) (d:List T):nth d (ts.map Kg) k=Kg (ts.getD k []):=by
 unfold nth;rw [List.getElem?_map,List.getElem?_eq_getElem h,List.getD_eq_getElem?_getD,List.getElem?_eq_getElem h];rfl
set_option maxHeartbeats 400000 in
theorem Yt {p:ProjR} (hp:PrjV p) {A:List AudioR} (hA:AudP A) {N:LayN} {σ : St} {KP:List PanicEntry→St→Prop} {d:Option Tmp} {K:St→Prop} (hM:MixH p A N σ.nx σ.h) {i:Nat} (hi:i<p.seqs.length) (hS:Hp p A N i) (ha:aZ (p.seqs.getD i default).rate=true) (j:Int) (hj1 : -1099511627776≤j) (hj2:j≤1099511627776)
  (hO:OutK p A N σ KP d K (mapE aD4 (Ad p A (eA p A i) (p.seqs.getD i default) j))) :
  PCall Tryz.prog (DN p N) KP σ d 25 [.own N.m, .own (N.b i),aA j] K:=by
 obtain ⟨hrv,hfit,hch,h8,htrk⟩:=hp.seq i hi;have hsq:=hM.seq i hi;have htr:=hM.trk i hi;have hlb:=hM.lb i hi;have hmem:∀ T∈(p.seqs.getD i default).sound, ∀ c∈T,c.kind≠0→(c.chan.length:Int)=(p.seqs.getD i default).channels:=fun T hT c hc hk=>by
  rcases ((htrk T hT).2 c hc).kind with h | h
  ·exact absurd h hk
  ·exact h.2
 generalize hsE:p.seqs.getD i default=s at *;obtain ⟨usa,_,hn,hd,_⟩:=pJ ha;obtain ⟨m,hm⟩:=eW (n:=s.channels) (by omega);have hmt:s.channels.toNat=m:=by omega
 obtain ⟨R,hR⟩:∃ R,R=Ad p A (eA p A i) s j:=⟨_,rfl⟩
 rw [← hR] at hO;unfold Ad at hR;rw [hmt] at hR;have co:=cOwner j s.rate hfit.rate usa ⟨hj1,hj2⟩;have tf:=Wv ha (t:=j) (by omega);obtain ⟨dn,hdn⟩:=eW (n:=48000*s.rate.den) (by omega);have hsr:(j*s.rate.num).natAbs≤1099511627776*1048576:=by rw [Int.natAbs_mul];exact Nat.mul_le_mul (by omega) (by omega)
 have c2:=cOfZ (j*s.rate.num) dn (by omega) (by omega) (by omega);have e2:(((j*s.rate.num:Int)):Rat) / ((dn:Int):Rat)=qS s.rate j:=by
  rw [← hdn,Rat.intCast_mul,Rat.intCast_mul];rfl
 rw [e2, ← hdn] at c2;have w1:IntKind.i64.wrap (j*s.rate.num)=j*s.rate.num:=wrap64 (by omega) (by omega);have w2:IntKind.i64.wrap (48000*s.rate.den)=48000*s.rate.den:=wrap64 (by omega) (by omega);have hw:=fun (T:List ClipR) (hv:cG T=true) (c:ClipR) (b:Int) hh=>Sh ha (t:=j) hv (c:=c) (b:=b) hh
 have hfi:I64 (qL s.rate j):=aE9 ha ⟨hj1,hj2⟩;generalize hx:qS s.rate j=x at *;generalize qL s.rate j=f at *;refine eV Tryz.X25 Tryz.func25 rfl Tryz.ntmps25 (by rw [Tryz.results25]) ?_;obtain ⟨fr0,H0,n0,df0⟩ := σ;simp only at hO hM hsq htr hlb ⊢;have e5:(N.b i=n0)=False:=by simp;omega
 have e6:∀ k,(N.b i=n0+k)=False:=fun k=>by simp;omega
 have e7:(N.t i=n0)=False:=by simp;omega
 have e8:∀ k,(N.t i=n0+k)=False:=fun k=>by simp;omega
 refine aF (aB _ ?_);simp only [go_sem,simprocAttr];refine aF (aB _ ?_);simp only [go_sem,simprocAttr,e5,hsq];refine ⟨_,co,?_⟩;simp only [go_sem,simprocAttr];refine ⟨_,aPp _,?_⟩;simp only [go_sem,simprocAttr];refine aF (aB _ ?_);simp only [go_sem,simprocAttr];refine aQ 19 .done rfl (by kernel_rfl) (by kernel_rfl) (by decide) ?_;simp only [go_sem,simprocAttr,w1,w2,e5,hsq,Nat.add_assoc];refine ⟨_,c2,?_⟩;simp only [go_sem,simprocAttr];refine ⟨_,gV _,?_⟩;simp only [go_sem,simprocAttr,Nat.add_assoc];refine ⟨gL ?_,?_⟩
 ·have o1:mY (n0+1) (N.b i)=0:=bQ (by omega);simp only [fJ,gG,o1,pT,Nat.reduceLeDiff,Nat.reduceSub,Nat.reduceAdd];show tV _ _ _=true
  kernel_rfl
 refine aF (aB _ ?_);simp only [go_sem,simprocAttr,Nat.add_assoc];refine aF (aB _ ?_);simp only [go_sem,simprocAttr,e5,e6,e7,e8,hsq,htr];have hM1:=MixH.top hM (k:=n0) (.box [aA 0,aA 0,aA 0,aA 0]) (Nat.le_refl _);have hM2:=MixH.top hM1 (k:=n0+18) (.box [aA (ofQ x).num,aA (ofQ x).den]) (by omega);have hM3:=MixH.top hM2 (k:=n0+20) (.box [aA 0,aA 0,aA 0,aA 0]) (by omega);have up:aY (DN p N) H0 ((n0+20, .box [aA 0,aA 0,aA 0,aA 0])::(n0+18, .box [aA (ofQ x).num,aA (ofQ x).den])::(n0, .box [aA 0,aA 0,aA 0,aA 0])::H0):=fun r z _ hq=>aK hM2.wf (aK hM1.wf (aK hM.wf hq (Nat.le_refl _)) (show n0+1≤n0+18 by omega)) (show n0+18+1≤n0+20 by omega)
 have k6:Heap.look ((n0+20, .box [aA 0,aA 0,aA 0,aA 0])::(n0+18, .box [aA (ofQ x).num,aA (ofQ x).den])::(n0, .box [aA 0,aA 0,aA 0,aA 0])::H0) n0=some (.box [aA 0,aA 0,aA 0,aA 0]):=by rw [Heap.look,if_neg (by omega),Heap.look,if_neg (by omega),Heap.look,if_pos rfl]
 have k8:Heap.look ((n0+20, .box [aA 0,aA 0,aA 0,aA 0])::(n0+18, .box [aA (ofQ x).num,aA (ofQ x).den])::(n0, .box [aA 0,aA 0,aA 0,aA 0])::H0) (n0+18)=some (.box [aA (ofQ x).num,aA (ofQ x).den]):=by rw [Heap.look,if_neg (by omega),Heap.look,if_pos rfl]
 have k9:Heap.look ((n0+20, .box [aA 0,aA 0,aA 0,aA 0])::(n0+18, .box [aA (ofQ x).num,aA (ofQ x).den])::(n0, .box [aA 0,aA 0,aA 0,aA 0])::H0) (n0+20)=some (.box [aA 0,aA 0,aA 0,aA 0]):=by rw [Heap.look,if_pos rfl]
 generalize ((n0+20,Blk.box [aA 0,aA 0,aA 0,aA 0])::(n0+18,Blk.box [aA (ofQ x).num,aA (ofQ x).den])::(n0,Blk.box [aA 0,aA 0,aA 0,aA 0])::H0:Heap)=H1 at *;have r0:∀ l:List Int,l=List.replicate m 0 → [aA 0,aA 0,aA 0,aA 0] = [aA (l.getD 0 0),aA (l.getD 1 0),aA (l.getD 2 0),aA (l.getD 3 0)]:=fun l hl=>by
  subst hl;have:∀ c,(List.replicate m (0:Int)).getD c 0=0:=fun c=>by
   rw [List.getD_eq_getElem?_getD,List.getElem?_replicate];split<;>rfl
  rw [this,this,this,this]
 refine aE (fun (y:Nat×List Int×Heap×Nat) σ => (fun τ : St => { τ with h:=y.2.2.1,nx:=y.2.2.2 }) (bM 48 (aA y.1) (aW [10,11,12,13,14,15,49,50,51,52,53,54,55,56,57,58,59,60,61,62,63,64,65,66,67,68,69,70,71,72,73,74,75,76,77,78,79,80,81,82,83,84] σ)))
  (fun y=>(y.1≤s.sound.length∧y.2.1.length=m∧vJ p A (eA p A i) x f s.sound (List.replicate m 0)=vJ p A (eA p A i) x f (s.sound.drop y.1) y.2.1∧n0+21≤y.2.2.2)∧(y.2.2.1.look n0=some (.box [aA 0,aA 0,aA 0,aA 0])∧y.2.2.1.look (n0+18)=some (.box [aA (ofQ x).num,aA (ofQ x).den])∧y.2.2.1.look (n0+20)=some (.box [aA (y.2.1.getD 0 0),aA (y.2.1.getD 1 0),aA (y.2.1.getD 2 0),aA (y.2.1.getD 3 0)]))∧aY (DN p N) H0 y.2.2.1∧MixH p A N y.2.2.2 y.2.2.1)
  (fun y=>s.sound.length - y.1) (0,List.replicate m 0,H1,n0+21) ?_ ?_ ?_
 ·refine cR ⟨rfl,Nat.le_refl _,rfl,?_⟩;simp only [go_sem,simprocAttr]
 ·refine ⟨⟨Nat.zero_le _,List.length_replicate ..,by rw [List.drop_zero],Nat.le_refl _⟩,⟨k6,k8,?_⟩,up,hM3⟩;rw [← r0 _ rfl];exact k9
 rintro ⟨k,acc,H,nn⟩ ⟨⟨hk,hacc,hsum,hnn⟩,⟨g6,g8,g9⟩,hDH,hMH⟩;simp only at hk hacc hsum hnn g6 g8 g9 hDH hMH;have htrH:=hMH.trk i hi;rw [hsE] at htrH
 by_cases hkl:k<s.sound.length
 ·have hltb:decide ((k:Int)<(s.sound.length:Int))=true:=decide_eq_true (by omega);have hwk:IntKind.i64.wrap ((k:Int)+1)=((k+1:Nat):Int):=by rw [bF (by omega)];omega
  have hT:=aR (d:=[]) hkl;obtain ⟨hv,hcl⟩:=htrk _ hT;have hmT:=hmem _ hT;have hTn:=aKj hkl;rw [Wx hkl] at hsum;unfold Km at hsum;obtain ⟨tr,hte⟩:∃ tr,s.sound.getD k []=tr:=⟨_,rfl⟩
  rw [hte] at hT hv hcl hmT hsum;simp only [hte] at hTn;obtain ⟨h64,hvc,hts⟩:=mA hv;have hp1:∀ c∈tr,1≤c.len:=fun c hc=>(eS (hvc c hc)).1
  refine aF (aB _ ?_);simp only [go_sem,simprocAttr,hltb];refine aF (eB (b:=true) rfl ?_);rw [if_pos rfl];refine aB _ ?_;simp only [go_sem,simprocAttr];refine aF (vB (aF (aB _ ?_)));simp only [go_sem,simprocAttr,htrH,hTn,Kg];refine ⟨⟨by omega,by omega⟩,hkl,?_⟩;have hMa:=fun b=>MixH.top hMH (k:=nn) b (Nat.le_refl _)
  have hMb:=fun b b'=>MixH.top (hMa b) (k:=nn+1) b' (Nat.le_refl _)
  have upb:∀ b b',aY (DN p N) H0 ((nn+1,b')::(nn,b)::H):=fun b b' r z dr hq=>aK (hMa b).wf (aK hMH.wf (hDH r z dr hq) (Nat.le_refl _)) (Nat.le_refl _)
  have lub:∀ b b' r z,H.look r=some z→Heap.look ((nn+1,b')::(nn,b)::H) r=some z:=fun b b' r z hq=>aK (hMa b).wf (aK hMH.wf hq (Nat.le_refl _)) (Nat.le_refl _)
  have e8:(n0+18=nn)=False:=eq_false (by omega);have e18:(n0+18=nn+1)=False:=eq_false (by omega);have hcs:(Qb tr f=none∧aJ Tryz.prog 50 [aK8 tr,aA f] aC5) ∨ ∃ c b,Qb tr f=some (c,b)∧aJ Tryz.prog 50 [aK8 tr,aA f] (.tup [kZ c,aA b,aL true]):=by
   rcases hit_cases hv f with ⟨hh,hout,_⟩ | ⟨ix,hil,hf0,hb1,hb2,_,hh⟩
   ·exact .inl ⟨hh,cAtOut tr f hout⟩
   ·have hat:=cAtIn tr f h64 hp1 hts hil hb1 hb2 hf0
    by_cases hk0:(tr.getD ix default).kind=0
    ·rw [if_pos hk0] at hh hat;exact .inl ⟨hh,hat⟩
    ·rw [if_neg hk0] at hh hat;exact .inr ⟨_,_,hh,hat⟩
  refine aF (aB _ ?_);rcases hcs with ⟨hh,hat⟩ | ⟨c,b,hh,hat⟩
  ·rw [hh] at hsum;dsimp only at hsum;simp only [go_sem,simprocAttr];refine ⟨_,hat,?_⟩;simp only [go_sem,simprocAttr,Nat.add_assoc];refine ⟨⟨rfl,rfl,by decide⟩,?_⟩;refine aF (aF (aB _ ?_));simp only [go_sem,simprocAttr];refine eB (b:=true) rfl ?_;rw [if_pos rfl];refine aB _ ?_;simp only [go_sem,simprocAttr];refine aB _ ?_;simp only [go_sem,simprocAttr,hwk];refine ⟨(k+1,acc,_,_),cR ⟨rfl,Nat.le_refl _,rfl,?_⟩,⟨⟨by show k+1≤_;omega,hacc,hsum,by show n0+21≤nn+2;omega⟩,⟨lub _ _ _ _ g6,lub _ _ _ _ g8,lub _ _ _ _ g9⟩,upb _ _,hMb _ _⟩,by show _ - (k+1)<_ - k;omega⟩;simp only [go_sem,simprocAttr]
  ·rw [hh] at hsum;dsimp only at hsum;obtain ⟨hcm,hk0,b0,_,_,b3⟩:=Dm hv hh;have hcv:=hcl _ hcm;have hw2:=hw tr hv c b hh;have hcl2:=hmT _ hcm hk0;have c5:=cSubG tf (zX (n:=b) (by omega));rw [zQ] at c5;generalize x - (b:Rat)=z at *;simp only [go_sem,simprocAttr];refine ⟨_,hat,?_⟩;simp only [go_sem,simprocAttr,Nat.add_assoc];refine aF (aF (aB _ ?_));simp only [go_sem,simprocAttr];refine eB (b:=false) rfl ?_;rw [if_neg (by decide)];refine aB _ ?_;simp only [go_sem,simprocAttr];refine aF ?_;cases hfz:bV z with
   | false =>
    rw [nP hfz] at c5;rw [if_pos hfz] at hsum;rw [hsum] at hR;dsimp only at hR;rw [hR] at hO;refine aN 6 ?_;simp only [go_sem,simprocAttr,e8,e18,g8];refine ⟨_,c5,?_⟩;simp only [go_sem,simprocAttr];refine mM rfl rfl ?_;simp only [go_sem,simprocAttr];refine dB (gH (hMb _ _) ⟨0,0⟩ 2 (by decide) fun h2 nx2 hl2 hD2 hM2 fr=>⟨rfl,hO.bad _ rfl _ nx2 (by have:nn+1+1≤nx2:=hl2;show n0≤nx2;omega) (bC (upb _ _) hD2) hM2⟩)
   | true =>
   rw [kD hfz] at c5;rw [if_neg (by rw [hfz];decide)] at hsum;refine aB _ ?_;simp only [go_sem,simprocAttr,e8,e18,g8];refine ⟨_,c5,?_⟩;simp only [go_sem,simprocAttr];refine ⟨_,gV _,?_⟩;simp only [go_sem,simprocAttr,Nat.add_assoc];have hMc:=MixH.top (hMb (.box [.t (gB tr), .t (qR (tM tr)),aA (bZ tr)]) (.box [aA c.len,aA c.kind,aA c.a.kind,cA c.a.name,aA c.a.pos.num,aA c.a.pos.den,aA c.a.speed.num,aA c.a.speed.den,aL c.a.smooth,aA c.b.kind,cA c.b.name,aA c.b.pos.num,aA c.b.pos.den,aA c.b.speed.num,aA c.b.speed.den,aL c.b.smooth,aA c.off,aA c.total,aA c.param,cA c.text,aA c.gain, .t (.list 1 (dU 0) (c.chan.map dU))])) (k:=nn+2) (.box [aA (ofQ z).num,aA (ofQ z).den]) (Nat.le_refl _);have luc:∀ r y,H.look r=some y→Heap.look ((nn+2, .box [aA (ofQ z).num,aA (ofQ z).den])::(nn+1, .box [aA c.len,aA c.kind,aA c.a.kind,cA c.a.name,aA c.a.pos.num,aA c.a.pos.den,aA c.a.speed.num,aA c.a.speed.den,aL c.a.smooth,aA c.b.kind,cA c.b.name,aA c.b.pos.num,aA c.b.pos.den,aA c.b.speed.num,aA c.b.speed.den,aL c.b.smooth,aA c.off,aA c.total,aA c.param,cA c.text,aA c.gain, .t (.list 1 (dU 0) (c.chan.map dU))])::(nn, .box [.t (gB tr), .t (qR (tM tr)),aA (bZ tr)])::H) r=some y:=fun r y hq=>aK (hMb _ _).wf (lub _ _ _ _ hq) (Nat.le_refl _)
   have dn0:∀ q,n0≤q→DN p N q:=fun q hq=>(hM.off hq).dn
   refine aN 3 ?_;simp only [go_sem,simprocAttr,Nat.add_left_cancel_iff];refine mM rfl rfl ?_;simp only [go_sem,simprocAttr];refine dB (pAdd hp hA hMc hS hcv z hfz hw2 (qs:=n0+20) (hM.off (by show n0≤n0+20;omega)) (by show n0+20<nn+3;omega) (acc:=acc) (by omega) (luc _ _ g9) ⟨fun g hg h2 n2 hl2 hD2 hq2 hM2=>?_,fun e he h2 n2 hl2 hD2 hM2=>?_⟩)
   rotate_left
   ·rw [he] at hsum;dsimp only at hsum;rw [hsum] at hR;dsimp only at hR;rw [hR] at hO;intro fr;exact ⟨rfl,hO.bad _ rfl h2 n2 (by have:nn+3≤n2:=hl2;show n0≤n2;omega) (Sj (hM.wf _ (by show n0≤n0+20;omega)) (fun r y hr hy=>luc r y (hDH r y hr hy)) hD2) hM2⟩
   rw [hg] at hsum;dsimp only at hsum;have hl2:nn+3≤n2:=hl2;have hgl:g.length=acc.length:=by rw [Fy hg];omega
   refine cQ ?_;simp only [go_sem,simprocAttr];refine aB _ ?_;simp only [go_sem,simprocAttr,hwk];refine ⟨(k+1,Bu acc g,h2,n2),cR ⟨rfl,Nat.le_refl _,rfl,?_⟩,⟨⟨by show k+1≤_;omega,by rw [Pk _ _ hgl];exact hacc,hsum,by show n0+21≤n2;omega⟩,⟨hD2 _ _ ⟨dn0 _ (Nat.le_refl _),by omega⟩ (luc _ _ g6),hD2 _ _ ⟨dn0 _ (by omega),by omega⟩ (luc _ _ g8),hq2⟩,Sj (hM.wf _ (by show n0≤n0+20;omega)) (fun r y hr hy=>luc r y (hDH r y hr hy)) hD2,hM2⟩,by show _ - (k+1)<_ - k;omega⟩;simp only [go_sem,simprocAttr]
 ·have hltb:decide ((k:Int)<(s.sound.length:Int))=false:=decide_eq_false (by omega);rw [List.drop_of_length_le (by omega)] at hsum;rw [hsum] at hR;unfold vJ at hR;dsimp only at hR;rw [hR] at hO;have hOk:=hO.ok _ rfl;refine aF (aB _ ?_);simp only [go_sem,simprocAttr,hltb];refine aF (eB (b:=false) rfl ?_);rw [if_neg (by decide)];refine aB _ ?_;simp only [go_sem,simprocAttr];have hL:∀ (B:Blk) r,(H.set (n0+20) B).look r=if r=n0+20 then some B else H.look r:=fun B r=>Heap.look_set _ _ _ g9 r
  have hL0:∀ (B:Blk),(H.set (n0+20) B).look (n0+20)=some B:=fun B=>by rw [hL,if_pos rfl]
  have hL1:∀ (B:Blk),(H.set (n0+20) B).look n0=some (.box [aA 0,aA 0,aA 0,aA 0]):=fun B=>by rw [hL,if_neg (by omega)];exact g6
  have hL2:∀ (B C:Blk) r,((H.set (n0+20) B).set n0 C).look r=if r=n0 then some C else if r=n0+20 then some B else H.look r:=fun B C r=>by rw [Heap.look_set _ _ _ (hL1 B) r,hL]
  have hL3:∀ (B C:Blk),((H.set (n0+20) B).set n0 C).look n0=some C:=fun B C=>by rw [hL2,if_pos rfl]
  have dn0:∀ q,n0≤q→DN p N q:=fun q hq=>(hM.off hq).dn
  have hDf:∀ B C,aY (DN p N) H0 ((H.set (n0+20) B).set n0 C):=fun B C r y hr hy=>by
   rw [hL2,if_neg,if_neg]
   ·exact hDH r y hr hy
   ·intro e;rw [e,hM.wf _ (by show n0≤n0+20;omega)] at hy;cases hy
   ·intro e;rw [e,hM.wf _ (Nat.le_refl _)] at hy;cases hy
  have hMf:∀ B C,MixH p A N nn ((H.set (n0+20) B).set n0 C):=fun B C=>MixH.put (MixH.put hMH (hM.off (by show n0≤n0+20;omega)) g9 B) (hM.off (Nat.le_refl _)) (hL1 B) C
  have ww1:IntKind.i64.wrap 1=1:=by decide
  have ww2:IntKind.i64.wrap 2=2:=by decide
  have ww3:IntKind.i64.wrap 3=3:=by decide
  have ww4:IntKind.i64.wrap 4=4:=by decide
  have w01:IntKind.i64.wrap (0+1)=1:=by decide
  have w11:IntKind.i64.wrap (1+1)=2:=by decide
  have w21:IntKind.i64.wrap (2+1)=3:=by decide
  have w31:IntKind.i64.wrap (3+1)=4:=by decide
  have hcl:∀ c,max (-32768) (min 32767 (acc.getD c 0))=(acc.map tU).getD c 0:=fun c=>by
   rcases Nat.lt_or_ge c acc.length with h | h
   ·simp only [List.getD_eq_getElem?_getD,List.getElem?_map,List.getElem?_eq_getElem h];rfl
   ·simp only [List.getD_eq_getElem?_getD,List.getElem?_map,List.getElem?_eq_none h];rfl
  refine aB _ ?_;simp only [go_sem,simprocAttr];refine bR ?_
  iterate 5
   refine aH (aB _ ?_);simp only [go_sem,simprocAttr,dtf,ww1,ww2,ww3,ww4,g9,hL0,hL1,hcl]
  unfold uJ;simp only [go_sem,simprocAttr,hL3];exact ⟨hDf _ _,hOk _ nn (by show n0≤nn;omega) (hDf _ _) (hMf _ _)⟩
theorem kindI {v:Value} (h:fN (.int .i64) v=true):∃ a,v = .int .i64 a:=by
 cases v<;>simp only [fN,decide_eq_true_eq,Bool.false_eq_true] at h
 subst h;exact ⟨_,rfl⟩
theorem Gz {j:Int} {m:Bool×List T}:∀ {es:List Ent},dL (.int .i64) es=true→dL (.int .i64) (gT (.int .i64 j) m es)=true
 | [],_=>rfl
 | e0::es,h=>by
  simp only [dL,Bool.and_eq_true] at h;simp only [gT];split
  ·simp only [dL,h.2,fN,decide_true,Bool.and_self]
  ·simp only [dL,h.1,Gz h.2,Bool.and_self]
theorem Mf {j j':Int} {m:Bool×List T}:∀ {es:List Ent},dL (.int .i64) es=true→eP (.int .i64 j) (gT (.int .i64 j') m es)=if j=j' then some (mkV m) else eP (.int .i64 j) es
 | [],_=>by simp only [gT,eP,mZ,decide_eq_true_eq]
 | (k0,m0)::es,h=>by
  simp only [dL,Bool.and_eq_true] at h;obtain ⟨s,rfl⟩:=kindI h.1;have ih:=Mf (j:=j) (j':=j') (m:=m) h.2;simp only [gT,mZ,decide_eq_true_eq];split
  ·rename_i h1;subst h1;simp only [eP,mZ,decide_eq_true_eq];split<;>rfl
  ·rename_i h1;simp only [eP,mZ,decide_eq_true_eq,ih];split
   ·rename_i h2;subst h2;rw [if_neg (fun h=>h1 h.symm)]
   ·rfl
theorem Fp (p:ProjR) (A:List AudioR) (i:Nat):KeptE p A i []:=⟨rfl,fun j v h=>by cases h⟩
theorem aHq {p:ProjR} {A:List AudioR} {i:Nat} {es:Ja} (h:KeptE p A i es) {j:Int} {l:List Int} (hl:qW p A i j = .ok l):KeptE p A i (gT (.int .i64 j) (true,[ti (l.getD 0 0),ti (l.getD 1 0),ti (l.getD 2 0),ti (l.getD 3 0)]) es):=by
 refine ⟨Gz h.kinds,fun j' v hv=>?_⟩;rw [Mf h.kinds] at hv;split at hv
 ·rename_i e;subst e;injection hv with hv;exact ⟨l,hl,hv.symm⟩
 ·exact h.val _ _ hv
theorem MixH.keep {p:ProjR} {A:List AudioR} {N:LayN} {n0:Nat} {H:Heap} (h:MixH p A N n0 H) {i:Nat} (hi:i<p.seqs.length) {es es':Ja} (hl:H.look (N.c i)=some (.map (tEs es))) (hk:KeptE p A i es'):MixH p A N n0 (H.set (N.c i) (.map (tEs es'))):=by
 refine h.later (Nat.le_refl _) (fun q b hq hb=>?_) (fun k hk2=>?_) fun q hq=>?_
 ·rw [Heap.look_set _ _ _ hl,if_neg (hq i hi)];exact hb
 ·by_cases e:k=i
  ·subst e;exact ⟨es',by rw [Heap.look_set _ _ _ hl,if_pos rfl],hk⟩
  ·obtain ⟨es2,q1,q2⟩:=h.kept k hk2;exact ⟨es2,by rw [Heap.look_set _ _ _ hl,if_neg (fun e2=>e (h.inj _ _ hk2 hi e2))];exact q1,q2⟩
 ·rw [Heap.look_set _ _ _ hl,if_neg (by have:=(h.lb i hi).2.2;omega)];exact h.wf q hq
set_option maxHeartbeats 4000000 in
theorem pSample {p:ProjR} (hp:PrjV p) {A:List AudioR} (hA:AudP A) {N:LayN} {i:Nat} (hi:i<p.seqs.length) (hS:Hp p A N i) (ha:aZ (p.seqs.getD i default).rate=true):SmpC p A N i:=by
 intro σ KP d K j hM hj1 hj2 hok hbad;have hsq:=hM.seq i hi;have hlb:=hM.lb i hi;have dbb:=(hM.db i hi).1;obtain ⟨es,hes,hke⟩:=hM.kept i hi;have hkk:=hke.kinds;refine eV Tryz.X152 Tryz.func152 rfl Tryz.ntmps152 (by rw [Tryz.results152]) ?_;obtain ⟨fr0,H0,n0,df0⟩ := σ;simp only at hok hbad hM hsq hlb hes ⊢;have e5:(N.b i=n0)=False:=by simp;omega
 have e6:∀ k,(N.b i=n0+k)=False:=fun k=>by simp;omega
 have e7:(N.c i=n0)=False:=by simp;omega
 have e8:∀ k,(N.c i=n0+k)=False:=fun k=>by simp;omega
 have dn:∀ q,n0≤q→DN p N q:=fun q hq=>(hM.off hq).dn
 refine aF (aB _ ?_);simp only [go_sem,simprocAttr];refine aF (aB _ ?_);cases hlk:eP (.int .i64 j) es with
 | some v =>
  obtain ⟨l,hl,rfl⟩:=hke.val _ _ hlk;have hOk:=hok l hl;unfold aD4 at hlk hOk;simp only [go_sem,simprocAttr,decide_true,e5,e7,hsq,hes,hlk,Nat.add_assoc,Nat.left_eq_add];refine ⟨hkk,?_⟩;unfold uJ;simp only [go_sem,simprocAttr,Nat.left_eq_add];have h1:=fun b=>MixH.top hM (k:=n0) b (Nat.le_refl _)
  have h2:=fun b c=>MixH.top (h1 b) (k:=n0+1) c (Nat.le_refl _)
  have hD:∀ b c,aY (DN p N) H0 ((n0+1,c)::(n0,b)::H0):=fun b c q x _ hq=>aK (h1 b).wf (aK hM.wf hq (Nat.le_refl _)) (Nat.le_refl _)
  exact ⟨hD _ _,hOk _ (n0+2) (show n0≤n0+2 by omega) (hD _ _) (h2 _ _)⟩
 | none =>
  simp only [go_sem,simprocAttr,decide_true,e5,e7,hsq,hes,hlk,Nat.add_assoc];refine ⟨hkk,?_⟩;have h1:=MixH.top hM (k:=n0) (.box [aA 0,aA 0,aA 0,aA 0]) (Nat.le_refl _);have h2:=MixH.top h1 (k:=n0+1) (.box [aA 0,aA 0,aA 0,aA 0]) (Nat.le_refl _);have hD:aY (DN p N) H0 ((n0+1, .box [aA 0,aA 0,aA 0,aA 0])::(n0, .box [aA 0,aA 0,aA 0,aA 0])::H0):=fun q x _ hq=>aK h1.wf (aK hM.wf hq (Nat.le_refl _)) (Nat.le_refl _)
  have hbx:Heap.look ((n0+1, .box [aA 0,aA 0,aA 0,aA 0])::(n0, .box [aA 0,aA 0,aA 0,aA 0])::H0) n0=some (.box [aA 0,aA 0,aA 0,aA 0]):=by rw [Heap.look,if_neg (by omega),Heap.look,if_pos rfl]
  refine aF (aN 3 ?_);simp only [go_sem,simprocAttr];refine mM rfl rfl ?_;simp only [go_sem,simprocAttr];refine dB (Yt hp hA h2 hi hS ha j hj1 hj2 ⟨fun x hx h3 n3 hl3 hD3 hM3=>cQ ?_,fun m hm h3 n3 hl3 hD3 hM3=>?_⟩)
  all_goals rw [← qV] at *
  rotate_left
  ·cases hs:qW p A i j with
   | ok a=>rw [hs] at hm;cases hm
   | error e =>
    rw [hs] at hm;injection hm with hm;subst hm;intro fr;exact ⟨rfl,hbad _ hs h3 n3 (by have:n0+2≤n3:=hl3;show n0≤n3;omega) (bC hD hD3) hM3⟩
  cases hs:qW p A i j with
  | error e=>rw [hs] at hx;cases hx
  | ok l =>
  rw [hs] at hx;injection hx with hx;subst hx;have hOk:=hok l hs;have hl3:n0+2≤n3:=hl3;unfold aD4;simp only [go_sem,simprocAttr];have hMt:=MixH.top hM3 (k:=n3) (.box [aA (l.getD 0 0),aA (l.getD 1 0),aA (l.getD 2 0),aA (l.getD 3 0)]) (Nat.le_refl _);have hDt:aY (DN p N) H0 ((n3, .box [aA (l.getD 0 0),aA (l.getD 1 0),aA (l.getD 2 0),aA (l.getD 3 0)])::h3):=fun q x dq hq=>aK hM3.wf (bC hD hD3 q x dq hq) (Nat.le_refl _)
  have hbt:=aK hM3.wf (hD3 _ _ (dn n0 (Nat.le_refl _)) hbx) (Nat.le_refl _) (c := .box [aA (l.getD 0 0),aA (l.getD 1 0),aA (l.getD 2 0),aA (l.getD 3 0)]);have hkt:Heap.look ((n3, .box [aA (l.getD 0 0),aA (l.getD 1 0),aA (l.getD 2 0),aA (l.getD 3 0)])::h3) n3=some (.box [aA (l.getD 0 0),aA (l.getD 1 0),aA (l.getD 2 0),aA (l.getD 3 0)]):=by rw [Heap.look,if_pos rfl]
  generalize ((n3,Blk.box [aA (l.getD 0 0),aA (l.getD 1 0),aA (l.getD 2 0),aA (l.getD 3 0)])::h3:Heap)=H4 at *;have hsq4:=hMt.seq i hi;obtain ⟨es4,hes4,hke4⟩:=hMt.kept i hi;refine qB (fun (x:Heap) => { fr:=[V.own N.m, .own (N.b i),aA j, .dead, .dead, .dead, .own n0, .dead, .dead, .own n3]++List.replicate 32 .dead,h:=x,nx:=n3+1 })
   (fun x=>(∃ es5,x.look (N.c i)=some (.map (tEs es5))∧KeptE p A i es5)∧x.look n0=some (.box [aA 0,aA 0,aA 0,aA 0])∧x.look n3=some (.box [aA (l.getD 0 0),aA (l.getD 1 0),aA (l.getD 2 0),aA (l.getD 3 0)])∧aY (DN p N) H0 x∧MixH p A N (n3+1) x) ?_ ?_
  ·refine aF (aB _ ?_);simp only [go_sem,simprocAttr,hsq4,hes4];cases hbl:decide ((es4.length:Int) ≥ 32768) with
   | false =>
    refine eB (b:=false) rfl ?_;rw [if_neg (by decide)];refine aB _ ?_;simp only [go_sem,simprocAttr];refine ⟨H4,cR ⟨rfl,Nat.le_refl _,rfl,?_⟩,⟨es4,hes4,hke4⟩,hbt,hkt,hDt,hMt⟩;simp only [go_sem,simprocAttr]
   | true =>
    have hL:∀ r,Heap.look (Heap.set H4 (N.c i) (.map [])) r=if r=N.c i then some (.map []) else Heap.look H4 r:=fun r=>Heap.look_set _ _ _ hes4 r
    refine eB (b:=true) rfl ?_;rw [if_pos rfl];refine aN 4 ?_;simp only [go_sem,simprocAttr,hsq4];refine aBn rfl rfl rfl rfl ?_;simp only [go_sem,simprocAttr,hes4];refine cQ ?_;simp only [go_sem,simprocAttr];refine ⟨Heap.set H4 (N.c i) (.map []),cR ⟨rfl,Nat.le_refl _,rfl,?_⟩,⟨[],by rw [hL,if_pos rfl];rfl,Fp p A i⟩,?_,?_,fun r x hr hx=>?_,MixH.keep hMt hi hes4 (Fp p A i)⟩
    ·simp only [go_sem,simprocAttr]
    ·rw [hL,if_neg (by omega)];exact hbt
    ·rw [hL,if_neg (by omega)];exact hkt
    ·rw [hL,if_neg (hr i hi)];exact hDt r x hr hx
  rintro H5 ⟨⟨es5,hes5,hke5⟩,hb5,hk5,hD5,hM5⟩;have hsq5:=hM5.seq i hi;have hL:∀ r,(H5.set (N.c i) (.map (tEs (gT (.int .i64 j) (true,[ti (l.getD 0 0),ti (l.getD 1 0),ti (l.getD 2 0),ti (l.getD 3 0)]) es5)))).look r=if r=N.c i then some (.map (tEs (gT (.int .i64 j) (true,[ti (l.getD 0 0),ti (l.getD 1 0),ti (l.getD 2 0),ti (l.getD 3 0)]) es5))) else H5.look r:=fun r=>Heap.look_set _ _ _ hes5 r
  have hM6:=MixH.keep hM5 hi hes5 (aHq hke5 hs);refine aF (aB _ ?_);simp only [go_sem,simprocAttr];refine bL [0,1,2,3,4,5] (.step 6 .done) rfl (by kernel_rfl) (by kernel_rfl) (by decide) ?_;simp only [go_sem,simprocAttr,decide_true,hsq5,hes5,hk5];refine ⟨hke5.kinds,?_⟩;rw [show sS (.int .i64 j) (V.agg [aA (l.getD 0 0),aA (l.getD 1 0),aA (l.getD 2 0),aA (l.getD 3 0)]) (tEs es5)=tEs (gT (.int .i64 j) (true,[ti (l.getD 0 0),ti (l.getD 1 0),ti (l.getD 2 0),ti (l.getD 3 0)]) es5) from rY (.int .i64 j) (true,[ti (l.getD 0 0),ti (l.getD 1 0),ti (l.getD 2 0),ti (l.getD 3 0)]) es5];have hD6:aY (DN p N) H0 (H5.set (N.c i) (.map (tEs (gT (.int .i64 j) (true,[ti (l.getD 0 0),ti (l.getD 1 0),ti (l.getD 2 0),ti (l.getD 3 0)]) es5)))):=fun r x hr hx=>by
   rw [hL,if_neg (hr i hi)];exact hD5 r x hr hx
  have hb6:=hL n0;rw [if_neg (by omega),hb5] at hb6;have hk6:=hL n3;rw [if_neg (by omega),hk5] at hk6;generalize H5.set (N.c i) (.map (tEs (gT (.int .i64 j) (true,[ti (l.getD 0 0),ti (l.getD 1 0),ti (l.getD 2 0),ti (l.getD 3 0)]) es5)))=H6 at *;refine aB _ ?_;simp only [go_sem,simprocAttr,hb6,hk6];have hL7:∀ (B:Blk) r,(H6.set n0 B).look r=if r=n0 then some B else H6.look r:=fun B r=>Heap.look_set _ _ _ hb6 r
  have hL8:∀ (B:Blk),(H6.set n0 B).look n0=some B:=fun B=>by rw [hL7,if_pos rfl]
  unfold uJ;simp only [go_sem,simprocAttr,hL8];have hD7:∀ B,aY (DN p N) H0 (H6.set n0 B):=fun B r x hr hx=>by
   rw [hL7,if_neg]
   ·exact hD6 r x hr hx
   ·intro e;rw [e,hM.wf _ (Nat.le_refl _)] at hx;cases hx
  exact ⟨hD7 _,hOk _ (n3+1) (by show n0≤n3+1;omega) (hD7 _) (MixH.put hM6 (hM.off (Nat.le_refl _)) hb6 _)⟩
theorem Yy {p:ProjR} (hp:PrjV p) {A:List AudioR} (hA:AudP A) (N:LayN):∀ (n i:Nat),dV p (i:Int)<n→Hp p A N i
 | 0,i,h=>absurd h (by omega)
 | n+1,i,h=>fun k hk hd ha=>pSample hp hA hk (Yy hp hA N n k (by omega)) ha
theorem nestS {p:ProjR} (hp:PrjV p) {A:List AudioR} (hA:AudP A) (N:LayN) (i:Nat):Hp p A N i:=Yy hp hA N _ i (Nat.lt_succ_self _)
def Ch (p:ProjR) (b:Nat→Nat) (k:Nat):List (Value×V):=(List.range k).map fun i=>(.string (p.seqs.getD i default).name, .own (b i))
theorem zD (p:ProjR) (b:Nat→Nat) (k:Nat):Ch p b (k+1)=Ch p b k ++ [(.string (p.seqs.getD k default).name, .own (b k))]:=by
 unfold Ch;rw [List.range_succ,List.map_append];rfl
theorem aBk (p:ProjR) {b b':Nat→Nat} {k:Nat} (h:∀ i,i<k→b i=b' i):Ch p b k=Ch p b' k:=by
 unfold Ch;refine List.map_congr_left fun i hi=>?_
 rw [h i (List.mem_range.1 hi)]
theorem Mr {d:TypeDesc}:∀ (l l':List (Value×V)),eZ d (l++l')=(eZ d l&&eZ d l')
 | [],l'=>by simp [eZ]
 | e::l,l'=>by simp only [List.cons_append,eZ,Mr l l',Bool.and_assoc]
theorem Ay (p:ProjR) (b:Nat→Nat):∀ k,eZ .string (Ch p b k)=true
 | 0=>rfl
 | k+1=>by
  rw [zD,Mr,Ay p b k];rfl
theorem Fm (v:Value):∀ (l l':List (Value×V)),fE v (l++l')=(fE v l).or (fE v l')
 | [],l'=>by simp [fE]
 | e::l,l'=>by
  simp only [List.cons_append,fE];split
  ·rfl
  ·exact Fm v l l'
theorem Sc (n m:ByteArray) (x:V):fE (.string n) [(.string m,x)]=if n=m then some x else none:=by
 simp only [fE,mZ,decide_eq_true_eq]
theorem zF {p:ProjR} {b:Nat→Nat} {n:ByteArray}:∀ {k:Nat},(∀ i,i<k→(p.seqs.getD i default).name≠n)→fE (.string n) (Ch p b k)=none
 | 0,_=>rfl
 | k+1,h=>by
  rw [zD,Fm,zF (k:=k) (fun i hi=>h i (by omega)),Sc,if_neg (fun e=>h k (by omega) e.symm)];rfl
theorem aEh {p:ProjR} (hn:(p.seqs.map SequenceR.name).Nodup) {i j:Nat} (hi:i<j) (hj:j<p.seqs.length):(p.seqs.getD i default).name≠(p.seqs.getD j default).name:=by
 have h:=List.pairwise_iff_getElem.1 hn i j (by rw [List.length_map];omega) (by rw [List.length_map];omega) hi;rw [List.getElem_map,List.getElem_map] at h;rwa [bD (show i<p.seqs.length by omega),bD hj]
theorem Rc {p:ProjR} (hn:(p.seqs.map SequenceR.name).Nodup) {b:Nat→Nat} {i:Nat}:∀ {k:Nat},i<k→k≤p.seqs.length→fE (.string (p.seqs.getD i default).name) (Ch p b k)=some (.own (b i))
 | 0,h,_=>absurd h (by omega)
 | k+1,h,hk=>by
  rw [zD,Fm]
  by_cases e:i=k
  ·subst e;rw [zF (fun j hj=>aEh hn hj (by omega)),Sc,if_pos rfl];rfl
  ·rw [Rc hn (show i<k by omega) (by omega)];rfl
theorem Yk {v:Value} {x:V}:∀ {l:List (Value×V)},fE v l=none→sS v x l=l ++ [(v,x)]
 | [],_=>rfl
 | e::l,h=>by
  simp only [fE] at h;split at h
  ·cases h
  ·rename_i hk;simp only [sS,List.cons_append];rw [if_neg hk,Yk h]
theorem aL6 {p:ProjR} (hn:(p.seqs.map SequenceR.name).Nodup) {b:Nat→Nat} {k x:Nat} (hk:k<p.seqs.length):sS (.string (p.seqs.getD k default).name) (.own x) (Ch p b k)=Ch p (fun i=>if i=k then x else b i) (k+1):=by
 rw [Yk (zF fun j hj=>aEh hn hj hk),zD,if_pos rfl,aBk p (b:=b) (b':=fun i=>if i=k then x else b i) (fun i hi=>by rw [if_neg (by omega)])]
theorem aGs {p:ProjR} {n:ByteArray} (h:fR p n<0):∀ i,i<p.seqs.length→(p.seqs.getD i default).name≠n:=fun i hi=>jG.1 (Ng.1 h) _ (aR hi)
theorem Zg {l:List MediumR} (hn:(l.map MediumR.name).Nodup) {k:Nat} (hk:k<l.length):Cy l (l.getD k default).name=some (l.getD k default):=by
 have key:∀ e,jH MediumR.name (l.getD k default).name l=e→e=some (l.getD k default):=fun e he=>by
  cases e with
  | none=>exact absurd rfl (jG.1 he _ (aR hk))
  | some y =>
   obtain ⟨h1,h2⟩:=pC he;obtain ⟨j,hj,rfl⟩:=List.getElem_of_mem h1;have h3:(l.map MediumR.name)[j]'(by rw [List.length_map];exact hj)=(l.map MediumR.name)[k]'(by rw [List.length_map];exact hk):=by
    rw [List.getElem_map,List.getElem_map,h2,bD hk]
   have h4:=(List.getElem_inj hn).1 h3;subst h4;rw [bD hk]
 exact key _ rfl
theorem Xj {A:List AudioR} {k:Nat} (h:k<A.length) (n:ByteArray):pR (A.take (k+1)) n=(pR (A.take k) n).or (if (A.getD k default).name=n then some (A.getD k default) else none):=by
 unfold pR;rw [dD h,List.find?_append];congr 1
 by_cases e:(A.getD k default).name=n
 ·rw [if_pos e,List.find?_cons_of_pos];exact (bq _ _).2 e
 ·rw [if_neg e,List.find?_cons_of_neg]
  ·rfl
  ·intro e2;exact e ((bq _ _).1 e2)
set_option maxHeartbeats 4000000 in
theorem aB2 {σ : St} {d:Option Tmp} {K:St→Prop} {p:ProjR} (hp:PrjV p) {A:List AudioR} (hA:AudF A)
  (hK:∀ N H n,MixH p A N n H→(∀ j,j < σ.nx→OffN p N j∧H.look j = σ.h.look j) → σ.nx≤n→K (({ σ with h:=H,nx:=n }:St).put d (.own N.m))) :
  ICall Tryz.prog σ d 21 [jZ p, .t (gC A)] K:=by
 refine Dj Tryz.X21 Tryz.func21 rfl Tryz.ntmps21 (by rw [Tryz.results21]) ?_;have hK2:∀ N H n,MixH p A N n H→(∀ j,j < σ.nx→OffN p N j∧H.look j = σ.h.look j) → σ.nx≤n → ∀ fr df,(fun (x:V) (σ':St)=>K (({ σ with h := σ'.h,nx := σ'.nx }:St).put d x)) (.own N.m) { fr:=fr,h:=H,nx:=n,df:=df }:=fun N H n q1 q2 q3 fr df=>hK N H n q1 q2 q3
 revert hK2;generalize (fun (x:V) (σ':St)=>K (({ σ with h := σ'.h,nx := σ'.nx }:St).put d x))=K2;obtain ⟨fr0,H0,n0,df0⟩ := σ;intro hK2;have hK3:∀ N H n,MixH p A N n H→(∀ j,j<n0→OffN p N j∧H.look j=H0.look j)→n0≤n → ∀ fr df,K2 (.own N.m) { fr:=fr,h:=H,nx:=n,df:=df }:=hK2;clear hK2 hK;show AWP Tryz.prog n0 _ _ (tJ Tryz.prog _ _ H0 n0)
 refine aF (aB _ ?_);simp only [go_sem,simprocAttr];refine aF (aB _ ?_);simp only [go_sem,simprocAttr,Nat.add_assoc];refine aF (aB _ ?_);simp only [go_sem,simprocAttr,Nat.left_eq_add];have kk:Heap.look ((n0+4, .box [.own (n0+1), .own (n0+2), .own (n0+3)])::(n0+3, .map [])::(n0+2, .map [])::(n0+1, .map [])::(n0, .box [.t (gA p.media), .t (mK p.seqs)])::H0) n0=some (.box [.t (gA p.media), .t (mK p.seqs)])∧Heap.look ((n0+4, .box [.own (n0+1), .own (n0+2), .own (n0+3)])::(n0+3, .map [])::(n0+2, .map [])::(n0+1, .map [])::(n0, .box [.t (gA p.media), .t (mK p.seqs)])::H0) (n0+1)=some (.map [])∧Heap.look ((n0+4, .box [.own (n0+1), .own (n0+2), .own (n0+3)])::(n0+3, .map [])::(n0+2, .map [])::(n0+1, .map [])::(n0, .box [.t (gA p.media), .t (mK p.seqs)])::H0) (n0+2)=some (.map [])∧Heap.look ((n0+4, .box [.own (n0+1), .own (n0+2), .own (n0+3)])::(n0+3, .map [])::(n0+2, .map [])::(n0+1, .map [])::(n0, .box [.t (gA p.media), .t (mK p.seqs)])::H0) (n0+3)=some (.map [])∧Heap.look ((n0+4, .box [.own (n0+1), .own (n0+2), .own (n0+3)])::(n0+3, .map [])::(n0+2, .map [])::(n0+1, .map [])::(n0, .box [.t (gA p.media), .t (mK p.seqs)])::H0) (n0+4)=some (.box [.own (n0+1), .own (n0+2), .own (n0+3)]) ∧ ∀ j,j<n0→Heap.look ((n0+4, .box [.own (n0+1), .own (n0+2), .own (n0+3)])::(n0+3, .map [])::(n0+2, .map [])::(n0+1, .map [])::(n0, .box [.t (gA p.media), .t (mK p.seqs)])::H0) j=H0.look j:=by
  refine ⟨?_,?_,?_,?_,?_,fun j hj=>?_⟩
  ·rw [Heap.look,if_neg (by omega),Heap.look,if_neg (by omega),Heap.look,if_neg (by omega),Heap.look,if_neg (by omega),Heap.look,if_pos rfl]
  ·rw [Heap.look,if_neg (by omega),Heap.look,if_neg (by omega),Heap.look,if_neg (by omega),Heap.look,if_pos rfl]
  ·rw [Heap.look,if_neg (by omega),Heap.look,if_neg (by omega),Heap.look,if_pos rfl]
  ·rw [Heap.look,if_neg (by omega),Heap.look,if_pos rfl]
  ·rw [Heap.look,if_pos rfl]
  ·rw [Heap.look,if_neg (by omega),Heap.look,if_neg (by omega),Heap.look,if_neg (by omega),Heap.look,if_neg (by omega),Heap.look,if_neg (by omega)]
 generalize ((n0+4,Blk.box [V.own (n0+1),V.own (n0+2),V.own (n0+3)])::(n0+3,Blk.map [])::(n0+2,Blk.map [])::(n0+1,Blk.map [])::(n0,Blk.box [V.t (gA p.media),V.t (mK p.seqs)])::H0:Heap)=H1 at *;obtain ⟨k0,k1,k2,k3,k4,kl⟩:=kk;refine aE (fun (x:Nat×Heap×Nat) σ => (fun τ : St => { τ with h:=x.2.1,nx:=x.2.2 }) (bM 25 (aA x.1) (aW [7,22,26,27,28,29,30,31,32,33,34,35,36,37,38] σ)))
  (fun x=>(x.1≤p.media.length∧n0+5≤x.2.2)∧(x.2.1.look n0=some (.box [.t (gA p.media), .t (mK p.seqs)])∧x.2.1.look (n0+1)=some (.map (tEs (rtM (p.media.take x.1))))∧x.2.1.look (n0+2)=some (.map [])∧x.2.1.look (n0+3)=some (.map [])∧x.2.1.look (n0+4)=some (.box [.own (n0+1), .own (n0+2), .own (n0+3)])) ∧ ∀ j,j<n0→x.2.1.look j=H0.look j)
  (fun x=>p.media.length - x.1) (0,H1,n0+5) ?_ ?_ ?_
 ·refine cR ⟨rfl,Nat.le_refl _,rfl,?_⟩;simp only [go_sem,simprocAttr]
 ·exact ⟨⟨Nat.zero_le _,Nat.le_refl _⟩,⟨k0,k1,k2,k3,k4⟩,kl⟩
 rintro ⟨k,H,nn⟩ ⟨⟨hk,hnn⟩,⟨g0,g1,g2,g3,g4⟩,hlo⟩;simp only at hk hnn g0 g1 g2 g3 g4 hlo;have e0:∀ j,(n0=nn+j)=False:=fun j=>eq_false (by omega)
 have e0':(n0=nn)=False:=eq_false (by omega);have e1:(n0+1=nn)=False:=eq_false (by omega);have e2:(n0+2=nn)=False:=eq_false (by omega);have e3:(n0+3=nn)=False:=eq_false (by omega);have e4:(n0+4=nn)=False:=eq_false (by omega);have hml:=hp.ml;refine Ed fun hwf=>aB _ ?_
 simp only [go_sem,simprocAttr];refine ⟨fun hlt=>?_,fun hge=>?_⟩
 ·simp only [bxx] at hlt;have hkl:k<p.media.length:=by omega
  have hwk:IntKind.i64.wrap ((k:Int)+1)=((k+1:Nat):Int):=by rw [bF (by omega)];omega
  unfold awS;simp only [go_sem,simprocAttr];refine ⟨⟨by omega,by omega⟩,?_⟩;refine bL [0,1,2,3,4,5,6,7,8] (.step 9 .done) rfl (by kernel_rfl) (by kernel_rfl) (by decide) ?_;simp only [go_sem,simprocAttr,g1,g4,e1,e4];have hL:∀ B r,(H.set (n0+1) B).look r=if r=n0+1 then some B else H.look r:=fun B r=>Heap.look_set _ _ _ g1 r
  refine ⟨(k+1,_,nn+1),cR ⟨rfl,Nat.le_refl _,rfl,?_⟩,⟨⟨by show k+1≤_;omega,by show n0+5≤nn+1;omega⟩,⟨?_,?_,?_,?_,?_⟩,fun j hj=>?_⟩,by show _ - (k+1)<_ - k;omega⟩
  ·simp only [go_sem,simprocAttr,hwk]
  ·show Heap.look _ n0=_
   rw [Heap.look,if_neg (by omega),hL,if_neg (by omega)];exact g0
  ·show Heap.look _ (n0+1)=_
   rw [Heap.look,if_neg (by omega),hL,if_pos rfl];unfold rtM;rw [Be _ _ hkl];exact congrArg (fun x=>some (Blk.map x)) (put_rt _ _ _)
  ·show Heap.look _ (n0+2)=_
   rw [Heap.look,if_neg (by omega),hL,if_neg (by omega)];exact g2
  ·show Heap.look _ (n0+3)=_
   rw [Heap.look,if_neg (by omega),hL,if_neg (by omega)];exact g3
  ·show Heap.look _ (n0+4)=_
   rw [Heap.look,if_neg (by omega),hL,if_neg (by omega)];exact g4
  ·show Heap.look _ j=_
   rw [Heap.look,if_neg (by omega),hL,if_neg (by omega)];exact hlo j hj
 ·simp only [bxx] at hge;have:k=p.media.length:=by omega
  subst this;rw [List.take_length] at g1;clear e0 e0' e1 e2 e3 e4 hwf;unfold awS;simp only [go_sem,simprocAttr];refine aF (aB _ ?_);simp only [go_sem,simprocAttr];refine aE (fun (x:Nat×Ja×Heap×Nat) σ => (fun τ : St => { τ with h:=x.2.2.1,nx:=x.2.2.2 }) (bM 41 (aA x.1) (aW [9,10,11,42,43,44,45,46,47,48,49,50,51,52,53,54,55,56,57,58,59,60,61,62,63,64] σ)))
   (fun x=>(x.1≤A.length∧n0+5≤x.2.2.2∧xE x.2.1 ∧ ∀ n,eP (.string n) x.2.1=(pR (A.take x.1) n).map fun a => .agg [cA a.name, .t (kT a.chs)])∧(x.2.2.1.look n0=some (.box [.t (gA p.media), .t (mK p.seqs)])∧x.2.2.1.look (n0+1)=some (.map (tEs (rtM p.media)))∧x.2.2.1.look (n0+2)=some (.map (tEs x.2.1))∧x.2.2.1.look (n0+3)=some (.map [])∧x.2.2.1.look (n0+4)=some (.box [.own (n0+1), .own (n0+2), .own (n0+3)])) ∧ ∀ j,j<n0→x.2.2.1.look j=H0.look j)
   (fun x=>A.length - x.1) (0,[],H,nn) ?_ ?_ ?_
  ·refine cR ⟨rfl,Nat.le_refl _,rfl,?_⟩;simp only [go_sem,simprocAttr]
  ·exact ⟨⟨Nat.zero_le _,hnn,fun e he=>absurd he (by simp),fun n=>rfl⟩,⟨g0,g1,g2,g3,g4⟩,hlo⟩
  clear g0 g1 g2 g3 g4 hlo hnn;rintro ⟨k,U,H,nn⟩ ⟨⟨hk,hnn,hU,hUl⟩,⟨g0,g1,g2,g3,g4⟩,hlo⟩;simp only at hk hnn hU hUl g0 g1 g2 g3 g4 hlo;have e4:(n0+4=nn)=False:=eq_false (by omega);have f4:∀ j,(n0+4=nn+j)=False:=fun j=>eq_false (by omega)
  have e2:(n0+2=nn)=False:=eq_false (by omega);have f2:∀ j,(n0+2=nn+j)=False:=fun j=>eq_false (by omega)
  have e0:(n0=nn)=False:=eq_false (by omega);have f0:∀ j,(n0=nn+j)=False:=fun j=>eq_false (by omega)
  have hAl:=hA.len;have hUk:=jJ hU;refine Ed fun hwf=>aB _ ?_
  simp only [go_sem,simprocAttr];refine ⟨fun hlt=>?_,fun hge=>?_⟩
  ·simp only [bxx] at hlt;have hkl:k<A.length:=by omega
   have hwk:IntKind.i64.wrap ((k:Int)+1)=((k+1:Nat):Int):=by rw [bF (by omega)];omega
   have hUn:=hUl (A.getD k default).name;unfold awS;simp only [go_sem,simprocAttr,Ef hkl];refine ⟨⟨by omega,by omega⟩,?_⟩;refine aQ 13 .done rfl (by kernel_rfl) (by kernel_rfl) (by decide) ?_;cases hsn:pR (A.take k) (A.getD k default).name with
   | none =>
    rw [hsn] at hUn;simp only [go_sem,simprocAttr,hUn,g2,g4,e2,e4,Nat.add_assoc];refine ⟨hUk,gL ?_,?_⟩
    ·simp only [fJ,gG,bQ (show n0+2<nn+1 by omega),bQ (show n0+4<nn+1 by omega),bQ (show nn<nn+1 by omega),pT,Nat.reduceLeDiff,Nat.reduceSub,Nat.reduceAdd];show tV _ _ _=true
     kernel_rfl
    refine bL [0,1,2,3,4,5,6] (.step 7 .done) rfl (by kernel_rfl) (by kernel_rfl) (by decide) ?_;simp only [go_sem,simprocAttr,g2,g4,e2,e4,f2,f4,Nat.left_eq_add];have hL:∀ B r,(H.set (n0+2) B).look r=if r=n0+2 then some B else H.look r:=fun B r=>Heap.look_set _ _ _ g2 r
    refine ⟨hUk,(k+1,gT (.string (A.getD k default).name) (auC (A.getD k default)) U,_,_),cR ⟨rfl,Nat.le_refl _,rfl,?_⟩,⟨⟨by show k+1≤_;omega,by show n0+5≤nn+14;omega,Ex hU,fun n=>?_⟩,⟨?_,?_,?_,?_,?_⟩,fun j hj=>?_⟩,by show _ - (k+1)<_ - k;omega⟩
    ·simp only [go_sem,simprocAttr,hwk]
    ·show eP (.string n) (gT _ _ U)=_
     rw [Fk hU,Xj hkl,hUl]
     by_cases e:n=(A.getD k default).name
     ·subst e;rw [if_pos rfl,hsn,if_pos rfl];rfl
     ·rw [if_neg e,if_neg (fun h=>e h.symm),Option.or_none]
    ·show Heap.look _ n0=_
     rw [Heap.look,if_neg (by omega),Heap.look,if_neg (by omega),hL,if_neg (by omega)];exact g0
    ·show Heap.look _ (n0+1)=_
     rw [Heap.look,if_neg (by omega),Heap.look,if_neg (by omega),hL,if_neg (by omega)];exact g1
    ·show Heap.look _ (n0+2)=_
     rw [Heap.look,if_neg (by omega),Heap.look,if_neg (by omega),hL,if_pos rfl];exact congrArg (fun x=>some (Blk.map x)) (put_au _ _ _)
    ·show Heap.look _ (n0+3)=_
     rw [Heap.look,if_neg (by omega),Heap.look,if_neg (by omega),hL,if_neg (by omega)];exact g3
    ·show Heap.look _ (n0+4)=_
     rw [Heap.look,if_neg (by omega),Heap.look,if_neg (by omega),hL,if_neg (by omega)];exact g4
    ·show Heap.look _ j=_
     rw [Heap.look,if_neg (by omega),Heap.look,if_neg (by omega),hL,if_neg (by omega)];exact hlo j hj
   | some a =>
    rw [hsn] at hUn;simp only [go_sem,simprocAttr,hUn,g2,g4,e2,e4,Nat.add_assoc];refine ⟨hUk,gL ?_,?_⟩
    ·simp only [fJ,gG,bQ (show n0+2<nn+1 by omega),bQ (show n0+4<nn+1 by omega),bQ (show nn<nn+1 by omega),pT,Nat.reduceLeDiff,Nat.reduceSub,Nat.reduceAdd];show tV _ _ _=true
     kernel_rfl
    refine ⟨(k+1,U,_,_),cR ⟨rfl,Nat.le_refl _,rfl,?_⟩,⟨⟨by show k+1≤_;omega,by show n0+5≤nn+14;omega,hU,fun n=>?_⟩,⟨?_,?_,?_,?_,?_⟩,fun j hj=>?_⟩,by show _ - (k+1)<_ - k;omega⟩
    ·simp only [go_sem,simprocAttr,hwk]
    ·show eP (.string n) U=_
     rw [Xj hkl,hUl]
     by_cases e:(A.getD k default).name=n
     ·subst e;rw [hsn];rfl
     ·rw [if_neg e,Option.or_none]
    ·show Heap.look _ n0=_
     rw [Heap.look,if_neg (by omega),Heap.look,if_neg (by omega)];exact g0
    ·show Heap.look _ (n0+1)=_
     rw [Heap.look,if_neg (by omega),Heap.look,if_neg (by omega)];exact g1
    ·show Heap.look _ (n0+2)=_
     rw [Heap.look,if_neg (by omega),Heap.look,if_neg (by omega)];exact g2
    ·show Heap.look _ (n0+3)=_
     rw [Heap.look,if_neg (by omega),Heap.look,if_neg (by omega)];exact g3
    ·show Heap.look _ (n0+4)=_
     rw [Heap.look,if_neg (by omega),Heap.look,if_neg (by omega)];exact g4
    ·show Heap.look _ j=_
     rw [Heap.look,if_neg (by omega),Heap.look,if_neg (by omega)];exact hlo j hj
  ·simp only [bxx] at hge;have:k=A.length:=by omega
   subst this;rw [List.take_length] at hUl;clear e0 e2 e4 f0 f2 f4 hwf;unfold awS;simp only [go_sem,simprocAttr];refine aF (aB _ ?_);simp only [go_sem,simprocAttr,g0];refine aE (fun (x:Nat×(Nat→Nat)×(Nat→Nat)×(Nat→Nat)×Heap×Nat) σ => (fun τ : St => { τ with h:=x.2.2.2.2.1,nx:=x.2.2.2.2.2 }) (bM 68 (aA x.1) (aW [13,14,16,69,70,71,72,73,74,75,76,77,78,79,80,81,82,83,84,85,86,87,88,89,90,91,92,93,94,95,96,97,98,99,100,101,102,103,104,105] σ)))
    (fun x=>(x.1≤p.seqs.length∧n0+5≤x.2.2.2.2.2)∧(x.2.2.2.2.1.look n0=some (.box [.t (gA p.media), .t (mK p.seqs)])∧x.2.2.2.2.1.look (n0+1)=some (.map (tEs (rtM p.media)))∧x.2.2.2.2.1.look (n0+2)=some (.map (tEs U))∧x.2.2.2.2.1.look (n0+3)=some (.map (Ch p x.2.1 x.1))∧x.2.2.2.2.1.look (n0+4)=some (.box [.own (n0+1), .own (n0+2), .own (n0+3)])) ∧
     (∀ i,i<x.1→(n0+5≤x.2.2.2.1 i∧x.2.2.2.1 i<x.2.1 i∧x.2.1 i<x.2.2.1 i∧x.2.2.1 i<x.2.2.2.2.2)∧x.2.2.2.2.1.look (x.2.1 i)=some (.box [aA (p.seqs.getD i default).rate.num,aA (p.seqs.getD i default).rate.den,aA (p.seqs.getD i default).channels, .own (x.2.2.1 i), .own (x.2.2.2.1 i)])∧x.2.2.2.2.1.look (x.2.2.1 i)=some (.row 124 3 aB1 (aS ((p.seqs.getD i default).sound.map Kg)))∧x.2.2.2.2.1.look (x.2.2.2.1 i)=some (.map [])) ∧
     (∀ i j,i<j→j<x.1→x.2.2.1 i<x.2.2.2.1 j) ∧ ∀ j,j<n0→x.2.2.2.2.1.look j=H0.look j)
    (fun x=>p.seqs.length - x.1) (0,fun _=>0,fun _=>0,fun _=>0,H,nn) ?_ ?_ ?_
   ·refine cR ⟨rfl,Nat.le_refl _,rfl,?_⟩;simp only [go_sem,simprocAttr]
   ·exact ⟨⟨Nat.zero_le _,hnn⟩,⟨g0,g1,g2,g3,g4⟩,fun i hi=>absurd hi (by show ¬ i<0;omega),fun i j _ hj=>absurd hj (by show ¬ j<0;omega),hlo⟩
   clear g0 g1 g2 g3 g4 hlo hnn;rintro ⟨k,fb,ft,fc,H,nn⟩ ⟨⟨hk,hnn⟩,⟨g0,g1,g2,g3,g4⟩,hq,hord,hlo⟩;simp only at hk hnn g0 g1 g2 g3 g4 hq hord hlo;have hsl:=hp.sl;have e4:(n0+4=nn)=False:=eq_false (by omega);have f4:∀ j,(n0+4=nn+j)=False:=fun j=>eq_false (by omega)
   have e3:(n0+3=nn)=False:=eq_false (by omega);have f3:∀ j,(n0+3=nn+j)=False:=fun j=>eq_false (by omega)
   refine Ed fun hwf=>aB _ ?_
   simp only [go_sem,simprocAttr];refine ⟨fun hlt=>?_,fun hge=>?_⟩
   ·simp only [bxx] at hlt;have hkl:k<p.seqs.length:=by omega
    have hwk:IntKind.i64.wrap ((k:Int)+1)=((k+1:Nat):Int):=by rw [bF (by omega)];omega
    have hqn:=fun d=>Cg hkl d
    have h8:=(hp.seq k hkl).len;have htv:=(hp.seq k hkl).trk;obtain ⟨s,hs⟩:∃ s,p.seqs.getD k default=s:=⟨_,rfl⟩
    rw [hs] at h8 htv;simp only [hs] at hqn;unfold awS;simp only [go_sem,simprocAttr,hqn,Nat.add_assoc,Nat.left_eq_add];refine ⟨⟨by omega,by omega⟩,?_⟩;have bx:∀ (B0 B1 B2:Blk),(Heap.look ((nn+2,B2)::(nn+1,B1)::(nn,B0)::H) (nn+2)=some B2∧Heap.look ((nn+2,B2)::(nn+1,B1)::(nn,B0)::H) (nn+1)=some B1∧Heap.look ((nn+2,B2)::(nn+1,B1)::(nn,B0)::H) nn=some B0) ∧ ∀ q,q<nn→Heap.look ((nn+2,B2)::(nn+1,B1)::(nn,B0)::H) q=H.look q:=fun B0 B1 B2=>by
     refine ⟨⟨?_,?_,?_⟩,fun q hq=>?_⟩
     ·rw [Heap.look,if_pos rfl]
     ·rw [Heap.look,if_neg (by omega),Heap.look,if_pos rfl]
     ·rw [Heap.look,if_neg (by omega),Heap.look,if_neg (by omega),Heap.look,if_pos rfl]
     ·rw [Heap.look,if_neg (by omega),Heap.look,if_neg (by omega),Heap.look,if_neg (by omega)]
    generalize hB0:Blk.box [cA s.name,_,_,_,_,_,_,_,_]=B0;have bx2:=bx B0 (.map []) (.box [aA s.rate.num,aA s.rate.den,aA s.channels, .t (.lit (.slice none 0 0)), .own (nn+1)]);clear bx;generalize ((nn+2,Blk.box [aA s.rate.num,aA s.rate.den,aA s.channels,V.t (.lit (.slice none 0 0)),V.own (nn+1)])::(nn+1,Blk.map [])::(nn,B0)::H:Heap)=H2 at *;obtain ⟨⟨h2,h1,h0⟩,hlo2⟩:=bx2;refine aE (fun (x:Nat×Nat×Heap×Nat) σ => (fun τ : St => { τ with h:=x.2.2.1,nx:=x.2.2.2 }) (bM 82 (aA x.1) (aW [16,83,84,85,86,87,88,89,90,91,92,93,94,95,96,97] σ)))
     (fun x=>(x.1≤s.sound.length∧nn+3≤x.2.1∧x.2.1<x.2.2.2)∧(x.2.2.1.look nn=some B0∧x.2.2.1.look (nn+1)=some (.map [])∧x.2.2.1.look (nn+2)=some (.box [aA s.rate.num,aA s.rate.den,aA s.channels, .own x.2.1, .own (nn+1)])∧x.2.2.1.look x.2.1=some (.row 124 3 aB1 (aS ((s.sound.take x.1).map Kg)))) ∧ ∀ q,q<nn→x.2.2.1.look q=H.look q)
     (fun x=>s.sound.length - x.1) (0,nn+3,(nn+3, .row 124 3 aB1 [])::Heap.set H2 (nn+2) (.box [aA s.rate.num,aA s.rate.den,aA s.channels, .own (nn+3), .own (nn+1)]),nn+4) ?_ ?_ ?_
    ·refine aB4 (aG5 (nn+2) 3 124 3 aB1 [aA s.rate.num,aA s.rate.den,aA s.channels, .t (.lit (.slice none 0 0)), .own (nn+1)] (by show n0≤nn+3;omega) h2 rfl) (cR ⟨rfl,Nat.le_refl _,rfl,?_⟩);simp only [go_sem,simprocAttr]
    ·have hL:∀ B r,Heap.look (Heap.set H2 (nn+2) B) r=if r=nn+2 then some B else Heap.look H2 r:=fun B r=>Heap.look_set _ _ _ h2 r
     refine ⟨⟨Nat.zero_le _,Nat.le_refl _,Nat.lt_succ_self _⟩,⟨?_,?_,?_,?_⟩,fun q hq=>?_⟩
     ·show Heap.look _ nn=_
      rw [Heap.look,if_neg (by omega),hL,if_neg (by omega)];exact h0
     ·show Heap.look _ (nn+1)=_
      rw [Heap.look,if_neg (by omega),hL,if_neg (by omega)];exact h1
     ·show Heap.look _ (nn+2)=_
      rw [Heap.look,if_neg (by omega),hL,if_pos rfl]
     ·show Heap.look _ (nn+3)=_
      rw [Heap.look,if_pos rfl];rfl
     ·show Heap.look _ q=_
      rw [Heap.look,if_neg (by omega),hL,if_neg (by omega)];exact hlo2 q hq
    clear h2 h1 h0 hlo2;rintro ⟨j,r,H3,n3⟩ ⟨⟨hj,hr1,hr2⟩,⟨h0,h1,h2,hr⟩,hlo3⟩;simp only at hj hr1 hr2 h0 h1 h2 hr hlo3;refine Ed fun hwf3=>aB _ ?_
    simp only [go_sem,simprocAttr];refine ⟨fun hlt2=>?_,fun hge2=>?_⟩
    ·simp only [bxx] at hlt2;have hjl:j<s.sound.length:=by omega
     have hwj:IntKind.i64.wrap ((j:Int)+1)=((j+1:Nat):Int):=by rw [bF (by omega)];omega
     have hnt:=aJf _ (htv _ (aR (d:=[]) hjl)).1;have htn:=fun d=>Wt hjl d
     unfold awS;simp only [go_sem,simprocAttr,htn];refine ⟨⟨by omega,by omega⟩,?_⟩;refine aQ 12 .done rfl (by kernel_rfl) (by kernel_rfl) (by decide) ?_;simp only [go_sem,simprocAttr,h2];refine ⟨_,hnt,?_⟩;have hlen:(s.sound.take j).length=j:=by rw [List.length_take];omega
     have g5:∀ k,(nn+2=n3+k)=False:=fun k=>eq_false (by omega)
     have g6:∀ k,(r=n3+k)=False:=fun k=>eq_false (by omega)
     have g7:(nn+2=r)=False:=eq_false (by omega);have hdel:∀ q,(H3.del r).look q=if q=r then none else H3.look q:=Heap.look_del H3 r
     have hd2:(H3.del r).look (nn+2)=H3.look (nn+2):=by rw [hdel,if_neg (by omega)]
     simp only [go_sem,simprocAttr,h2,hr,g5,g6,hd2];refine ⟨⟨by unfold maxLen;omega,by omega⟩,?_⟩;refine ⟨gL ?_,?_⟩
     ·have o7:mY n3 (n3+7)=8:=by unfold mY;rw [if_neg (by omega)];omega
      simp only [fJ,gG,o7,bQ (show nn+2<n3 by omega),bQ (show r<n3 by omega)];show tV _ _ _=true
      kernel_rfl
     have hL:∀ B q,((H3.del r).set (nn+2) B).look q=if q=nn+2 then some B else if q=r then none else H3.look q:=fun B q=>by rw [Heap.look_set _ _ _ (by rw [hd2];exact h2) q,hdel]
     have hq1:s.sound.take (j+1)=s.sound.take j ++ [s.sound.getD j []]:=by
      rw [List.take_add_one,List.getElem?_eq_getElem hjl,List.getD_eq_getElem?_getD,List.getElem?_eq_getElem hjl];rfl
     refine ⟨(j+1,n3+8,_,n3+12),cR ⟨rfl,Nat.le_refl _,rfl,?_⟩,⟨⟨by show j+1≤_;omega,by show nn+3≤n3+8;omega,by show n3+8<n3+12;omega⟩,⟨?_,?_,?_,?_⟩,fun q hq=>?_⟩,by show _ - (j+1)<_ - j;omega⟩
     ·simp only [go_sem,simprocAttr,hwj]
     ·show Heap.look _ nn=_
      rw [Heap.look,if_neg (by omega),Heap.look,if_neg (by omega),hL,if_neg (by omega),if_neg (by omega)];exact h0
     ·show Heap.look _ (nn+1)=_
      rw [Heap.look,if_neg (by omega),Heap.look,if_neg (by omega),hL,if_neg (by omega),if_neg (by omega)];exact h1
     ·show Heap.look _ (nn+2)=_
      rw [Heap.look,if_neg (by omega),Heap.look,if_neg (by omega),hL,if_pos rfl]
     ·show Heap.look _ (n3+8)=_
      rw [Heap.look,if_pos rfl,hq1,List.map_append];rfl
     ·show Heap.look _ q=_
      rw [Heap.look,if_neg (by omega),Heap.look,if_neg (by omega),hL,if_neg (by omega),if_neg (by omega)];exact hlo3 q hq
    ·simp only [bxx] at hge2;have:j=s.sound.length:=by omega
     subst this;rw [List.take_length] at hr;have k3:=(hlo3 (n0+3) (by omega)).trans g3;have k4:=(hlo3 (n0+4) (by omega)).trans g4;subst hB0;unfold awS;simp only [go_sem,simprocAttr];refine bL [0,1,2,3,4,5,6] (.step 7 .done) rfl (by kernel_rfl) (by kernel_rfl) (by decide) ?_;simp only [go_sem,simprocAttr,h0,k3,k4];refine ⟨Ay p fb k,?_⟩;rw [show sS (.string s.name) (V.own (nn+2)) (Ch p fb k)=Ch p (fun i=>if i=k then nn+2 else fb i) (k+1) by rw [← hs];exact aL6 hp.ns hkl];have hL:∀ B q,(H3.set (n0+3) B).look q=if q=n0+3 then some B else H3.look q:=fun B q=>Heap.look_set _ _ _ k3 q
     have old:∀ B q x,q<nn→q≠n0+3→H.look q=some x→(H3.set (n0+3) B).look q=some x:=fun B q x hq hne hx=>by rw [hL,if_neg hne,hlo3 q hq];exact hx
     refine ⟨(k+1,(fun i=>if i=k then nn+2 else fb i),(fun i=>if i=k then r else ft i),(fun i=>if i=k then nn+1 else fc i),_,n3),cR ⟨rfl,Nat.le_refl _,rfl,?_⟩,⟨⟨by show k+1≤_;omega,by show n0+5≤n3;omega⟩,⟨old _ _ _ (by omega) (by omega) g0,old _ _ _ (by omega) (by omega) g1,old _ _ _ (by omega) (by omega) g2,?_,old _ _ _ (by omega) (by omega) g4⟩,fun i hi=>?_,fun i j hij hj=>?_,fun q hq=>?_⟩,by show _ - (k+1)<_ - k;omega⟩
     ·simp only [go_sem,simprocAttr,hwk]
     ·show (H3.set (n0+3) _).look (n0+3)=_
      rw [hL,if_pos rfl]
     ·have hi:i<k+1:=hi;show (n0+5≤(if i=k then nn+1 else fc i)∧(if i=k then nn+1 else fc i)<(if i=k then nn+2 else fb i)∧(if i=k then nn+2 else fb i)<(if i=k then r else ft i)∧(if i=k then r else ft i)<n3)∧(H3.set (n0+3) _).look (if i=k then nn+2 else fb i)=some (.box [_,_,_, .own (if i=k then r else ft i), .own (if i=k then nn+1 else fc i)])∧(H3.set (n0+3) _).look (if i=k then r else ft i)=_∧(H3.set (n0+3) _).look (if i=k then nn+1 else fc i)=_
      by_cases e:i=k
      ·subst e;simp only [if_true,hs];refine ⟨⟨by omega,by omega,by omega,by omega⟩,?_,?_,?_⟩
       ·rw [hL,if_neg (by omega)];exact h2
       ·rw [hL,if_neg (by omega)];exact hr
       ·rw [hL,if_neg (by omega)];exact h1
      ·simp only [if_neg e];obtain ⟨⟨q1,q2,q3,q4⟩,q5,q6,q7⟩:=hq i (by omega);exact ⟨⟨q1,q2,q3,by omega⟩,old _ _ _ (by omega) (by omega) q5,old _ _ _ (by omega) (by omega) q6,old _ _ _ (by omega) (by omega) q7⟩
     ·have hj:j<k+1:=hj;show (if i=k then r else ft i)<(if j=k then nn+1 else fc j)
      rw [if_neg (by omega)];have q4:=(hq i (by omega)).1.2.2.2
      by_cases e:j=k
      ·rw [if_pos e];omega
      ·rw [if_neg e];exact hord i j hij (by omega)
     ·show (H3.set (n0+3) _).look q=_
      rw [hL,if_neg (by omega),hlo3 q (by omega)];exact hlo q hq
   ·simp only [bxx] at hge;have:k=p.seqs.length:=by omega
    subst this;have hD:∀ q i,(q<n0+5)→i<p.seqs.length→q≠fc i:=fun q i h1 h2=>by
     have:=(hq i h2).1.1;omega
    have hord2:∀ i j,i<p.seqs.length→j<p.seqs.length→i≠j→ft i<fc j∨ft j<fc i:=fun i j hi hj hij=>by
     rcases Nat.lt_or_ge i j with h | h
     ·exact .inl (hord i j h hj)
     ·exact .inr (hord j i (by omega) hi)
    have hMix:MixH p A ⟨n0+4,n0+1,n0+2,n0+3,fb,ft,fc⟩ nn H:=by
     refine ⟨g4,⟨_,g1,Zr _,fun k hk=>?_⟩,⟨U,g2,hUk,hUl⟩,⟨_,g3,Ay _ _ _,fun i hi=>Rc hp.ns hi (Nat.le_refl _),fun n hn=>zF (aGs hn)⟩,fun i hi=>(hq i hi).2.1,fun i hi=>(hq i hi).2.2.1,fun i hi=>⟨[],(hq i hi).2.2.2,Fp p A i⟩,⟨?_,?_,?_,?_⟩,fun i hi=>⟨fun j hj=>?_,fun j hj=>?_⟩,fun i j hi hj he=>?_,⟨?_,?_,?_,?_⟩,fun i hi=>?_,fun q hq=>hwf q hq⟩
     ·rw [look_rt,Zg hp.nm hk];rfl
     ·exact fun j hj=>hD (n0+4) j (by omega) hj
     ·exact fun j hj=>hD (n0+1) j (by omega) hj
     ·exact fun j hj=>hD (n0+2) j (by omega) hj
     ·exact fun j hj=>hD (n0+3) j (by omega) hj
     ·show fb i≠fc j
      have q1:=(hq i hi).1;have q2:=(hq j hj).1
      by_cases e:i=j
      ·subst e;omega
      ·have:=hord2 i j hi hj e;omega
     ·show ft i≠fc j
      have q1:=(hq i hi).1;have q2:=(hq j hj).1
      by_cases e:i=j
      ·subst e;omega
      ·have:=hord2 i j hi hj e;omega
     ·by_cases e:i=j
      ·exact e
      ·exfalso;have he:fc i=fc j:=he;have q1:=(hq i hi).1;have q2:=(hq j hj).1;have:=hord2 i j hi hj e;omega
     ·show n0+4<nn;omega
     ·show n0+1<nn;omega
     ·show n0+2<nn;omega
     ·show n0+3<nn;omega
     ·show fb i<nn∧ft i<nn∧fc i<nn
      have q1:=(hq i hi).1;omega
    unfold awS;simp only [go_sem,simprocAttr];refine aB _ ?_;simp only [go_sem,simprocAttr];exact hK3 _ H nn hMix (fun j hj=>⟨⟨⟨by show j≠n0+4;omega,by show j≠n0+1;omega,by show j≠n0+2;omega,by show j≠n0+3;omega⟩,fun i hi=>by
     have q1:=(hq i hi).1;exact ⟨by show j≠fb i;omega,by show j≠ft i;omega,by show j≠fc i;omega⟩⟩,hlo j hj⟩) (by omega) _ _
theorem aPd {A:List AudioR} (hA:AudF A):aJ Tryz.prog 22 [.t (gC A)] (aL (A.all mE)):=by
 have hAl:=hA.len;refine aD Tryz.X22 Tryz.func22 rfl Tryz.ntmps22 (by rw [Tryz.results22]) (aB _ ?_);simp only [go_sem,simprocAttr];refine aE (fun (k:Nat) σ => bM 9 (aA k) (aW [4,6,10,11,12,13,14,15,16,17,18,19,20,21,22,23,24,25,26,27,28,29,30,31,32,33,34,35,36,37,38] (bE σ))) (fun k=>k≤A.length ∧ ∀ i,i<k→mE (A.getD i default)=true) (fun k=>A.length - k) 0 (aC ?_) ⟨Nat.zero_le _,fun i hi=>absurd hi (by omega)⟩ ?_
 ·simp only [go_sem,simprocAttr]<;>simp
 ·rintro k ⟨hk,hki⟩;refine aB _ ?_;simp only [go_sem,simprocAttr];refine ⟨fun hlt=>?_,fun hge=>?_⟩
  ·simp only [bxx] at hlt;have hkl:k<A.length:=by omega
   have hwk:IntKind.i64.wrap ((k:Int)+1)=((k+1:Nat):Int):=by rw [bF (by omega)];omega
   have hLl:=hA.chs _ (aR (d:=default) hkl);have hprop:mE (A.getD k default)=((A.getD k default).chs.all (aCx (A.getD k default).chs)&&decide ((A.getD k default).chs.length≤4)):=rfl;obtain ⟨L,hL⟩:∃ L,L=(A.getD k default).chs:=⟨_,rfl⟩
   rw [← hL] at hLl hprop;unfold awS;simp only [go_sem,simprocAttr,aFw hkl, ← hL,kT,t16];refine ⟨⟨by omega,by omega⟩,fun h5=>?_,fun h5=>?_⟩
   ·have hp0:A.all mE=false:=bX hkl (by
     rw [hprop,decide_eq_false (by have:=of_decide_eq_true h5;omega),Bool.and_false])
    rw [hp0];unfold awS;simp only [go_sem,simprocAttr]
   have h4:L.length≤4:=by
    have:=of_decide_eq_false h5;omega
   rw [decide_eq_true h4,Bool.and_true] at hprop;unfold awS;simp only [go_sem,simprocAttr];refine aE (fun (j:Nat) σ => bM 20 (aA j) (aW [6,21,22,23,24,25,26,27,28,29,30,31,32,33,34,35,36,37,38] (bE σ))) (fun j=>j≤L.length ∧ ∀ i,i<j→aCx L (L.getD i [])=true) (fun j=>L.length - j) 0 (aC ?_) ⟨Nat.zero_le _,fun i hi=>absurd hi (by omega)⟩ ?_
   ·simp only [go_sem,simprocAttr]<;>simp
   ·rintro j ⟨hj,hji⟩;refine aB _ ?_;simp only [go_sem,simprocAttr];refine ⟨fun hlt2=>?_,fun hge2=>?_⟩
    ·simp only [bxx] at hlt2;have hjl:j<L.length:=by omega
     have h0l : 0<L.length:=by omega
     have hwj:IntKind.i64.wrap ((j:Int)+1)=((j+1:Nat):Int):=by rw [bF (by omega)];omega
     have c0:=yR h0l;have cj:=yR hjl;unfold awS;simp only [go_sem,simprocAttr,cj,c0];refine ⟨⟨by omega,by omega⟩,by omega,?_⟩;rw [aAm];refine ⟨fun h6=>?_,fun h6=>?_⟩
     ·have hp0:A.all mE=false:=bX hkl (by
       rw [hprop];exact bX hjl (by simpa using h6))
      rw [hp0];unfold awS;simp only [go_sem,simprocAttr]
     unfold awS;simp only [go_sem,simprocAttr];refine ⟨j+1,aC ?_,⟨by omega,upto hji (by simpa using h6)⟩,by omega⟩;simp only [go_sem,simprocAttr,hwj];simp
    ·simp only [bxx] at hge2;have hpk:mE (A.getD k default)=true:=by
      rw [hprop];exact Eg (d:=[]) (by rw [show L.length=j by omega];exact hji)
     unfold awS;simp only [go_sem,simprocAttr];refine ⟨k+1,aC ?_,⟨by omega,upto hki hpk⟩,by omega⟩;simp only [go_sem,simprocAttr,hwk]
  ·simp only [bxx] at hge;have hall:A.all mE=true:=Eg (d:=default) (by rw [show A.length=k by omega];exact hki);rw [hall];unfold awS;simp only [go_sem,simprocAttr]
theorem semS_q {P:Program} {ops:List Oper} {Q:Exit→St→Prop} {o:Oper} {r:List Oper} {σ : St} {f:FuncId} {args:Array Operand} {tys:Array TypeId} (hg:o.guard=none) (ho:o.op = .call { callee := .value (.func f),args:=args,argTypes:=tys })
  (h:dP true (args.toList.map σ.ev) fun xs=>PCall P (fun _=>False) (fun pe σ'=>Q (.panic pe) { σ' with fr := σ.fr }) σ o.dst f xs (qG P ops Q r)):qG P ops Q (o::r) σ := by
 intro E a w hr E0 w0 hE;unfold wpListIn;have hw:Region.wanted o (yielded ops.toArray a.tmps)=true:=by simp [Region.wanted,hg]
 rw [if_pos hw];refine eU (.inr fun c hc=>by rw [ho] at hc;cases hc) ?_;obtain ⟨ys,h1,hys⟩:=kK h;have hvs:=hys w E _ rfl (jC hr args.toList);have h2:=h1.2 E w _ hr.rel hr.bound hvs;have e1:(args.toList.map a.eval).toArray=args.map a.eval:=by apply Array.ext';simp only [Array.toList_map]
 rw [e1] at h2;unfold Oper.wp;rw [kU ho rfl h1.1];simp only [Oper.upon];refine Calls.mono h2 ?_;rintro e w' (⟨v,x,h',nx',E',rfl,q2,q3,q4,q5,q6,q7⟩ | ⟨pe,h',nx',E',rfl,q2,q3,q4,q5⟩)
 ·have hr':RelF E' { σ with h:=h',nx:=nx' } a w':=⟨q2,q3,q4.rdVs _ hr.fr,q4.defs hr.defers⟩
  have:=q7 E' _ w' (hr'.put o.dst q5) E0 w0 (hE.trans q4);rwa [q4.ro] at this
 ·exact ⟨{ σ with h:=h',nx:=nx' },E',⟨q2,q3,q4.rdVs _ hr.fr,q4.defs hr.defers⟩,hE.trans q4,q5⟩
theorem aJ5 {P:Program} {f:FuncId} {fn:Func} {c:Code} {args:List V} {r:V} {n:Nat} {rs:List ResultVar} (he:P.enters f=true) (hf:P.funcs[f]? = some fn) (hb:fn.body=some c) (hn:fn.ntmps=n) (hrs:fn.results.toList=rs)
  (h:AWP P 0 c (Hr P rs (fun x σ => aLr r x σ.h)) (tJ P n args [] 0)):aJ P f args r:=by
 refine ⟨he,fun w S vs hS hargs=>?_⟩;refine Qg hf hb hn hrs h (Lc hS) (fun i hi=>hi.elim) (fun i hi=>hi.elim) (RdVs.unbare (E:=⟨S,fun _=>none,fun _=>False,fun b=>b<w.heap.size,fun _=>none,none⟩) args hargs) ?_;rintro v x σ' E' w' h1 hbd h2 hrv ⟨hK1,hK2⟩;refine ⟨v,wV E' σ'.h,rfl,fun b hb' => .inl (h2.S b hb'),fun b hb'=>?_,fun b hb'=>?_,?_,⟨h2.os,h2.tape,h2.output,h2.size,fun b hb'=>h2.keep b (.inr hb')⟩⟩
 ·rcases hb' with hb' | ⟨i,hv',_,hB,_,_,hbk⟩
  ·rcases h2.S' b hb' with q | q
   ·exact .inl q
   ·exact .inr (Nat.le_of_not_lt q)
  ·have q:=(h1.own i hv' b hB hbk).2.2;exact .inr (Nat.le_of_not_lt fun hlt=>q ((h2.D b).2 hlt))
 ·rcases hb' with hb' | ⟨i,hv',_,hB,_,_,hbk⟩
  ·exact h1.slt b hb'
  ·exact (h1.own i hv' b hB hbk).1
 ·have:=RdV.lend h1 x (by rw [hK1];exact hK2) hrv;rw [hK1] at this;exact this
theorem aLf {fr0 n:Int} {b:Bool} (h1 : 0≤n) (h2:n≤1048576):(!nV fr0 || !nV (IntKind.i64.wrap (fr0+n)) || !b)=true ↔ (fr0 < -1099511627776∨1099511627776 - n<fr0∨b=false):=by
 by_cases h : -1099511627776≤fr0∧fr0≤1099511627776
 ·rw [wrap64 (x:=fr0+n) (by omega) (by omega)];unfold nV;cases b
  ·simp only [Bool.not_false,Bool.or_true,true_iff];exact .inr (.inr trivial)
  ·simp only [Bool.or_eq_true,Bool.not_eq_true',Bool.and_eq_false_iff,decide_eq_false_iff_not,reduceCtorEq,or_false];omega
 ·have:nV fr0=false:=by
   unfold nV;simp only [Bool.and_eq_false_iff,decide_eq_false_iff_not];omega
  rw [this];simp only [Bool.not_false,Bool.true_or,true_iff];omega
def Hz (L:List (List Int)) (N c:Nat):List Int:=(L.map fun l=>l.getD c 0)++List.replicate (N - L.length) 0
theorem aNs {L:List (List Int)} {N:Nat} (c:Nat) (h:L.length≤N):(Hz L N c).length=N:=by
 unfold Hz;rw [List.length_append,List.length_map,List.length_replicate];omega
theorem aNr {L:List (List Int)} {N:Nat} (c:Nat) (h:L.length<N) (l:List Int):(Hz L N c).set L.length (l.getD c 0)=Hz (L ++ [l]) N c:=by
 unfold Hz;obtain ⟨k,hk⟩:∃ k,N - L.length=k+1:=⟨N - L.length - 1,by omega⟩
 have e:N - (L ++ [l]).length=k:=by rw [List.length_append];simp;omega
 rw [hk,e,List.replicate_succ,List.set_append_right _ _ (by rw [List.length_map];exact Nat.le_refl _),List.length_map,Nat.sub_self,List.map_append];simp
theorem Xu {m c:Nat} (hc:c<m) (d:List T) (f:Nat→List V):pW d ((List.range m).map f) c=f c:=by
 unfold pW;rw [List.getElem?_map,List.getElem?_range hc];rfl
theorem rng_set {m c:Nat} {f g:Nat→List V} (h:∀ j,j<m→j≠c→f j=g j) {y:List V} (hy:c<m→y=g c):setRow ((List.range m).map f) c y=(List.range m).map g:=by
 unfold setRow;refine List.ext_getElem (by simp) fun i h1 h2=>?_
 simp only [List.length_map,List.length_range] at h2;simp only [List.getElem_set,List.getElem_map,List.getElem_range];split
 ·rename_i e;subst e;exact hy h2
 ·rename_i e;exact h i h2 (fun e2=>e e2.symm)
set_option maxHeartbeats 4000000 in
theorem aFj {p:ProjR} (h:p.fit) {A:List AudioR} (hA:AudF A) (name:ByteArray) (fr0 n:Int) (hf:I64 fr0) (hn:I64 n) :
  aJ Tryz.prog 10 [jZ p,cA name,aA fr0,aA n, .t (gC A)] (mJ (nJ p A name fr0 n)):=by
 obtain ⟨f1,f2⟩:=hf;obtain ⟨n1,n2⟩:=hn;obtain ⟨R,hR⟩:∃ R,R=nJ p A name fr0 n:=⟨_,rfl⟩
 rw [← hR];unfold nJ at hR;have cv:=cValid p h;refine aJ5 Tryz.X10 Tryz.func10 rfl Tryz.ntmps10 (by rw [Tryz.results10]) ?_;refine aF (aB _ ?_);simp only [go_sem,simprocAttr];refine aF (aN 1 ?_);simp only [go_sem,simprocAttr];refine aBm rfl rfl rfl rfl rfl (cQ ?_);simp only [go_sem,simprocAttr];refine aF (aB _ ?_);simp only [go_sem,simprocAttr];refine ⟨_,cv,?_⟩;simp only [go_sem,simprocAttr];refine ⟨fun hv=>?_,fun hv=>?_⟩
 ·rw [bne_iff_ne] at hv;rw [if_pos hv] at hR;rw [hR];unfold awS;simp only [go_sem,simprocAttr];unfold Hr mJ;simp only [go_sem,simprocAttr];exact kN
 have hv:dR p=0:=by simpa using hv
 have hp:=Uq h hv;rw [if_neg (by rw [hv];simp)] at hR;unfold awS;simp only [go_sem,simprocAttr];refine aF (aN 2 ?_);simp only [go_sem,simprocAttr];refine semS_io rfl rfl ?_;simp only [go_sem,simprocAttr];refine aB2 hp hA fun N H nn hM hlo hnn=>cQ ?_
 have hnn : 3≤nn:=hnn;obtain ⟨o0,l0⟩:=hlo 0 (by show 0<3;omega);obtain ⟨o1,l1⟩:=hlo 1 (by show 1<3;omega);obtain ⟨o2,l2⟩:=hlo 2 (by show 2<3;omega);have l0:H.look 0=some (.box [.t (gA p.media), .t (mK p.seqs)]):=l0;have l1:H.look 1=some (.box [.t (.lit (.slice none 0 0))]):=l1;have l2:H.look 2=some (.box [aA 0]):=l2;clear hlo;simp only [go_sem,simprocAttr];obtain ⟨S,hS1,hS2,hS3,hS4⟩:=hM.sq;have hbx:=hM.box;refine aF (aB _ ?_);simp only [go_sem,simprocAttr,hbx,hS1];refine ⟨hS2,?_⟩;have L1:∀ B,(H.set 1 B).look 2=some (.box [aA 0]):=fun B=>by rw [Heap.look_set _ _ _ l1,if_neg (by decide)];exact l2
 have L2:∀ B C,((H.set 1 B).set 2 C).look 1=some B:=fun B C=>by rw [Heap.look_set _ _ _ (L1 B),if_neg (by decide),Heap.look_set _ _ _ l1,if_pos rfl]
 have L3:∀ B C,((H.set 1 B).set 2 C).look 2=some C:=fun B C=>by rw [Heap.look_set _ _ _ (L1 B),if_pos rfl]
 by_cases hsi:fR p name<0
 ·rw [if_pos hsi] at hR;rw [hR];rw [hS4 name hsi];simp only [go_sem,simprocAttr];refine aF (aF (aB _ ?_));simp only [go_sem,simprocAttr];refine eB (b:=true) rfl ?_;rw [if_pos rfl];refine aB _ ?_;simp only [go_sem,simprocAttr,l1,L1];unfold Hr mJ;simp only [go_sem,simprocAttr,L2,L3];exact kN
 rw [if_neg hsi] at hR;obtain ⟨i,hi,hii,hin⟩:=kQ (show 0≤fR p name by omega);rw [hii,Int.toNat_natCast] at hR;have hse:=hS3 i hi;rw [hin] at hse;have hsq:=hM.seq i hi;rw [hse];simp only [go_sem,simprocAttr];refine aF (aF (aB _ ?_));simp only [go_sem,simprocAttr];refine eB (b:=false) rfl ?_;rw [if_neg (by decide)];refine aB _ ?_;simp only [go_sem,simprocAttr];refine aF (aB _ ?_);simp only [go_sem,simprocAttr];refine ⟨_,fun _=>aPd hA,?_⟩;simp only [go_sem,simprocAttr];refine ⟨fun h1=>?_,fun h1=>?_⟩
 ·have hR1:R = .error 1:=by
   rw [Bool.or_eq_true,decide_eq_true_eq,Bool.not_eq_true'] at h1;rcases h1 with h1 | h1
   ·by_cases hp2:A.all mE=false
    ·rw [if_pos hp2] at hR;exact hR
    ·rw [if_neg hp2,if_pos h1] at hR;exact hR
   ·rw [if_pos h1] at hR;exact hR
  rw [hR1];unfold awS;simp only [go_sem,simprocAttr,l1,L1];unfold Hr mJ;simp only [go_sem,simprocAttr,L2,L3];exact kN
 rw [Bool.or_eq_false_iff,decide_eq_false_iff_not,Bool.not_eq_false'] at h1;obtain ⟨h1,hall⟩:=h1;rw [if_neg (by rw [hall];decide),if_neg h1] at hR;have hP:AudP A:=⟨hA,List.all_eq_true.1 hall⟩
 unfold awS;simp only [go_sem,simprocAttr];refine aF (aB _ ?_);simp only [go_sem,simprocAttr];refine ⟨fun h2=>?_,fun h2=>?_⟩
 ·rw [decide_eq_true_eq] at h2;rw [if_pos (by omega)] at hR;rw [hR];unfold awS;simp only [go_sem,simprocAttr,l1,L1];unfold Hr mJ;simp only [go_sem,simprocAttr,L2,L3];exact kN
 rw [decide_eq_false_iff_not] at h2;rw [if_neg (by omega)] at hR;unfold awS;simp only [go_sem,simprocAttr];refine aF (aB _ ?_);simp only [go_sem,simprocAttr];refine ⟨_,Tf fr0,?_⟩;simp only [go_sem,simprocAttr];refine ⟨_,fun _=>Tf _,?_⟩;simp only [go_sem,simprocAttr,hsq];obtain ⟨_,hfit,hch,_,_⟩:=hp.seq i hi;refine ⟨_,fun _=>pH (p.seqs.getD i default).rate hfit.rate,?_⟩;simp only [go_sem,simprocAttr];have hrc:=aLf (fr0:=fr0) (n:=n) (b:=aZ (p.seqs.getD i default).rate) (by omega) (by omega);refine ⟨fun h3=>?_,fun h3=>?_⟩
 ·rw [if_pos (hrc.1 h3)] at hR;rw [hR];unfold awS;simp only [go_sem,simprocAttr,l1,L1];unfold Hr mJ;simp only [go_sem,simprocAttr,L2,L3];exact kN
 have h3' : ¬ (fr0 < -1099511627776∨1099511627776 - n<fr0∨aZ (p.seqs.getD i default).rate=false):=fun h=>by
  rw [hrc.2 h] at h3;cases h3
 rw [if_neg h3'] at hR;have hau:aZ (p.seqs.getD i default).rate=true:=by
  cases e:aZ (p.seqs.getD i default).rate with
  | true=>rfl
  | false=>exact absurd (.inr (.inr e)) h3'
 have hf1 : -1099511627776≤fr0:=by
  refine Int.not_lt.1 fun h=>h3' (.inl h)
 have hf2:fr0≤1099511627776 - n:=by
  refine Int.not_lt.1 fun h=>h3' (.inr (.inl h))
 obtain ⟨N0,hN0⟩:=eW (n:=n) (by omega);subst hN0;rw [Int.toNat_natCast] at hR;obtain ⟨m,hm⟩:=eW (n:=(p.seqs.getD i default).channels) (by omega);have hmt:(p.seqs.getD i default).channels.toNat=m:=by omega
 rw [hmt] at hR;have hsl:=fun (t:Int) (l:List Int)=>Ce (A:=A) hp hi (t:=t) (l:=l)
 simp only [hmt] at hsl;rw [hm] at hsq;clear h3 h3' hrc;unfold awS;simp only [go_sem,simprocAttr];refine aF (aB _ ?_);simp only [go_sem,simprocAttr,hsq];refine ⟨⟨by omega,by unfold maxLen;omega,by omega⟩,?_⟩;refine aF (aB _ ?_);simp only [go_sem,simprocAttr,List.length_replicate];have hwf0:=hM.wf;have mixL:∀ (H':Heap) (n':Nat),nn≤n'→(∀ q,q<nn→H'.look q=H.look q)→(∀ q,n'≤q→H'.look q=none)→MixH p A N n' H':=fun H' n' hle hk hw=>hM.later hle (fun q b _ hq=>by
   rw [hk q (Nat.lt_of_not_le fun h=>by rw [hwf0 q h] at hq;cases hq)];exact hq) (fun j hj=>by
   obtain ⟨es,q1,q2⟩:=hM.kept j hj;exact ⟨es,by rw [hk _ (hM.lb j hj).2.2];exact q1,q2⟩) hw
 refine aE (fun (x:Nat×(Nat→Nat)×Heap×Nat) σ => (fun τ : St => { τ with h:=x.2.2.1,nx:=x.2.2.2 }) (bM 75 (aA x.1) (aW [17,76,77,78,79,80,81,82,83] σ)))
  (fun x=>(x.1≤m∧nn+1≤x.2.2.2)∧x.2.2.1.look nn=some (.row 48 1 [.lit (.slice none 0 0)] ((List.range m).map fun j=>if j<x.1 then [.own (x.2.1 j)] else [.t (.lit (.slice none 0 0))]))∧(∀ j,j<x.1→(nn<x.2.1 j∧x.2.1 j<x.2.2.2)∧x.2.2.1.look (x.2.1 j)=some (.row 76 1 (c16 0) (aS ((List.replicate N0 (0:Int)).map c16))))∧(∀ j j',j<j'→j'<x.1→x.2.1 j<x.2.1 j') ∧ ∀ q,q<nn→x.2.2.1.look q=H.look q)
  (fun x=>m - x.1) (0,(fun _=>0),(nn, .row 48 1 [.lit (.slice none 0 0)] ((List.range m).map fun j=>if j<0 then [.own 0] else [.t (.lit (.slice none 0 0))]))::H,nn+1) ?_ ?_ ?_
 ·have e:aS (List.replicate m [T.lit (.slice none 0 0)])=((List.range m).map fun j=>if j<0 then [V.own 0] else [.t (.lit (.slice none 0 0))]):=by
   refine List.ext_getElem (by unfold aS;simp) fun i h1 h2=>?_
   unfold aS;simp
  refine cR ⟨by rw [← e],Nat.le_refl _,rfl,?_⟩;simp only [go_sem,simprocAttr]
 ·refine ⟨⟨Nat.zero_le _,Nat.le_refl _⟩,?_,fun j hj=>absurd hj (by show ¬ j<0;omega),fun j j' _ hj=>absurd hj (by show ¬ j'<0;omega),fun q hq=>?_⟩
  ·show Heap.look _ nn=_
   rw [Heap.look,if_pos rfl]
  ·show Heap.look _ q=_
   rw [Heap.look,if_neg (by omega)]
 rintro ⟨c,r,H1,n1⟩ ⟨⟨hc,hn1⟩,ho,hr,hord,hlo⟩;simp only at hc hn1 ho hr hord hlo;have eo:(nn=n1)=False:=eq_false (by omega);refine Ed fun hwf1=>aB _ ?_
 simp only [go_sem,simprocAttr];refine ⟨fun hlt=>?_,fun hge=>?_⟩
 ·simp only [bxx] at hlt;have hcl:c<m:=by omega
  have hwc:IntKind.i64.wrap ((c:Int)+1)=((c+1:Nat):Int):=by rw [bF (by omega)];omega
  unfold awS;simp only [go_sem,simprocAttr,ho,eo,List.length_map,List.length_range];have hL:∀ B q,(H1.set nn B).look q=if q=nn then some B else H1.look q:=fun B q=>Heap.look_set _ _ _ ho q
  refine ⟨⟨by omega,by unfold maxLen;omega,by omega⟩,⟨by omega,by omega⟩,hcl,(c+1,(fun j=>if j=c then n1 else r j),_,n1+1),cR ⟨rfl,Nat.le_refl _,rfl,?_⟩,⟨⟨by show c+1≤m;omega,by show nn+1≤n1+1;omega⟩,?_,fun j hj=>?_,fun j j' hjj hj=>?_,fun q hq=>?_⟩,by show m - (c+1)<m - c;omega⟩
  ·simp only [go_sem,simprocAttr,hwc]
  ·show Heap.look _ nn=_
   rw [Heap.look,if_neg (by omega),hL,if_pos rfl];congr 2;refine rng_set (fun j hj hne=>?_) (fun _=>?_)
   ·show (if j<c then _ else _)=if j<c+1 then [V.own (if j=c then n1 else r j)] else _
    rw [if_neg hne]
    by_cases e:j<c
    ·rw [if_pos e,if_pos (by omega)]
    ·rw [if_neg e,if_neg (by omega)]
   ·show _=if c<c+1 then [V.own (if c=c then n1 else r c)] else _
    rw [if_pos (by omega),if_pos rfl,Xu hcl,if_neg (by omega)];rfl
  ·have hj:j<c+1:=hj;show (nn<(if j=c then n1 else r j)∧(if j=c then n1 else r j)<n1+1)∧Heap.look _ (if j=c then n1 else r j)=_
   by_cases e:j=c
   ·rw [if_pos e];refine ⟨⟨by omega,by omega⟩,?_⟩;rw [Heap.look,if_pos rfl,List.map_replicate];rfl
   ·rw [if_neg e];obtain ⟨⟨q1,q2⟩,q3⟩:=hr j (by omega);refine ⟨⟨q1,by omega⟩,?_⟩;rw [Heap.look,if_neg (by omega),hL,if_neg (by omega)];exact q3
  ·have hj:j'<c+1:=hj;show (if j=c then n1 else r j)<(if j'=c then n1 else r j')
   rw [if_neg (by omega)]
   by_cases e:j'=c
   ·rw [if_pos e];exact (hr j (by omega)).1.2
   ·rw [if_neg e];exact hord j j' hjj (by omega)
  ·show Heap.look _ q=_
   rw [Heap.look,if_neg (by omega),hL,if_neg (by omega)];exact hlo q hq
 ·simp only [bxx] at hge;have hge:=hge;have:c=m:=by omega
  subst this;have ho:H1.look nn=some (.row 48 1 [.lit (.slice none 0 0)] ((List.range c).map fun j=>[V.own (r j)])):=by
   rw [ho];congr 2;refine List.map_congr_left fun j hj=>?_
   rw [if_pos (List.mem_range.1 hj)]
  unfold awS;simp only [go_sem,simprocAttr];refine aF (aB _ ?_);simp only [go_sem,simprocAttr];have hMx:MixH p A N n1 H1:=mixL H1 n1 (by omega) hlo hwf1;have k1:=(hlo 1 (by omega)).trans l1;have k2:=(hlo 2 (by omega)).trans l2;have offr:∀ j,j<c→OffN p N (r j):=fun j hj=>hM.off (by have:=(hr j hj).1.1;omega)
  have hrb:=fun j (hj:j<c)=>(hr j hj).1
  have hrne:∀ j j',j<c→j'<c→j≠j'→r j≠r j':=fun j j' hj hj' hne=>by
   rcases Nat.lt_or_ge j j' with h | h
   ·have:=hord j j' h hj';omega
   ·have:=hord j' j (by omega) hj;omega
  refine aE (fun (x:Nat×List (List Int)×Heap×Nat) σ => (fun τ : St => { τ with h:=x.2.2.1,nx:=x.2.2.2 }) (bM 85 (aA x.1) (aW [18,19,20,86,87,88,89,90,91,92,93,94,95,96,97,98,99,100,101,102,103,104,105,106,107,108,109,110] σ)))
   (fun x=>(x.1≤N0∧dG p A i fr0 x.1 = .ok x.2.1∧n1≤x.2.2.2)∧(x.2.2.1.look 1=some (.box [.t (.lit (.slice none 0 0))])∧x.2.2.1.look 2=some (.box [aA 0])∧x.2.2.1.look nn=some (.row 48 1 [.lit (.slice none 0 0)] ((List.range c).map fun j=>[.own (r j)])))∧(∀ j,j<c→x.2.2.1.look (r j)=some (.row 76 1 (c16 0) (aS ((Hz x.2.1 N0 j).map c16))))∧MixH p A N x.2.2.2 x.2.2.1)
   (fun x=>N0 - x.1) (0,[],H1,n1) ?_ ?_ ?_
  ·refine cR ⟨rfl,Nat.le_refl _,rfl,?_⟩;simp only [go_sem,simprocAttr]
  ·exact ⟨⟨Nat.zero_le _,rfl,Nat.le_refl _⟩,⟨k1,k2,ho⟩,fun j hj=>(hr j hj).2,hMx⟩
  rintro ⟨k,L,H2,n2⟩ ⟨⟨hk,hL,hn2⟩,⟨j1,j2,jo⟩,hrows,hM2⟩;simp only at hk hL hn2 j1 j2 jo hrows hM2
  by_cases hkl:k<N0
  ·have hltb:decide ((k:Int)<(N0:Int))=true:=decide_eq_true (by omega);have hwk:IntKind.i64.wrap ((k:Int)+1)=((k+1:Nat):Int):=by rw [bF (by omega)];omega
   have wf:IntKind.i64.wrap (fr0+(k:Int))=fr0+k:=wrap64 (by omega) (by omega);have hLl:=mL hL;refine aF (aB _ ?_);simp only [go_sem,simprocAttr,hltb];refine aF (eB (b:=true) rfl ?_);rw [if_pos rfl];refine aB _ ?_;simp only [go_sem,simprocAttr];refine aF (vB (aF (aB _ ?_)));simp only [go_sem,simprocAttr];refine aF (aN 5 ?_);simp only [go_sem,simprocAttr,wf];refine semS_q rfl rfl ?_;simp only [go_sem,simprocAttr];refine dB (Yt hp hP hM2 hi (nestS hp hP N i) hau (fr0+k) (by omega) (by omega) ⟨fun x hx h3 n3 hl3 hD3 hM3=>cQ ?_,fun e he h3 n3 hl3 hD3 hM3=>?_⟩)
   all_goals rw [← qV] at *
   rotate_left
   ·cases hsq:qW p A i (fr0+(k:Int)) with
    | ok l=>rw [hsq] at he;cases he
    | error e2 =>
     rw [hsq] at he;injection he with he;subst he;have hq1:dG p A i fr0 (k+1) = .error e2:=by
      unfold dG;rw [hL];dsimp only;rw [hsq]
     rw [rS hq1 N0 (by omega)] at hR;dsimp only at hR;rw [hR];have i1:=hD3 _ _ o1.dn j1;have i2:=hD3 _ _ o2.dn j2;have hn3:n2≤n3:=hl3;refine ⟨_,_,rfl,aLj e2 (by decide) i1 i2 (by show 1<n3;omega) (by show 2<n3;omega) fun h' nx' hle q1 q2=>⟨[.t (.lit (.slice none 0 0)),aA e2],?_,?_⟩⟩
     ·simp only [go_sem,simprocAttr,q1,q2]
     ·unfold mJ;simp only [go_sem,simprocAttr];try exact ⟨rfl,rfl⟩
   cases hsq:qW p A i (fr0+(k:Int)) with
   | error e=>rw [hsq] at hx;cases hx
   | ok l =>
   rw [hsq] at hx;injection hx with hx;subst hx;have hq1:dG p A i fr0 (k+1) = .ok (L ++ [l]):=by
    unfold dG;rw [hL];dsimp only;rw [hsq]
   obtain ⟨hll,hlb⟩:=hsl _ _ hsq;have hn3:n2≤n3:=hl3;have i1:=hD3 _ _ o1.dn j1;have i2:=hD3 _ _ o2.dn j2;have io:=hD3 _ _ (hM.off (Nat.le_refl _)).dn jo;have irow:=fun j (hj:j<c)=>hD3 _ _ (offr j hj).dn (hrows j hj)
   clear j1 j2 jo hrows hM2 hD3;unfold aD4;simp only [go_sem,simprocAttr];have hMt:=MixH.top hM3 (k:=n3) (.box [aA (l.getD 0 0),aA (l.getD 1 0),aA (l.getD 2 0),aA (l.getD 3 0)]) (Nat.le_refl _);have up:∀ q b,h3.look q=some b→Heap.look ((n3, .box [aA (l.getD 0 0),aA (l.getD 1 0),aA (l.getD 2 0),aA (l.getD 3 0)])::h3) q=some b:=fun q b hq=>aK hM3.wf hq (Nat.le_refl _)
   have it:Heap.look ((n3, .box [aA (l.getD 0 0),aA (l.getD 1 0),aA (l.getD 2 0),aA (l.getD 3 0)])::h3) n3=some (.box [aA (l.getD 0 0),aA (l.getD 1 0),aA (l.getD 2 0),aA (l.getD 3 0)]):=by rw [Heap.look,if_pos rfl]
   have i1:=up _ _ i1;have i2:=up _ _ i2;have io:=up _ _ io;have irow:=fun j (hj:j<c)=>up _ _ (irow j hj)
   clear up;generalize ((n3,Blk.box [aA (l.getD 0 0),aA (l.getD 1 0),aA (l.getD 2 0),aA (l.getD 3 0)])::h3:Heap)=H4 at *;refine aF (aB _ ?_);simp only [go_sem,simprocAttr,io,List.length_map,List.length_range];refine aB _ ?_;simp only [go_sem,simprocAttr];refine aE (fun (x:Nat×Heap×Nat) σ => (fun τ : St => { τ with h:=x.2.1,nx:=x.2.2 }) (bM 96 (aA x.1) (aW [20,97,98,99,100,101,102,103,104,105,106,107,108,109] σ)))
    (fun x=>(x.1≤c∧n3+1≤x.2.2)∧(x.2.1.look 1=some (.box [.t (.lit (.slice none 0 0))])∧x.2.1.look 2=some (.box [aA 0])∧x.2.1.look nn=some (.row 48 1 [.lit (.slice none 0 0)] ((List.range c).map fun j=>[.own (r j)]))∧x.2.1.look n3=some (.box [aA (l.getD 0 0),aA (l.getD 1 0),aA (l.getD 2 0),aA (l.getD 3 0)]))∧(∀ j,j<c→x.2.1.look (r j)=some (.row 76 1 (c16 0) (aS ((Hz (if j<x.1 then L ++ [l] else L) N0 j).map c16))))∧MixH p A N x.2.2 x.2.1)
    (fun x=>c - x.1) (0,H4,n3+1) ?_ ?_ ?_
   ·refine cR ⟨rfl,Nat.le_refl _,rfl,?_⟩;simp only [go_sem,simprocAttr]
   ·exact ⟨⟨Nat.zero_le _,Nat.le_refl _⟩,⟨i1,i2,io,it⟩,irow,hMt⟩
   clear i1 i2 io it irow hMt;rintro ⟨q,H5,n5⟩ ⟨⟨hq,hn5⟩,⟨i1,i2,io,it⟩,irow,hMt⟩;simp only at hq hn5 i1 i2 io it irow hMt;refine aB _ ?_;simp only [go_sem,simprocAttr];refine ⟨fun hlt2=>?_,fun hge2=>?_⟩
   ·simp only [bxx] at hlt2;have hqc:q<c:=by omega
    have hrq:=irow q hqc;rw [if_neg (by omega)] at hrq;obtain ⟨q',hq'⟩:∃ q',q'=q+1:=⟨_,rfl⟩
    have hwq:IntKind.i64.wrap ((q:Int)+1)=(q':Int):=by rw [bF (by omega)];omega
    have hnv:=fun d=>Xu hqc d (fun j=>[V.own (r j)])
    have hlq : -32768≤l.getD q 0∧l.getD q 0≤32767:=hlb _ (aR (by omega));have w16:=aK2 hlq.1 hlq.2;have hcs:=aNr (L:=L) (N:=N0) q (by omega) l;have hcl:=aNs (L:=L) (N:=N0) q (by omega);rw [hLl] at hcs;have ww1:IntKind.i64.wrap 1=1:=by decide
    have ww2:IntKind.i64.wrap 2=2:=by decide
    have ww3:IntKind.i64.wrap 3=3:=by decide
    have hrqb:=hrb q hqc;generalize hlv:l.getD q 0=lv at *;generalize hrv:r q=rq at *;unfold awS;simp only [go_sem,simprocAttr];have hset:(aS ((Hz L N0 q).map c16)).set k [V.t (.lit (.int .i16 lv))]=aS ((Hz (L ++ [l]) N0 q).map c16):=by
     rw [← hcs];unfold aS;rw [List.map_set,List.map_set];rfl
    obtain ⟨Q,hQ⟩:∃ Q,Q=q:=⟨_,rfl⟩
    rw [← hQ] at hrv hqc;have offq:OffN p N rq:=by rw [← hrv];exact offr Q hqc
    have hother:∀ j,j<c→j≠Q→r j≠rq:=fun j hj hne=>by rw [← hrv];exact hrne j Q hj hqc hne
    have hLq:∀ B s,(H5.set rq B).look s=if s=rq then some B else H5.look s:=fun B s=>Heap.look_set _ _ _ hrq s
    obtain rfl | rfl | rfl | rfl:q=0∨q=1∨q=2∨q=3:=by omega
    all_goals
     refine aQ 11 .done rfl (by kernel_rfl) (by kernel_rfl) (by decide) ?_;simp only [go_sem,simprocAttr,ww1,ww2,ww3,io,it,hrq,hnv,hlv,w16,List.length_map,List.length_range,hcl];refine ⟨by omega,by omega,⟨by omega,by omega⟩,hkl,gL ?_,?_⟩
     ·simp only [fJ,gG,bQ (show rq<n5 by omega),bQ (show n3<n5 by omega),bQ (show nn<n5 by omega)];show tV _ _ _=true
      kernel_rfl
     rw [hset];refine ⟨(q',_,_),cR ⟨rfl,Nat.le_refl _,rfl,?_⟩,⟨⟨by show q'≤c;omega,?_⟩,⟨?_,?_,?_,?_⟩,fun j hj=>?_,MixH.nx (MixH.put hMt offq hrq _) ?_⟩,by show c - q'<c - _;omega⟩
     ·simp only [go_sem,simprocAttr]
      all_goals
       subst hq';rfl
     ·exact Nat.le_trans hn5 (Nat.le_add_right _ _)
     ·rw [hLq,if_neg (by omega)];exact i1
     ·rw [hLq,if_neg (by omega)];exact i2
     ·rw [hLq,if_neg (by omega)];exact io
     ·rw [hLq,if_neg (by omega), ← hlv];exact it
     ·show (H5.set rq _).look (r j)=some (.row _ _ _ (aS ((Hz (if j<q' then L ++ [l] else L) N0 j).map c16)))
      by_cases e:j=Q
      ·subst e;rw [hrv,hLq,if_pos rfl,if_pos (by omega)];subst hQ;rfl
      ·rw [hLq,if_neg (hother j hj e),irow j hj]
       by_cases e2:j<q'
       ·rw [if_pos e2,if_pos (by omega)]
       ·rw [if_neg e2,if_neg (by omega)]
     ·exact Nat.le_add_right _ _
   ·simp only [bxx] at hge2;have hqc:q=c:=by omega
    subst hqc;unfold awS;simp only [go_sem,simprocAttr];refine aB _ ?_;simp only [go_sem,simprocAttr,hwk];refine ⟨(k+1,L ++ [l],H5,n5),cR ⟨rfl,Nat.le_refl _,rfl,?_⟩,⟨⟨by show k+1≤_;omega,hq1,by show n1≤n5;omega⟩,⟨i1,i2,io⟩,fun j hj=>?_,hMt⟩,by show N0 - (k+1)<N0 - k;omega⟩
    ·simp only [go_sem,simprocAttr]
    ·have:=irow j hj;rw [if_pos hj] at this;exact this
  ·have hkN:k=N0:=by omega
   subst hkN;have hltb:decide ((k:Int)<(k:Int))=false:=decide_eq_false (by omega);rw [hL] at hR;dsimp only at hR;have hLl:=mL hL;have hcol:∀ j,Hz L k j=L.map fun l=>l.getD j 0:=fun j=>by
    unfold Hz;rw [hLl,Nat.sub_self,List.replicate_zero,List.append_nil]
   simp only [hcol] at hrows;refine aF (aB _ ?_);simp only [go_sem,simprocAttr,hltb];refine aF (eB (b:=false) rfl ?_);rw [if_neg (by decide)];refine aB _ ?_;simp only [go_sem,simprocAttr];clear L1 L2 L3;have L1:∀ B,(H2.set 1 B).look 2=some (.box [aA 0]):=fun B=>by rw [Heap.look_set _ _ _ j1,if_neg (by decide)];exact j2
   have L2:∀ B C,((H2.set 1 B).set 2 C).look 1=some B:=fun B C=>by rw [Heap.look_set _ _ _ (L1 B),if_neg (by decide),Heap.look_set _ _ _ j1,if_pos rfl]
   have L3:∀ B C,((H2.set 1 B).set 2 C).look 2=some C:=fun B C=>by rw [Heap.look_set _ _ _ (L1 B),if_pos rfl]
   have L4:∀ B C q,2<q→((H2.set 1 B).set 2 C).look q=H2.look q:=fun B C q hq=>by rw [Heap.look_set _ _ _ (L1 B),if_neg (by omega),Heap.look_set _ _ _ j1,if_neg (by omega)]
   have lo:=fun B C=>(L4 B C nn (by omega)).trans jo
   have lr:=fun B C j (hj:j<c)=>(L4 B C (r j) (by have:=(hrb j hj).1;omega)).trans (hrows j hj)
   rw [hR];refine aB _ ?_;simp only [go_sem,simprocAttr,j1,L1];have p1:=L2 (.box [V.own nn]) (.box [aA 0]);have p2:=L3 (.box [V.own nn]) (.box [aA 0]);have po:=lo (.box [V.own nn]) (.box [aA 0]);have pr:=lr (.box [V.own nn]) (.box [aA 0]);clear L1 L2 L3 L4 lo lr;generalize (H2.set 1 (.box [V.own nn])).set 2 (.box [aA 0])=H6 at *;obtain rfl | rfl | rfl | rfl | rfl:c=0∨c=1∨c=2∨c=3∨c=4:=by omega
   ·have po:H6.look nn=some (.row 48 1 [.lit (.slice none 0 0)] []):=po;have eR:mJ (.ok ((List.range 0).map fun c=>L.map fun l=>l.getD c 0)) = .tup [.t (kT []),aA 0]:=rfl;rw [eR];unfold Hr;simp only [go_sem,simprocAttr,decide_false,p1,p2,po];exact ⟨kN,rfl⟩
   ·have po:H6.look nn=some (.row 48 1 [.lit (.slice none 0 0)] [[V.own (r 0)]]):=po;have pr0:=pr 0 (by omega);have eR:mJ (.ok ((List.range 1).map fun c=>L.map fun l=>l.getD c 0)) = .tup [.t (kT [(L.map fun l=>l.getD 0 0)]),aA 0]:=rfl;rw [eR];unfold Hr;simp only [go_sem,simprocAttr,decide_false,p1,p2,po,pr0];exact ⟨kN,rfl⟩
   ·have po:H6.look nn=some (.row 48 1 [.lit (.slice none 0 0)] [[V.own (r 0)],[V.own (r 1)]]):=po;have pr0:=pr 0 (by omega);have pr1:=pr 1 (by omega);have eR:mJ (.ok ((List.range 2).map fun c=>L.map fun l=>l.getD c 0)) = .tup [.t (kT [(L.map fun l=>l.getD 0 0),(L.map fun l=>l.getD 1 0)]),aA 0]:=rfl;rw [eR];unfold Hr;simp only [go_sem,simprocAttr,decide_false,p1,p2,po,pr0,pr1];exact ⟨kN,rfl⟩
   ·have po:H6.look nn=some (.row 48 1 [.lit (.slice none 0 0)] [[V.own (r 0)],[V.own (r 1)],[V.own (r 2)]]):=po;have pr0:=pr 0 (by omega);have pr1:=pr 1 (by omega);have pr2:=pr 2 (by omega);have eR:mJ (.ok ((List.range 3).map fun c=>L.map fun l=>l.getD c 0)) = .tup [.t (kT [(L.map fun l=>l.getD 0 0),(L.map fun l=>l.getD 1 0),(L.map fun l=>l.getD 2 0)]),aA 0]:=rfl;rw [eR];unfold Hr;simp only [go_sem,simprocAttr,decide_false,p1,p2,po,pr0,pr1,pr2];exact ⟨kN,rfl⟩
   ·have po:H6.look nn=some (.row 48 1 [.lit (.slice none 0 0)] [[V.own (r 0)],[V.own (r 1)],[V.own (r 2)],[V.own (r 3)]]):=po;have pr0:=pr 0 (by omega);have pr1:=pr 1 (by omega);have pr2:=pr 2 (by omega);have pr3:=pr 3 (by omega);have eR:mJ (.ok ((List.range 4).map fun c=>L.map fun l=>l.getD c 0)) = .tup [.t (kT [(L.map fun l=>l.getD 0 0),(L.map fun l=>l.getD 1 0),(L.map fun l=>l.getD 2 0),(L.map fun l=>l.getD 3 0)]),aA 0]:=rfl;rw [eR];unfold Hr;simp only [go_sem,simprocAttr,decide_false,p1,p2,po,pr0,pr1,pr2,pr3];exact ⟨kN,rfl⟩
def fT (e:Ev (List (List Int))):T :=
 match e with
 | .ok l=>kT l
 | .error _ => .lit (.slice none 0 0)
def errR (e:Ev (List (List Int))):Int :=
 match e with
 | .ok _=>0
 | .error n=>n
theorem resR_eq (e:Ev (List (List Int))):mJ e = .tup [.t (fT e),aA (errR e)]:=by cases e<;>rfl
theorem aNz:aJ Tryz.prog 12 [.t (.lit (.slice none 0 0)), .t (.lit (.slice none 0 0))] (aL true):=by
 refine aD Tryz.X12 Tryz.func12 rfl Tryz.ntmps12 (by rw [Tryz.results12]) (aB _ ?_);simp only [go_sem,simprocAttr];refine bR ?_;refine aH (aB _ ?_);simp only [go_sem,simprocAttr,decide_false]
theorem aBc {p:ProjR} (h:p.fit) {A:List AudioR} {name:ByteArray} {fr0 n:Int} {l:List (List Int)} (hs:nJ p A name fr0 n = .ok l):l.length≤4 ∧ ∀ q∈l,q.length≤1048576:=by
 unfold nJ at hs;split at hs
 ·cases hs
 ·rename_i hv;have hp:=Uq h (by simpa using hv);split at hs
  ·cases hs
  ·split at hs
   ·cases hs
   ·split at hs
    ·cases hs
    ·split at hs
     ·cases hs
     ·split at hs
      ·cases hs
      ·split at hs
       ·cases hs
       ·rename_i L hL;injection hs with hs;subst hs;rw [List.length_map,List.length_range];refine ⟨aNu hp _,fun q hq=>?_⟩;obtain ⟨c,_,rfl⟩:=List.mem_map.1 hq;rw [List.length_map,mL hL];omega
theorem cSameR {p:ProjR} (h:p.fit) (A:List AudioR) (name:ByteArray) (fr0 n:Int):aJ Tryz.prog 12 [.t (fT (nJ p A name fr0 n)), .t (fT (nJ p A name fr0 n))] (aL true):=by
 cases hs:nJ p A name fr0 n with
 | error e=>exact aNz
 | ok l =>
  obtain ⟨h1,h2⟩:=aBc h hs;exact Jt l (by omega) h2
theorem audF_of {A:List AudioR} (hA:∀ a∈A, ∀ q∈a.chs,Gg q) (hf:dS (gC A)):AudF A:=by
 unfold gC at hf;simp only [dS,List.length_map] at hf;obtain ⟨h1,h2⟩:=hf;have key:∀ a∈A,dS (kT a.chs):=fun a ha=>by
  have h3:=wG h2 (AudioR.c a) (List.mem_map.2 ⟨a,ha,rfl⟩);exact yL h3 _ (by unfold AudioR.c;simp)
 have mx:maxLen≤9223372036854775807:=by unfold maxLen;omega
 refine ⟨by omega,fun a ha=>?_,fun a ha q hq=>⟨?_,hA a ha q hq⟩⟩
 ·have h3:=key a ha;unfold kT at h3;simp only [dS,List.length_map] at h3;omega
 ·have h3:=key a ha;unfold kT at h3;simp only [dS] at h3;have h4:=wG h3.2 [t16 q] (List.mem_map.2 ⟨q,hq,rfl⟩);have h5:=yL h4 _ (List.mem_singleton.2 rfl);unfold t16 at h5;simp only [dS,List.length_map] at h5;omega
open Go.ChangeShapes Go.WideShapes
abbrev PcmF := { l:List Int // Gg l }
abbrev Wg := { a:AudioR // ∀ q∈a.chs,Gg q }
abbrev Em := { A:List AudioR // ∀ a∈A, ∀ q∈a.chs,Gg q }
theorem oI16:Opens Tryz.prog 76 fun n:IntK .i16=>c16 n.1:=aC0 Tryz.underlying76
theorem oPcm:Opens Tryz.prog 48 fun l:PcmF=>[t16 l.1] :=
 Opens.map (fun l:List (IntK .i16)=>(⟨l.map (·.1),fun x hx=>by
  obtain ⟨y,_,rfl⟩:=List.mem_map.1 hx;exact y.2⟩:PcmF)) (fun l=>by unfold t16;rw [List.map_map];rfl) (eM (k:=1) (c16 0) Tryz.underlying48 oI16 (by kernel_rfl) (fun _=>rfl) (by decide))
theorem oChs:Opens Tryz.prog 33 fun L:List PcmF=>[T.list 1 [.lit (.slice none 0 0)] (L.map fun q=>[t16 q.1])]:=eM (k:=1) [.lit (.slice none 0 0)] Tryz.underlying33 oPcm (by kernel_rfl) (fun _=>rfl) (by decide)
theorem oAudio:Opens Tryz.prog 35 fun a:Wg=>a.1.c :=
 Opens.map (fun x:ByteArray×List PcmF×Unit=>(⟨⟨x.1,x.2.1.map (·.1)⟩,fun q hq=>tE hq⟩:Wg))
  (fun x=>by
   obtain ⟨n,L,_⟩:=x;show AudioR.c _=_
   unfold AudioR.c kT;simp only [List.map_map];rfl)
  (eK Tryz.underlying35 (by kernel_rfl) (aM aH6 (aM oChs gE)))
theorem oAudios:Opens Tryz.prog 32 fun A:Em=>[gC A.1] :=
 Opens.map (fun l:List Wg=>(⟨l.map (·.1),fun a ha=>tE ha⟩:Em)) (fun l=>by unfold gC;rw [List.map_map];rfl) (eM (k:=2) (c:=fun a:Wg=>a.1.c) [uB ⟨#[]⟩, .lit (.slice none 0 0)] Tryz.underlying32 oAudio (by kernel_rfl) (fun _=>rfl) (by decide))
theorem aAudios:tW Tryz.prog 32 fun A:Em => .t (gC A.1):=Uu Tryz.underlying32 oAudios
def cueLines:List ByteArray:=[⟨#[72,101,108,108,111,46]⟩,⟨#[111,110,101,32,116,119,111,32,116,104,114,101,101]⟩,⟨#[120]⟩,⟨#[45,32,87,104,97,116,63,32,45,32,78,111,116,104,105,110,103,44,32,110,111,116,104,105,110,103,32,97,116,32,97,108,108,46]⟩]
def aNj (L:List Int) (k:Nat):ByteArray:=cueLines.getD (bH L k 4).toNat ⟨#[]⟩
def aNk (L:List Int) (k:Nat):CueR×Nat :=
 if bH L (k+2) 2=0 then (⟨bH L k 50,bH L k 50+1+bH L (k+1) 20,[aNj L (k+3)]⟩,k+4)
 else (⟨bH L k 50,bH L k 50+1+bH L (k+1) 20,[aNj L (k+3),aNj L (k+4)]⟩,k+5)
def sKinds:List Int:=[1,1,0,2]
def sGains:List Int:=[4096,4096,2048,0,8192,5000]
def Cp (s:SourceR):SourceR := { s with smooth:=false }
def soundAt (L:List Int) (k:Nat) (m s:Int):ClipR×Nat :=
 let len:=1+bH L k 9
 let kind:=sKinds.getD (bH L (k+1) 4).toNat 0
 if kind=0 then (⟨len,0,cE,cE,0,0,0,⟨#[]⟩,0,[]⟩,k+2)
 else
  let a:=Cd L (k+2) m s
  if kind=2 then
   let b:=Cd L a.2 m s
   let off:=bH L b.2 3
   let total:=off+len+bH L (b.2+1) 3
   (⟨len,kind,Cp a.1,Cp b.1,off,total,0,⟨#[]⟩,sGains.getD (bH L (b.2+2) 6).toNat 0,[bH L (b.2+3) 4 - 1,bH L (b.2+4) 4 - 1]⟩,b.2+5)
  else (⟨len,kind,Cp a.1,cE,0,0,0,⟨#[]⟩,sGains.getD (bH L a.2 6).toNat 0,[bH L (a.2+1) 4 - 1,bH L (a.2+2) 4 - 1]⟩,a.2+3)
def vclipN (c:ClipR):V:=if c.chan = [] then vclipZ c else kZ c
def aKv (L:List Int) (k:Nat) (m s:Int):ClipR×Nat :=
 let len:=1+bH L k 9
 let kind:=sKinds.getD (bH L (k+1) 4).toNat 0
 if kind=0 then (⟨len,0,cE,cE,0,0,0,⟨#[]⟩,0,[]⟩,k+2)
 else
  let a:=Cd L (k+2) m s
  if kind=2 then
   let b:=Cd L a.2 m s
   let off:=bH L b.2 3
   let total:=off+len+bH L (b.2+1) 3
   (⟨len,kind,Cp a.1,Cp b.1,off,total,0,⟨#[]⟩,sGains.getD (bH L (b.2+2) 6).toNat 0,[]⟩,b.2+3)
  else (⟨len,kind,Cp a.1,cE,0,0,0,⟨#[]⟩,sGains.getD (bH L a.2 6).toNat 0,[]⟩,a.2+1)
def aKu (L:List Int) (k:Nat) (m s:Int):ClipR×Nat :=
 let len:=1+bH L k 9
 let kind:=sKinds.getD (bH L (k+1) 4).toNat 0
 if kind=0 then (⟨len,0,cE,cE,0,0,0,⟨#[]⟩,0,[]⟩,k+2)
 else
  let a:=Cd L (k+2) m s
  if kind=2 then
   let b:=Cd L a.2 m s
   let off:=bH L b.2 3
   let total:=off+len+bH L (b.2+1) 3
   (⟨len,kind,Cp a.1,Cp b.1,off,total,0,⟨#[]⟩,sGains.getD (bH L (b.2+2) 6).toNat 0,[bH L (b.2+3) 4 - 1]⟩,b.2+4)
  else (⟨len,kind,Cp a.1,cE,0,0,0,⟨#[]⟩,sGains.getD (bH L a.2 6).toNat 0,[bH L (a.2+1) 4 - 1]⟩,a.2+2)
def aBd (L:List Int) (k:Nat) (m s:Int) (ch:Int):ClipR×Nat:=if ch=0 then aKv L k m s else if ch=1 then aKu L k m s else soundAt L k m s
def Mb (m:MediumR):List T:=[uB m.name,tu m.sum]++m.seq.c ++ [ti m.frames,ti m.channels,ti m.samples]
def tX (m:MediumR) (x:V):List V:=(Mb m).map V.t ++ [x]
@[go_sem] theorem vmedX_len (m:MediumR) (x:V):(tX m x).length=141:=rfl
@[go_sem] theorem vmedX_140 (m:MediumR) (x:V):(tX m x)[140]? = some x:=rfl
@[go_sem] theorem vmedX_put (m:MediumR) (x y:V):List.take 140 (tX m x) ++ [y]=tX m y:=rfl
@[go_sem] theorem vmedX_drop (m:MediumR) (x:V):List.drop 141 (tX m x) = []:=rfl
@[go_sem] theorem vmedX_put9 (m:MediumR) (x:V) (n:Int):List.take 139 (tX m x) ++ [.t (.lit (.int .i64 n))]++List.drop 140 (tX m x)=tX { m with samples:=n } x:=rfl
@[go_sem] theorem vmedX_cell (m:MediumR) (x:V):(tX m x).all V.isCell=V.isCell x:=by
 unfold tX;rw [List.all_append];have:((Mb m).map V.t).all V.isCell=true:=by
  rw [List.all_eq_true];intro x hx;obtain ⟨t,_,rfl⟩:=List.mem_map.1 hx;rfl
 rw [this];simp
def lendX (m:MediumR) (o:Option T):Option (List T) :=
 match o with
 | some t=>some (Mb m ++ [t])
 | none=>none
attribute [go_sem] lendX
@[go_sem] theorem vmedX_tCellsT (m:MediumR) (t:T):Go.Proofs.YtkjdkbmfaamhaaaGreat.tCells (tX m (.t t))=some (Mb m ++ [t]):=by
 unfold tX;generalize Mb m=l
 induction l with
 | nil=>rfl
 | cons a l ih=>simp only [List.map_cons,List.cons_append,tCells,ih,Option.map_some]
theorem fillA (a b:Int):qT (fun i=>[(0,1),(1,1),(2,2),(4,1),(5,1),(6,1),(7,64),(71,64)][i]?) (qP Tryz.z55) [(2, .agg [.t (.lit (.int .i64 a)), .t (.lit (.int .i64 b))])]=some (vseq ⟨0,0,⟨a,b⟩,false,0,0,fun _=>0⟩):=by
 rfl
def Nu (L:List Int):Nat→Nat→List CueR×Nat
 | 0,k=>([],k)
 | n+1,k=>((aNk L k).1::(Nu L n (aNk L k).2).1,(Nu L n (aNk L k).2).2)
def rate3 (L:List Int) (k:Nat):RatR:=⟨(([(25,1),(24,1),(30000,1001)]:List (Int×Int)).getD (bH L k 3).toNat (0,0)).1,(([(25,1),(24,1),(30000,1001)]:List (Int×Int)).getD (bH L k 3).toNat (0,0)).2⟩
def headR (r:RatR):SeqR:=⟨16,16,r,false,400000,400000,fun _=>0⟩
def aMf (L:List Int) (i k:Nat):MediumR×Nat :=
 (⟨aEj ⟨#[109]⟩ i,IntKind.u64.wrap (bH L k 99),headR (rate3 L (k+1)),5+bH L (k+2) 40,bH L (k+3) 3,bH L (k+4) 20000,(Nu L (bH L (k+5) 3).toNat (k+6)).1⟩,(Nu L (bH L (k+5) 3).toNat (k+6)).2)
def Uz (L:List Int):Nat→Nat→Nat→List MediumR×Nat
 | 0,_,k=>([],k)
 | n+1,i,k=>((aMf L i k).1::(Uz L n (i+1) (aMf L i k).2).1,(Uz L n (i+1) (aMf L i k).2).2)
abbrev RowQ (l:List CueR):Blk := .row 71 3 (CueR.c default) (aS (l.map CueR.c))
def aB5 (L:List Int) (m s:Int):Nat→Nat→List (List ClipR)×Nat
 | 0,k=>([],k)
 | n+1,k=>((aDe L k m s 5).1::(aB5 L m s n (aDe L k m s 5).2).1,(aB5 L m s n (aDe L k m s 5).2).2)
def Kt (L:List Int) (m s ch:Int):Nat→Nat→List ClipR×Nat
 | 0,k=>([],k)
 | n+1,k=>((aBd L k m s ch).1::(Kt L m s ch n (aBd L k m s ch).2).1,(Kt L m s ch n (aBd L k m s ch).2).2)
def aKs (L:List Int) (m s ch:Int) (k:Nat):List ClipR×Nat:=Kt L m s ch (bH L k 4).toNat (k+1)
def aBf (L:List Int) (m s ch:Int):Nat→Nat→List (List ClipR)×Nat
 | 0,k=>([],k)
 | n+1,k=>((aKs L m s ch k).1::(aBf L m s ch n (aKs L m s ch k).2).1,(aBf L m s ch n (aKs L m s ch k).2).2)
def aL8 (L:List Int) (m:Int) (i k:Nat):SequenceR×Nat :=
 let ch:=bH L (k+1) 3
 let v:=aB5 L m i (1+bH L (k+2) 2).toNat (k+3)
 let a:=aBf L m i ch (bH L v.2 3).toNat (v.2+1)
 let c:=Nu L (bH L a.2 3).toNat (a.2+1)
 (⟨aEj ⟨#[115]⟩ i,rate3 L k,16,16,v.1,a.1,c.1,ch⟩,c.2)
def aBj (L:List Int) (m:Int):Nat→Nat→Nat→List SequenceR×Nat
 | 0,_,k=>([],k)
 | n+1,i,k=>((aL8 L m i k).1::(aBj L m n (i+1) (aL8 L m i k).2).1,(aBj L m n (i+1) (aL8 L m i k).2).2)
def projT (L:List Int):ProjR :=
 ⟨(Uz L (1+bH L 0 3).toNat 0 2).1,(aBj L (1+bH L 0 3).toNat (1+bH L 1 3).toNat 0 (Uz L (1+bH L 0 3).toNat 0 2).2).1⟩
abbrev RowT (l:List (List ClipR)):Blk := .row 68 1 (nE []) (aS (l.map nE))
abbrev RowSq (l:List SequenceR):Blk := .row 61 9 (SequenceR.c default) (aS (l.map SequenceR.c))
abbrev RowM (l:List MediumR):Blk := .row 58 141 (MediumR.c default) (aS (l.map MediumR.c))
def nmA:ByteArray:=⟨#[97]⟩
def nmB:ByteArray:=⟨#[98]⟩
def nmS:ByteArray:=⟨#[115]⟩
def aGy (nm:ByteArray) (r:RatR):MediumR:=⟨nm,0,⟨0,0,r,false,0,0,fun _=>0⟩,16777216,2,16777216,[]⟩
def prjQ (r:RatR) (m:Int) (ts:List (List ClipR)):SequenceR:=⟨nmS,r,16,16,[],ts,[],m⟩
def aLv (ra rb r:RatR) (m:Int) (ts:List (List ClipR)):ProjR:=⟨[aGy nmA ra,aGy nmB rb],[prjQ r m ts]⟩
theorem aNb (s:SeqR) (n:ByteArray) (f c g:Int):qT (fun i=>[(0,1),(1,1),(2,135),(137,1),(138,1),(139,1),(140,1)][i]?) (qP Tryz.z58) [(0, .t (.lit (.string n))),(2, .agg (vseq s)),(3, .t (.lit (.int .i64 f))),(4, .t (.lit (.int .i64 c))),(5, .t (.lit (.int .i64 g)))]=some (tX ⟨n,0,s,f,c,g,[]⟩ (.t (.lit (.slice none 0 0)))):=by
 rfl
def zSeqT:List T:=[uB ⟨#[]⟩,ti 0,ti 0,ti 0,ti 0, .lit (.slice none 0 0), .lit (.slice none 0 0), .lit (.slice none 0 0),ti 0]
theorem Vk {a b:T}:∀ l:List T,Imp a b→aJw (l ++ [a]) (l ++ [b])
 | [],h=>⟨h,trivial⟩
 | x::l,h=>⟨mW,Vk l h⟩
theorem Fz (n:Int):aJ Tryz.prog 32 [aA n] (bK ⟨n,1⟩):=by
 refine aD Tryz.X32 Tryz.func32 rfl Tryz.ntmps32 (by rw [Tryz.results32]) (aB _ ?_);simp only [go_sem,simprocAttr]<;>rfl
theorem aPy (at0 sp:RatR) (n:Int):aJ Tryz.prog 33 [bK at0,bK sp,aA n] (kZ (cutC nmA at0 sp n 4096 0)):=by
 refine aD Tryz.X33 Tryz.func33 rfl Tryz.ntmps33 (by rw [Tryz.results33]) (aB _ ?_);simp only [go_sem,simprocAttr]<;>rfl
theorem Pe (r:RatR) (ts:List (List ClipR)):aJ Tryz.prog 31 [bK r, .t (fZ ts)] (jZ (aLv r r r 1 ts)):=by
 refine Sy Tryz.X31 Tryz.func31 rfl Tryz.ntmps31 (by rw [Tryz.results31]) (aB _ ?_);have ww1:IntKind.i64.wrap 1=1:=by decide
 have ww2:IntKind.i64.wrap 2=2:=by decide
 have w01:IntKind.i64.wrap (0+1)=1:=by decide
 have w11:IntKind.i64.wrap (1+1)=2:=by decide
 simp only [go_sem,simprocAttr];refine bR ?_;refine aH (aB _ ?_);simp only [go_sem,simprocAttr,decide_true,↓fillA,↓aNb,ww1];refine ⟨by decide,?_⟩;refine aH (aB _ ?_);simp only [go_sem,simprocAttr,decide_true,↓fillA,↓aNb,ww2];refine ⟨by decide,?_⟩;refine aH (aB _ ?_);simp only [go_sem,simprocAttr,decide_false];refine aLp (r' := .agg [.t (.list 141 (Tryz.z58.map T.lit) [Mb (aGy nmA r) ++ [.lit (.slice none 0 0)],Mb (aGy nmB r) ++ [.lit (.slice none 0 0)]]), .t (.list 9 zSeqT [[uB nmS,ti r.num,ti r.den,ti 16,ti 16, .lit (.slice none 0 0),fZ ts, .lit (.slice none 0 0),ti 1]])]) ?_ rfl ?_
 ·simp only [go_sem,simprocAttr]<;>rfl
 ·refine aJq (by exact ⟨Wa (Dh ⟨Vk _ Dg,Vk _ Dg,trivial⟩),Wa (Dh (by exact ⟨⟨mW,mW,mW,mW,mW,Dg,mW,Dg,mW,trivial⟩,trivial⟩)),trivial⟩)
structure SrcF (R A:Ja) (s:SourceR) (r:RatR) (L:List (List Int)):Prop where
 kind:s.kind=1
 hR:dL .string R=true
 lR:eP (.string s.name) R=some (bK r)
 hA:dL .string A=true
 lA:eP (.string s.name) A=some (.agg [cA s.name, .t (kT L)])
 hL:L.length=1∨L.length=2
 i16:∀ p∈L,Gg p
 len:∀ p∈L,p.length≤1048576
 same:∀ p∈L,p.length=(L.getD 0 []).length
 rate:RateS r
 vp:cU s.pos=true
 vs:cU s.speed=true
 pb:QB (toQ s.pos) 256 1024
 sb:QB (toQ s.speed) 4096 2048
def ClipT (R A Q:Ja) (E:SndE) (m:Nat) (x:ClipR):Prop:=x.len≤63 ∧ ∀ k:Rat, -1≤k→k≤(x.len:Rat)→k.den≤8192→AddOk R A Q E m x k
structure TrkQ (m:Nat) (t:List ClipR):Prop where
 ok:cG t=true
 cl:∀ c∈t,c.fit∧vC m c=true ∧ ∀ x,(x=c.a∨x=c.b)→x.kind≠2∧(x.kind=1→x.name=nmA∨x.name=nmB)
def prjE (ra rb:RatR) (A:List AudioR):SndE:=⟨fun nm=>if nm=nmB then toQ rb else toQ ra,fun nm=>(jH AudioR.name nm A).elim [] AudioR.chs⟩
abbrev prjR (ra rb:RatR):Ja:=rtM [aGy nmA ra,aGy nmB rb]
structure TwoA (A:List AudioR) (p q u v:List Int):Prop where
 eq:A = [⟨nmA,[p,q]⟩,⟨nmB,[u,v]⟩]
 ip:Gg p
 iq:Gg q
 iu:Gg u
 iv:Gg v
 n:p.length≤1048576
 nq:q.length=p.length
 nu:u.length=p.length
 nv:v.length=p.length
theorem Rd {P:Program} {ops:List Oper} {Q:Exit→St→Prop} {l:List Oper} {σ : St} (n:Nat) (h:rQ P ops (l.take n) (qG P ops Q (l.drop n)) σ):qG P ops Q l σ := by
 have:=Ks (l2:=l.drop n) (l.take n) σ h;rwa [List.take_append_drop] at this
theorem Sg:∀ (xs:List (List T)),ImpR xs xs
 | []=>trivial
 | x::xs=>by
  have h1:∀ l:List T,aJw l l:=fun l=>by
   induction l with
   | nil=>exact trivial
   | cons a l ih=>exact ⟨mW,ih⟩
  exact ⟨h1 x,Sg xs⟩
theorem aPe (r:RatR) (c:ClipR) {d1 d2:List T}:aJ Tryz.prog 31 [bK r, .t (.list 1 d1 [[.list 22 d2 [ClipR.c c]]])] (jZ (aLv r r r 1 [[c]])) :=
 uZ (.cons rG (.cons (Wa (Dh (by exact ⟨⟨Dh (Sg _),trivial⟩,trivial⟩))) .nil)) (Pe r [[c]])
def pA:List Int:=((List.replicate 4000 0).set 3840 77).set 1 6
def audA:List AudioR:=[⟨nmA,[pA]⟩]
theorem pA_len:pA.length=4000:=by unfold pA;rw [List.length_set,List.length_set,List.length_replicate]
theorem i64s {n:Int} (h : -1000000≤n∧n≤1000000):I64 n:=⟨by omega,by omega⟩
theorem aAd {nm:ByteArray} {at0 sp:RatR} {len gain ch:Int} (fa:at0.fit) (fs:sp.fit) (hl : -1000000≤len∧len≤1000000) (hg : -1000000≤gain∧gain≤1000000) (hc : -1000000≤ch∧ch≤1000000):(cutC nm at0 sp len gain ch).fit:=by
 have i0:I64 0:=⟨by decide,by decide⟩
 have r0:(⟨0,0⟩:RatR).fit:=⟨i0,i0⟩
 have i1:I64 1:=⟨by decide,by decide⟩
 exact ⟨i64s hl,i1,⟨i1,fa,fs⟩,⟨i0,r0,r0⟩,i0,i0,i0,i64s hg⟩
theorem aDm {p:ProjR} {A:List AudioR} {i:Nat} {f:Nat→List Int} {fr0:Int}:∀ k:Nat,(∀ j:Nat,j<k→Ad p A (eA p A i) (p.seqs.getD i default) (fr0+j) = .ok (f j))→dG p A i fr0 k = .ok ((List.range k).map f)
 | 0,_=>rfl
 | k+1,h=>by
  unfold dG;rw [aDm k fun j hj=>h j (by omega)];dsimp only;rw [qV,h k (by omega)];dsimp only;rw [List.range_succ,List.map_append];rfl
def okB (e:Ev (List Int)) (l:List Int):Bool :=
 match e with
 | .ok x=>x==l
 | .error _=>false
theorem okB_eq {e:Ev (List Int)} {l:List Int} (h:okB e l=true):e = .ok l:=by
 unfold okB at h;split at h
 ·rw [beq_iff_eq] at h;rw [h]
 ·cases h
theorem aQb:AudF audA:=by
 have h:(pA.all fun z=>decide (-32768≤z)&&decide (z≤32767))=true:=by kernel_rfl
 refine ⟨by decide,fun a ha=>?_,fun a ha q hq=>?_⟩
 ·rw [List.mem_singleton.1 ha];decide
 ·rw [List.mem_singleton.1 ha] at hq;have hq:q ∈ [pA]:=hq;rw [List.mem_singleton.1 hq];refine ⟨by rw [pA_len];decide,fun z hz=>?_⟩;have:=List.all_eq_true.1 h z hz;rw [Bool.and_eq_true,decide_eq_true_eq,decide_eq_true_eq] at this;exact this
abbrev awP (ts:List (List ClipR)):ProjR:=aLv ⟨25,1⟩ ⟨25,1⟩ ⟨25,1⟩ 1 ts
theorem awP_fit {ts:List (List ClipR)} (ht:∀ t∈ts, ∀ c∈t,c.fit):(awP ts).fit:=by
 have i0:I64 0:=⟨by decide,by decide⟩
 have i1:I64 1:=⟨by decide,by decide⟩
 have i2:I64 2:=⟨by decide,by decide⟩
 have i24:I64 16777216:=⟨by decide,by decide⟩
 have i16:I64 16:=⟨by decide,by decide⟩
 have fa:(⟨25,1⟩:RatR).fit:=⟨⟨by decide,by decide⟩,i1⟩
 refine ⟨fun y hy=>?_,fun y hy=>?_⟩
 ·simp only [awP,aLv,List.mem_cons,List.not_mem_nil,or_false] at hy;rcases hy with rfl | rfl
  ·exact ⟨⟨i0,i0,fa,i0,i0⟩,i24,i2,i24,fun c hc=>by cases hc⟩
  ·exact ⟨⟨i0,i0,fa,i0,i0⟩,i24,i2,i24,fun c hc=>by cases hc⟩
 ·simp only [awP,aLv,List.mem_cons,List.not_mem_nil,or_false] at hy;subst hy;exact ⟨fa,i16,i16,fun t ht=>(by cases ht),ht,fun c hc=>(by cases hc),i1⟩
theorem aD3 {ts:List (List ClipR)} {A:List AudioR} (hf:∀ t∈ts, ∀ c∈t,c.fit) (hA:AudF A) (n:Nat) (hn:n≤1000) (f:Nat→List Int) (h1:dR (awP ts)=0) (h2:fR (awP ts) nmS=0) (h3:A.all mE=true) (h4:∀ j:Nat,j<n→okB (Ad (awP ts) A (eA (awP ts) A 0) ((awP ts).seqs.getD 0 default) (0+(j:Int))) (f j)=true) {d:List Int} (hd:((List.range n).map f).map (fun l=>l.getD 0 0)=d) :
  aJ Tryz.prog 10 [jZ (awP ts),cA nmS,aA 0,aA n, .t (gC A)] (.tup [.t (kT [d]),aA 0]):=by
 have h:=aFj (awP_fit hf) hA nmS 0 n ⟨by decide,by decide⟩ ⟨by omega,by omega⟩;have e:nJ (awP ts) A nmS 0 n = .ok [d]:=by
  unfold nJ;rw [h1,h2,h3,if_neg (by decide),if_neg (by decide),if_neg (by decide),if_neg (by omega),if_neg (by omega)];have hau:aZ ((awP ts).seqs.getD (0:Int).toNat default).rate=true:=by
   show aZ ⟨25,1⟩=true
   kernel_rfl
  rw [hau,if_neg (by
   rintro (h | h | h)
   ·omega
   ·omega
   ·cases h),Int.toNat_natCast]
  have hs:=aDm (p:=awP ts) (A:=A) (i:=0) (f:=f) (fr0:=0) n fun j hj=>okB_eq (h4 j hj)
  rw [show (0:Int).toNat=0 from rfl,hs];dsimp only;rw [← hd];rfl
 rw [e] at h;exact h
theorem cP0:aJ Tryz.prog 31 [bK ⟨25,1⟩, .t (.lit (.slice none 0 0))] (jZ (awP [])) :=
 uZ (.cons rG (.cons aFx .nil)) (Pe ⟨25,1⟩ [])
theorem cS0:aJ Tryz.prog 10 [jZ (awP []),cA nmS,aA 0,aA 3, .t (.lit (.slice none 0 0))] (.tup [.t (kT [[0,0,0]]),aA 0]):=by
 have h:=aD3 (ts:=[]) (A:=[]) (fun t ht=>by cases ht) ⟨by decide,fun a ha=>(by cases ha),fun a ha=>(by cases ha)⟩ 3 (by decide) (fun _=>[0]) (of_decide_eq_true (by kernel_rfl)) (of_decide_eq_true (by kernel_rfl)) rfl (fun j hj=>by
  obtain rfl | rfl | rfl:j=0∨j=1∨j=2:=by omega
  all_goals kernel_rfl) (d:=[0,0,0]) rfl
 exact uZ (.cons rG (.cons rG (.cons rG (.cons rG (.cons aFx .nil))))) h
theorem a2:audA.all mE=true:=by kernel_rfl
theorem aFv {c:ClipR} (h:c.fit):∀ t ∈ [[c]], ∀ x∈t,x.fit:=fun t ht x hx=>by
 rw [List.mem_singleton.1 ht] at hx;rw [List.mem_singleton.1 hx];exact h
set_option maxHeartbeats 4000000 in
theorem aQ1:aJ Tryz.prog 13 [] (aL true):=by
 have nvA:∀ (d:List T) (x:List V) (l:List (List V)),pW d (x::l) 0=x:=fun _ _ _=>rfl
 refine aD Tryz.X13 Tryz.func13 rfl Tryz.ntmps13 (by rw [Tryz.results13]) ?_;refine aF (aB _ ?_);simp only [go_sem,simprocAttr];refine aF (aB _ ?_);simp only [go_sem,Nat.reduceGT,Nat.reducePow,Nat.reduceLT,↓reduceIte,Nat.reduceAdd,Nat.reduceMul,Nat.reduceSub,Nat.reduceMod,Nat.reduceLeDiff,Nat.reduceEqDiff,Nat.reduceBEq,reduceCtorEq];obtain ⟨R,hR⟩:∃ R,R=List.replicate (Int.toNat 4000) [T.lit (.int .i16 0)]:=⟨_,rfl⟩
 have hRl:R.length=4000:=by rw [hR,List.length_replicate];rfl
 rw [← hR];refine ⟨⟨by decide,by decide,by decide⟩,?_⟩;have e1:nth [T.lit (.int .i16 0)] R 3840 = [T.lit (.int .i16 0)]:=by
  unfold nth;rw [hR,List.getElem?_replicate,if_pos (by decide)];rfl
 have e2:pW [T.lit (.int .i16 0)] (aS (R.set 3840 [T.lit (.int .i16 77)])) 1 = [V.t (T.lit (.int .i16 0))]:=by
  unfold pW aS;rw [List.getElem?_map,List.getElem?_set,if_neg (by decide),hR,List.getElem?_replicate,if_pos (by decide)];rfl
 have e3:(R.set 3840 [T.lit (.int .i16 77)]).set 1 [T.lit (.int .i16 6)]=pA.map c16:=by
  unfold pA;rw [List.map_set,List.map_set,List.map_replicate,hR];rfl
 have f01:(⟨0,1⟩:RatR).fit:=⟨⟨by decide,by decide⟩,⟨by decide,by decide⟩⟩
 have f11:(⟨1,1⟩:RatR).fit:=⟨⟨by decide,by decide⟩,⟨by decide,by decide⟩⟩
 have f21:(⟨2,1⟩:RatR).fit:=⟨⟨by decide,by decide⟩,⟨by decide,by decide⟩⟩
 have f12:(⟨1,2⟩:RatR).fit:=⟨⟨by decide,by decide⟩,⟨by decide,by decide⟩⟩
 have s1:=aD3 (aFv (aAd (nm:=nmA) (len:=5) (gain:=4096) (ch:=0) f21 f11 (by decide) (by decide) (by decide))) aQb 1 (by decide) (fun _=>[77]) (of_decide_eq_true (by kernel_rfl)) (of_decide_eq_true (by kernel_rfl)) a2 (fun j hj=>by
  obtain rfl:j=0:=by omega
  kernel_rfl) (d:=[77]) rfl
 have s2:=aD3 (aFv (aAd (nm:=nmA) (len:=5) (gain:=4096) (ch:=0) f01 f12 (by decide) (by decide) (by decide))) aQb 2 (by decide) (fun j=>if j=0 then [0] else [3]) (of_decide_eq_true (by kernel_rfl)) (of_decide_eq_true (by kernel_rfl)) a2 (fun j hj=>by
  obtain rfl | rfl:j=0∨j=1:=by omega
  all_goals kernel_rfl) (d:=[0,3]) rfl
 refine aF (aB _ ?_);simp only [go_sem,simprocAttr];refine aQ 16 .done rfl (by kernel_rfl) (by kernel_rfl) (by decide) ?_;simp only [go_sem,simprocAttr,nvA,hRl,e1,tRows_set1,e2,e3,List.length_set,List.drop_nil];refine ⟨by kernel_rfl,?_⟩;refine aF (aB _ ?_);simp only [go_sem,simprocAttr];refine ⟨_,Fz 25,?_⟩;simp only [go_sem,simprocAttr];refine ⟨_,cP0,?_⟩;simp only [go_sem,simprocAttr];refine ⟨_,cS0,?_⟩;simp only [go_sem,simprocAttr];refine aF (aB _ ?_);simp only [go_sem,simprocAttr];refine ⟨_,Fz 25,?_⟩;simp only [go_sem,simprocAttr];refine ⟨_,Fz 2,?_⟩;simp only [go_sem,simprocAttr];refine ⟨_,Fz 1,?_⟩;simp only [go_sem,simprocAttr];refine ⟨_,aPy ⟨2,1⟩ ⟨1,1⟩ 5,?_⟩;simp only [go_sem,simprocAttr];refine pB ?_;simp only [go_sem,simprocAttr];refine ⟨_,aPe ⟨25,1⟩ (cutC nmA ⟨2,1⟩ ⟨1,1⟩ 5 4096 0),?_⟩;simp only [go_sem,simprocAttr];refine pB ?_;simp only [go_sem,simprocAttr];refine ⟨_,s1,?_⟩;simp only [go_sem,simprocAttr];refine aF (aB _ ?_);simp only [go_sem,simprocAttr];refine ⟨_,Fz 25,?_⟩;simp only [go_sem,simprocAttr];refine ⟨_,Fz 0,?_⟩;simp only [go_sem,simprocAttr];refine ⟨_,aPy ⟨0,1⟩ ⟨1,2⟩ 5,?_⟩;simp only [go_sem,simprocAttr];refine pB ?_;simp only [go_sem,simprocAttr];refine ⟨_,aPe ⟨25,1⟩ (cutC nmA ⟨0,1⟩ ⟨1,2⟩ 5 4096 0),?_⟩;simp only [go_sem,simprocAttr];refine pB ?_;simp only [go_sem,simprocAttr];refine ⟨_,s2,?_⟩;simp only [go_sem,simprocAttr];refine aF (aB _ ?_);simp only [go_sem,simprocAttr];have z3:=Jt [[0,0,0]] (by simp) (by simp);have z1:=Jt [[77]] (by simp) (by simp);have z2:=Jt [[0,3]] (by simp) (by simp);refine aF (aN 2 ?_);simp only [go_sem,simprocAttr,List.take,List.drop];refine fG rfl (by simp only [go_sem,simprocAttr]) ?_;simp only [go_sem,simprocAttr];refine fG rfl (by simp only [go_sem,simprocAttr]) ?_;simp only [go_sem,simprocAttr];refine fG rfl (by simp only [go_sem,simprocAttr]) ?_;simp only [go_sem,simprocAttr];refine fG rfl (by simp only [go_sem,simprocAttr]) ?_;simp only [go_sem,simprocAttr];refine vZ ?_;simp only [go_sem,simprocAttr];refine ⟨_,z3,rfl,?_⟩;try simp only [go_sem,simprocAttr,dtf]
 refine Rd 2 ?_;simp only [go_sem,simprocAttr,List.take,List.drop];refine fG rfl (by simp only [go_sem,simprocAttr]) ?_;try simp only [go_sem,simprocAttr]
 refine fG rfl (by simp only [go_sem,simprocAttr]) ?_;try simp only [go_sem,simprocAttr]
 refine fG rfl (by simp only [go_sem,simprocAttr]) ?_;try simp only [go_sem,simprocAttr]
 refine fG rfl (by simp only [go_sem,simprocAttr]) ?_;try simp only [go_sem,simprocAttr]
 refine vZ ?_;try simp only [go_sem,simprocAttr]
 refine ⟨_,z1,rfl,?_⟩;try simp only [go_sem,simprocAttr,dtf]
 refine Rd 2 ?_;simp only [go_sem,simprocAttr,List.take,List.drop];refine fG rfl (by simp only [go_sem,simprocAttr]) ?_;try simp only [go_sem,simprocAttr]
 refine fG rfl (by simp only [go_sem,simprocAttr]) ?_;try simp only [go_sem,simprocAttr]
 refine fG rfl (by simp only [go_sem,simprocAttr]) ?_;try simp only [go_sem,simprocAttr]
 refine fG rfl (by simp only [go_sem,simprocAttr]) ?_;try simp only [go_sem,simprocAttr]
 refine vZ ?_;try simp only [go_sem,simprocAttr]
 refine ⟨_,z2,rfl,?_⟩;try simp only [go_sem,simprocAttr,dtf]
 refine cQ ?_;try simp only [go_sem,simprocAttr]
 refine aB _ ?_;simp only [go_sem,simprocAttr]
set_option maxHeartbeats 4000000 in
theorem raw4 (p:ProjR) (A:List AudioR) (name:ByteArray) (fr0 n:Int) (h:p.fit) (hA:∀ a∈A, ∀ q∈a.chs,Gg q) (hf:I64 fr0) (hn:I64 n):aJ Tryz.prog 4 [jZ p, .t (gC A),cA name,aA fr0,aA n] (aL true):=by
 refine aAe Tryz.X4 fun hfa=>?_
 have hF:=audF_of hA hfa.2.1;have cs:=fun k hk=>aFj h hF name fr0 k hf hk
 have cr:=fun k hk=>aP1 h hF name fr0 k hf hk
 have cm:=fun k=>cSameR h A name fr0 k
 simp only [resR_eq] at cs cr;obtain ⟨n1,n2⟩:=hn;have ww1:IntKind.i64.wrap 1=1:=by decide
 have ww2:IntKind.i64.wrap 2=2:=by decide
 have ww3:IntKind.i64.wrap 3=3:=by decide
 have w01:IntKind.i64.wrap (0+1)=1:=by decide
 have w11:IntKind.i64.wrap (1+1)=2:=by decide
 have w21:IntKind.i64.wrap (2+1)=3:=by decide
 refine aD Tryz.X4 Tryz.func4 rfl Tryz.ntmps4 (by rw [Tryz.results4]) ?_;refine aF (aB _ ?_);simp only [go_sem,simprocAttr];refine aF (aB _ ?_);simp only [go_sem,simprocAttr];have hk0:I64 (bits .and .i64 n 3):=Wj _;have hk1:I64 (min n (-1)):=by unfold I64;omega
 have hk2:I64 (max n 1048577):=by unfold I64;omega
 generalize bits .and .i64 n 3=x0 at *;generalize min n (-1)=x1 at *;generalize max n 1048577=x2 at *;refine bR ?_;refine aH (aB _ ?_);simp only [go_sem,simprocAttr,decide_true,jR];refine ⟨_,cs _ hk0,?_⟩;simp only [go_sem,simprocAttr];refine ⟨_,cr _ hk0,?_⟩;simp only [go_sem,simprocAttr,bne_self_eq_false];refine ⟨_,cm x0,?_⟩;simp only [go_sem,simprocAttr,ww1];refine aH (aB _ ?_);simp only [go_sem,simprocAttr,decide_true,sB];refine ⟨_,cs _ hk1,?_⟩;simp only [go_sem,simprocAttr];refine ⟨_,cr _ hk1,?_⟩;simp only [go_sem,simprocAttr,bne_self_eq_false];refine ⟨_,cm x1,?_⟩;simp only [go_sem,simprocAttr,ww2];refine aH (aB _ ?_);simp only [go_sem,simprocAttr,decide_true,xV];refine ⟨_,cs _ hk2,?_⟩;simp only [go_sem,simprocAttr];refine ⟨_,cr _ hk2,?_⟩;simp only [go_sem,simprocAttr,bne_self_eq_false];refine ⟨_,cm x2,?_⟩;simp only [go_sem,simprocAttr,ww3];refine aH (aB _ ?_);simp only [go_sem,simprocAttr,decide_false];refine aB _ ?_;simp only [go_sem,simprocAttr];refine ⟨_,aQ1,?_⟩;simp only [go_sem,simprocAttr]
