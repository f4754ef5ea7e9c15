/- Proved here: Contracts of the reference's numbered samples. -/
import Derived.Test.YtkjdkbmfaamhaaaGreatQ08
set_option linter.unusedSimpArgs false
set_option linter.unusedVariables false
set_option linter.unnecessarySimpa false
namespace Go.Proofs.YtkjdkbmfaamhaaaGreat
open Go.RowKit
set_option maxRecDepth 4000
abbrev Tv (p:ProjR) (A:List AudioR):V := .agg [.t (gA p.media), .t (mK p.seqs), .t (gC A)]
def qH (e:Ev (List Int)):V :=
 match e with
 | .ok l => .tup [.t (t16 l),aA 0]
 | .error e => .tup [.t (.lit (.slice none 0 0)),aA e]
def xQ (e:Ev (List Int)):V :=
 match e with
 | .ok l => .tup [.t (qR l),aA 0]
 | .error e => .tup [.t (.lit (.slice none 0 0)),aA e]
theorem Qv (xs:List (List T)) (n:Nat) (t:T):(aS xs).set n [V.t t]=aS (xs.set n [t]):=by
 unfold aS;rw [List.map_set];rfl
theorem uX {α : Type} (c:Int → α) (f:Nat→Int) (n:Nat):(eQ f n 0).map c=List.replicate n (c 0):=by
 unfold eQ;rw [List.map_map];refine List.ext_getElem (by simp) fun i h1 h2=>?_
 simp
theorem yK {α : Type} (c:Int → α) (f:Nat→Int) {n i:Nat} (h:i<n) {z:Int} (hz:z=f i):((eQ f n i).map c).set i (c z)=(eQ f n (i+1)).map c:=by
 subst hz;unfold eQ;refine List.ext_getElem (by simp) fun j h1 h2=>?_
 rw [List.getElem_set]
 by_cases hj:i=j
 ·subst hj;simp
 ·rw [if_neg hj];simp only [List.getElem_map,List.getElem_range];congr 1
  by_cases h3:j<i
  ·rw [if_pos h3,if_pos (by omega)]
  ·rw [if_neg h3,if_neg (by omega)]
theorem Sr (f:Nat→Int) {n i:Nat} (h:f i=0):eQ f n (i+1)=eQ f n i:=by
 unfold eQ;refine List.map_congr_left fun j _=>?_
 by_cases hj:i=j
 ·subst hj;rw [if_pos (by omega),if_neg (by omega),h]
 ·by_cases h3:j<i
  ·rw [if_pos h3,if_pos (by omega)]
  ·rw [if_neg h3,if_neg (by omega)]
theorem rW {α β : Type} (l:List α) (d : α) (g : α → β):(List.range l.length).map (fun i=>g (l.getD i d))=l.map g:=by
 refine List.ext_getElem (by simp) fun i h1 h2=>?_
 simp only [List.getElem_map,List.getElem_range];rw [List.length_map] at h2;rw [List.getD_eq_getElem?_getD,List.getElem?_eq_getElem h2];rfl
theorem aNa (L:List (List Int)) (j:Int):eQ (fun i=>aT (L.getD i []) j) L.length L.length=L.map fun l=>aT l j:=by
 rw [sK];exact rW L [] fun l=>aT l j
structure AudP (A:List AudioR):Prop extends AudF A where
 prop:∀ a∈A,mE a=true
theorem AudP.four {A:List AudioR} (h:AudP A) {a:AudioR} (ha:a∈A):a.chs.length≤4 ∧ ∀ p∈a.chs,p.length≤1048576∧p.length=(a.chs.getD 0 []).length:=by
 have h1:=h.prop a ha;unfold mE at h1;rw [Bool.and_eq_true,decide_eq_true_eq,List.all_eq_true] at h1;refine ⟨h1.2,fun p hp=>?_⟩;have h2:=h1.1 p hp;unfold aCx at h2;simp only [Bool.and_eq_true,decide_eq_true_eq,beq_iff_eq] at h2;exact ⟨h2.2,h2.1⟩
theorem cRNum1 (p:ProjR) {A:List AudioR} (hA:AudP A) (nest:Nat→Int→Ev (List Int)) (s:SourceR) (hk:s.kind≠2) (j:Int) (hj:I64 j) :
  aJ Tryz.prog 139 [Tv p A,dT s,aA j] (qH (pU p A nest s j)):=by
 have cf:=aP9 A hA.len s.name;unfold pU;rw [if_neg hk];refine aD Tryz.X139 Tryz.func139 rfl Tryz.ntmps139 (by rw [Tryz.results139]) (aB _ ?_);simp only [go_sem,simprocAttr];refine ⟨fun h2=>?_,fun h2=>?_⟩
 ·simp only [bxx] at h2;exact absurd h2 hk
 unfold awS;simp only [go_sem,simprocAttr];refine ⟨_,cf,?_⟩;simp only [go_sem,simprocAttr];refine ⟨fun h3=>?_,fun h3=>?_⟩
 ·simp only [bxx] at h3;rw [aKx h3];unfold awS;unfold qH;simp only [go_sem,simprocAttr]
 ·simp only [bxx] at h3;obtain ⟨k,hkl,hki,hs⟩:=aKw (show 0≤kW (fun a:AudioR=>a.name.toList==s.name.toList) A by omega);rw [hs,hki];have hA2:=hA.four (aR (d:=default) hkl);have hA3:=hA.pcm _ (aR (d:=default) hkl);have hnm:=Ef hkl;generalize A.getD k default=a at *;obtain ⟨nm,L⟩:=a;simp only at hA2 hA3 hnm ⊢;unfold awS;simp only [go_sem,simprocAttr,hnm,kT,t16];obtain ⟨h4,hlen⟩:=hA2;refine ⟨⟨by omega,by omega⟩,⟨by omega,by unfold maxLen;omega,by omega⟩,?_⟩;have hfl:=aNa L j;obtain ⟨f,hf⟩:∃ f:Nat→Int,f=fun i=>aT (L.getD i []) j:=⟨_,rfl⟩
  rw [← hf] at hfl;refine aE (fun (i:Nat) σ => qF 2 (.row 76 1 (c16 0) (aS ((eQ f L.length i).map c16))) (bM 10 (aA i) (aW [44,45,46,47,48,49,50,51,52,53,54,55,56,57,58,59,60,61,62,63,64,65,66,67,68,69,70,71,72,73,74,75,76,77,78,79,80] (bE σ)))) (fun i=>i≤L.length) (fun i=>L.length - i) 0 (aC ?_) (Nat.zero_le _) ?_
  ·simp only [go_sem,simprocAttr];refine ⟨by simp,(uX c16 _ _).symm,by simp,by simp⟩
  ·intro i hi;refine aB _ ?_;simp only [go_sem,simprocAttr,mG];refine ⟨fun hlt=>?_,fun hge=>?_⟩
   ·simp only [bxx] at hlt;have hil:i<L.length:=by omega
    have hwi:IntKind.i64.wrap ((i:Int)+1)=((i+1:Nat):Int):=by rw [bF (by omega)];omega
    unfold awS;simp only [go_sem,simprocAttr,hnm,kT,t16,yR hil];have hfi:f i=aT (L.getD i []) j:=by rw [hf]
    have hcn:=yR hil;have hpl:=(hlen _ (aR (d:=[]) hil)).1;generalize L.getD i []=P at hfi hcn hpl ⊢;refine ⟨fun _=>⟨by omega,by omega⟩,fun _=>⟨by omega,by omega⟩,fun hc=>?_,fun hc=>?_⟩
    ·simp only [Bool.and_eq_true,decide_eq_true_eq] at hc;have hpn:=fun d=>jS (p:=P) (j:=j) hc.1 hc.2 d
     unfold awS;simp only [go_sem,simprocAttr,hnm,kT,t16,hcn,hpn,mG];refine ⟨⟨by omega,by omega⟩,⟨by omega,by omega⟩,⟨by omega,by omega⟩,⟨by omega,by omega⟩,hil,i+1,aC ?_,by omega,by omega⟩;have hset:(List.map c16 (eQ f L.length i)).set i [.lit (.int .i16 (aT P j))]=List.map c16 (eQ f L.length (i+1)):=yK c16 f hil hfi.symm;simp only [go_sem,simprocAttr,hwi,hset];simp
    ·have hz:aT P j=0:=by
      refine fQ ?_;simp only [Bool.and_eq_false_iff,decide_eq_false_iff_not] at hc;omega
     rw [hz] at hfi;unfold awS;simp only [go_sem,simprocAttr];refine ⟨i+1,aC ?_,by omega,by omega⟩;simp only [go_sem,simprocAttr,hwi,Sr f hfi];simp
   ·simp only [bxx] at hge;have:i=L.length:=by omega
    subst this;unfold awS;simp only [go_sem,simprocAttr];rw [hfl];exact ⟨rfl,rfl⟩
def aD8 (p:ProjR) (A:List AudioR) (nest:Nat→Int→Ev (List Int)) (i:Nat):Prop :=
 ∀ k,k<p.seqs.length→dV p (k:Int)<dV p (i:Int)→aZ (p.seqs.getD k default).rate=true → ∀ j:Int, -1099511627776≤j→j≤1099511627776 →
  aJ Tryz.prog 30 [Tv p A,cT (p.seqs.getD k default),aA j] (qH (nest k j))
theorem Cg {l:List SequenceR} {k:Nat} (h:k<l.length) (d:List T):nth d (l.map SequenceR.c) k=SequenceR.c (l.getD k default):=by
 unfold nth;rw [List.getElem?_map,List.getElem?_eq_getElem h,bD h];rfl
theorem cRNum (p:ProjR) {A:List AudioR} (hA:AudP A) {nest:Nat→Int→Ev (List Int)} {i:Nat} (hN:aD8 p A nest i) {s:SourceR} (hs:SrcV p i s) (haud:aZ (cF p s)=true) (j:Int) (h1 : -1099511627776≤j) (h2:j≤1099511627776) :
  aJ Tryz.prog 139 [Tv p A,dT s,aA j] (qH (pU p A nest s j)):=by
 by_cases hk:s.kind=2
 ·obtain ⟨hx,hd⟩ : 0≤fR p s.name∧dV p (fR p s.name)<dV p (i:Int):=by
   rcases hs.kind with h | h | h
   ·omega
   ·omega
   ·exact h.2
  obtain ⟨k,hkl,hki,_⟩:=kQ hx;rw [hki] at hd;have hr:cF p s=(p.seqs.getD k default).rate:=by
   unfold cF;rw [if_neg (by omega),hki,Int.toNat_natCast]
  rw [hr] at haud;have hc:=hN k hkl hd haud j h1 h2;have hq:=pG p s.name;have hq':kW (fun m:SequenceR=>m.name.toList==s.name.toList) p.seqs=(k:Int):=hki;rw [hq'] at hq;have e:pU p A nest s j=nest k j:=by
   unfold pU;rw [if_pos hk,hki,Int.toNat_natCast]
  rw [e];refine aD Tryz.X139 Tryz.func139 rfl Tryz.ntmps139 (by rw [Tryz.results139]) (aB _ ?_);simp only [go_sem,simprocAttr,hk];refine aQ 17 .done rfl (by kernel_rfl) (by kernel_rfl) (by decide) ?_;simp only [go_sem,simprocAttr];refine ⟨_,hq,?_⟩;simp only [go_sem,simprocAttr,Cg hkl];refine ⟨by omega,_,hc,?_⟩;cases nest k j with
  | ok l =>
   unfold qH;simp only [go_sem,simprocAttr]
   kernel_rfl
  | error e =>
   unfold qH;simp only [go_sem,simprocAttr]
   kernel_rfl
 ·exact cRNum1 p hA nest s hk j ⟨by omega,by omega⟩
structure NestB (nest:Nat→Int→Ev (List Int)):Prop where
 ok:∀ k j l,nest k j = .ok l→Qk 32768 l∧l.length≤4
 err:∀ k j e,nest k j = .error e→e≠0
theorem Cu {p:ProjR} {A:List AudioR} {nest:Nat→Int→Ev (List Int)} (hB:NestB nest) {s:SourceR} {j e:Int} (h:pU p A nest s j = .error e):e≠0:=by
 unfold pU at h;split at h
 ·exact hB.err _ _ _ h
 ·split at h
  ·injection h with h;omega
  ·cases h
theorem xT {p:ProjR} {A:List AudioR} (hA:AudF A) {nest:Nat→Int→Ev (List Int)} (hB:NestB nest) {s:SourceR} {j:Int} {l:List Int} (h:pU p A nest s j = .ok l):Qk 32768 l:=by
 unfold pU at h;split at h
 ·exact (hB.ok _ _ _ h).1
 ·split at h
  ·cases h
  ·rename_i a ha;injection h with h;subst h;intro u hu;obtain ⟨q,hq,rfl⟩:=List.mem_map.1 hu;have hm:a∈A:=List.mem_of_find?_eq_some ha;have:=fS (hA.pcm a hm q hq).2 j;omega
theorem aQ5 {l:List Int} (h:Qk 32768 l) (c:Int) : -32768≤aT l c∧aT l c≤32768:=uM h (by omega) c
theorem aN6 {y:Rat} (h:bV y=true):bV (y - (y.floor:Rat))=true∧ofQ (y - (y.floor:Rat))=⟨y.num - y.floor*(y.den:Int),y.den⟩:=by
 obtain ⟨h1,h2⟩:=cX.1 h;obtain ⟨e1,e2⟩:=sub_int y y.floor;obtain ⟨s1,s2⟩:=sW y;refine ⟨cX.2 ⟨by omega,by omega⟩,?_⟩;unfold ofQ;rw [e1,e2]
theorem bet_at (y:Rat) (a b:List Int) (c:Int):aT (Ge y a b) c=if 0≤c∧c<a.length∧c<b.length then kC (aT a c) (aT b c) (y.num - y.floor*(y.den:Int)) y.den else 0:=by
 by_cases h : 0≤c∧c<a.length∧c<b.length
 ·rw [if_pos h];unfold aT Ge;rw [if_pos h.1,if_pos h.1,if_pos h.1];have h1:c.toNat<a.length:=by omega
  have h2:c.toNat<b.length:=by omega
  simp only [List.getD_eq_getElem?_getD,List.getElem?_zipWith,List.getElem?_eq_getElem h1,List.getElem?_eq_getElem h2];rfl
 ·rw [if_neg h]
  by_cases h0:c<0
  ·exact fQ (.inl h0)
  ·refine fQ (.inr ?_);unfold Ge;rw [List.length_zipWith];omega
theorem pE {r:RatR} (h:aZ r=true):∃ n d:Nat,r.num=n∧r.den=d∧1≤n∧n≤1048576∧1≤d∧d≤65536∧ofQ ((((d:Nat):Int):Rat) / ((n:Int):Rat))=⟨d,n⟩∧(((d:Nat):Int):Rat) / ((n:Int):Rat)*(48000:Int)=fC r∧bV (fC r)=true∧bV ((((d:Nat):Int):Rat) / ((n:Int):Rat))=true:=by
 obtain ⟨_,hv,hn,hd,_⟩:=pJ h;obtain ⟨n,en⟩:=eW (n:=r.num) (by omega);obtain ⟨d,ed⟩:=eW (n:=r.den) (by omega);have hg:Nat.gcd n d=1:=by
  unfold cU at hv;simp only [Bool.and_eq_true,decide_eq_true_eq] at hv;have:=hv.2;rw [en,ed,Int.natAbs_natCast,Int.natAbs_natCast] at this;exact this
 have e1:ofQ ((((d:Nat):Int):Rat) / ((n:Int):Rat))=⟨d,n⟩:=by
  rw [xS (d:Int) n (by omega),Int.natAbs_natCast,Nat.gcd_comm d n,hg];simp
 have e2:(((d:Nat):Int):Rat) / ((n:Int):Rat)*(48000:Int)=fC r:=by
  unfold fC;rw [en,ed,Rat.intCast_mul,Rat.div_def,Rat.div_def];rw [Rat.mul_comm ((48000:Int):Rat),Rat.mul_assoc,Rat.mul_assoc,Rat.mul_comm ((n:Int):Rat)⁻¹]
 have e3:bV (fC r)=true:=by
  unfold fC;rw [en];exact Vr (Jg (48000*r.den) n (by omega)) (by omega) (by omega)
 have e4:bV ((((d:Nat):Int):Rat) / ((n:Int):Rat))=true:=Vr (Jg (d:Int) n (by omega)) (by omega) (by omega);exact ⟨n,d,en,ed,by omega,by omega,by omega,by omega,e1,e2,e3,e4⟩
def aB7 (p:ProjR) (A:List AudioR) (nest:Nat→Int→Ev (List Int)) (s:SourceR) (take:List Int) (k:Rat):Ev (List Int) :=
 match uF p A nest s k with
 | .error e => .error e
 | .ok l => .ok (take.map fun c=>aT l c)
def uC (l:List Int):V:=jY l.length (l.getD 0 0) (l.getD 1 0) (l.getD 2 0) (l.getD 3 0)
theorem Yz (x:Int) {d:Nat} (hd : 1≤d):fM x 0 d=0:=by
 unfold fM;rw [Int.mul_zero,Int.zero_emod,Int.zero_ediv,if_neg (by omega)]
theorem aHk (a b:List Int) (h:a.length=b.length) {d:Nat} (hd : 1≤d):List.zipWith (fun u v=>kC u v 0 d) a b=a:=by
 refine List.ext_getElem (by simp;omega) fun i h1 h2=>?_
 rw [List.getElem_zipWith];unfold kC;rw [Yz _ hd,Int.add_zero]
theorem cBetG0 {n:Int} {d:Nat} (h0 : 0<n) (h1:n<(d:Int)) (hd:d<9223372036854775808) :
  aJ Tryz.prog 127 [.t .opq,jY 0 0 0 0 0,jY 0 0 0 0 0,aA n,aA d] (jY 0 0 0 0 0):=by
 have ww1:IntKind.i64.wrap 1=1:=by decide
 have ww2:IntKind.i64.wrap 2=2:=by decide
 have ww3:IntKind.i64.wrap 3=3:=by decide
 have ww4:IntKind.i64.wrap 4=4:=by decide
 have w01:IntKind.i64.wrap (0+1)=1:=by decide
 have w11:IntKind.i64.wrap (1+1)=2:=by decide
 have w21:IntKind.i64.wrap (2+1)=3:=by decide
 have w31:IntKind.i64.wrap (3+1)=4:=by decide
 refine aD Tryz.X127 Tryz.func127 rfl Tryz.ntmps127 (by rw [Tryz.results127]) (aB _ ?_);simp only [go_sem,simprocAttr];refine ⟨fun h=>?_,fun h=>?_⟩
 ·exfalso;simp only [bxx] at h;omega
 unfold awS;simp only [go_sem,simprocAttr];refine bR ?_;refine aH (aB _ ?_);simp only [go_sem,simprocAttr,decide_false]
theorem cBetG1 {n:Int} {d:Nat} (h0 : 0<n) (h1:n<(d:Int)) (hd:d<9223372036854775808) {a0 b0:Int} (ha0 : -262144≤a0∧a0≤262144) (hb0 : -262144≤b0∧b0≤262144) :
  aJ Tryz.prog 127 [.t .opq,jY 1 (a0) 0 0 0,jY 1 (b0) 0 0 0,aA n,aA d] (jY 1 (kC a0 b0 n d) 0 0 0):=by
 have sq0:=eC (x:=b0 - a0) (n:=n) (d:=d) (by omega) (by omega) (by omega);have nb0:=dK (x:=b0 - a0) (n:=n) (d:=d) (by omega) (by omega) (by omega);have p0:=fV (b0 - a0) n d ⟨by omega,by omega⟩ ⟨by omega,by omega⟩ (by omega) hd ⟨by omega,by omega⟩;unfold kC;generalize fM (b0 - a0) n d=z0 at *;have ww1:IntKind.i64.wrap 1=1:=by decide
 have ww2:IntKind.i64.wrap 2=2:=by decide
 have ww3:IntKind.i64.wrap 3=3:=by decide
 have ww4:IntKind.i64.wrap 4=4:=by decide
 have w01:IntKind.i64.wrap (0+1)=1:=by decide
 have w11:IntKind.i64.wrap (1+1)=2:=by decide
 have w21:IntKind.i64.wrap (2+1)=3:=by decide
 have w31:IntKind.i64.wrap (3+1)=4:=by decide
 refine aD Tryz.X127 Tryz.func127 rfl Tryz.ntmps127 (by rw [Tryz.results127]) (aB _ ?_);simp only [go_sem,simprocAttr];refine ⟨fun h=>?_,fun h=>?_⟩
 ·exfalso;simp only [bxx] at h;omega
 unfold awS;simp only [go_sem,simprocAttr];refine bR ?_;refine aH (aB _ ?_);simp only [go_sem,simprocAttr,decide_true];refine aQ 20 .done rfl (by kernel_rfl) (by kernel_rfl) (by decide) ?_;simp only [go_sem,simprocAttr,wrap64 (x:=b0 - a0) (by omega) (by omega)];refine ⟨_,p0,?_⟩;simp only [go_sem,simprocAttr,ww1,wrap64 (x:=a0+z0) (by omega) (by omega)];refine ⟨by kernel_rfl,?_⟩;refine aH (aB _ ?_);simp only [go_sem,simprocAttr,decide_false]
theorem cBetG2 {n:Int} {d:Nat} (h0 : 0<n) (h1:n<(d:Int)) (hd:d<9223372036854775808) {a0 b0:Int} (ha0 : -262144≤a0∧a0≤262144) (hb0 : -262144≤b0∧b0≤262144) {a1 b1:Int} (ha1 : -262144≤a1∧a1≤262144) (hb1 : -262144≤b1∧b1≤262144) :
  aJ Tryz.prog 127 [.t .opq,jY 2 (a0) (a1) 0 0,jY 2 (b0) (b1) 0 0,aA n,aA d] (jY 2 (kC a0 b0 n d) (kC a1 b1 n d) 0 0):=by
 have sq0:=eC (x:=b0 - a0) (n:=n) (d:=d) (by omega) (by omega) (by omega);have nb0:=dK (x:=b0 - a0) (n:=n) (d:=d) (by omega) (by omega) (by omega);have p0:=fV (b0 - a0) n d ⟨by omega,by omega⟩ ⟨by omega,by omega⟩ (by omega) hd ⟨by omega,by omega⟩;have sq1:=eC (x:=b1 - a1) (n:=n) (d:=d) (by omega) (by omega) (by omega);have nb1:=dK (x:=b1 - a1) (n:=n) (d:=d) (by omega) (by omega) (by omega);have p1:=fV (b1 - a1) n d ⟨by omega,by omega⟩ ⟨by omega,by omega⟩ (by omega) hd ⟨by omega,by omega⟩;unfold kC;generalize fM (b0 - a0) n d=z0 at *;generalize fM (b1 - a1) n d=z1 at *;have ww1:IntKind.i64.wrap 1=1:=by decide
 have ww2:IntKind.i64.wrap 2=2:=by decide
 have ww3:IntKind.i64.wrap 3=3:=by decide
 have ww4:IntKind.i64.wrap 4=4:=by decide
 have w01:IntKind.i64.wrap (0+1)=1:=by decide
 have w11:IntKind.i64.wrap (1+1)=2:=by decide
 have w21:IntKind.i64.wrap (2+1)=3:=by decide
 have w31:IntKind.i64.wrap (3+1)=4:=by decide
 refine aD Tryz.X127 Tryz.func127 rfl Tryz.ntmps127 (by rw [Tryz.results127]) (aB _ ?_);simp only [go_sem,simprocAttr];refine ⟨fun h=>?_,fun h=>?_⟩
 ·exfalso;simp only [bxx] at h;omega
 unfold awS;simp only [go_sem,simprocAttr];refine bR ?_;refine aH (aB _ ?_);simp only [go_sem,simprocAttr,decide_true];refine aQ 20 .done rfl (by kernel_rfl) (by kernel_rfl) (by decide) ?_;simp only [go_sem,simprocAttr,wrap64 (x:=b0 - a0) (by omega) (by omega)];refine ⟨_,p0,?_⟩;simp only [go_sem,simprocAttr,ww1,wrap64 (x:=a0+z0) (by omega) (by omega)];refine ⟨by kernel_rfl,?_⟩;refine aH (aB _ ?_);simp only [go_sem,simprocAttr,decide_true];refine aQ 20 .done rfl (by kernel_rfl) (by kernel_rfl) (by decide) ?_;simp only [go_sem,simprocAttr,wrap64 (x:=b1 - a1) (by omega) (by omega)];refine ⟨_,p1,?_⟩;simp only [go_sem,simprocAttr,ww2,wrap64 (x:=a1+z1) (by omega) (by omega)];refine ⟨by kernel_rfl,?_⟩;refine aH (aB _ ?_);simp only [go_sem,simprocAttr,decide_false]
theorem cBetG3 {n:Int} {d:Nat} (h0 : 0<n) (h1:n<(d:Int)) (hd:d<9223372036854775808) {a0 b0:Int} (ha0 : -262144≤a0∧a0≤262144) (hb0 : -262144≤b0∧b0≤262144) {a1 b1:Int} (ha1 : -262144≤a1∧a1≤262144) (hb1 : -262144≤b1∧b1≤262144) {a2 b2:Int} (ha2 : -262144≤a2∧a2≤262144) (hb2 : -262144≤b2∧b2≤262144) :
  aJ Tryz.prog 127 [.t .opq,jY 3 (a0) (a1) (a2) 0,jY 3 (b0) (b1) (b2) 0,aA n,aA d] (jY 3 (kC a0 b0 n d) (kC a1 b1 n d) (kC a2 b2 n d) 0):=by
 have sq0:=eC (x:=b0 - a0) (n:=n) (d:=d) (by omega) (by omega) (by omega);have nb0:=dK (x:=b0 - a0) (n:=n) (d:=d) (by omega) (by omega) (by omega);have p0:=fV (b0 - a0) n d ⟨by omega,by omega⟩ ⟨by omega,by omega⟩ (by omega) hd ⟨by omega,by omega⟩;have sq1:=eC (x:=b1 - a1) (n:=n) (d:=d) (by omega) (by omega) (by omega);have nb1:=dK (x:=b1 - a1) (n:=n) (d:=d) (by omega) (by omega) (by omega);have p1:=fV (b1 - a1) n d ⟨by omega,by omega⟩ ⟨by omega,by omega⟩ (by omega) hd ⟨by omega,by omega⟩;have sq2:=eC (x:=b2 - a2) (n:=n) (d:=d) (by omega) (by omega) (by omega);have nb2:=dK (x:=b2 - a2) (n:=n) (d:=d) (by omega) (by omega) (by omega);have p2:=fV (b2 - a2) n d ⟨by omega,by omega⟩ ⟨by omega,by omega⟩ (by omega) hd ⟨by omega,by omega⟩;unfold kC;generalize fM (b0 - a0) n d=z0 at *;generalize fM (b1 - a1) n d=z1 at *;generalize fM (b2 - a2) n d=z2 at *;have ww1:IntKind.i64.wrap 1=1:=by decide
 have ww2:IntKind.i64.wrap 2=2:=by decide
 have ww3:IntKind.i64.wrap 3=3:=by decide
 have ww4:IntKind.i64.wrap 4=4:=by decide
 have w01:IntKind.i64.wrap (0+1)=1:=by decide
 have w11:IntKind.i64.wrap (1+1)=2:=by decide
 have w21:IntKind.i64.wrap (2+1)=3:=by decide
 have w31:IntKind.i64.wrap (3+1)=4:=by decide
 refine aD Tryz.X127 Tryz.func127 rfl Tryz.ntmps127 (by rw [Tryz.results127]) (aB _ ?_);simp only [go_sem,simprocAttr];refine ⟨fun h=>?_,fun h=>?_⟩
 ·exfalso;simp only [bxx] at h;omega
 unfold awS;simp only [go_sem,simprocAttr];refine bR ?_;refine aH (aB _ ?_);simp only [go_sem,simprocAttr,decide_true];refine aQ 20 .done rfl (by kernel_rfl) (by kernel_rfl) (by decide) ?_;simp only [go_sem,simprocAttr,wrap64 (x:=b0 - a0) (by omega) (by omega)];refine ⟨_,p0,?_⟩;simp only [go_sem,simprocAttr,ww1,wrap64 (x:=a0+z0) (by omega) (by omega)];refine ⟨by kernel_rfl,?_⟩;refine aH (aB _ ?_);simp only [go_sem,simprocAttr,decide_true];refine aQ 20 .done rfl (by kernel_rfl) (by kernel_rfl) (by decide) ?_;simp only [go_sem,simprocAttr,wrap64 (x:=b1 - a1) (by omega) (by omega)];refine ⟨_,p1,?_⟩;simp only [go_sem,simprocAttr,ww2,wrap64 (x:=a1+z1) (by omega) (by omega)];refine ⟨by kernel_rfl,?_⟩;refine aH (aB _ ?_);simp only [go_sem,simprocAttr,decide_true];refine aQ 20 .done rfl (by kernel_rfl) (by kernel_rfl) (by decide) ?_;simp only [go_sem,simprocAttr,wrap64 (x:=b2 - a2) (by omega) (by omega)];refine ⟨_,p2,?_⟩;simp only [go_sem,simprocAttr,ww3,wrap64 (x:=a2+z2) (by omega) (by omega)];refine ⟨by kernel_rfl,?_⟩;refine aH (aB _ ?_);simp only [go_sem,simprocAttr,decide_false]
theorem cBetG4 {n:Int} {d:Nat} (h0 : 0<n) (h1:n<(d:Int)) (hd:d<9223372036854775808) {a0 b0:Int} (ha0 : -262144≤a0∧a0≤262144) (hb0 : -262144≤b0∧b0≤262144) {a1 b1:Int} (ha1 : -262144≤a1∧a1≤262144) (hb1 : -262144≤b1∧b1≤262144) {a2 b2:Int} (ha2 : -262144≤a2∧a2≤262144) (hb2 : -262144≤b2∧b2≤262144) {a3 b3:Int} (ha3 : -262144≤a3∧a3≤262144) (hb3 : -262144≤b3∧b3≤262144) :
  aJ Tryz.prog 127 [.t .opq,jY 4 (a0) (a1) (a2) (a3),jY 4 (b0) (b1) (b2) (b3),aA n,aA d] (jY 4 (kC a0 b0 n d) (kC a1 b1 n d) (kC a2 b2 n d) (kC a3 b3 n d)):=by
 have sq0:=eC (x:=b0 - a0) (n:=n) (d:=d) (by omega) (by omega) (by omega);have nb0:=dK (x:=b0 - a0) (n:=n) (d:=d) (by omega) (by omega) (by omega);have p0:=fV (b0 - a0) n d ⟨by omega,by omega⟩ ⟨by omega,by omega⟩ (by omega) hd ⟨by omega,by omega⟩;have sq1:=eC (x:=b1 - a1) (n:=n) (d:=d) (by omega) (by omega) (by omega);have nb1:=dK (x:=b1 - a1) (n:=n) (d:=d) (by omega) (by omega) (by omega);have p1:=fV (b1 - a1) n d ⟨by omega,by omega⟩ ⟨by omega,by omega⟩ (by omega) hd ⟨by omega,by omega⟩;have sq2:=eC (x:=b2 - a2) (n:=n) (d:=d) (by omega) (by omega) (by omega);have nb2:=dK (x:=b2 - a2) (n:=n) (d:=d) (by omega) (by omega) (by omega);have p2:=fV (b2 - a2) n d ⟨by omega,by omega⟩ ⟨by omega,by omega⟩ (by omega) hd ⟨by omega,by omega⟩;have sq3:=eC (x:=b3 - a3) (n:=n) (d:=d) (by omega) (by omega) (by omega);have nb3:=dK (x:=b3 - a3) (n:=n) (d:=d) (by omega) (by omega) (by omega);have p3:=fV (b3 - a3) n d ⟨by omega,by omega⟩ ⟨by omega,by omega⟩ (by omega) hd ⟨by omega,by omega⟩;unfold kC;generalize fM (b0 - a0) n d=z0 at *;generalize fM (b1 - a1) n d=z1 at *;generalize fM (b2 - a2) n d=z2 at *;generalize fM (b3 - a3) n d=z3 at *;have ww1:IntKind.i64.wrap 1=1:=by decide
 have ww2:IntKind.i64.wrap 2=2:=by decide
 have ww3:IntKind.i64.wrap 3=3:=by decide
 have ww4:IntKind.i64.wrap 4=4:=by decide
 have w01:IntKind.i64.wrap (0+1)=1:=by decide
 have w11:IntKind.i64.wrap (1+1)=2:=by decide
 have w21:IntKind.i64.wrap (2+1)=3:=by decide
 have w31:IntKind.i64.wrap (3+1)=4:=by decide
 refine aD Tryz.X127 Tryz.func127 rfl Tryz.ntmps127 (by rw [Tryz.results127]) (aB _ ?_);simp only [go_sem,simprocAttr];refine ⟨fun h=>?_,fun h=>?_⟩
 ·exfalso;simp only [bxx] at h;omega
 unfold awS;simp only [go_sem,simprocAttr];refine bR ?_;refine aH (aB _ ?_);simp only [go_sem,simprocAttr,decide_true];refine aQ 20 .done rfl (by kernel_rfl) (by kernel_rfl) (by decide) ?_;simp only [go_sem,simprocAttr,wrap64 (x:=b0 - a0) (by omega) (by omega)];refine ⟨_,p0,?_⟩;simp only [go_sem,simprocAttr,ww1,wrap64 (x:=a0+z0) (by omega) (by omega)];refine ⟨by kernel_rfl,?_⟩;refine aH (aB _ ?_);simp only [go_sem,simprocAttr,decide_true];refine aQ 20 .done rfl (by kernel_rfl) (by kernel_rfl) (by decide) ?_;simp only [go_sem,simprocAttr,wrap64 (x:=b1 - a1) (by omega) (by omega)];refine ⟨_,p1,?_⟩;simp only [go_sem,simprocAttr,ww2,wrap64 (x:=a1+z1) (by omega) (by omega)];refine ⟨by kernel_rfl,?_⟩;refine aH (aB _ ?_);simp only [go_sem,simprocAttr,decide_true];refine aQ 20 .done rfl (by kernel_rfl) (by kernel_rfl) (by decide) ?_;simp only [go_sem,simprocAttr,wrap64 (x:=b2 - a2) (by omega) (by omega)];refine ⟨_,p2,?_⟩;simp only [go_sem,simprocAttr,ww3,wrap64 (x:=a2+z2) (by omega) (by omega)];refine ⟨by kernel_rfl,?_⟩;refine aH (aB _ ?_);simp only [go_sem,simprocAttr,decide_true];refine aQ 20 .done rfl (by kernel_rfl) (by kernel_rfl) (by decide) ?_;simp only [go_sem,simprocAttr,wrap64 (x:=b3 - a3) (by omega) (by omega)];refine ⟨_,p3,?_⟩;simp only [go_sem,simprocAttr,ww4,wrap64 (x:=a3+z3) (by omega) (by omega)];refine ⟨by kernel_rfl,?_⟩;refine aH (aB _ ?_);simp only [go_sem,simprocAttr,decide_false]
theorem dH {m:Int} {x:Int} {l:List Int} (h:Qk m (x::l)):(-m≤x∧x≤m)∧Qk m l:=⟨h x (by simp),fun u hu=>h u (by simp [hu])⟩
theorem cBetG {a b:List Int} (hl:a.length=b.length) (h4:a.length≤4) (ha:Qk 262144 a) (hb:Qk 262144 b) {n:Int} {d:Nat} (h0 : 0≤n) (h1:n<(d:Int)) (hd:d<9223372036854775808) :
  aJ Tryz.prog 127 [.t .opq,uC a,uC b,aA n,aA d] (uC (List.zipWith (fun u v=>kC u v n d) a b)):=by
 by_cases hz:n=0
 ·subst hz;rw [aHk a b hl (by omega)];exact aJj _ _ _ _ _ _ _ _ _ _ _ _
 have hp : 0<n:=by omega
 rcases a with _ | ⟨a0,_ | ⟨a1,_ | ⟨a2,_ | ⟨a3,_ | ⟨a4,l⟩⟩⟩⟩⟩
 ·rcases b with _ | ⟨b0,b⟩
  ·exact cBetG0 hp h1 hd
  ·simp at hl
 ·rcases b with _ | ⟨b0,_ | ⟨b1,b⟩⟩
  ·simp at hl
  ·exact cBetG1 hp h1 hd (dH ha).1 (dH hb).1
  ·simp at hl
 ·rcases b with _ | ⟨b0,_ | ⟨b1,_ | ⟨b2,b⟩⟩⟩
  ·simp at hl
  ·simp at hl
  ·exact cBetG2 hp h1 hd (dH ha).1 (dH hb).1 (dH (dH ha).2).1 (dH (dH hb).2).1
  ·simp at hl
 ·rcases b with _ | ⟨b0,_ | ⟨b1,_ | ⟨b2,_ | ⟨b3,b⟩⟩⟩⟩
  ·simp at hl
  ·simp at hl
  ·simp at hl
  ·exact cBetG3 hp h1 hd (dH ha).1 (dH hb).1 (dH (dH ha).2).1 (dH (dH hb).2).1 (dH (dH (dH ha).2).2).1 (dH (dH (dH hb).2).2).1
  ·simp at hl
 ·rcases b with _ | ⟨b0,_ | ⟨b1,_ | ⟨b2,_ | ⟨b3,_ | ⟨b4,b⟩⟩⟩⟩⟩
  ·simp at hl
  ·simp at hl
  ·simp at hl
  ·simp at hl
  ·exact cBetG4 hp h1 hd (dH ha).1 (dH hb).1 (dH (dH ha).2).1 (dH (dH hb).2).1 (dH (dH (dH ha).2).2).1 (dH (dH (dH hb).2).2).1 (dH (dH (dH (dH ha).2).2).2).1 (dH (dH (dH (dH hb).2).2).2).1
  ·simp at hl
 ·simp at h4
abbrev gK (n:Int):Value := .iface 78 (.agg #[.int .i64 n])
theorem aBq (ρ : Operand→Value) (o:Oper) (t:Tmp) (n:Int) (w:World) (ho:o.op = .typeAssert (.tmp t) 20 78 true) (hx : ρ (.tmp t)=gK n):(execOp ρ o).run Tryz.prog w = .ok (.value (.tuple #[.agg #[.int .i64 n], .bool true])) w:=by
 simp [execOp,ho,hx,Instr.typeAssert,go_sem]
 done
theorem aLj (n:Int) {a b:Nat} {x y:V} {h:Heap} {nx:Nat} {K:Heap→Nat→Prop} (hab:a≠b) (ha:h.look a=some (.box [x])) (hb:h.look b=some (.box [y])) (hax:a<nx) (hbx:b<nx)
  (hK:∀ h' nx',nx≤nx'→h'.look a=some (.box [.t (.lit (.slice none 0 0))])→h'.look b=some (.box [aA n])→K h' nx') :
  RecD Tryz.prog 19 [{ v:=gK n,recovered:=false }] [.own a, .own b] h nx K:=by
 refine ⟨Tryz.X19,fun E w cap hr hbd hcs=>callsDIn_of_wpSIn Tryz.func19 rfl trivial fun c₀ cs hu=>?_⟩;obtain ⟨l⟩:=cap;rcases l with _ | ⟨v0,_ | ⟨v1,_ | ⟨v2,l⟩⟩⟩<;>simp only [RdVs,and_false,and_true] at hcs
 obtain ⟨hc0,hc1⟩:=hcs;apply wpSIn_seq;apply wpSIn_region;simp [wpOpsSIn,Fence.wide,go_sem,recoverD,hu,Tryz.ntmps19,Exit.thenS];apply wpSIn_seq;apply wpSIn_region;simp [wpOpsSIn,go_sem,Exit.thenS];refine wpSIn_cond (t:=true) (by simp [Act.eval]) ?_;refine wpSIn_of_wpIn rfl ?_;rw [if_pos rfl];show Code.wpIn (Wd none) 0 Tryz.prog _ _ _ _
 have hrel:RelF (E.at0 none) { fr:=[.own a, .own b, .t (.lit (gK n)), .dead, .dead, .t (.lit (gK n)), .t (.lit (gK n)),aL true, .dead, .dead, .dead, .dead, .dead, .dead, .dead, .dead],h:=h,nx:=nx } { tmps := #[v0,v1]++((((Array.replicate 14 undef).setIfInBounds 3 (gK n)).setIfInBounds 0 (gK n)).setIfInBounds 4 (gK n)).setIfInBounds 5 (Value.bool true),defers:=[] } w:=by
  have hl:∀ S,RdT w S (.lit (gK n)) (gK n):=fun S=>RdT.lit _ rfl trivial
  refine ⟨hr.ro none,hbd,?_,⟨rfl,rfl⟩⟩;show RdVs w _ _ [v0,v1,gK n,undef,undef,gK n,gK n,Value.bool true,undef,undef,undef,undef,undef,undef,undef,undef]
  simp only [RdVs,RdV,and_true,true_and];exact ⟨hc0.ro none,hc1.ro none,hl _,hl _,hl _,RdT.lit _ rfl trivial⟩
 refine wpIn_mono ((?H:AWP Tryz.prog nx _ (fun e σ'=>e = .normal ∧ σ'.df = []∧K σ'.h σ'.nx) _) (E.at0 none) _ w hrel (E.at0 none) w hbd (Ext.refl _ _)) ?_
 rotate_left
 ·rintro e a' w' ⟨σ',E',h1,h2,rfl,h4,h5⟩;have hd:=h1.defers;rw [h4] at hd;refine ⟨hd.1,_,rfl, .tuple #[],?_,⟨_,rfl⟩,rfl,E'.at0 E.ro, σ'.h,h1.rel.ro _, σ'.nx,h1.bound,h2.back,h5⟩;simp [results,Tryz.results19,go_sem]
 have e1:(h.set a (.box [.t (.lit (.slice none 0 0))])).look b=some (.box [y]):=by rw [Heap.look_set _ _ _ ha,if_neg (fun e=>hab e.symm)];exact hb
 have e0:(h.set a (.box [.t (.lit (.slice none 0 0))])).look a=some (.box [.t (.lit (.slice none 0 0))]):=by rw [Heap.look_set _ _ _ ha,if_pos rfl]
 refine aF (aB _ ?_);simp only [go_sem,simprocAttr,ha,e1];generalize h.set a (.box [.t (.lit (.slice none 0 0))])=h1 at *;have e2:(h1.set b (.box [aA 1])).look a=some (.box [.t (.lit (.slice none 0 0))]):=by rw [Heap.look_set _ _ _ e1,if_neg hab];exact e0
 have e3:(h1.set b (.box [aA 1])).look b=some (.box [aA 1]):=by rw [Heap.look_set _ _ _ e1,if_pos rfl]
 refine aF (aN 1 ?_);simp only [go_sem,simprocAttr];refine aL9 (x := .tup [.agg [aA n],aL true]) (v := .tuple #[.agg #[.int .i64 n], .bool true]) rfl (fun c hc=>by cases hc) (fun w E=>?_) (fun E a w hr=>?_) (cQ ?_)
 ·simp only [RdV];refine ⟨#[.agg #[.int .i64 n], .bool true],rfl,?_⟩;show RdVs w E [_,_] [_,_]
  simp only [RdVs,RdV,and_true];refine ⟨⟨#[.int .i64 n],rfl,?_,rfl⟩,RdT.lit _ rfl trivial⟩;show RdVs w E [_] [_]
  simp only [RdVs,RdV,and_true];exact RdT.lit _ rfl trivial
 ·have hv:=hr.ev (.tmp 9);have hv2:RdV w E (.t (.lit (gK n))) (a.eval (.tmp 9)):=hv;exact aBq a.eval _ 9 n w rfl (aG hv2).1
 have hbn:(nx=b)=False:=by simp;omega
 have hbn':(b=nx)=False:=by simp;omega
 simp only [go_sem,simprocAttr];have e4:(h1.set b (.box [aA n])).look a=some (.box [.t (.lit (.slice none 0 0))]):=by rw [Heap.look_set _ _ _ e1,if_neg hab];exact e0
 have e5:(h1.set b (.box [aA n])).look b=some (.box [aA n]):=by rw [Heap.look_set _ _ _ e1,if_pos rfl]
 refine aB _ ?_;simp only [go_sem,simprocAttr,e3,hbn'];refine hK _ _ (by omega) ?_ ?_
 ·rw [Heap.look,if_neg (by omega)];exact e4
 ·rw [Heap.look,if_neg (by omega)];exact e5
structure LayN where
 m:Nat
 m0:Nat
 m1:Nat
 m2:Nat
 b:Nat→Nat
 t:Nat→Nat
 c:Nat→Nat
def DN (p:ProjR) (N:LayN) (q:Nat):Prop := ∀ i,i<p.seqs.length→q≠N.c i
def aD4 (l:List Int):V := .agg [aA (l.getD 0 0),aA (l.getD 1 0),aA (l.getD 2 0),aA (l.getD 3 0)]
structure KeptE (p:ProjR) (A:List AudioR) (i:Nat) (es:Ja):Prop where
 kinds:dL (.int .i64) es=true
 val:∀ j v,eP (.int .i64 j) es=some v → ∃ l,qW p A i j = .ok l∧v=aD4 l
structure MixH (p:ProjR) (A:List AudioR) (N:LayN) (n0:Nat) (H:Heap):Prop where
 box:H.look N.m=some (.box [.own N.m0, .own N.m1, .own N.m2])
 rt:∃ R,H.look N.m0=some (.map (tEs R))∧dL .string R=true ∧ ∀ k,k<p.media.length→eP (.string (p.media.getD k default).name) R=some (bK (p.media.getD k default).seq.rate)
 au:∃ U,H.look N.m1=some (.map (tEs U))∧dL .string U=true ∧ ∀ n,eP (.string n) U=(pR A n).map fun a => .agg [cA a.name, .t (kT a.chs)]
 sq:∃ S:List (Value×V),H.look N.m2=some (.map S)∧eZ .string S=true∧(∀ i,i<p.seqs.length→fE (.string (p.seqs.getD i default).name) S=some (.own (N.b i))) ∧ ∀ n,fR p n<0→fE (.string n) S=none
 seq:∀ i,i<p.seqs.length→H.look (N.b i)=some (.box [aA (p.seqs.getD i default).rate.num,aA (p.seqs.getD i default).rate.den,aA (p.seqs.getD i default).channels, .own (N.t i), .own (N.c i)])
 trk:∀ i,i<p.seqs.length→H.look (N.t i)=some (.row 124 3 aB1 (aS ((p.seqs.getD i default).sound.map Kg)))
 kept:∀ i,i<p.seqs.length → ∃ es,H.look (N.c i)=some (.map (tEs es))∧KeptE p A i es
 dm:DN p N N.m∧DN p N N.m0∧DN p N N.m1∧DN p N N.m2
 db:∀ i,i<p.seqs.length→DN p N (N.b i)∧DN p N (N.t i)
 inj:∀ i j,i<p.seqs.length→j<p.seqs.length→N.c i=N.c j→i=j
 lm:N.m<n0∧N.m0<n0∧N.m1<n0∧N.m2<n0
 lb:∀ i,i<p.seqs.length→N.b i<n0∧N.t i<n0∧N.c i<n0
 wf:∀ q,n0≤q→H.look q=none
theorem MixH.later {p:ProjR} {A:List AudioR} {N:LayN} {n0 n':Nat} {H H':Heap} (h:MixH p A N n0 H) (hle:n0≤n') (hD:aY (DN p N) H H') (hk:∀ i,i<p.seqs.length → ∃ es,H'.look (N.c i)=some (.map (tEs es))∧KeptE p A i es) (hwf:∀ q,n'≤q→H'.look q=none):MixH p A N n' H':=by
 obtain ⟨R,r1,r2⟩:=h.rt;obtain ⟨U,u1,u2⟩:=h.au;obtain ⟨S,v1,v2⟩:=h.sq;obtain ⟨d1,d2,d3,d4⟩:=h.dm;obtain ⟨l1,l2,l3,l4⟩:=h.lm;refine ⟨hD _ _ d1 h.box,⟨R,hD _ _ d2 r1,r2⟩,⟨U,hD _ _ d3 u1,u2⟩,⟨S,hD _ _ d4 v1,v2⟩,fun i hi=>hD _ _ (h.db i hi).1 (h.seq i hi),fun i hi=>hD _ _ (h.db i hi).2 (h.trk i hi),hk,h.dm,h.db,h.inj,⟨by omega,by omega,by omega,by omega⟩,fun i hi=>?_,hwf⟩;have:=h.lb i hi;omega
theorem aK {H:Heap} {n0:Nat} (hwf:∀ q,n0≤q→H.look q=none) {q:Nat} {b:Blk} (hq:H.look q=some b) {k:Nat} {c:Blk} (hk:n0≤k):Heap.look ((k,c)::H) q=some b:=by
 rw [Heap.look,if_neg]
 ·exact hq
 ·intro e;subst e;rw [hwf _ hk] at hq;cases hq
theorem MixH.top {p:ProjR} {A:List AudioR} {N:LayN} {n0:Nat} {H:Heap} (h:MixH p A N n0 H) {k:Nat} (c:Blk) (hk:n0≤k):MixH p A N (k+1) ((k,c)::H):=by
 refine h.later (by omega) (fun q b _ hq=>aK h.wf hq hk) (fun i hi=>?_) fun q hq=>?_
 ·obtain ⟨es,h1,h2⟩:=h.kept i hi;exact ⟨es,aK h.wf h1 hk,h2⟩
 ·rw [Heap.look,if_neg (by omega)];exact h.wf q (by omega)
theorem MixH.nx {p:ProjR} {A:List AudioR} {N:LayN} {n0 n1:Nat} {H:Heap} (h:MixH p A N n0 H) (hle:n0≤n1):MixH p A N n1 H:=h.later hle (fun _ _ _ h=>h) h.kept fun q hq=>h.wf q (by omega)
theorem pRate1 {p:ProjR} (hp:PrjV p) {A:List AudioR} {N:LayN} {σ : St} {KP:List PanicEntry→St→Prop} {d:Option Tmp} {K:St→Prop} (hM:MixH p A N σ.nx σ.h) {i:Nat} {s:SourceR} (hs:SrcV p i s) (hk:s.kind=1)
  (hK:∀ h' nx', σ.nx≤nx'→aY (DN p N) σ.h h'→MixH p A N nx' h'→K (({ σ with h:=h',nx:=nx' }:St).put d (bK (cF p s)))) :
  PCall Tryz.prog (DN p N) KP σ d 125 [.own N.m,dT s] K:=by
 obtain ⟨R,hR1,hR2,hR3⟩:=hM.rt;have hbx:=hM.box;obtain ⟨l1,l2,l3,l4⟩:=hM.lm;refine eV Tryz.X125 Tryz.func125 rfl Tryz.ntmps125 (by rw [Tryz.results125]) ?_;obtain ⟨fr0,H0,n0,df0⟩ := σ;simp only at hbx hR1 l1 l2 l3 l4 hK ⊢;have e1:(N.m=n0)=False:=by simp;omega
 have e2:∀ k,(N.m=n0+k)=False:=fun k=>by simp;omega
 have e3:(N.m0=n0)=False:=by simp;omega
 have e4:∀ k,(N.m0=n0+k)=False:=fun k=>by simp;omega
 refine aB _ ?_;simp only [go_sem,simprocAttr,hk,Nat.add_assoc,Nat.left_eq_add];obtain ⟨k,hkl,hki,hkn⟩:∃ k,k<p.media.length∧Db p s.name=(k:Int)∧(p.media.getD k default).name=s.name:=by
  rcases hs.kind with h | h | h
  ·omega
  ·obtain ⟨k,h1,h2,h3⟩:=yM h.2;exact ⟨k,h1,h2,(bq _ _).1 h3⟩
  ·omega
 have hlk:=hR3 k hkl;rw [hkn] at hlk;have hre:cF p s=(p.media.getD k default).seq.rate:=by
  unfold cF;rw [if_pos hk,hki,Int.toNat_natCast]
 rw [hre] at hK;generalize (p.media.getD k default).seq.rate=r at *;refine bL [0,1,2,3,4,5,6] (.step 7 .done) rfl (by kernel_rfl) (by kernel_rfl) (by decide) ?_;simp only [go_sem,simprocAttr,e1,e2,e3,e4,hbx,hR1,hR2,hlk,Nat.left_eq_add];have hM1:=MixH.top hM (k:=n0) (.box [aA 1,cA s.name,aA s.pos.num,aA s.pos.den,aA s.speed.num,aA s.speed.den,aL s.smooth]) (Nat.le_refl _);have hM2:=MixH.top hM1 (k:=n0+1) (.box [aA r.num,aA r.den]) (Nat.le_refl _);have hD:aY (DN p N) H0 ((n0+1, .box [aA r.num,aA r.den])::(n0, .box [aA 1,cA s.name,aA s.pos.num,aA s.pos.den,aA s.speed.num,aA s.speed.den,aL s.smooth])::H0):=fun q b _ hq=>aK hM1.wf (aK hM.wf hq (Nat.le_refl _)) (Nat.le_refl _)
 have hK2:=hK _ _ (show n0≤n0+1+1 by omega) hD hM2;unfold uJ;simp only [go_sem,simprocAttr];exact ⟨hD,hK2⟩
theorem pRate2 {p:ProjR} (hp:PrjV p) {A:List AudioR} {N:LayN} {σ : St} {KP:List PanicEntry→St→Prop} {d:Option Tmp} {K:St→Prop} (hM:MixH p A N σ.nx σ.h) {i:Nat} {s:SourceR} (hs:SrcV p i s) (hk:s.kind=2)
  (hK:∀ h' nx', σ.nx≤nx'→aY (DN p N) σ.h h'→MixH p A N nx' h'→K (({ σ with h:=h',nx:=nx' }:St).put d (bK (cF p s)))) :
  PCall Tryz.prog (DN p N) KP σ d 125 [.own N.m,dT s] K:=by
 obtain ⟨S,hS1,hS2,hS3,_⟩:=hM.sq;have hbx:=hM.box;obtain ⟨l1,l2,l3,l4⟩:=hM.lm;have hx : 0≤fR p s.name:=by
  rcases hs.kind with h | h | h
  ·omega
  ·omega
  ·exact h.2.1
 obtain ⟨k,hkl,hki,hkn⟩:=kQ hx;have hlk:=hS3 k hkl;rw [hkn] at hlk;have hsq:=hM.seq k hkl;have hlb:=(hM.lb k hkl).1;have hre:cF p s=(p.seqs.getD k default).rate:=by
  unfold cF;rw [if_neg (by omega),hki,Int.toNat_natCast]
 rw [hre] at hK;have hk1:(s.kind==1)=false:=by rw [hk];rfl
 refine eV Tryz.X125 Tryz.func125 rfl Tryz.ntmps125 (by rw [Tryz.results125]) ?_;obtain ⟨fr0,H0,n0,df0⟩ := σ;simp only at hbx hS1 hsq l1 l2 l3 l4 hlb hK hM ⊢;have e1:(N.m=n0)=False:=by simp;omega
 have e2:∀ k,(N.m=n0+k)=False:=fun k=>by simp;omega
 have e3:(N.m2=n0)=False:=by simp;omega
 have e4:∀ k,(N.m2=n0+k)=False:=fun k=>by simp;omega
 have e5:(N.b k=n0)=False:=by simp;omega
 have e6:∀ j,(N.b k=n0+j)=False:=fun j=>by simp;omega
 generalize (p.seqs.getD k default).rate=r at *;refine aB _ ?_;simp only [go_sem,simprocAttr,hk1,Nat.add_assoc,Nat.left_eq_add];refine bL [0,1,2,3,4,5,6,7,8,9] (.step 10 .done) rfl (by kernel_rfl) (by kernel_rfl) (by decide) ?_;simp only [go_sem,simprocAttr,e1,e2,e3,e4,e5,e6,hbx,hS1,hS2,hlk,hsq,Nat.left_eq_add];have hM1:=MixH.top hM (k:=n0) (.box [aA s.kind,cA s.name,aA s.pos.num,aA s.pos.den,aA s.speed.num,aA s.speed.den,aL s.smooth]) (Nat.le_refl _);have hM2:=MixH.top hM1 (k:=n0+1) (.box [aA r.num,aA r.den]) (Nat.le_refl _);have hD:aY (DN p N) H0 ((n0+1, .box [aA r.num,aA r.den])::(n0, .box [aA s.kind,cA s.name,aA s.pos.num,aA s.pos.den,aA s.speed.num,aA s.speed.den,aL s.smooth])::H0):=fun q b _ hq=>aK hM1.wf (aK hM.wf hq (Nat.le_refl _)) (Nat.le_refl _)
 have hK2:=hK _ _ (show n0≤n0+1+1 by omega) hD hM2;unfold uJ;simp only [go_sem,simprocAttr];exact ⟨hD,hK2⟩
theorem Rv {p:ProjR} (hp:PrjV p) {A:List AudioR} {N:LayN} {σ : St} {KP:List PanicEntry→St→Prop} {d:Option Tmp} {K:St→Prop} (hM:MixH p A N σ.nx σ.h) {i:Nat} {s:SourceR} (hs:SrcV p i s) (hk:s.kind≠0)
  (hK:∀ h' nx', σ.nx≤nx'→aY (DN p N) σ.h h'→MixH p A N nx' h'→K (({ σ with h:=h',nx:=nx' }:St).put d (bK (cF p s)))) :
  PCall Tryz.prog (DN p N) KP σ d 125 [.own N.m,dT s] K:=by
 by_cases h:s.kind=2
 ·exact pRate2 hp hM hs h hK
 ·exact pRate1 hp hM hs (by rcases hs.kind with q | q | q<;>omega) hK
def mY (n0 q:Nat):Nat:=if q<n0 then 0 else 1+(q - n0)
def renL (n0:Nat) (L:Log):Log:=L.map fun e=>(e.1,mY n0 e.2.1,e.2.2)
theorem gL {l:List Oper} {n0:Nat} {L:Log} (h:tV l 1 (renL n0 L)=true):tV l n0 L=true:=by
 unfold tV at h ⊢;rw [List.all_eq_true] at h ⊢;intro e he;have h1:=h _ (List.mem_map.2 ⟨e,he,rfl⟩);unfold aNt at h1 ⊢;simp only [Bool.and_eq_true,List.all_eq_true,Bool.or_eq_true] at h1 ⊢;obtain ⟨h1,h2⟩:=h1;refine ⟨fun f hf=>?_,?_⟩
 ·have h3:=h1 _ (List.mem_map.2 ⟨f,hf,rfl⟩);rcases h3 with (h3 | h3) | h3
  ·left;left;simp only [Bool.not_eq_true',Bool.and_eq_false_iff,beq_eq_false_iff_ne] at h3 ⊢;rcases h3 with h3 | h3
   ·exact .inl h3
   ·refine .inr fun hq=>h3 ?_
    rw [hq]
  ·exact .inl (.inr h3)
  ·exact .inr h3
 ·unfold mY at h2
  by_cases hq:e.2.1<n0
  ·left;exact decide_eq_true hq
  ·right;rw [if_neg hq] at h2;rcases h2 with h2 | h2
   ·have:=of_decide_eq_true h2;omega
   ·have e1 : 1+(e.2.1 - n0) - 1=e.2.1 - n0:=by omega
    rw [e1] at h2;exact h2
theorem gG (n0:Nat):renL n0 [] = []:=rfl
theorem fJ (n0 i q:Nat) (u:Bool) (L:Log):renL n0 ((i,q,u)::L)=(i,mY n0 q,u)::renL n0 L:=rfl
theorem bQ {n0 q:Nat} (h:q<n0):mY n0 q=0:=by unfold mY;rw [if_pos h]
theorem pT {n0 k j:Nat} (h:j≤k):mY (n0+j) (n0+k)=1+(k - j):=by
 unfold mY;rw [if_neg (by omega)];omega
theorem Ry {n0 j:Nat} (h : 0<j):mY (n0+j) n0=0:=bQ (by omega)
theorem eB {P:Program} {n0:Nat} {c:Operand} {x y:Code} {b:Bool} {Q:Exit→St→Prop} {σ : St} (hc : σ.ev c = .t (.lit (.bool b))) (h:AWP P n0 (if b=true then x else y) Q σ):AWP P n0 (.cond c x y) Q σ := by
 intro E a w hr E0 w0 hU hE;have hv:=hr.ev c;rw [hc] at hv;exact wpIn_cond (aG hv).1 (h E a w hr E0 w0 hU hE)
theorem dB {P:Program} {D:Nat→Prop} {KP:List PanicEntry→St→Prop} {σ : St} {d:Option Tmp} {f:FuncId} {xs:List V} {K:St→Prop} (h:PCall P D KP σ d f xs K):PCall P (fun _=>False) KP σ d f xs K :=
 ⟨h.1,fun E w vs h1 h2 h3=>(h.2 E w vs h1 h2 h3).mono fun e w' hh=>by
  rcases hh with ⟨v,x,h',nx',E',q1,q2,q3,q4,q5,q6,q7⟩ | hh
  ·exact .inl ⟨v,x,h',nx',E',q1,q2,q3,q4,q5,fun q b hf=>hf.elim,q7⟩
  ·exact .inr hh⟩
theorem xV (d x y z:List T) (l:List (List T)):nth d (x::y::z::l) 2=z:=rfl
theorem Lt (d x y z u:List T) (l:List (List T)):nth d (x::y::z::u::l) 3=u:=rfl
theorem nH {p:ProjR} {A:List AudioR} {N:LayN} {n0:Nat} {H:Heap} (h:MixH p A N n0 H) (b0 b1 b2 b3:Blk):aY (DN p N) H ((n0+15,b3)::(n0+12,b2)::(n0+1,b1)::(n0,b0)::H)∧MixH p A N (n0+16) ((n0+15,b3)::(n0+12,b2)::(n0+1,b1)::(n0,b0)::H):=by
 have h1:=MixH.top h (k:=n0) b0 (Nat.le_refl _);have h2:=MixH.top h1 (k:=n0+1) b1 (Nat.le_refl _);have h3:=MixH.top h2 (k:=n0+12) b2 (by omega);have h4:=MixH.top h3 (k:=n0+15) b3 (by omega);exact ⟨fun q b _ hq=>aK h3.wf (aK h2.wf (aK h1.wf (aK h.wf hq (Nat.le_refl _)) (Nat.le_refl _)) (by omega)) (by omega),h4⟩
set_option maxHeartbeats 4000000 in
theorem pNum1 {p:ProjR} {A:List AudioR} (hA:AudP A) {N:LayN} {σ : St} {KP:List PanicEntry→St→Prop} {d:Option Tmp} {K:St→Prop} (hM:MixH p A N σ.nx σ.h) {s:SourceR} (hk:s.kind≠2) (j:Int) (hj:I64 j)
  (hK:∀ a,pR A s.name=some a → ∀ h' nx', σ.nx≤nx'→aY (DN p N) σ.h h'→MixH p A N nx' h'→K (({ σ with h:=h',nx:=nx' }:St).put d (uC (a.chs.map fun l=>aT l j))))
  (hKP:pR A s.name=none → ∀ h' nx', σ.nx≤nx'→aY (DN p N) σ.h h'→MixH p A N nx' h'→KP [{ v:=gK 7,recovered:=false }] { σ with fr:=[],h:=h',nx:=nx' }) :
  PCall Tryz.prog (DN p N) KP σ d 128 [.own N.m,dT s,aA j] K:=by
 obtain ⟨U,hU1,hU2,hU3⟩:=hM.au;have hbx:=hM.box;obtain ⟨l1,l2,l3,l4⟩:=hM.lm;have hlk:=hU3 s.name;have hk1:(s.kind==2)=false:=by rw [beq_eq_false_iff_ne];exact hk
 refine eV Tryz.X128 Tryz.func128 rfl Tryz.ntmps128 (by rw [Tryz.results128]) ?_;obtain ⟨fr0,H0,n0,df0⟩ := σ;simp only at hbx hU1 l1 l2 l3 l4 hK hKP hM ⊢;have e1:(N.m=n0)=False:=by simp;omega
 have e2:∀ k,(N.m=n0+k)=False:=fun k=>by simp;omega
 have e3:(N.m1=n0)=False:=by simp;omega
 have e4:∀ k,(N.m1=n0+k)=False:=fun k=>by simp;omega
 have o1:=bQ (n0:=n0+2) (q:=N.m) (by omega);have o2:=bQ (n0:=n0+2) (q:=N.m1) (by omega);refine aF (aB _ ?_);simp only [go_sem,simprocAttr,Nat.add_assoc];refine aF (aB _ ?_);simp only [go_sem,simprocAttr,hk1,Nat.left_eq_add];refine aF ?_;refine aB _ ?_;simp only [go_sem,simprocAttr];refine aQ 13 .done rfl (by kernel_rfl) (by kernel_rfl) (by decide) ?_;cases hsn:pR A s.name with
 | none =>
  rw [hsn] at hlk;simp only [go_sem,simprocAttr,e1,e2,e3,e4,hbx,hU1,hU2,hlk,Nat.add_assoc,Nat.left_eq_add];refine ⟨gL ?_,?_⟩
  ·simp only [fJ,gG,o1,o2,pT,Ry,Nat.reduceLeDiff,Nat.reduceLT,Nat.reduceSub,Nat.reduceAdd]
   kernel_rfl
  refine aF ?_;refine aF (aB _ ?_);simp only [go_sem,simprocAttr];refine eB (b:=true) rfl ?_;rw [if_pos rfl];refine aN 1 ?_;simp only [go_sem,simprocAttr];refine rT 44 45 rfl rfl rfl rfl rfl (u:=_) rfl (by intro m;exact fun h=>by cases h) (by show 45<76;omega) rfl ?_;intro fr;have hM1:=MixH.top hM (k:=n0) (.box [aA s.kind,cA s.name,aA s.pos.num,aA s.pos.den,aA s.speed.num,aA s.speed.den,aL s.smooth]) (Nat.le_refl _);have hM2:=MixH.top hM1 (k:=n0+1) (.box [aA 0,aA 0,aA 0,aA 0,aA 0]) (Nat.le_refl _);have hM3:=MixH.nx (MixH.top hM2 (k:=n0+12) (.box [cA ⟨#[]⟩, .t (.lit (.slice none 0 0))]) (by omega)) (show n0+12+1≤n0+15 by omega);exact ⟨rfl,hKP hsn _ (n0+15) (show n0≤n0+15 by omega) (fun q b _ hq=>aK hM2.wf (aK hM1.wf (aK hM.wf hq (Nat.le_refl _)) (Nat.le_refl _)) (by omega)) hM3⟩
 | some a =>
  rw [hsn] at hlk;have hK:=hK a hsn;have hmem:a∈A:=List.mem_of_find?_eq_some hsn;obtain ⟨h4,hlen⟩:=hA.four hmem;have hpc:=hA.pcm a hmem;obtain ⟨nm,L⟩:=a;simp only at h4 hlen hpc hK hlk;simp only [go_sem,simprocAttr,e1,e2,e3,e4,hbx,hU1,hU2,hlk,Nat.add_assoc,Nat.left_eq_add,kT,t16];refine ⟨gL ?_,?_⟩
  ·simp only [fJ,gG,o1,o2,pT,Ry,Nat.reduceLeDiff,Nat.reduceLT,Nat.reduceSub,Nat.reduceAdd]
   kernel_rfl
  have ww1:IntKind.i64.wrap 1=1:=by decide
  have ww2:IntKind.i64.wrap 2=2:=by decide
  have ww3:IntKind.i64.wrap 3=3:=by decide
  have ww4:IntKind.i64.wrap 4=4:=by decide
  have w01:IntKind.i64.wrap (0+1)=1:=by decide
  have w11:IntKind.i64.wrap (1+1)=2:=by decide
  have w21:IntKind.i64.wrap (2+1)=3:=by decide
  have w31:IntKind.i64.wrap (3+1)=4:=by decide
  have cD:=fun c=>MixH.top hM (k:=n0) c (Nat.le_refl _)
  rcases L with _ | ⟨p0,_ | ⟨p1,_ | ⟨p2,_ | ⟨p3,_ | ⟨p4,l⟩⟩⟩⟩⟩
  ·clear hlk;refine aB _ ?_;simp only [go_sem,simprocAttr,Nat.add_assoc,Nat.add_left_cancel_iff];refine bR ?_;refine aH (aB _ ?_);simp only [go_sem,simprocAttr,decide_false,Nat.add_left_cancel_iff];unfold uJ;simp only [go_sem,simprocAttr,Nat.add_left_cancel_iff];exact ⟨(nH hM _ _ _ _).1,hK _ (n0+16) (show n0≤n0+16 by omega) (nH hM _ _ _ _).1 (nH hM _ _ _ _).2⟩
  ·clear hlk;obtain ⟨ln0,le0⟩:=hlen p0 (by simp);have pb0:=fS (hpc p0 (by simp)).2 j;have wp0:=wrap64 (x:=aT p0 j) (by omega) (by omega);have le0:p0.length=p0.length:=le0;refine aB _ ?_;simp only [go_sem,simprocAttr,Nat.add_assoc,Nat.add_left_cancel_iff]
   by_cases hin : 0≤j∧j<p0.length
   ·have d1:decide (j ≥ 0)=true:=decide_eq_true hin.1;have lp0:decide (j<(p0.length:Int))=true:=decide_eq_true (by omega);have np0:=fun d=>jS (p:=p0) (j:=j) hin.1 (by omega) d
    refine bR ?_;refine aH (aB _ ?_);simp only [go_sem,simprocAttr,decide_true,ww1,d1,lp0,np0,wp0,jR];refine ⟨⟨hin.1,by omega⟩,?_⟩;refine aH (aB _ ?_);simp only [go_sem,simprocAttr,decide_false,Nat.add_left_cancel_iff];unfold uJ;simp only [go_sem,simprocAttr,Nat.add_left_cancel_iff];exact ⟨(nH hM _ _ _ _).1,hK _ (n0+16) (show n0≤n0+16 by omega) (nH hM _ _ _ _).1 (nH hM _ _ _ _).2⟩
   ·refine bR ?_;have z0:aT p0 j=0:=fQ (by omega);simp only [List.map_cons,List.map_nil,z0] at hK;refine aH (aB _ ?_);simp only [go_sem,simprocAttr,decide_true,jR];refine ⟨fun h=>(by simp only [Bool.and_eq_true,decide_eq_true_eq] at h;omega),fun _=>?_⟩;unfold awS;simp only [go_sem,simprocAttr,ww1];refine aH (aB _ ?_);simp only [go_sem,simprocAttr,decide_false,Nat.add_left_cancel_iff];unfold uJ;simp only [go_sem,simprocAttr,Nat.add_left_cancel_iff];exact ⟨(nH hM _ _ _ _).1,hK _ (n0+16) (show n0≤n0+16 by omega) (nH hM _ _ _ _).1 (nH hM _ _ _ _).2⟩
  ·clear hlk;obtain ⟨ln0,le0⟩:=hlen p0 (by simp);have pb0:=fS (hpc p0 (by simp)).2 j;have wp0:=wrap64 (x:=aT p0 j) (by omega) (by omega);obtain ⟨ln1,le1⟩:=hlen p1 (by simp);have pb1:=fS (hpc p1 (by simp)).2 j;have wp1:=wrap64 (x:=aT p1 j) (by omega) (by omega);have le0:p0.length=p0.length:=le0;have le1:p1.length=p0.length:=le1;refine aB _ ?_;simp only [go_sem,simprocAttr,Nat.add_assoc,Nat.add_left_cancel_iff]
   by_cases hin : 0≤j∧j<p0.length
   ·have d1:decide (j ≥ 0)=true:=decide_eq_true hin.1;have lp0:decide (j<(p0.length:Int))=true:=decide_eq_true (by omega);have np0:=fun d=>jS (p:=p0) (j:=j) hin.1 (by omega) d
    have lp1:decide (j<(p1.length:Int))=true:=decide_eq_true (by omega);have np1:=fun d=>jS (p:=p1) (j:=j) hin.1 (by omega) d
    refine bR ?_;refine aH (aB _ ?_);simp only [go_sem,simprocAttr,decide_true,ww1,d1,lp0,np0,wp0,jR];refine ⟨⟨hin.1,by omega⟩,?_⟩;refine aH (aB _ ?_);simp only [go_sem,simprocAttr,decide_true,ww2,d1,lp1,np1,wp1,sB];refine ⟨⟨hin.1,by omega⟩,?_⟩;refine aH (aB _ ?_);simp only [go_sem,simprocAttr,decide_false,Nat.add_left_cancel_iff];unfold uJ;simp only [go_sem,simprocAttr,Nat.add_left_cancel_iff];exact ⟨(nH hM _ _ _ _).1,hK _ (n0+16) (show n0≤n0+16 by omega) (nH hM _ _ _ _).1 (nH hM _ _ _ _).2⟩
   ·refine bR ?_;have z0:aT p0 j=0:=fQ (by omega);have z1:aT p1 j=0:=fQ (by omega);simp only [List.map_cons,List.map_nil,z0,z1] at hK;refine aH (aB _ ?_);simp only [go_sem,simprocAttr,decide_true,jR];refine ⟨fun h=>(by simp only [Bool.and_eq_true,decide_eq_true_eq] at h;omega),fun _=>?_⟩;unfold awS;simp only [go_sem,simprocAttr,ww1];refine aH (aB _ ?_);simp only [go_sem,simprocAttr,decide_true,sB];refine ⟨fun h=>(by simp only [Bool.and_eq_true,decide_eq_true_eq] at h;omega),fun _=>?_⟩;unfold awS;simp only [go_sem,simprocAttr,ww2];refine aH (aB _ ?_);simp only [go_sem,simprocAttr,decide_false,Nat.add_left_cancel_iff];unfold uJ;simp only [go_sem,simprocAttr,Nat.add_left_cancel_iff];exact ⟨(nH hM _ _ _ _).1,hK _ (n0+16) (show n0≤n0+16 by omega) (nH hM _ _ _ _).1 (nH hM _ _ _ _).2⟩
  ·clear hlk;obtain ⟨ln0,le0⟩:=hlen p0 (by simp);have pb0:=fS (hpc p0 (by simp)).2 j;have wp0:=wrap64 (x:=aT p0 j) (by omega) (by omega);obtain ⟨ln1,le1⟩:=hlen p1 (by simp);have pb1:=fS (hpc p1 (by simp)).2 j;have wp1:=wrap64 (x:=aT p1 j) (by omega) (by omega);obtain ⟨ln2,le2⟩:=hlen p2 (by simp);have pb2:=fS (hpc p2 (by simp)).2 j;have wp2:=wrap64 (x:=aT p2 j) (by omega) (by omega);have le0:p0.length=p0.length:=le0;have le1:p1.length=p0.length:=le1;have le2:p2.length=p0.length:=le2;refine aB _ ?_;simp only [go_sem,simprocAttr,Nat.add_assoc,Nat.add_left_cancel_iff]
   by_cases hin : 0≤j∧j<p0.length
   ·have d1:decide (j ≥ 0)=true:=decide_eq_true hin.1;have lp0:decide (j<(p0.length:Int))=true:=decide_eq_true (by omega);have np0:=fun d=>jS (p:=p0) (j:=j) hin.1 (by omega) d
    have lp1:decide (j<(p1.length:Int))=true:=decide_eq_true (by omega);have np1:=fun d=>jS (p:=p1) (j:=j) hin.1 (by omega) d
    have lp2:decide (j<(p2.length:Int))=true:=decide_eq_true (by omega);have np2:=fun d=>jS (p:=p2) (j:=j) hin.1 (by omega) d
    refine bR ?_;refine aH (aB _ ?_);simp only [go_sem,simprocAttr,decide_true,ww1,d1,lp0,np0,wp0,jR];refine ⟨⟨hin.1,by omega⟩,?_⟩;refine aH (aB _ ?_);simp only [go_sem,simprocAttr,decide_true,ww2,d1,lp1,np1,wp1,sB];refine ⟨⟨hin.1,by omega⟩,?_⟩;refine aH (aB _ ?_);simp only [go_sem,simprocAttr,decide_true,ww3,d1,lp2,np2,wp2,xV];refine ⟨⟨hin.1,by omega⟩,?_⟩;refine aH (aB _ ?_);simp only [go_sem,simprocAttr,decide_false,Nat.add_left_cancel_iff];unfold uJ;simp only [go_sem,simprocAttr,Nat.add_left_cancel_iff];exact ⟨(nH hM _ _ _ _).1,hK _ (n0+16) (show n0≤n0+16 by omega) (nH hM _ _ _ _).1 (nH hM _ _ _ _).2⟩
   ·refine bR ?_;have z0:aT p0 j=0:=fQ (by omega);have z1:aT p1 j=0:=fQ (by omega);have z2:aT p2 j=0:=fQ (by omega);simp only [List.map_cons,List.map_nil,z0,z1,z2] at hK;refine aH (aB _ ?_);simp only [go_sem,simprocAttr,decide_true,jR];refine ⟨fun h=>(by simp only [Bool.and_eq_true,decide_eq_true_eq] at h;omega),fun _=>?_⟩;unfold awS;simp only [go_sem,simprocAttr,ww1];refine aH (aB _ ?_);simp only [go_sem,simprocAttr,decide_true,sB];refine ⟨fun h=>(by simp only [Bool.and_eq_true,decide_eq_true_eq] at h;omega),fun _=>?_⟩;unfold awS;simp only [go_sem,simprocAttr,ww2];refine aH (aB _ ?_);simp only [go_sem,simprocAttr,decide_true,xV];refine ⟨fun h=>(by simp only [Bool.and_eq_true,decide_eq_true_eq] at h;omega),fun _=>?_⟩;unfold awS;simp only [go_sem,simprocAttr,ww3];refine aH (aB _ ?_);simp only [go_sem,simprocAttr,decide_false,Nat.add_left_cancel_iff];unfold uJ;simp only [go_sem,simprocAttr,Nat.add_left_cancel_iff];exact ⟨(nH hM _ _ _ _).1,hK _ (n0+16) (show n0≤n0+16 by omega) (nH hM _ _ _ _).1 (nH hM _ _ _ _).2⟩
  ·clear hlk;obtain ⟨ln0,le0⟩:=hlen p0 (by simp);have pb0:=fS (hpc p0 (by simp)).2 j;have wp0:=wrap64 (x:=aT p0 j) (by omega) (by omega);obtain ⟨ln1,le1⟩:=hlen p1 (by simp);have pb1:=fS (hpc p1 (by simp)).2 j;have wp1:=wrap64 (x:=aT p1 j) (by omega) (by omega);obtain ⟨ln2,le2⟩:=hlen p2 (by simp);have pb2:=fS (hpc p2 (by simp)).2 j;have wp2:=wrap64 (x:=aT p2 j) (by omega) (by omega);obtain ⟨ln3,le3⟩:=hlen p3 (by simp);have pb3:=fS (hpc p3 (by simp)).2 j;have wp3:=wrap64 (x:=aT p3 j) (by omega) (by omega);have le0:p0.length=p0.length:=le0;have le1:p1.length=p0.length:=le1;have le2:p2.length=p0.length:=le2;have le3:p3.length=p0.length:=le3;refine aB _ ?_;simp only [go_sem,simprocAttr,Nat.add_assoc,Nat.add_left_cancel_iff]
   by_cases hin : 0≤j∧j<p0.length
   ·have d1:decide (j ≥ 0)=true:=decide_eq_true hin.1;have lp0:decide (j<(p0.length:Int))=true:=decide_eq_true (by omega);have np0:=fun d=>jS (p:=p0) (j:=j) hin.1 (by omega) d
    have lp1:decide (j<(p1.length:Int))=true:=decide_eq_true (by omega);have np1:=fun d=>jS (p:=p1) (j:=j) hin.1 (by omega) d
    have lp2:decide (j<(p2.length:Int))=true:=decide_eq_true (by omega);have np2:=fun d=>jS (p:=p2) (j:=j) hin.1 (by omega) d
    have lp3:decide (j<(p3.length:Int))=true:=decide_eq_true (by omega);have np3:=fun d=>jS (p:=p3) (j:=j) hin.1 (by omega) d
    refine bR ?_;refine aH (aB _ ?_);simp only [go_sem,simprocAttr,decide_true,ww1,d1,lp0,np0,wp0,jR];refine ⟨⟨hin.1,by omega⟩,?_⟩;refine aH (aB _ ?_);simp only [go_sem,simprocAttr,decide_true,ww2,d1,lp1,np1,wp1,sB];refine ⟨⟨hin.1,by omega⟩,?_⟩;refine aH (aB _ ?_);simp only [go_sem,simprocAttr,decide_true,ww3,d1,lp2,np2,wp2,xV];refine ⟨⟨hin.1,by omega⟩,?_⟩;refine aH (aB _ ?_);simp only [go_sem,simprocAttr,decide_true,ww4,d1,lp3,np3,wp3,Lt];refine ⟨⟨hin.1,by omega⟩,?_⟩;refine aH (aB _ ?_);simp only [go_sem,simprocAttr,decide_false,Nat.add_left_cancel_iff];unfold uJ;simp only [go_sem,simprocAttr,Nat.add_left_cancel_iff];exact ⟨(nH hM _ _ _ _).1,hK _ (n0+16) (show n0≤n0+16 by omega) (nH hM _ _ _ _).1 (nH hM _ _ _ _).2⟩
   ·refine bR ?_;have z0:aT p0 j=0:=fQ (by omega);have z1:aT p1 j=0:=fQ (by omega);have z2:aT p2 j=0:=fQ (by omega);have z3:aT p3 j=0:=fQ (by omega);simp only [List.map_cons,List.map_nil,z0,z1,z2,z3] at hK;refine aH (aB _ ?_);simp only [go_sem,simprocAttr,decide_true,jR];refine ⟨fun h=>(by simp only [Bool.and_eq_true,decide_eq_true_eq] at h;omega),fun _=>?_⟩;unfold awS;simp only [go_sem,simprocAttr,ww1];refine aH (aB _ ?_);simp only [go_sem,simprocAttr,decide_true,sB];refine ⟨fun h=>(by simp only [Bool.and_eq_true,decide_eq_true_eq] at h;omega),fun _=>?_⟩;unfold awS;simp only [go_sem,simprocAttr,ww2];refine aH (aB _ ?_);simp only [go_sem,simprocAttr,decide_true,xV];refine ⟨fun h=>(by simp only [Bool.and_eq_true,decide_eq_true_eq] at h;omega),fun _=>?_⟩;unfold awS;simp only [go_sem,simprocAttr,ww3];refine aH (aB _ ?_);simp only [go_sem,simprocAttr,decide_true,Lt];refine ⟨fun h=>(by simp only [Bool.and_eq_true,decide_eq_true_eq] at h;omega),fun _=>?_⟩;unfold awS;simp only [go_sem,simprocAttr,ww4];refine aH (aB _ ?_);simp only [go_sem,simprocAttr,decide_false,Nat.add_left_cancel_iff];unfold uJ;simp only [go_sem,simprocAttr,Nat.add_left_cancel_iff];exact ⟨(nH hM _ _ _ _).1,hK _ (n0+16) (show n0≤n0+16 by omega) (nH hM _ _ _ _).1 (nH hM _ _ _ _).2⟩
  ·simp at h4
theorem rP {l:List Int} {k:Nat} (h:k<l.length) (d:List T):nth d (l.map dU) k=dU (l.getD k 0):=by
 unfold nth;rw [List.getElem?_map,List.getElem?_eq_getElem h,List.getD_eq_getElem?_getD,List.getElem?_eq_getElem h];rfl
theorem med_nth {l:List MediumR} {k:Nat} (h:k<l.length) (d:List T):nth d (l.map MediumR.c) k=MediumR.c (l.getD k default):=by
 unfold nth;rw [List.getElem?_map,List.getElem?_eq_getElem h,bD h];rfl
set_option maxHeartbeats 4000000 in
theorem Vv {p:ProjR} (hp:PrjV p) {A:List AudioR} (hA:AudP A) {nest:Nat→Int→Ev (List Int)} {i:Nat} (hN:aD8 p A nest i) (hB:NestB nest) {s:SourceR} (hs:SrcV p i s) (take:List Int) (ht:take.length≤4) {k:Rat} (hk:bV k=true) :
  aJ Tryz.prog 110 [Tv p A,dT s, .t (qR take),bK (ofQ k)] (xQ (aB7 p A nest s take k)):=by
 have hns:=fun ha j h1 h2=>cRNum p hA hN hs ha j h1 h2
 have hnb:=fun j l=>xT hA.toAudF hB (s:=s) (p:=p) (j:=j) (l:=l)
 obtain ⟨R,hR⟩:∃ R,R=aB7 p A nest s take k:=⟨_,rfl⟩
 rw [← hR];unfold aB7 uF at hR;refine aD Tryz.X110 Tryz.func110 rfl Tryz.ntmps110 (by rw [Tryz.results110]) (aB _ ?_);simp only [go_sem,simprocAttr];refine ⟨⟨by omega,by unfold maxLen;omega,by omega⟩,_,sQ s,?_⟩;simp only [go_sem,simprocAttr];refine ⟨fun hz=>?_,fun hz=>?_⟩
 ·rw [if_pos (yF hz)] at hR;rw [hR];unfold awS;unfold xQ;simp only [go_sem,simprocAttr];have e:List.replicate take.length [T.lit (.int .i64 0)]=List.map dU (List.map (fun c=>aT [] c) take):=by
   refine List.ext_getElem (by simp) fun i h1 h2=>?_
   simp only [List.getElem_replicate,List.getElem_map,pcm_nil];rfl
  rw [e];rfl
 have hk0:s.kind≠0:=by
  rcases isZ_k12 hz hs.ok with h | h<;>omega
 rw [if_neg hk0] at hR;obtain ⟨hvp,hvs⟩:cU s.pos=true∧cU s.speed=true:=by
  have:=hs.ok;unfold aX at this;rw [hz,Bool.false_or] at this;simp only [Bool.and_eq_true] at this;exact ⟨this.1.1.1.1.2,this.1.1.1.2⟩
 have fps:=Dq hs.fit.pos hvp;have c1:=aAs hk (Dq hs.fit.speed hvs);rw [Ct hvs] at c1;have c2:=fun z (hz:bV z=true)=>aPc fps hz
 rw [Ct hvp] at c2;unfold awS;simp only [go_sem,simprocAttr];refine ⟨fun h1 => ?ca,fun h1 => ?cb⟩
 case' ca =>
  simp only [bxx] at h1;obtain ⟨hk1,hm⟩:s.kind=1∧0≤Db p s.name:=by
   rcases hs.kind with h | h | h
   ·omega
   ·exact h
   ·omega
  obtain ⟨j,hjl,hji,hj⟩:=yM hm;have hji':kW (fun m:MediumR=>m.name.toList==s.name.toList) p.media=(j:Int):=hji;have hmi:Db p s.name=(j:Int):=hji;have cm:=Pd p s.name;rw [hji'] at cm;obtain ⟨hrv,hrf⟩:=hp.med _ (aR (d:=default) hjl);have hr:cF p s=(p.media.getD j default).seq.rate:=by
   unfold cF;rw [if_pos hk1,hmi,Int.toNat_natCast]
  have hmn:=fun d=>med_nth hjl d
  rw [hr] at hR;clear hji hm hj;generalize p.media.getD j default=m at *;refine aQ 13 .done rfl (by kernel_rfl) (by kernel_rfl) (by decide) ?_;simp only [go_sem,simprocAttr];refine ⟨_,cm,?_⟩;simp only [go_sem,simprocAttr,hmn];refine ⟨⟨by omega,by omega⟩,by kernel_rfl,?_⟩;generalize m.seq.rate=r at *
 case' cb =>
  simp only [bxx] at h1;obtain ⟨hk1,hm,hdp⟩:s.kind=2∧0≤fR p s.name∧dV p (fR p s.name)<dV p (i:Int):=by
   rcases hs.kind with h | h | h
   ·omega
   ·omega
   ·exact h
  obtain ⟨j,hjl,hji,_⟩:=kQ hm;have cm:=pG p s.name;have hji':kW (fun m:SequenceR=>m.name.toList==s.name.toList) p.seqs=(j:Int):=hji;rw [hji'] at cm;have hsv:=hp.seq j hjl;have hrv:=hsv.rate;have hrf:=hsv.fit.rate;have hr:cF p s=(p.seqs.getD j default).rate:=by
   unfold cF;rw [if_neg (by omega),hji,Int.toNat_natCast]
  have hmn:=fun d=>Cg hjl d
  rw [hr] at hR;clear hji hm hsv hdp;generalize p.seqs.getD j default=m at *;refine aQ 12 .done rfl (by kernel_rfl) (by kernel_rfl) (by decide) ?_;simp only [go_sem,simprocAttr];refine ⟨_,cm,?_⟩;simp only [go_sem,simprocAttr,hmn];refine ⟨⟨by omega,by omega⟩,by kernel_rfl,?_⟩;generalize m.rate=r at *
 all_goals
  have ca:=Te r hrf;refine ⟨_,ca,?_⟩;simp only [go_sem,simprocAttr];refine ⟨fun h2=>?_,fun h2=>?_⟩
  ·rw [if_pos (by simpa using h2)] at hR;dsimp only at hR;rw [hR];unfold awS;unfold xQ;simp only [go_sem,simprocAttr]
  have haud:aZ r=true:=by simpa using h2
  obtain ⟨n,d,en,ed,n1,n2,d1,d2,q1,q2,q3,q4⟩:=pE haud;rw [if_neg (by rw [haud];decide)] at hR;clear ca h2;unfold awS;simp only [go_sem,simprocAttr];refine ⟨_,c1,?_⟩;generalize k*toQ s.speed=z1 at *
  by_cases hf1:bV z1=true
  rotate_left
  ·rw [Bool.not_eq_true] at hf1;rw [if_pos hf1] at hR;dsimp only at hR;rw [hR,nP hf1];unfold xQ;simp only [go_sem,simprocAttr]
  rw [if_neg (by rw [hf1];decide)] at hR;rw [kD hf1];simp only [go_sem,simprocAttr];refine ⟨_,c2 z1 hf1,?_⟩;generalize toQ s.pos+z1=z2 at *
  by_cases hf2:bV z2=true
  rotate_left
  ·rw [Bool.not_eq_true] at hf2;rw [if_pos hf2] at hR;dsimp only at hR;rw [hR,nP hf2];unfold xQ;simp only [go_sem,simprocAttr]
  rw [if_neg (by rw [hf2];decide)] at hR;rw [kD hf2];have c3:=aAs q4 (zX (n:=48000) (by decide));rw [q1,zQ,q2,kD q3, ← en, ← ed] at c3;have c4:=aAs hf2 q3;simp only [go_sem,simprocAttr];refine ⟨_,c3,?_⟩;simp only [go_sem,simprocAttr];refine ⟨_,c4,?_⟩;generalize z2*fC r=y at *
  by_cases hf3:bV y=true
  rotate_left
  ·rw [Bool.not_eq_true] at hf3;rw [if_pos hf3] at hR;dsimp only at hR;rw [hR,nP hf3];unfold xQ;simp only [go_sem,simprocAttr]
  rw [if_neg (by rw [hf3];decide)] at hR;rw [kD hf3];obtain ⟨fy,vy⟩:=dN hf3;have c5:=cRFloor (ofQ y) fy vy;rw [Ub] at c5;simp only [go_sem,simprocAttr];refine ⟨_,c5,?_⟩;simp only [go_sem,simprocAttr];refine ⟨fun h3=>?_,fun h3=>?_⟩
  ·simp only [Bool.or_eq_true,decide_eq_true_eq] at h3;rw [if_pos (by omega)] at hR;dsimp only at hR;rw [hR];unfold awS;unfold xQ;simp only [go_sem,simprocAttr]
  simp only [Bool.or_eq_false_iff,decide_eq_false_iff_not] at h3;rw [if_neg (by omega)] at hR;obtain ⟨g1,g2⟩:=aN6 hf3;have c6:=cRSub hf3 (zX (n:=y.floor) (by omega));rw [kD g1,zQ,g2] at c6;have c7:=hns (by rw [hr];exact haud) y.floor (by omega) (by omega);have c8:=hns (by rw [hr];exact haud) (y.floor+1) (by omega) (by omega);have b7:=hnb y.floor;have b8:=hnb (y.floor+1);unfold aGb at hR;have hw1:IntKind.i64.wrap (y.floor+1)=y.floor+1:=wrap64 (by omega) (by omega);unfold awS;simp only [go_sem,simprocAttr];refine ⟨_,c7,?_⟩;cases hn1:pU p A nest s y.floor with
  | error e =>
   rw [hn1] at hR;dsimp only at hR;have he:(e != 0)=true:=by
    rw [bne_iff_ne];exact Cu hB (by assumption)
   rw [hR];unfold qH xQ;simp only [go_sem,simprocAttr,he]
  | ok a =>
  rw [hn1] at hR;dsimp only at hR;unfold qH t16;simp only [go_sem,simprocAttr,hw1];refine ⟨_,c8,?_⟩;cases hn2:pU p A nest s (y.floor+1) with
  | error e =>
   rw [hn2] at hR;dsimp only at hR;have he:(e != 0)=true:=by
    rw [bne_iff_ne];exact Cu hB (by assumption)
   rw [hR];unfold qH xQ;simp only [go_sem,simprocAttr,he]
  | ok b =>
  rw [hn2] at hR;dsimp only at hR;unfold qH t16;simp only [go_sem,simprocAttr];refine ⟨_,c6,?_⟩;obtain ⟨s1,s2⟩:=sW y;have b7':=b7 a hn1;have b8':=b8 b hn2;have hfl:take.map (fun c=>aT (Ge y a b) c)=eQ (fun i=>aT (Ge y a b) (take.getD i 0)) take.length take.length:=by
   rw [sK];exact (rW take 0 fun c=>aT (Ge y a b) c).symm
  obtain ⟨f,hf⟩:∃ f:Nat→Int,f=fun i=>aT (Ge y a b) (take.getD i 0):=⟨_,rfl⟩
  rw [← hf] at hfl;rw [hR,hfl];have bat:=bet_at y a b;obtain ⟨y1,y2⟩:=cX.1 hf3;have y3:=y.den_pos;clear c1 c2 c3 c4 c5 c6 c7 c8 hR hfl b7 b8 hns hnb;generalize y.num - y.floor*(y.den:Int)=m at *;generalize y.den=dd at *;unfold xQ;simp only [go_sem,simprocAttr];refine aE (fun (i:Nat) σ => qF 3 (.row 2 1 (dU 0) (aS ((eQ f take.length i).map dU))) (bM 24 (aA i) (aW [25,135,136,137,138,139,140,141,142,143,144,145,146,147,148,149,150,151,152,153,154,155,156,157,158,159,160,161,162,163,164,165,166,167,168,169,170,171,172,173,174,175,176,177,178,179,180] (bE σ)))) (fun i=>i≤take.length) (fun i=>take.length - i) 0 (aC ?_) (Nat.zero_le _) ?_
  ·simp only [go_sem,simprocAttr]
   repeat' apply And.intro
   all_goals first | exact (uX dU f _).symm | simp
  ·intro i hi;refine aB _ ?_;simp only [go_sem,simprocAttr];refine ⟨fun hlt=>?_,fun hge=>?_⟩
   ·simp only [bxx] at hlt;have hil:i<take.length:=by omega
    have hwi:IntKind.i64.wrap ((i:Int)+1)=((i+1:Nat):Int):=by rw [bF (by omega)];omega
    have hfi:f i=aT (Ge y a b) (take.getD i 0):=by rw [hf]
    have hcn:=rP hil;generalize take.getD i 0=c at *;rw [bat] at hfi;unfold awS;simp only [go_sem,simprocAttr,hcn];refine ⟨⟨by omega,by omega⟩,fun hc=>?_,fun hc=>?_⟩
    ·simp only [Bool.and_eq_true,decide_eq_true_eq] at hc;rw [if_pos (by omega)] at hfi;have na:=fun d=>jS (p:=a) (j:=c) (by omega) (by omega) d
     have nb:=fun d=>jS (p:=b) (j:=c) (by omega) (by omega) d
     obtain ⟨ba1,ba2⟩:=aQ5 b7' c;obtain ⟨bb1,bb2⟩:=aQ5 b8' c;generalize aT a c=u at *;generalize aT b c=v at *;have hsq:=eC (x:=v - u) s1 (show m≤(dd:Int) by omega) y3;have hnr:=dK (x:=v - u) s1 (show m≤(dd:Int) by omega) y3;have cn:=aAu (v - u) m dd ⟨by omega,by omega⟩ ⟨by omega,by omega⟩ y3 (by omega) ⟨by omega,by omega⟩;unfold kC at hfi;generalize fM (v - u) m dd=z at *;unfold awS;simp only [go_sem,simprocAttr];refine aQ 23 .done rfl (by kernel_rfl) (by kernel_rfl) (by decide) ?_;simp only [go_sem,simprocAttr,na,nb,wrap64 (x:=u) (by omega) (by omega),wrap64 (x:=v) (by omega) (by omega),wrap64 (x:=v - u) (by omega) (by omega)];refine ⟨⟨by omega,by omega⟩,⟨by omega,by omega⟩,⟨by omega,by omega⟩,_,cn,?_⟩;simp only [go_sem,simprocAttr,wrap64 (x:=u+z) (by omega) (by omega),mG];have hset:(List.map dU (eQ f take.length i)).set i [.lit (.int .i64 (u+z))]=List.map dU (eQ f take.length (i+1)):=yK dU f hil hfi.symm;refine ⟨⟨by omega,by omega⟩,hil,by kernel_rfl,i+1,aC ?_,by omega,by omega⟩;simp only [go_sem,simprocAttr,hwi,Qv,hset];simp
    ·rw [if_neg (by
      simp only [Bool.and_eq_false_iff,decide_eq_false_iff_not] at hc;omega)] at hfi
     unfold awS;simp only [go_sem,simprocAttr];refine ⟨i+1,aC ?_,by omega,by omega⟩;simp only [go_sem,simprocAttr,hwi,Sr f hfi];simp
   ·simp only [bxx] at hge;have:i=take.length:=by omega
    subst this;unfold awS;simp only [go_sem,simprocAttr]
    done
theorem zH (l:List Int):xQ (.ok l) = .tup [.t (qR l),aA 0]:=rfl
theorem Cm (e:Int):xQ (.error e) = .tup [.t (.lit (.slice none 0 0)),aA e]:=rfl
theorem xH {p:ProjR} {A:List AudioR} {nest:Nat→Int→Ev (List Int)} (hB:NestB nest) {s:SourceR} {k:Rat} {e:Int} (h:uF p A nest s k = .error e):e≠0:=by
 unfold uF at h
 repeat' split at h
 all_goals first
  | (cases h;done)
  | (injection h with h;omega)
  | skip
 unfold aGb at h;split at h
 ·rename_i hn;injection h with h;subst h;exact Cu hB hn
 ·split at h
  ·rename_i hn;injection h with h;subst h;exact Cu hB hn
  ·cases h
theorem xJ {p:ProjR} {A:List AudioR} (hA:AudP A) {nest:Nat→Int→Ev (List Int)} (hB:NestB nest) {s:SourceR} {k:Rat} {l:List Int} (h:uF p A nest s k = .ok l):Qk 262144 l∧l.length≤4:=by
 unfold uF at h;split at h
 ·injection h with h;subst h;exact ⟨fun u hu=>absurd hu (by simp),by simp⟩
 repeat' split at h
 all_goals first
  | (cases h;done)
  | skip
 generalize (toQ s.pos+k*toQ s.speed)*fC (cF p s)=y at h;unfold aGb at h;split at h
 ·cases h
 ·rename_i a ha;split at h
  ·cases h
  ·rename_i b hb;injection h with h;subst h;have b1:=xT hA.toAudF hB ha;have b2:=xT hA.toAudF hB hb;obtain ⟨s1,s2⟩:=sW y;have y3:=y.den_pos;refine ⟨fun u hu=>?_,?_⟩
   ·unfold Ge at hu;obtain ⟨i,hi,rfl⟩:=List.getElem_of_mem hu;rw [List.length_zipWith] at hi;rw [List.getElem_zipWith];have c1:=b1 _ (List.getElem_mem (show i<a.length by omega));have c2:=b2 _ (List.getElem_mem (show i<b.length by omega));generalize a[i]'(by omega)=u1 at *;generalize b[i]'(by omega)=u2 at *;unfold kC;have:=dK (x:=u2 - u1) s1 (show y.num - y.floor*(y.den:Int)≤(y.den:Int) by omega) y3;omega
   ·unfold Ge;rw [List.length_zipWith];unfold pU at ha;split at ha
    ·have:=(hB.ok _ _ _ ha).2;omega
    ·split at ha
     ·cases ha
     ·rename_i w hw;injection ha with ha;subst ha;have hm:w∈A:=List.mem_of_find?_eq_some hw;have:=(hA.four hm).1;rw [List.length_map];omega
theorem Wj (x:Int):I64 (IntKind.i64.wrap x):=by
 have e1:(2:Int) ^ IntKind.i64.bits=18446744073709551616:=by decide
 have e2:(2:Int) ^ (IntKind.i64.bits - 1)=9223372036854775808:=by decide
 unfold I64 IntKind.wrap;simp only [IntKind.signed,e1,e2,Bool.true_and,decide_eq_true_eq];split<;>omega
theorem cGain (z g:Int):aJ Tryz.prog 112 [aA (IntKind.i64.wrap (IntKind.i64.wrap (z*g)+2048)),aA 1,aA 4096] (.tup [aA (tH z g),aA (IntKind.i64.wrap (IntKind.i64.wrap (z*g)+2048) % 4096),aA 0]):=by
 have hx:=Wj (IntKind.i64.wrap (z*g)+2048);unfold tH;generalize IntKind.i64.wrap (IntKind.i64.wrap (z*g)+2048)=x at *;have hf:jV (x*1 / ((4096:Nat):Int))=true:=by
  obtain ⟨h1,h2⟩:=hx;unfold jV;rw [decide_eq_true (by omega),decide_eq_true (by omega)];rfl
 have h:=aAr x 1 4096 hx ⟨by decide,by decide⟩ (by decide) (by decide) hf;rw [Int.mul_one] at h;exact h
theorem Tw {p:ProjR} {A:List AudioR} {nest:Nat→Int→Ev (List Int)} {s:SourceR} {t:List Int} {k:Rat} {l:List Int} (h:uF p A nest s k = .ok l):aB7 p A nest s t k = .ok (t.map fun c=>aT l c):=by
 unfold aB7;rw [h]
theorem Tx {p:ProjR} {A:List AudioR} {nest:Nat→Int→Ev (List Int)} {s:SourceR} {t:List Int} {k:Rat} {e:Int} (h:uF p A nest s k = .error e):aB7 p A nest s t k = .error e:=by
 unfold aB7;rw [h]
theorem Ur {l t:List Int} {i:Nat} (h:i<t.length):(t.map fun c=>aT l c).getD i 0=aT l (t.getD i 0):=by
 simp only [List.getD_eq_getElem?_getD,List.getElem?_map,List.getElem?_eq_getElem h];rfl
theorem Pa {c:ClipR} (h:cZ c=true):c.chan.length≤4:=by
 unfold cZ wR nD at h;simp only [Bool.and_eq_true,decide_eq_true_eq] at h;exact h.1.1.1.2.1
theorem cRClip1 {p:ProjR} (hp:PrjV p) {A:List AudioR} (hA:AudP A) {nest:Nat→Int→Ev (List Int)} {i:Nat} (hN:aD8 p A nest i) (hB:NestB nest) {c:ClipR} (hc:ClpV p i c) (hk2:c.kind≠2) {k:Rat} (hk:bV k=true) :
  aJ Tryz.prog 65 [Tv p A,kZ c,bK (ofQ k)] (xQ (qU p A nest c k)):=by
 have h4:=Pa hc.ok;have cv:=Vv hp hA hN hB hc.a c.chan h4 hk;have kb:(c.kind==2)=false:=by rw [beq_eq_false_iff_ne];exact hk2
 obtain ⟨R,hR⟩:∃ R,R=qU p A nest c k:=⟨_,rfl⟩
 rw [← hR];unfold qU Cf at hR;rw [if_neg hk2] at hR;dsimp only at hR;refine aD Tryz.X65 Tryz.func65 rfl Tryz.ntmps65 (by rw [Tryz.results65]) (aB _ ?_);simp only [go_sem,simprocAttr,kb];refine ⟨_,cv,?_⟩;cases hs:uF p A nest c.a k with
 | error e =>
  have he:(e != 0)=true:=by
   rw [bne_iff_ne];exact xH hB hs
  rw [hs] at hR;dsimp only at hR;rw [hR,Tx hs,Cm];simp only [go_sem,simprocAttr,he]
 | ok a =>
 rw [hs] at hR;dsimp only at hR;rw [if_neg hk2] at hR;obtain ⟨ba,_⟩:=xJ hA hB hs;rw [hR,Tw hs,zH,zH];have hfl:Hu c 0 a []=eQ (fun i=>tH (aT a (c.chan.getD i 0)) c.gain) c.chan.length c.chan.length:=by
  rw [sK];unfold Hu aHb;simp only [if_neg hk2];exact (rW c.chan 0 fun ch=>tH (aT a ch) c.gain).symm
 rw [hfl];obtain ⟨f,hf⟩:∃ f:Nat→Int,f=fun i=>tH (aT a (c.chan.getD i 0)) c.gain:=⟨_,rfl⟩
 rw [← hf];obtain ⟨L,hL⟩:∃ L,L=c.chan.map fun ch=>aT a ch:=⟨_,rfl⟩
 have hLl:L.length=c.chan.length:=by rw [hL,List.length_map]
 rw [← hL];simp only [go_sem,simprocAttr,kb];refine ⟨⟨by omega,by unfold maxLen;omega,by omega⟩,?_⟩;refine aE (fun (i:Nat) σ => qF 4 (.row 2 1 (dU 0) (aS ((eQ f c.chan.length i).map dU))) (bM 15 (aA i) (aW [16,76,77,78,79,80,81,82,83,84,85,86,87,88,89,90,91,92,93,94,95,96,97,98,99,100,101,102,103,104,105,106,107,108,109,110,111,112,113,114] (bE σ)))) (fun i=>i≤c.chan.length) (fun i=>c.chan.length - i) 0 (aC ?_) (Nat.zero_le _) ?_
 ·simp only [go_sem,simprocAttr]
  repeat' apply And.intro
  all_goals first | exact (uX dU f _).symm | simp
 ·intro i hi;refine aB _ ?_;simp only [go_sem,simprocAttr,mG];refine ⟨fun hlt=>?_,fun hge=>?_⟩
  ·simp only [bxx] at hlt;have hil:i<c.chan.length:=by omega
   have hwi:IntKind.i64.wrap ((i:Int)+1)=((i+1:Nat):Int):=by rw [bF (by omega)];omega
   have hfi:f i=tH (aT a (c.chan.getD i 0)) c.gain:=by rw [hf]
   have hcn:=rP (show i<L.length by omega);rw [hL,Ur hil, ← hL] at hcn;generalize aT a (c.chan.getD i 0)=z at *;have hset:(List.map dU (eQ f c.chan.length i)).set i [.lit (.int .i64 (tH z c.gain))]=List.map dU (eQ f c.chan.length (i+1)):=yK dU f hil hfi.symm;unfold awS;simp only [go_sem,simprocAttr,kb,hcn];refine ⟨⟨by omega,by omega⟩,_,cGain z c.gain,?_⟩;simp only [go_sem,simprocAttr,mG];refine ⟨⟨by omega,by omega⟩,hil,i+1,aC ?_,by omega,by omega⟩;simp only [go_sem,simprocAttr,hwi,hset];simp
  ·simp only [bxx] at hge;have:i=c.chan.length:=by omega
   unfold awS;simp only [go_sem,simprocAttr];rw [this];try exact ⟨rfl,rfl⟩
set_option maxHeartbeats 4000000 in
theorem cRClip2 {p:ProjR} (hp:PrjV p) {A:List AudioR} (hA:AudP A) {nest:Nat→Int→Ev (List Int)} {i:Nat} (hN:aD8 p A nest i) (hB:NestB nest) {c:ClipR} (hc:ClpV p i c) (hk2:c.kind=2) {k:Rat} (hk:bV k=true) (hsh:∀ q,Cf c k = .ok q→0≤q.num∧q.num≤(q.den:Int)) :
  aJ Tryz.prog 65 [Tv p A,kZ c,bK (ofQ k)] (xQ (qU p A nest c k)):=by
 have h4:=Pa hc.ok;have cv:=Vv hp hA hN hB hc.a c.chan h4 hk;have cw:=Vv hp hA hN hB hc.b c.chan h4 hk;have kb:(c.kind==2)=true:=by rw [beq_iff_eq];exact hk2
 have hkk:dC c=true:=by
  have:=hc.ok;unfold cZ at this;rw [Bool.and_eq_true] at this;exact this.2
 unfold dC at hkk;rw [if_neg (by omega),if_neg (by omega),if_pos hk2] at hkk;unfold jN at hkk;simp only [Bool.and_eq_true,decide_eq_true_eq] at hkk;obtain ⟨⟨⟨⟨⟨s1,s2⟩,s3⟩,s4⟩,_⟩,_⟩:=hkk;have hl:=(eS hc.ok).1;obtain ⟨n,hn⟩:=eW (n:=c.total+1) (by omega);have e2:(c.total+1).toNat=n:=by omega
 obtain ⟨R,hR⟩:∃ R,R=qU p A nest c k:=⟨_,rfl⟩
 rw [← hR];unfold qU at hR;unfold Cf at hsh hR;rw [if_pos hk2,e2] at hR;rw [if_pos hk2,e2] at hsh;have c1:=aPc hk (zX (n:=c.off+1) (by omega));rw [zQ] at c1;have w1:IntKind.i64.wrap (c.off+1)=c.off+1:=wrap64 (by omega) (by omega);have w2:IntKind.i64.wrap (c.total+1)=(n:Int):=by rw [wrap64 (by omega) (by omega)];exact hn
 refine aD Tryz.X65 Tryz.func65 rfl Tryz.ntmps65 (by rw [Tryz.results65]) (aB _ ?_);simp only [go_sem,simprocAttr,kb,w1];refine ⟨_,c1,?_⟩;generalize k+((c.off+1:Int):Rat)=z1 at *
 by_cases hf1:bV z1=true
 rotate_left
 ·rw [Bool.not_eq_true] at hf1;rw [if_pos hf1] at hR;dsimp only at hR;rw [hR,nP hf1];unfold xQ;simp only [go_sem,simprocAttr]
 rw [if_neg (by rw [hf1];decide)] at hR hsh;rw [kD hf1];simp only [go_sem,simprocAttr,w2];refine ⟨_,cRDiv hf1 n (by omega) (by omega),?_⟩;generalize z1*inv n=q at *
 by_cases hf2:bV q=true
 rotate_left
 ·rw [Bool.not_eq_true] at hf2;rw [if_pos hf2] at hR;dsimp only at hR;rw [hR,nP hf2];unfold xQ;simp only [go_sem,simprocAttr]
 rw [if_neg (by rw [hf2];decide)] at hR hsh;rw [kD hf2];dsimp only at hR;obtain ⟨t1,t2⟩:=hsh q rfl;have y3:=q.den_pos;obtain ⟨y1,y2⟩:=cX.1 hf2;unfold ofQ;simp only [go_sem,simprocAttr];refine ⟨_,cv,?_⟩;cases hs:uF p A nest c.a k with
 | error e =>
  have he:(e != 0)=true:=by
   rw [bne_iff_ne];exact xH hB hs
  rw [hs] at hR;dsimp only at hR;rw [hR,Tx hs,Cm];simp only [go_sem,simprocAttr,he]
 | ok a =>
 rw [hs] at hR;dsimp only at hR;rw [if_pos hk2] at hR;rw [Tw hs,zH];simp only [go_sem,simprocAttr,kb];refine ⟨_,cw,?_⟩;cases hs2:uF p A nest c.b k with
 | error e =>
  have he:(e != 0)=true:=by
   rw [bne_iff_ne];exact xH hB hs2
  rw [hs2] at hR;dsimp only at hR;rw [hR,Tx hs2,Cm];simp only [go_sem,simprocAttr,he]
 | ok b =>
 rw [hs2] at hR;dsimp only at hR;obtain ⟨ba,_⟩:=xJ hA hB hs;obtain ⟨bb,_⟩:=xJ hA hB hs2;rw [hR,Tw hs2,zH,zH];have hfl:Hu c q a b=eQ (fun i=>tH (aT a (c.chan.getD i 0)+fM (aT b (c.chan.getD i 0) - aT a (c.chan.getD i 0)) q.num q.den) c.gain) c.chan.length c.chan.length:=by
  rw [sK];unfold Hu aHb;simp only [if_pos hk2];exact (rW c.chan 0 fun ch=>tH (aT a ch+fM (aT b ch - aT a ch) q.num q.den) c.gain).symm
 rw [hfl];obtain ⟨f,hf⟩:∃ f:Nat→Int,f=fun i=>tH (aT a (c.chan.getD i 0)+fM (aT b (c.chan.getD i 0) - aT a (c.chan.getD i 0)) q.num q.den) c.gain:=⟨_,rfl⟩
 rw [← hf];obtain ⟨L,hL⟩:∃ L,L=c.chan.map fun ch=>aT a ch:=⟨_,rfl⟩
 have hLl:L.length=c.chan.length:=by rw [hL,List.length_map]
 obtain ⟨M,hM⟩:∃ M,M=c.chan.map fun ch=>aT b ch:=⟨_,rfl⟩
 have hMl:M.length=c.chan.length:=by rw [hM,List.length_map]
 rw [← hL, ← hM];clear cv cw hR hsh c1 hfl;simp only [go_sem,simprocAttr];refine ⟨⟨by omega,by unfold maxLen;omega,by omega⟩,?_⟩;refine aE (fun (i:Nat) σ => qF 5 (.row 2 1 (dU 0) (aS ((eQ f c.chan.length i).map dU))) (bM 15 (aA i) (aW [16,76,77,78,79,80,81,82,83,84,85,86,87,88,89,90,91,92,93,94,95,96,97,98,99,100,101,102,103,104,105,106,107,108,109,110,111,112,113,114] (bE σ)))) (fun i=>i≤c.chan.length) (fun i=>c.chan.length - i) 0 (aC ?_) (Nat.zero_le _) ?_
 ·simp only [go_sem,simprocAttr]
  repeat' apply And.intro
  all_goals first | exact (uX dU f _).symm | simp
 ·intro i hi;refine aB _ ?_;simp only [go_sem,simprocAttr,mG];refine ⟨fun hlt=>?_,fun hge=>?_⟩
  ·simp only [bxx] at hlt;have hil:i<c.chan.length:=by omega
   have hwi:IntKind.i64.wrap ((i:Int)+1)=((i+1:Nat):Int):=by rw [bF (by omega)];omega
   have hfi:f i=tH (aT a (c.chan.getD i 0)+fM (aT b (c.chan.getD i 0) - aT a (c.chan.getD i 0)) q.num q.den) c.gain:=by rw [hf]
   have hcn:=rP (show i<L.length by omega);rw [hL,Ur hil, ← hL] at hcn;have hdn:=rP (show i<M.length by omega);rw [hM,Ur hil, ← hM] at hdn;obtain ⟨u1,u2⟩:=uM ba (by omega) (c.chan.getD i 0);obtain ⟨v1,v2⟩:=uM bb (by omega) (c.chan.getD i 0);generalize aT a (c.chan.getD i 0)=u at *;generalize aT b (c.chan.getD i 0)=v at *;have hsq:=eC (x:=v - u) t1 t2 y3;have hnr:=dK (x:=v - u) t1 t2 y3;have cn:=aAu (v - u) q.num q.den ⟨by omega,by omega⟩ ⟨by omega,by omega⟩ y3 (by omega) ⟨by omega,by omega⟩;generalize fM (v - u) q.num q.den=z at *;have hset:(List.map dU (eQ f c.chan.length i)).set i [.lit (.int .i64 (tH (u+z) c.gain))]=List.map dU (eQ f c.chan.length (i+1)):=yK dU f hil hfi.symm;unfold awS;simp only [go_sem,simprocAttr,kb,hcn];refine ⟨⟨by omega,by omega⟩,?_⟩;refine aQ 14 .done rfl (by kernel_rfl) (by kernel_rfl) (by decide) ?_;simp only [go_sem,simprocAttr,hcn,hdn,wrap64 (x:=v - u) (by omega) (by omega)];refine ⟨⟨by omega,by omega⟩,⟨by omega,by omega⟩,_,cn,?_⟩;simp only [go_sem,simprocAttr,wrap64 (x:=u+z) (by omega) (by omega)];refine ⟨by kernel_rfl,?_⟩;refine ⟨_,cGain (u+z) c.gain,?_⟩;simp only [go_sem,simprocAttr,mG];refine ⟨⟨by omega,by omega⟩,hil,i+1,aC ?_,by omega,by omega⟩;simp only [go_sem,simprocAttr,hwi,hset];simp
  ·simp only [bxx] at hge;have:i=c.chan.length:=by omega
   unfold awS;simp only [go_sem,simprocAttr];rw [this];try exact ⟨rfl,rfl⟩
def sJ (f h:Nat→Int) (n i:Nat):List Int:=(List.range n).map fun j=>if j<i then f j else h j
theorem aHz (f h:Nat→Int) (n i:Nat):(sJ f h n i).length=n:=by unfold sJ;simp
theorem aHy (f h:Nat→Int) {n i:Nat} (hi:i<n):(sJ f h n i).getD i 0=h i:=by
 unfold sJ;rw [List.getD_eq_getElem?_getD,List.getElem?_map,List.getElem?_range hi];show (if i<i then f i else h i)=h i
 rw [if_neg (by omega)]
theorem aHx {α : Type} (c:Int → α) (f h:Nat→Int) {n i:Nat} (hi:i<n) {z:Int} (hz:z=f i):((sJ f h n i).map c).set i (c z)=(sJ f h n (i+1)).map c:=by
 subst hz;unfold sJ;refine List.ext_getElem (by simp) fun j h1 h2=>?_
 rw [List.getElem_set]
 by_cases hj:i=j
 ·subst hj;simp
 ·rw [if_neg hj];simp only [List.getElem_map,List.getElem_range];congr 1
  by_cases h3:j<i
  ·rw [if_pos h3,if_pos (by omega)]
  ·rw [if_neg h3,if_neg (by omega)]
theorem aGv (l:List Int):(List.range l.length).map (fun i=>l.getD i 0)=l:=by
 refine List.ext_getElem (by simp) fun i h1 h2=>?_
 simp only [List.getElem_map,List.getElem_range];rw [List.getD_eq_getElem?_getD,List.getElem?_eq_getElem h2];rfl
theorem aCk (f:Nat→Int) (l:List Int):sJ f (fun j=>l.getD j 0) l.length 0=l:=by
 unfold sJ;refine Eq.trans ?_ (aGv l);refine List.map_congr_left fun j _=>?_
 rw [if_neg (by omega)]
theorem aCm (f h:Nat→Int) (n:Nat):sJ f h n n=(List.range n).map f:=by
 unfold sJ;refine List.map_congr_left fun j hj=>?_
 rw [if_pos (List.mem_range.1 hj)]
theorem aD7 (a g:List Int) (h:g.length=a.length):(List.range a.length).map (fun j=>IntKind.i64.wrap (a.getD j 0+g.getD j 0))=Bu a g:=by
 unfold Bu;refine List.ext_getElem (by simp [h]) fun i h1 h2=>?_
 rw [List.length_map,List.length_range] at h1;simp only [List.getElem_map,List.getElem_range,List.getElem_zipWith];simp only [List.getD_eq_getElem?_getD,List.getElem?_eq_getElem h1,List.getElem?_eq_getElem (show i<g.length by omega)];rfl
theorem Pk (a g:List Int) (h:g.length=a.length):(Bu a g).length=a.length:=by
 unfold Bu;rw [List.length_zipWith];omega
theorem Yu (c:ClipR) (q:Rat) (a b:List Int):(Hu c q a b).length=c.chan.length:=by
 unfold Hu;rw [List.length_map]
theorem Fy {p:ProjR} {A:List AudioR} {nest:Nat→Int→Ev (List Int)} {c:ClipR} {k:Rat} {g:List Int} (h:qU p A nest c k = .ok g):g.length=c.chan.length:=by
 unfold qU at h
 repeat' split at h
 all_goals first
  | (cases h;done)
  | (injection h with h;subst h;exact Yu _ _ _ _)
theorem Sz {p:ProjR} {A:List AudioR} {nest:Nat→Int→Ev (List Int)} (hB:NestB nest) {c:ClipR} {k:Rat} {e:Int} (h:qU p A nest c k = .error e):e≠0:=by
 unfold qU at h;split at h
 ·rename_i hs;injection h with h;subst h;unfold Cf at hs
  repeat' split at hs
  all_goals first
   | (injection hs with hs;omega)
   | (cases hs;done)
 ·split at h
  ·rename_i hs;injection h with h;subst h;exact xH hB hs
  ·split at h
   ·split at h
    ·rename_i hs;injection h with h;subst h;exact xH hB hs
    ·cases h
   ·cases h
theorem Sh {r:RatR} (ha:aZ r=true) {t:Int} {T:List ClipR} (hv:cG T=true) {c:ClipR} {b:Int} (hh:Qb T (qL r t)=some (c,b)):∀ q,Cf c (qS r t - (b:Rat)) = .ok q→0≤q.num∧q.num≤(q.den:Int):=by
 intro q hq;obtain ⟨hm,_,_,h1,h2,_⟩:=Dm hv hh;unfold Cf at hq;split at hq
 ·rename_i hk
  repeat' split at hq
  all_goals first
   | (cases hq;done)
   | skip
  injection hq with hq;subst hq;have hvc:=(mA hv).2.1 c hm;obtain ⟨q0,q1⟩:=aGp ha (t:=t) hvc hk ⟨h1,h2⟩;exact share01 q0 q1
 ·injection hq with hq;subst hq;exact ⟨by decide,by decide⟩
theorem cRClipA {p:ProjR} (hp:PrjV p) {A:List AudioR} (hA:AudP A) {nest:Nat→Int→Ev (List Int)} {i:Nat} (hN:aD8 p A nest i) (hB:NestB nest) {c:ClipR} (hc:ClpV p i c) {k:Rat} (hk:bV k=true) (hsh:∀ q,Cf c k = .ok q→0≤q.num∧q.num≤(q.den:Int)) :
  aJ Tryz.prog 65 [Tv p A,kZ c,bK (ofQ k)] (xQ (qU p A nest c k)):=by
 by_cases h:c.kind=2
 ·exact cRClip2 hp hA hN hB hc h hk hsh
 ·exact cRClip1 hp hA hN hB hc h hk
theorem Wx {p:ProjR} {A:List AudioR} {nest:Nat→Int→Ev (List Int)} {x:Rat} {f:Int} {ts:List (List ClipR)} {k:Nat} (h:k<ts.length) (acc:List Int):vJ p A nest x f (ts.drop k) acc=match Km p A nest x f acc (ts.getD k []) with
  | .error e => .error e
  | .ok a=>vJ p A nest x f (ts.drop (k+1)) a:=by
 have e:ts.drop k=ts.getD k []::ts.drop (k+1):=by
  rw [List.drop_eq_getElem_cons h,List.getD_eq_getElem?_getD,List.getElem?_eq_getElem h];rfl
 rw [e];rfl
theorem aKm {r:RatR} (h:aZ r=true) (t:Int):(t:Rat) / (((48000:Nat):Int):Rat)*toQ r=qS r t:=by
 obtain ⟨_,hv,hn,hd,_⟩:=pJ h;rw [toQ_div hv];have hd:=rat_ne (show r.den≠0 by omega);have e:(((48000:Nat):Int):Rat)=48000:=rfl;unfold qS;rw [e]
 grind
theorem aE9 {r:RatR} (ha:aZ r=true) {t:Int} (ht : -1099511627776≤t∧t≤1099511627776):I64 (qL r t):=by
 obtain ⟨_,_,hn,hd,_⟩:=pJ ha;have a1:(2*t+1).natAbs≤2199023255553:=by omega
 have a2:r.num.natAbs≤1048576:=by omega
 have a3:((2*t+1)*r.num).natAbs≤2199023255553*1048576:=by rw [Int.natAbs_mul];exact Nat.mul_le_mul a1 a2
 unfold qL;have h:=Int.natAbs_ediv_le_natAbs ((2*t+1)*r.num - 1) (96000*r.den);generalize ((2*t+1)*r.num - 1) / (96000*r.den)=q at *;generalize (2*t+1)*r.num=z at *;unfold I64;omega
theorem rep_int (m:Nat):List.replicate m [T.lit (.int .i64 0)]=List.map dU (List.replicate m 0):=by
 rw [List.map_replicate];rfl
theorem Wt {l:List (List ClipR)} {k:Nat} (h:k<l.length) (d:List T):nth d (l.map nE) k=nE (l.getD k []):=by
 unfold nth;rw [List.getElem?_map,List.getElem?_eq_getElem h,List.getD_eq_getElem?_getD,List.getElem?_eq_getElem h];rfl
theorem clp_nth {l:List ClipR} {k:Nat} (h:k<l.length) (d:List T):nth d (l.map ClipR.c) k=ClipR.c (l.getD k default):=by
 unfold nth;rw [List.getElem?_map,List.getElem?_eq_getElem h,bD h];rfl
set_option maxHeartbeats 4000000 in
theorem aAq {p:ProjR} (hp:PrjV p) {A:List AudioR} (hA:AudP A) {nest:Nat→Int→Ev (List Int)} {i:Nat} (hi:i<p.seqs.length) (hN:aD8 p A nest i) (hB:NestB nest) (ha:aZ (p.seqs.getD i default).rate=true) (t:Int) (ht : -1099511627776≤t∧t≤1099511627776) :
  aJ Tryz.prog 30 [Tv p A,cT (p.seqs.getD i default),aA t] (qH (Ad p A nest (p.seqs.getD i default) t)):=by
 obtain ⟨hrv,hfit,hch,h8,htrk⟩:=hp.seq i hi;have hmem:∀ T∈(p.seqs.getD i default).sound, ∀ c∈T,c.kind≠0→(c.chan.length:Int)=(p.seqs.getD i default).channels:=fun T hT c hc hk=>by
  rcases ((htrk T hT).2 c hc).kind with h | h
  ·exact absurd h hk
  ·exact h.2
 generalize p.seqs.getD i default=s at *;obtain ⟨usa,_,hn,hd,_⟩:=pJ ha;obtain ⟨m,hm⟩:=eW (n:=s.channels) (by omega);have hmt:s.channels.toNat=m:=by omega
 obtain ⟨R,hR⟩:∃ R,R=Ad p A nest s t:=⟨_,rfl⟩
 rw [← hR];unfold Ad at hR;rw [hmt] at hR;have co:=cROwner t s.rate hfit.rate usa ht;have c1:=cROf t 48000 (by decide) (by omega) (by decide);have f1:bV ((t:Rat) / (((48000:Nat):Int):Rat))=true:=Vr (Jg t 48000 (by decide)) (by omega) (by decide);have c2:=aAs f1 (Dq hfit.rate hrv);have tf:=Wv ha (t:=t) (by omega);rw [aKm ha t,Ct hrv,kD tf] at c2;have hw:=fun (T:List ClipR) (hv:cG T=true) (c:ClipR) (b:Int) hh=>Sh ha (t:=t) hv (c:=c) (b:=b) hh
 have hfi:I64 (qL s.rate t):=aE9 ha ht;generalize hx:qS s.rate t=x at *;generalize qL s.rate t=f at *;refine aD Tryz.X30 Tryz.func30 rfl Tryz.ntmps30 (by rw [Tryz.results30]) (aB _ ?_);simp only [go_sem,simprocAttr,hm];refine ⟨⟨by omega,by unfold maxLen;omega,by omega⟩,?_⟩;refine ⟨_,co,?_⟩;simp only [go_sem,simprocAttr];refine ⟨_,c1,?_⟩;simp only [go_sem,simprocAttr];refine ⟨_,c2,?_⟩;simp only [go_sem,simprocAttr];clear c1 c2 co;refine aE (fun (y:Nat×List Int) σ => qF 2 (.row 2 1 (dU 0) (aS (y.2.map dU))) (bM 15 (aA y.1) (aW [16,17,18,19,20,21,22,23,50,51,52,53,54,55,56,57,58,59,60,61,62,63,64,65,66,67,68,69,70,71,72,73,74,75,76,77,78,79,80,81,82,83,84,85,86,87,88,89,90,91,92,93,94,95,96,97,98,99,100,101,102,103,104,105,106,107,108,109,110,111,112,113,114,115,116,117,118,119,120,121,122,123,124,125,126,127,128] (bE σ)))) (fun y=>y.1≤s.sound.length∧y.2.length=m∧vJ p A nest x f s.sound (List.replicate m 0)=vJ p A nest x f (s.sound.drop y.1) y.2) (fun y=>s.sound.length - y.1) (0,List.replicate m 0) (aC ?_) ⟨Nat.zero_le _,by simp,rfl⟩ ?_
 ·simp only [go_sem,simprocAttr]
  repeat' apply And.intro
  all_goals first | exact rep_int m | simp
 ·rintro ⟨k,acc⟩ ⟨hk,hacc,hsum⟩;simp only at hk hacc hsum;refine aB _ ?_;simp only [go_sem,simprocAttr];refine ⟨fun hlt=>?_,fun hge=>?_⟩
  ·simp only [bxx] at hlt;have hkl:k<s.sound.length:=by omega
   have hwk:IntKind.i64.wrap ((k:Int)+1)=((k+1:Nat):Int):=by rw [bF (by omega)];omega
   have hT:=aR (d:=[]) hkl;obtain ⟨hv,hcl⟩:=htrk _ hT;have hmT:=hmem _ hT;have hTn:=Wt hkl;rw [Wx hkl] at hsum;unfold Km at hsum;obtain ⟨tr,hte⟩:∃ tr,s.sound.getD k []=tr:=⟨_,rfl⟩
   rw [hte] at hT hv hcl hmT hsum;simp only [hte] at hTn;have cf:=cRFind tr f hfi fun c hc=>(hcl c hc).fit
   rcases hit_cases hv f with ⟨hh,_,hfo⟩ | ⟨j,hjl,hf0,hb1,hb2,hfe,hh⟩
   ·rw [hh] at hsum;dsimp only at hsum;generalize nB tr f=r at *;obtain ⟨r1,r2,r3⟩:=r;simp only at hfo;subst hfo;unfold awS;simp only [go_sem,simprocAttr,hTn];refine ⟨⟨by omega,by omega⟩,_,cf,?_⟩;simp only [go_sem,simprocAttr];refine ⟨False.elim,False.elim,(k+1,acc),aC ?_,⟨by show k+1≤_;omega,hacc,hsum⟩,by show _ - (k+1)<_;omega⟩;simp only [go_sem,simprocAttr,hwk];simp
   ·rw [hfe] at cf;have hcn:=fun d=>clp_nth hjl d
    have hcm:=aR (d:=default) hjl;have hcv:=hcl _ hcm;have hmc:=hmT _ hcm;have hw1:=hw tr hv;have hsm:=fun c b=>Dm hv (f:=f) (c:=c) (b:=b)
    generalize tr.getD j default=c at *
    by_cases hk0:c.kind=0
    ·rw [hh,if_pos hk0] at hsum;dsimp only at hsum;unfold awS;simp only [go_sem,simprocAttr,hTn];refine ⟨⟨by omega,by omega⟩,_,cf,?_⟩;simp only [go_sem,simprocAttr,hTn,hcn,hk0];refine ⟨⟨by omega,by omega⟩,⟨by omega,by omega⟩,(k+1,acc),aC ?_,⟨by show k+1≤_;omega,hacc,hsum⟩,by show _ - (k+1)<_;omega⟩;simp only [go_sem,simprocAttr,hwk];simp
    ·rw [hh,if_neg hk0] at hsum;dsimp only at hsum;rw [if_neg hk0] at hh;have hk0b:(c.kind==0)=false:=by rw [beq_eq_false_iff_ne];exact hk0
     obtain ⟨_,_,b0,_,_,b3⟩:=hsm c _ hh;have hw2:=hw1 c _ hh;have hcl2:=hmc hk0;generalize bZ (List.take j tr)=b at *;have w1:IntKind.i64.wrap (f - (f - b))=b:=by rw [wrap64 (by omega) (by omega)];omega
     have c5:=cRSub tf (zX (n:=b) (by omega));rw [zQ] at c5;generalize x - (b:Rat)=z at *;unfold awS;simp only [go_sem,simprocAttr,hTn];refine ⟨⟨by omega,by omega⟩,_,cf,?_⟩;simp only [go_sem,simprocAttr,hTn,hcn,hk0b,w1];refine ⟨⟨by omega,by omega⟩,⟨by omega,by omega⟩,⟨by omega,by omega⟩,⟨by omega,by omega⟩,_,c5,?_⟩
     by_cases hfz:bV z=true
     rotate_left
     ·rw [Bool.not_eq_true] at hfz;rw [if_pos hfz] at hsum;dsimp only at hsum;rw [hsum] at hR;dsimp only at hR;rw [hR,nP hfz];unfold qH;simp only [go_sem,simprocAttr]
     rw [if_neg (by rw [hfz];decide)] at hsum;rw [kD hfz];simp only [go_sem,simprocAttr];refine ⟨_,cRClipA hp hA hN hB hcv hfz hw2,?_⟩;cases hx2:qU p A nest c z with
     | error e =>
      have he:(e != 0)=true:=by
       rw [bne_iff_ne];exact Sz hB hx2
      rw [hx2] at hsum;dsimp only at hsum;rw [hsum] at hR;dsimp only at hR;rw [hR,Cm];unfold qH;simp only [go_sem,simprocAttr,he]
     | ok g =>
     rw [hx2] at hsum;dsimp only at hsum;have hgl:g.length=acc.length:=by rw [Fy hx2];omega
     have hadd:=aD7 acc g hgl;have hal:=Pk acc g hgl;rw [zH];obtain ⟨fa,hfa⟩:∃ fa:Nat→Int,fa=fun j=>IntKind.i64.wrap (acc.getD j 0+g.getD j 0):=⟨_,rfl⟩
     obtain ⟨fh,hfh⟩:∃ fh:Nat→Int,fh=fun j=>acc.getD j 0:=⟨_,rfl⟩
     have hz0:=aCk fa acc;have hfu:=aCm fa fh acc.length;rw [← hfa] at hadd;rw [← hfh] at hz0;rw [hadd] at hfu;rw [hacc] at hz0 hfu hgl hal;simp only [go_sem,simprocAttr];refine aE (fun (q:Nat) σ => qF 2 (.row 2 1 (dU 0) (aS ((sJ fa fh m q).map dU))) (bM 23 (aA q) (aW [111,112,113,114,115,116,117,118,119,120,121,122,123,124,125,126,127,128] (bE σ)))) (fun q=>q≤m) (fun q=>m - q) 0 (aC ?_) (Nat.zero_le _) ?_
     ·simp only [go_sem,simprocAttr,hz0];simp
     ·intro q hq;refine aB _ ?_;simp only [go_sem,simprocAttr];refine ⟨fun hlt2=>?_,fun hge2=>?_⟩
      ·simp only [bxx] at hlt2;have hql:q<m:=by omega
       have hwq:IntKind.i64.wrap ((q:Int)+1)=((q+1:Nat):Int):=by rw [bF (by omega)];omega
       have hgn:=rP (show q<g.length by omega);unfold awS;simp only [go_sem,simprocAttr];refine aQ 13 .done rfl (by kernel_rfl) (by kernel_rfl) (by decide) ?_;simp only [go_sem,simprocAttr,hgn,aHz];have hset:(List.map dU (sJ fa fh m q)).set q [.lit (.int .i64 (IntKind.i64.wrap ((sJ fa fh m q).getD q 0+g.getD q 0)))]=List.map dU (sJ fa fh m (q+1)):=aHx dU fa fh hql (by rw [aHy _ _ hql,hfh,hfa]);refine ⟨⟨by omega,by omega⟩,hql,⟨by omega,by omega⟩,⟨by omega,by omega⟩,hql,by kernel_rfl,q+1,aC ?_,by omega,by omega⟩;simp only [go_sem,simprocAttr,hwq,Qv,hset];simp
      ·simp only [bxx] at hge2;have hqm:q=m:=by omega
       subst hqm;unfold awS;simp only [go_sem,simprocAttr];refine ⟨(k+1,Bu acc g),aC ?_,⟨by show k+1≤_;omega,hal,hsum⟩,by show _ - (k+1)<_;omega⟩;simp only [go_sem,simprocAttr,hwk,hfu];simp
  ·simp only [bxx] at hge;rw [List.drop_of_length_le (by omega)] at hsum;rw [hsum] at hR;unfold vJ at hR;dsimp only at hR;rw [hR];have hfl:acc.map tU=eQ (fun j=>tU (acc.getD j 0)) m m:=by
    rw [sK, ← hacc];exact (rW acc 0 tU).symm
   obtain ⟨fc,hfc⟩:∃ fc:Nat→Int,fc=fun j=>tU (acc.getD j 0):=⟨_,rfl⟩
   rw [hfl, ← hfc];unfold qH t16;unfold awS;simp only [go_sem,simprocAttr];refine ⟨⟨by omega,by unfold maxLen;omega,by omega⟩,?_⟩;refine aE (fun (q:Nat) σ => qF 5 (.row 76 1 (c16 0) (aS ((eQ fc m q).map c16))) (bM 25 (aA q) (aW [132,133,134,135,136,137,138,139,140,141,142,143,144,145,146,147] (bE σ)))) (fun q=>q≤m) (fun q=>m - q) 0 (aC ?_) (Nat.zero_le _) ?_
   ·simp only [go_sem,simprocAttr]
    repeat' apply And.intro
    all_goals first | exact (uX c16 fc _).symm | simp
   ·intro q hq;refine aB _ ?_;simp only [go_sem,simprocAttr];refine ⟨fun hlt2=>?_,fun hge2=>?_⟩
    ·simp only [bxx] at hlt2;have hql:q<m:=by omega
     have hwq:IntKind.i64.wrap ((q:Int)+1)=((q+1:Nat):Int):=by rw [bF (by omega)];omega
     have hgn:=rP (show q<acc.length by omega);unfold awS;simp only [go_sem,simprocAttr,hgn,mG];have hfq:fc q=max (-32768) (min 32767 (acc.getD q 0)):=by rw [hfc];rfl
     have w16:IntKind.i16.wrap (max (-32768) (min 32767 (acc.getD q 0)))=max (-32768) (min 32767 (acc.getD q 0)):=aK2 (by omega) (by omega);have hset:(List.map c16 (eQ fc m q)).set q [.lit (.int .i16 (max (-32768) (min 32767 (acc.getD q 0))))]=List.map c16 (eQ fc m (q+1)):=yK c16 fc hql hfq.symm;refine ⟨⟨by omega,by omega⟩,by omega,⟨by omega,by omega⟩,hql,q+1,aC ?_,by omega,by omega⟩;simp only [go_sem,simprocAttr,hwq,w16,hset];simp
    ·simp only [bxx] at hge2;have hqm:q=m:=by omega
     subst hqm;unfold awS;simp only [go_sem,simprocAttr];try exact ⟨rfl,rfl⟩
theorem addE_le (a g:List Int):(Bu a g).length≤a.length:=by
 unfold Bu;rw [List.length_zipWith];omega
theorem Wy {p:ProjR} {A:List AudioR} {nest:Nat→Int→Ev (List Int)} {x:Rat} {f:Int}:∀ (ts:List (List ClipR)) (acc l:List Int),vJ p A nest x f ts acc = .ok l→l.length≤acc.length
 | [],acc,l,h=>by
  unfold vJ at h;injection h with h;subst h;exact Nat.le_refl _
 | t::ts,acc,l,h=>by
  unfold vJ at h;split at h
  ·cases h
  ·rename_i a ha;have h1:=Wy ts a l h;unfold Km at ha
   repeat' split at ha
   all_goals first
    | (cases ha;done)
    | skip
   ·injection ha with ha;subst ha;exact h1
   ·injection ha with ha;subst ha;exact Nat.le_trans h1 (addE_le _ _)
theorem Wz {p:ProjR} {A:List AudioR} {nest:Nat→Int→Ev (List Int)} (hB:NestB nest) {x:Rat} {f:Int} {e:Int}:∀ (ts:List (List ClipR)) (acc:List Int),vJ p A nest x f ts acc = .error e→e≠0
 | [],acc,h=>by
  unfold vJ at h;cases h
 | t::ts,acc,h=>by
  unfold vJ at h;split at h
  ·rename_i a ha;injection h with h;subst h;unfold Km at ha;split at ha
   ·cases ha
   ·split at ha
    ·injection ha with ha;omega
    ·split at ha
     ·rename_i hc;injection ha with ha;subst ha;exact Sz hB hc
     ·cases ha
  ·exact Wz hB ts _ h
theorem aCv (z:Int) : -32768≤tU z∧tU z≤32767:=by
 unfold tU;omega
theorem aFc {p:ProjR} {A:List AudioR} {nest:Nat→Int→Ev (List Int)} {s:SequenceR} {t:Int} {l:List Int} (h:Ad p A nest s t = .ok l):(∀ u∈l, -32768≤u∧u≤32767)∧l.length≤s.channels.toNat:=by
 unfold Ad at h;split at h
 ·cases h
 ·rename_i a ha;injection h with h;subst h;have h1:=Wy _ _ _ ha;rw [List.length_replicate] at h1;refine ⟨fun u hu=>?_,by rw [List.length_map];exact h1⟩;obtain ⟨z,_,rfl⟩:=List.mem_map.1 hu;exact aCv z
theorem aAh {p:ProjR} {A:List AudioR} {nest:Nat→Int→Ev (List Int)} (hB:NestB nest) {s:SequenceR} {t e:Int} (h:Ad p A nest s t = .error e):e≠0:=by
 unfold Ad at h;split at h
 ·rename_i a ha;injection h with h;subst h;exact Wz hB _ _ ha
 ·cases h
theorem aNu {p:ProjR} (hp:PrjV p) (k:Nat):(p.seqs.getD k default).channels.toNat≤4:=by
 rcases Nat.lt_or_ge k p.seqs.length with h | h
 ·have:=(hp.seq k h).ch;omega
 ·rw [List.getD_eq_getElem?_getD,List.getElem?_eq_none h];exact Nat.zero_le _
theorem aEg {p:ProjR} (hp:PrjV p) (A:List AudioR):∀ (n i:Nat),dV p (i:Int)<n→NestB (eA p A i)
 | 0,i,h=>absurd h (by omega)
 | n+1,i,h=>by
  refine ⟨fun k j l hl=>?_,fun k j e he=>?_⟩
  ·unfold eA at hl;split at hl
   ·rw [qV] at hl;obtain ⟨h1,h2⟩:=aFc hl;refine ⟨fun u hu=>?_,Nat.le_trans h2 (aNu hp k)⟩;have:=h1 u hu;omega
   ·cases hl
  ·unfold eA at he;split at he
   ·rename_i hd;rw [qV] at he;exact aAh (aEg hp A n k (by omega)) he
   ·injection he with he;omega
theorem Sb {p:ProjR} (hp:PrjV p) (A:List AudioR) (i:Nat):NestB (eA p A i):=aEg hp A _ i (Nat.lt_succ_self _)
theorem aDt {p:ProjR} (hp:PrjV p) {A:List AudioR} (hA:AudP A):∀ (n i:Nat),dV p (i:Int)<n→aD8 p A (eA p A i) i
 | 0,i,h=>absurd h (by omega)
 | n+1,i,h=>fun k hk hd ha j h1 h2=>by
  have e:eA p A i k j=Ad p A (eA p A k) (p.seqs.getD k default) j:=by
   unfold eA;rw [if_pos hd,qV];rfl
  rw [e];exact aAq hp hA hk (aDt hp hA n k (by omega)) (Sb hp A k) ha j ⟨h1,h2⟩
theorem cRSmp {p:ProjR} (hp:PrjV p) {A:List AudioR} (hA:AudP A) {i:Nat} (hi:i<p.seqs.length) (ha:aZ (p.seqs.getD i default).rate=true) (t:Int) (ht : -1099511627776≤t∧t≤1099511627776) :
  aJ Tryz.prog 30 [Tv p A,cT (p.seqs.getD i default),aA t] (qH (qW p A i t)):=by
 rw [qV];exact aAq hp hA hi (aDt hp hA _ i (Nat.lt_succ_self _)) (Sb hp A i) ha t ht
def dG (p:ProjR) (A:List AudioR) (i:Nat) (fr0:Int):Nat→Ev (List (List Int))
 | 0 => .ok []
 | k+1=>match dG p A i fr0 k with
  | .error e => .error e
  | .ok L=>match qW p A i (fr0+(k:Int)) with
   | .error e => .error e
   | .ok l => .ok (L ++ [l])
def nJ (p:ProjR) (A:List AudioR) (name:ByteArray) (fr0 n:Int):Ev (List (List Int)) :=
 if dR p≠0 then .error (dR p)
 else if fR p name<0 then .error 7
 else if A.all mE=false then .error 1
 else if n<0 then .error 1
 else if 1048576<n then .error 5
 else if fr0 < -1099511627776∨1099511627776 - n<fr0∨aZ (p.seqs.getD (fR p name).toNat default).rate=false then .error 2
 else match dG p A (fR p name).toNat fr0 n.toNat with
  | .error e => .error e
  | .ok L => .ok ((List.range (p.seqs.getD (fR p name).toNat default).channels.toNat).map fun c=>L.map fun l=>l.getD c 0)
