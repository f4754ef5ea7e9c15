/- Proved here: Contracts of the reference's numbered samples. -/
import Derived.Test.YtkjdkbmfaamhaaaGreatQ08
set_option linter.unusedSimpArgs false
set_option linter.unusedVariables false
set_option linter.unnecessarySimpa false
namespace Go.Proofs.YtkjdkbmfaamhaaaGreat
open Go.RowKit
set_option maxRecDepth 4000
abbrev Xm (p:ProjR) (A:List AudioR):V:=.agg [.t (hZ p.media),.t (nP p.seqs),.t (uJ A)]
def sG(e:Ev (List Int)):V:=
 match e with
 | .ok l=> .tup [.t (t16 l),aA 0]
 | .error e=> .tup [.t (.lit (.slice none 0 0)),aA e]
def zD(e:Ev (List Int)):V:=
 match e with
 | .ok l=> .tup [.t (cM l),aA 0]
 | .error e=> .tup [.t (.lit (.slice none 0 0)),aA e]
theorem Ua(xs:List (List T))(n:Nat)(t:T):(aS xs).set n [V.t t]=aS (xs.set n [t]):=by
 unfold aS;rw[List.map_set];rfl
theorem wP{α:Type}(c:Int->α)(f:Nat->Int)(n:Nat):(dQ f n 0).map c=List.replicate n (c 0):=by
 unfold dQ;rw[List.map_map];refine List.ext_getElem (by simp) λi h1 h2=>?_
 simp
theorem Ab{α:Type}(c:Int->α)(f:Nat->Int){n i:Nat}(h:i<n){z:Int}(hz:z=f i):((dQ f n i).map c).set i (c z)=(dQ f n (i+1)).map c:=by
 subst hz;unfold dQ;refine List.ext_getElem (by simp) λj h1 h2=>?_
 rw[List.getElem_set]
 by_cases hj:i=j
 .subst hj;simp
 .rw[if_neg hj];simp only[List.getElem_map,List.getElem_range];congr 1
  by_cases h3:j<i
  .rw[if_pos h3,if_pos (by omega)]
  .rw[if_neg h3,if_neg (by omega)]
theorem Wc(f:Nat->Int){n i:Nat}(h:f i=0):dQ f n (i+1)=dQ f n i:=by
 unfold dQ;refine List.map_congr_left λj _=>?_
 by_cases hj:i=j
 .subst hj;rw[if_pos (by omega),if_neg (by omega),h]
 .by_cases h3:j<i
  .rw[if_pos h3,if_pos (by omega)]
  .rw[if_neg h3,if_neg (by omega)]
theorem tJ{α β:Type}(l:List α)(d:α)(g:α->β):(List.range l.length).map (λi=>g (l.getD i d))=l.map g:=by
 refine List.ext_getElem (by simp) λi h1 h2=>?_
 simp only[List.getElem_map,List.getElem_range];rw[List.length_map]at h2;rw[List.getD_eq_getElem?_getD,List.getElem?_eq_getElem h2];rfl
theorem aRw(L:List (List Int))(j:Int):dQ (λi=>aZ (L.getD i []) j) L.length L.length=L.map λl=>aZ l j:=by
 rw[qU];exact tJ L [] λl=>aZ l j
structure AudP (A:List AudioR):Prop extends AudF A where
 prop:∀a∈A,nK a=true
theorem AudP.four{A:List AudioR}(h:AudP A){a:AudioR}(ha:a∈A):a.chs.length<=4 /\∀p∈a.chs,p.length<=1048576/\p.length=(a.chs.getD 0 []).length:=by
 have h1:=h.prop a ha;unfold nK at h1;rw[Bool.and_eq_true,decide_eq_true_eq,List.all_eq_true]at h1;refine⟨h1.2,λp hp=>?_⟩;have h2:=h1.1 p hp;unfold aG4 at h2;simp only[Bool.and_eq_true,decide_eq_true_eq,beq_iff_eq]at h2;exact⟨h2.2,h2.1⟩
theorem cRNum1(p:ProjR){A:List AudioR}(hA:AudP A)(nest:Nat->Int->Ev (List Int))(s:SourceR)(hk:s.kind≠2)(j:Int)(hj:I64 j):
  aL Tryz.prog 139 [Xm p A,eH s,aA j] (sG (rS p A nest s j)):=by
 have cf:=aSw A hA.len s.name;unfold rS;rw[if_neg hk];refine aF Tryz.X139 Tryz.func139 rfl Tryz.ntmps139 (by rw[Tryz.results139]) (aB _ ?_);simp only[go_sem,seval];refine⟨λh2=>?_,λh2=>?_⟩
 .simp only[bxx]at h2;exact absurd h2 hk
 unfold awS;simp only[go_sem,seval];refine⟨_,cf,?_⟩;simp only[go_sem,seval];refine⟨λh3=>?_,λh3=>?_⟩
 .simp only[bxx]at h3;rw[aPc h3];unfold awS;unfold sG;simp only[go_sem,seval]
 .simp only[bxx]at h3;obtain⟨k,hkl,hki,hs⟩:=aPb (show 0<=nB (λa:AudioR=>a.name.toList==s.name.toList) A by omega);rw[hs,hki];have hA2:=hA.four (aW (d:=default) hkl);have hA3:=hA.pcm _ (aW (d:=default) hkl);have hnm:=Gs hkl;generalize A.getD k default=a at*;obtain⟨nm,L⟩:=a;simp only at hA2 hA3 hnm⊢;unfold awS;simp only[go_sem,seval,hnm,pY,t16];obtain⟨h4,hlen⟩:=hA2;refine⟨⟨by omega,by omega⟩,⟨by omega,by unfold maxLen;omega,by omega⟩,?_⟩;have hfl:=aRw L j;obtain⟨f,hf⟩:∃f:Nat->Int,f=λi=>aZ (L.getD i []) j:=⟨_,rfl⟩
  rw[<-hf]at hfl;refine aE (λ(i:Nat) σ=>mY 2 (.row 76 1 (c16 0) (aS ((dQ f L.length i).map c16))) (bP 10 (aA i) (aY [44,45,46,47,48,49,50,51,52,53,54,55,56,57,58,59,60,61,62,63,64,65,66,67,68,69,70,71,72,73,74,75,76,77,78,79,80] (bE σ)))) (λi=>i<=L.length) (λi=>L.length-i) 0 (aC ?_) (Nat.zero_le _) ?_
  .simp only[go_sem,seval];refine⟨by simp,(wP c16 _ _).symm,by simp,by simp⟩
  .intro i hi;refine aB _ ?_;simp only[go_sem,seval,eD];refine⟨λhlt=>?_,λhge=>?_⟩
   .simp only[bxx]at hlt;have hil:i<L.length:=by omega
    have hwi:IntKind.i64.wrap ((i:Int)+1)=((i+1:Nat):Int):=by rw[bJ (by omega)];omega
    unfold awS;simp only[go_sem,seval,hnm,pY,t16,Aj hil];have hfi:f i=aZ (L.getD i []) j:=by rw[hf]
    have hcn:=Aj hil;have hpl:=(hlen _ (aW (d:=[]) hil)).1;generalize L.getD i []=P at hfi hcn hpl⊢;refine⟨λ_=>⟨by omega,by omega⟩,λ_=>⟨by omega,by omega⟩,λhc=>?_,λhc=>?_⟩
    .simp only[Bool.and_eq_true,decide_eq_true_eq]at hc;have hpn:=λd=>kZ (p:=P) (j:=j) hc.1 hc.2 d
     unfold awS;simp only[go_sem,seval,hnm,pY,t16,hcn,hpn,eD];refine⟨⟨by omega,by omega⟩,⟨by omega,by omega⟩,⟨by omega,by omega⟩,⟨by omega,by omega⟩,hil,i+1,aC ?_,by omega,by omega⟩;have hset:(List.map c16 (dQ f L.length i)).set i [.lit (.int .i16 (aZ P j))]=List.map c16 (dQ f L.length (i+1)):=Ab c16 f hil hfi.symm;simp only[go_sem,seval,hwi,hset];simp
    .have hz:aZ P j=0:=by
      refine gS ?_;simp only[Bool.and_eq_false_iff,decide_eq_false_iff_not]at hc;omega
     rw[hz]at hfi;unfold awS;simp only[go_sem,seval];refine⟨i+1,aC ?_,by omega,by omega⟩;simp only[go_sem,seval,hwi,Wc f hfi];simp
   .simp only[bxx]at hge;have:i=L.length:=by omega
    subst this;unfold awS;simp only[go_sem,seval];rw[hfl];exact⟨rfl,rfl⟩
def aGj(p:ProjR)(A:List AudioR)(nest:Nat->Int->Ev (List Int))(i:Nat):Prop:=
 ∀k,k<p.seqs.length->eM p (k:Int)<eM p (i:Int)->bG (p.seqs.getD k default).rate=true ->∀j:Int,-1099511627776<=j->j<=1099511627776 ->
  aL Tryz.prog 30 [Xm p A,dE (p.seqs.getD k default),aA j] (sG (nest k j))
theorem Ep{l:List SequenceR}{k:Nat}(h:k<l.length)(d:List T):nth d (l.map SequenceR.c) k=SequenceR.c (l.getD k default):=by
 unfold nth;rw[List.getElem?_map,List.getElem?_eq_getElem h,bB h];rfl
theorem cRNum(p:ProjR){A:List AudioR}(hA:AudP A){nest:Nat->Int->Ev (List Int)}{i:Nat}(hN:aGj p A nest i){s:SourceR}(hs:SrcV p i s)(haud:bG (cS p s)=true)(j:Int)(h1 : -1099511627776<=j)(h2:j<=1099511627776):
  aL Tryz.prog 139 [Xm p A,eH s,aA j] (sG (rS p A nest s j)):=by
 by_cases hk:s.kind=2
 .obtain⟨hx,hd⟩:0<=gU p s.name/\eM p (gU p s.name)<eM p (i:Int):=by
   rcases hs.kind with h|h|h
   .omega
   .omega
   .exact h.2
  obtain⟨k,hkl,hki,_⟩:=mT hx;rw[hki]at hd;have hr:cS p s=(p.seqs.getD k default).rate:=by
   unfold cS;rw[if_neg (by omega),hki,Int.toNat_natCast]
  rw[hr]at haud;have hc:=hN k hkl hd haud j h1 h2;have hq:=qW p s.name;have hq':nB (λm:SequenceR=>m.name.toList==s.name.toList) p.seqs=(k:Int):=hki;rw[hq']at hq;have e:rS p A nest s j=nest k j:=by
   unfold rS;rw[if_pos hk,hki,Int.toNat_natCast]
  rw[e];refine aF Tryz.X139 Tryz.func139 rfl Tryz.ntmps139 (by rw[Tryz.results139]) (aB _ ?_);simp only[go_sem,seval,hk];refine aQ 17 .done (h:=?_);simp only[go_sem,seval];refine⟨_,hq,?_⟩;simp only[go_sem,seval,Ep hkl];refine⟨by omega,_,hc,?_⟩;cases nest k j with
  |ok l=>
   unfold sG;simp only[go_sem,seval]
   kernel_rfl
  |error e=>
   unfold sG;simp only[go_sem,seval]
   kernel_rfl
 .exact cRNum1 p hA nest s hk j ⟨by omega,by omega⟩
structure NestB (nest:Nat->Int->Ev (List Int)):Prop where
 ok:∀k j l,nest k j=.ok l->Tp 32768 l/\l.length<=4
 err:∀k j e,nest k j=.error e->e≠0
theorem Fc{p:ProjR}{A:List AudioR}{nest:Nat->Int->Ev (List Int)}(hB:NestB nest){s:SourceR}{j e:Int}(h:rS p A nest s j=.error e):e≠0:=by
 unfold rS at h;split at h
 .exact hB.err _ _ _ h
 .split at h
  .injection h with h;omega
  .cases h
theorem zJ{p:ProjR}{A:List AudioR}(hA:AudF A){nest:Nat->Int->Ev (List Int)}(hB:NestB nest){s:SourceR}{j:Int}{l:List Int}(h:rS p A nest s j=.ok l):Tp 32768 l:=by
 unfold rS at h;split at h
 .exact(hB.ok _ _ _ h).1
 .split at h
  .cases h
  .rename_i a ha;injection h with h;subst h;intro u hu;obtain⟨q,hq,rfl⟩:=List.mem_map.1 hu;have hm:a∈A:=List.mem_of_find?_eq_some ha;have:=gV (hA.pcm a hm q hq).2 j;omega
theorem aTs{l:List Int}(h:Tp 32768 l)(c:Int): -32768<=aZ l c/\aZ l c<=32768:=vZ h (by omega) c
theorem aRs{y:Rat}(h:cH y=true):cH (y-(y.floor:Rat))=true/\ofQ (y-(y.floor:Rat))=⟨y.num-y.floor*(y.den:Int),y.den⟩:=by
 obtain⟨h1,h2⟩:=dJ.1 h;obtain⟨e1,e2⟩:=sub_int y y.floor;obtain⟨s1,s2⟩:=uK y;refine⟨dJ.2 ⟨by omega,by omega⟩,?_⟩;unfold ofQ;rw[e1,e2]
theorem bet_at(y:Rat)(a b:List Int)(c:Int):aZ (Jr y a b) c=if 0<=c/\c<a.length/\c<b.length then mH (aZ a c) (aZ b c) (y.num-y.floor*(y.den:Int)) y.den else 0:=by
 by_cases h:0<=c/\c<a.length/\c<b.length
 .rw[if_pos h];unfold aZ Jr;rw[if_pos h.1,if_pos h.1,if_pos h.1];have h1:c.toNat<a.length:=by omega
  have h2:c.toNat<b.length:=by omega
  simp only[List.getD_eq_getElem?_getD,List.getElem?_zipWith,List.getElem?_eq_getElem h1,List.getElem?_eq_getElem h2];rfl
 .rw[if_neg h]
  by_cases h0:c<0
  .exact gS (.inl h0)
  .refine gS (.inr ?_);unfold Jr;rw[List.length_zipWith];omega
theorem qT{r:RatR}(h:bG r=true):∃n d:Nat,r.num=n/\r.den=d/\1<=n/\n<=1048576/\1<=d/\d<=65536/\ofQ ((((d:Nat):Int):Rat)/((n:Int):Rat))=⟨d,n⟩/\(((d:Nat):Int):Rat)/((n:Int):Rat)*(48000:Int)=fU r/\cH (fU r)=true/\cH ((((d:Nat):Int):Rat)/((n:Int):Rat))=true:=by
 obtain⟨_,hv,hn,hd,_⟩:=qZ h;obtain⟨n,en⟩:=eF (n:=r.num) (by omega);obtain⟨d,ed⟩:=eF (n:=r.den) (by omega);have hg:Nat.gcd n d=1:=by
  unfold dA at hv;simp only[Bool.and_eq_true,decide_eq_true_eq]at hv;have:=hv.2;rw[en,ed,Int.natAbs_natCast,Int.natAbs_natCast]at this;exact this
 have e1:ofQ ((((d:Nat):Int):Rat)/((n:Int):Rat))=⟨d,n⟩:=by
  rw[zG (d:Int) n (by omega),Int.natAbs_natCast,Nat.gcd_comm d n,hg];simp
 have e2:(((d:Nat):Int):Rat)/((n:Int):Rat)*(48000:Int)=fU r:=by
  unfold fU;rw[en,ed,Rat.intCast_mul,Rat.div_def,Rat.div_def];rw[Rat.mul_comm ((48000:Int):Rat),Rat.mul_assoc,Rat.mul_assoc,Rat.mul_comm ((n:Int):Rat)⁻¹]
 have e3:cH (fU r)=true:=by
  unfold fU;rw[en];exact Zk (Ma (48000*r.den) n (by omega)) (by omega) (by omega)
 have e4:cH ((((d:Nat):Int):Rat)/((n:Int):Rat))=true:=Zk (Ma (d:Int) n (by omega)) (by omega) (by omega);exact⟨n,d,en,ed,by omega,by omega,by omega,by omega,e1,e2,e3,e4⟩
def aE9(p:ProjR)(A:List AudioR)(nest:Nat->Int->Ev (List Int))(s:SourceR)(take:List Int)(k:Rat):Ev (List Int):=
 match vT p A nest s k with
 | .error e=> .error e
 | .ok l=> .ok (take.map λc=>aZ l c)
def vP(l:List Int):V:=mG l.length (l.getD 0 0) (l.getD 1 0) (l.getD 2 0) (l.getD 3 0)
theorem aC4(x:Int){d:Nat}(hd:1<=d):gK x 0 d=0:=by
 unfold gK;rw[Int.mul_zero,Int.zero_emod,Int.zero_ediv,if_neg (by omega)]
theorem aLx(a b:List Int)(h:a.length=b.length){d:Nat}(hd:1<=d):List.zipWith (λu v=>mH u v 0 d) a b=a:=by
 refine List.ext_getElem (by simp;omega) λi h1 h2=>?_
 rw[List.getElem_zipWith];unfold mH;rw[aC4 _ hd,Int.add_zero]
theorem cBetG0{n:Int}{d:Nat}(h0:0<n)(h1:n<(d:Int))(hd:d<9223372036854775808):
  aL Tryz.prog 127 [.t .opq,mG 0 0 0 0 0,mG 0 0 0 0 0,aA n,aA d] (mG 0 0 0 0 0):=by
 have ww1:IntKind.i64.wrap 1=1:=by decide
 have ww2:IntKind.i64.wrap 2=2:=by decide
 have ww3:IntKind.i64.wrap 3=3:=by decide
 have ww4:IntKind.i64.wrap 4=4:=by decide
 have w01:IntKind.i64.wrap (0+1)=1:=by decide
 have w11:IntKind.i64.wrap (1+1)=2:=by decide
 have w21:IntKind.i64.wrap (2+1)=3:=by decide
 have w31:IntKind.i64.wrap (3+1)=4:=by decide
 refine aF Tryz.X127 Tryz.func127 rfl Tryz.ntmps127 (by rw[Tryz.results127]) (aB _ ?_);simp only[go_sem,seval];refine⟨λh=>?_,λh=>?_⟩
 .exfalso;simp only[bxx]at h;omega
 unfold awS;simp only[go_sem,seval];refine bC ?_;refine aK (aB _ ?_);simp only[go_sem,dtf,seval]
theorem cBetG1{n:Int}{d:Nat}(h0:0<n)(h1:n<(d:Int))(hd:d<9223372036854775808){a0 b0:Int}(ha0 : -262144<=a0/\a0<=262144)(hb0 : -262144<=b0/\b0<=262144):
  aL Tryz.prog 127 [.t .opq,mG 1 (a0) 0 0 0,mG 1 (b0) 0 0 0,aA n,aA d] (mG 1 (mH a0 b0 n d) 0 0 0):=by
 have sq0:=eT (x:=b0-a0) (n:=n) (d:=d) (by omega) (by omega) (by omega);have nb0:=dZ (x:=b0-a0) (n:=n) (d:=d) (by omega) (by omega) (by omega);have p0:=gX (b0-a0) n d ⟨by omega,by omega⟩ ⟨by omega,by omega⟩ (by omega) hd ⟨by omega,by omega⟩;unfold mH;generalize gK (b0-a0) n d=z0 at*;have ww1:IntKind.i64.wrap 1=1:=by decide
 have ww2:IntKind.i64.wrap 2=2:=by decide
 have ww3:IntKind.i64.wrap 3=3:=by decide
 have ww4:IntKind.i64.wrap 4=4:=by decide
 have w01:IntKind.i64.wrap (0+1)=1:=by decide
 have w11:IntKind.i64.wrap (1+1)=2:=by decide
 have w21:IntKind.i64.wrap (2+1)=3:=by decide
 have w31:IntKind.i64.wrap (3+1)=4:=by decide
 refine aF Tryz.X127 Tryz.func127 rfl Tryz.ntmps127 (by rw[Tryz.results127]) (aB _ ?_);simp only[go_sem,seval];refine⟨λh=>?_,λh=>?_⟩
 .exfalso;simp only[bxx]at h;omega
 unfold awS;simp only[go_sem,seval];refine bC ?_;refine aK (aB _ ?_);simp only[go_sem,dtf,seval];refine aQ 20 .done (h:=?_);simp only[go_sem,seval,wrap64 (x:=b0-a0)];refine⟨_,p0,?_⟩;simp only[go_sem,seval,ww1,wrap64 (x:=a0+z0)];refine⟨by kernel_rfl,?_⟩;refine aK (aB _ ?_);simp only[go_sem,dtf,seval]
theorem cBetG2{n:Int}{d:Nat}(h0:0<n)(h1:n<(d:Int))(hd:d<9223372036854775808){a0 b0:Int}(ha0 : -262144<=a0/\a0<=262144)(hb0 : -262144<=b0/\b0<=262144){a1 b1:Int}(ha1 : -262144<=a1/\a1<=262144)(hb1 : -262144<=b1/\b1<=262144):
  aL Tryz.prog 127 [.t .opq,mG 2 (a0) (a1) 0 0,mG 2 (b0) (b1) 0 0,aA n,aA d] (mG 2 (mH a0 b0 n d) (mH a1 b1 n d) 0 0):=by
 have sq0:=eT (x:=b0-a0) (n:=n) (d:=d) (by omega) (by omega) (by omega);have nb0:=dZ (x:=b0-a0) (n:=n) (d:=d) (by omega) (by omega) (by omega);have p0:=gX (b0-a0) n d ⟨by omega,by omega⟩ ⟨by omega,by omega⟩ (by omega) hd ⟨by omega,by omega⟩;have sq1:=eT (x:=b1-a1) (n:=n) (d:=d) (by omega) (by omega) (by omega);have nb1:=dZ (x:=b1-a1) (n:=n) (d:=d) (by omega) (by omega) (by omega);have p1:=gX (b1-a1) n d ⟨by omega,by omega⟩ ⟨by omega,by omega⟩ (by omega) hd ⟨by omega,by omega⟩;unfold mH;generalize gK (b0-a0) n d=z0 at*;generalize gK (b1-a1) n d=z1 at*;have ww1:IntKind.i64.wrap 1=1:=by decide
 have ww2:IntKind.i64.wrap 2=2:=by decide
 have ww3:IntKind.i64.wrap 3=3:=by decide
 have ww4:IntKind.i64.wrap 4=4:=by decide
 have w01:IntKind.i64.wrap (0+1)=1:=by decide
 have w11:IntKind.i64.wrap (1+1)=2:=by decide
 have w21:IntKind.i64.wrap (2+1)=3:=by decide
 have w31:IntKind.i64.wrap (3+1)=4:=by decide
 refine aF Tryz.X127 Tryz.func127 rfl Tryz.ntmps127 (by rw[Tryz.results127]) (aB _ ?_);simp only[go_sem,seval];refine⟨λh=>?_,λh=>?_⟩
 .exfalso;simp only[bxx]at h;omega
 unfold awS;simp only[go_sem,seval];refine bC ?_;refine aK (aB _ ?_);simp only[go_sem,dtf,seval];refine aQ 20 .done (h:=?_);simp only[go_sem,seval,wrap64 (x:=b0-a0)];refine⟨_,p0,?_⟩;simp only[go_sem,seval,ww1,wrap64 (x:=a0+z0)];refine⟨by kernel_rfl,?_⟩;refine aK (aB _ ?_);simp only[go_sem,dtf,seval];refine aQ 20 .done (h:=?_);simp only[go_sem,seval,wrap64 (x:=b1-a1)];refine⟨_,p1,?_⟩;simp only[go_sem,seval,ww2,wrap64 (x:=a1+z1)];refine⟨by kernel_rfl,?_⟩;refine aK (aB _ ?_);simp only[go_sem,dtf,seval]
theorem cBetG3{n:Int}{d:Nat}(h0:0<n)(h1:n<(d:Int))(hd:d<9223372036854775808){a0 b0:Int}(ha0 : -262144<=a0/\a0<=262144)(hb0 : -262144<=b0/\b0<=262144){a1 b1:Int}(ha1 : -262144<=a1/\a1<=262144)(hb1 : -262144<=b1/\b1<=262144){a2 b2:Int}(ha2 : -262144<=a2/\a2<=262144)(hb2 : -262144<=b2/\b2<=262144):
  aL Tryz.prog 127 [.t .opq,mG 3 (a0) (a1) (a2) 0,mG 3 (b0) (b1) (b2) 0,aA n,aA d] (mG 3 (mH a0 b0 n d) (mH a1 b1 n d) (mH a2 b2 n d) 0):=by
 have sq0:=eT (x:=b0-a0) (n:=n) (d:=d) (by omega) (by omega) (by omega);have nb0:=dZ (x:=b0-a0) (n:=n) (d:=d) (by omega) (by omega) (by omega);have p0:=gX (b0-a0) n d ⟨by omega,by omega⟩ ⟨by omega,by omega⟩ (by omega) hd ⟨by omega,by omega⟩;have sq1:=eT (x:=b1-a1) (n:=n) (d:=d) (by omega) (by omega) (by omega);have nb1:=dZ (x:=b1-a1) (n:=n) (d:=d) (by omega) (by omega) (by omega);have p1:=gX (b1-a1) n d ⟨by omega,by omega⟩ ⟨by omega,by omega⟩ (by omega) hd ⟨by omega,by omega⟩;have sq2:=eT (x:=b2-a2) (n:=n) (d:=d) (by omega) (by omega) (by omega);have nb2:=dZ (x:=b2-a2) (n:=n) (d:=d) (by omega) (by omega) (by omega);have p2:=gX (b2-a2) n d ⟨by omega,by omega⟩ ⟨by omega,by omega⟩ (by omega) hd ⟨by omega,by omega⟩;unfold mH;generalize gK (b0-a0) n d=z0 at*;generalize gK (b1-a1) n d=z1 at*;generalize gK (b2-a2) n d=z2 at*;have ww1:IntKind.i64.wrap 1=1:=by decide
 have ww2:IntKind.i64.wrap 2=2:=by decide
 have ww3:IntKind.i64.wrap 3=3:=by decide
 have ww4:IntKind.i64.wrap 4=4:=by decide
 have w01:IntKind.i64.wrap (0+1)=1:=by decide
 have w11:IntKind.i64.wrap (1+1)=2:=by decide
 have w21:IntKind.i64.wrap (2+1)=3:=by decide
 have w31:IntKind.i64.wrap (3+1)=4:=by decide
 refine aF Tryz.X127 Tryz.func127 rfl Tryz.ntmps127 (by rw[Tryz.results127]) (aB _ ?_);simp only[go_sem,seval];refine⟨λh=>?_,λh=>?_⟩
 .exfalso;simp only[bxx]at h;omega
 unfold awS;simp only[go_sem,seval];refine bC ?_;refine aK (aB _ ?_);simp only[go_sem,dtf,seval];refine aQ 20 .done (h:=?_);simp only[go_sem,seval,wrap64 (x:=b0-a0)];refine⟨_,p0,?_⟩;simp only[go_sem,seval,ww1,wrap64 (x:=a0+z0)];refine⟨by kernel_rfl,?_⟩;refine aK (aB _ ?_);simp only[go_sem,dtf,seval];refine aQ 20 .done (h:=?_);simp only[go_sem,seval,wrap64 (x:=b1-a1)];refine⟨_,p1,?_⟩;simp only[go_sem,seval,ww2,wrap64 (x:=a1+z1)];refine⟨by kernel_rfl,?_⟩;refine aK (aB _ ?_);simp only[go_sem,dtf,seval];refine aQ 20 .done (h:=?_);simp only[go_sem,seval,wrap64 (x:=b2-a2)];refine⟨_,p2,?_⟩;simp only[go_sem,seval,ww3,wrap64 (x:=a2+z2)];refine⟨by kernel_rfl,?_⟩;refine aK (aB _ ?_);simp only[go_sem,dtf,seval]
theorem cBetG4{n:Int}{d:Nat}(h0:0<n)(h1:n<(d:Int))(hd:d<9223372036854775808){a0 b0:Int}(ha0 : -262144<=a0/\a0<=262144)(hb0 : -262144<=b0/\b0<=262144){a1 b1:Int}(ha1 : -262144<=a1/\a1<=262144)(hb1 : -262144<=b1/\b1<=262144){a2 b2:Int}(ha2 : -262144<=a2/\a2<=262144)(hb2 : -262144<=b2/\b2<=262144){a3 b3:Int}(ha3 : -262144<=a3/\a3<=262144)(hb3 : -262144<=b3/\b3<=262144):
  aL Tryz.prog 127 [.t .opq,mG 4 (a0) (a1) (a2) (a3),mG 4 (b0) (b1) (b2) (b3),aA n,aA d] (mG 4 (mH a0 b0 n d) (mH a1 b1 n d) (mH a2 b2 n d) (mH a3 b3 n d)):=by
 have sq0:=eT (x:=b0-a0) (n:=n) (d:=d) (by omega) (by omega) (by omega);have nb0:=dZ (x:=b0-a0) (n:=n) (d:=d) (by omega) (by omega) (by omega);have p0:=gX (b0-a0) n d ⟨by omega,by omega⟩ ⟨by omega,by omega⟩ (by omega) hd ⟨by omega,by omega⟩;have sq1:=eT (x:=b1-a1) (n:=n) (d:=d) (by omega) (by omega) (by omega);have nb1:=dZ (x:=b1-a1) (n:=n) (d:=d) (by omega) (by omega) (by omega);have p1:=gX (b1-a1) n d ⟨by omega,by omega⟩ ⟨by omega,by omega⟩ (by omega) hd ⟨by omega,by omega⟩;have sq2:=eT (x:=b2-a2) (n:=n) (d:=d) (by omega) (by omega) (by omega);have nb2:=dZ (x:=b2-a2) (n:=n) (d:=d) (by omega) (by omega) (by omega);have p2:=gX (b2-a2) n d ⟨by omega,by omega⟩ ⟨by omega,by omega⟩ (by omega) hd ⟨by omega,by omega⟩;have sq3:=eT (x:=b3-a3) (n:=n) (d:=d) (by omega) (by omega) (by omega);have nb3:=dZ (x:=b3-a3) (n:=n) (d:=d) (by omega) (by omega) (by omega);have p3:=gX (b3-a3) n d ⟨by omega,by omega⟩ ⟨by omega,by omega⟩ (by omega) hd ⟨by omega,by omega⟩;unfold mH;generalize gK (b0-a0) n d=z0 at*;generalize gK (b1-a1) n d=z1 at*;generalize gK (b2-a2) n d=z2 at*;generalize gK (b3-a3) n d=z3 at*;have ww1:IntKind.i64.wrap 1=1:=by decide
 have ww2:IntKind.i64.wrap 2=2:=by decide
 have ww3:IntKind.i64.wrap 3=3:=by decide
 have ww4:IntKind.i64.wrap 4=4:=by decide
 have w01:IntKind.i64.wrap (0+1)=1:=by decide
 have w11:IntKind.i64.wrap (1+1)=2:=by decide
 have w21:IntKind.i64.wrap (2+1)=3:=by decide
 have w31:IntKind.i64.wrap (3+1)=4:=by decide
 refine aF Tryz.X127 Tryz.func127 rfl Tryz.ntmps127 (by rw[Tryz.results127]) (aB _ ?_);simp only[go_sem,seval];refine⟨λh=>?_,λh=>?_⟩
 .exfalso;simp only[bxx]at h;omega
 unfold awS;simp only[go_sem,seval];refine bC ?_;refine aK (aB _ ?_);simp only[go_sem,dtf,seval];refine aQ 20 .done (h:=?_);simp only[go_sem,seval,wrap64 (x:=b0-a0)];refine⟨_,p0,?_⟩;simp only[go_sem,seval,ww1,wrap64 (x:=a0+z0)];refine⟨by kernel_rfl,?_⟩;refine aK (aB _ ?_);simp only[go_sem,dtf,seval];refine aQ 20 .done (h:=?_);simp only[go_sem,seval,wrap64 (x:=b1-a1)];refine⟨_,p1,?_⟩;simp only[go_sem,seval,ww2,wrap64 (x:=a1+z1)];refine⟨by kernel_rfl,?_⟩;refine aK (aB _ ?_);simp only[go_sem,dtf,seval];refine aQ 20 .done (h:=?_);simp only[go_sem,seval,wrap64 (x:=b2-a2)];refine⟨_,p2,?_⟩;simp only[go_sem,seval,ww3,wrap64 (x:=a2+z2)];refine⟨by kernel_rfl,?_⟩;refine aK (aB _ ?_);simp only[go_sem,dtf,seval];refine aQ 20 .done (h:=?_);simp only[go_sem,seval,wrap64 (x:=b3-a3)];refine⟨_,p3,?_⟩;simp only[go_sem,seval,ww4,wrap64 (x:=a3+z3)];refine⟨by kernel_rfl,?_⟩;refine aK (aB _ ?_);simp only[go_sem,dtf,seval]
theorem dU{m:Int}{x:Int}{l:List Int}(h:Tp m (x::l)):(-m<=x/\x<=m)/\Tp m l:=⟨h x (by simp),λu hu=>h u (by simp[hu])⟩
theorem cBetG{a b:List Int}(hl:a.length=b.length)(h4:a.length<=4)(ha:Tp 262144 a)(hb:Tp 262144 b){n:Int}{d:Nat}(h0:0<=n)(h1:n<(d:Int))(hd:d<9223372036854775808):
  aL Tryz.prog 127 [.t .opq,vP a,vP b,aA n,aA d] (vP (List.zipWith (λu v=>mH u v n d) a b)):=by
 by_cases hz:n=0
 .subst hz;rw[aLx a b hl (by omega)];exact aMx _ _ _ _ _ _ _ _ _ _ _ _
 have hp:0<n:=by omega
 rcases a with _|⟨a0,_|⟨a1,_|⟨a2,_|⟨a3,_|⟨a4,l⟩⟩⟩⟩⟩
 .rcases b with _|⟨b0,b⟩
  .exact cBetG0 hp h1 hd
  .simp at hl
 .rcases b with _|⟨b0,_|⟨b1,b⟩⟩
  .simp at hl
  .exact cBetG1 hp h1 hd (dU ha).1 (dU hb).1
  .simp at hl
 .rcases b with _|⟨b0,_|⟨b1,_|⟨b2,b⟩⟩⟩
  .simp at hl
  .simp at hl
  .exact cBetG2 hp h1 hd (dU ha).1 (dU hb).1 (dU (dU ha).2).1 (dU (dU hb).2).1
  .simp at hl
 .rcases b with _|⟨b0,_|⟨b1,_|⟨b2,_|⟨b3,b⟩⟩⟩⟩
  .simp at hl
  .simp at hl
  .simp at hl
  .exact cBetG3 hp h1 hd (dU ha).1 (dU hb).1 (dU (dU ha).2).1 (dU (dU hb).2).1 (dU (dU (dU ha).2).2).1 (dU (dU (dU hb).2).2).1
  .simp at hl
 .rcases b with _|⟨b0,_|⟨b1,_|⟨b2,_|⟨b3,_|⟨b4,b⟩⟩⟩⟩⟩
  .simp at hl
  .simp at hl
  .simp at hl
  .simp at hl
  .exact cBetG4 hp h1 hd (dU ha).1 (dU hb).1 (dU (dU ha).2).1 (dU (dU hb).2).1 (dU (dU (dU ha).2).2).1 (dU (dU (dU hb).2).2).1 (dU (dU (dU (dU ha).2).2).2).1 (dU (dU (dU (dU hb).2).2).2).1
  .simp at hl
 .simp at h4
def rtC(m:MediumR):Bool×List T:=(true,[ti m.seq.rate.num,ti m.seq.rate.den])
def rtM(l:List MediumR):List Ent:=kF MediumR.name rtC l
def auC(a:AudioR):Bool×List T:=(true,AudioR.c a)
def auM(l:List AudioR):List Ent:=kF AudioR.name auC l
theorem put_rt(k:Value)(m:MediumR)(es:List Ent):uE k (bV m.seq.rate) (tEs es)=tEs (jV k (rtC m) es):=tL k (rtC m) es
theorem put_au(k:Value)(a:AudioR)(es:List Ent):uE k (.agg [cF a.name,.t (pY a.chs)]) (tEs es)=tEs (jV k (auC a) es):=tL k (auC a) es
theorem aCk(l:List MediumR):eJ .string (rtM l)=true:=kS (jT _ _ _)
theorem aRf(l:List AudioR):eJ .string (auM l)=true:=kS (jT _ _ _)
theorem lend_rt(l:List MediumR)(h:Heap)(n:Nat):nL (aX h n) (tEs (rtM l))=some (rtM l):=uU _ (kG h n) _ (mE _ _ (λ_=>rfl) _)
theorem lend_au(l:List AudioR)(h:Heap)(n:Nat):nL (aX h n) (tEs (auM l))=some (auM l):=uU _ (kG h n) _ (mE _ _ (λ_=>rfl) _)
theorem look_rt(n:ByteArray)(l:List MediumR):fV (.string n) (rtM l)=(Fg l n).map λm=>bV m.seq.rate:=zT _ _ n l
attribute [go_sem] aCk aRf lend_rt lend_au
theorem mS:aN6 Tryz.prog 19:=by
 refine⟨Tryz.X19,λcap w=>callsDIn_of_wpSIn Tryz.func19 rfl trivial λc₀ cs hu=>?_⟩;have k1:2<cap.size+(16-cap.size):=by omega
 have k2:5<cap.size+(16-cap.size):=by omega
 have k3:2<max 16 cap.size:=by omega
 have k4:5<max 16 cap.size:=by omega
 have k5:6<cap.size+(16-cap.size):=by omega
 have k6:7<cap.size+(16-cap.size):=by omega
 have k7:6<max 16 cap.size:=by omega
 have k8:7<max 16 cap.size:=by omega
 apply wpSIn_seq;apply wpSIn_region;simp[wpOpsSIn,Fence.wide,go_sem,recoverD,hu,Tryz.ntmps19,Exit.thenS,k2];apply wpSIn_seq;apply wpSIn_region;simp[wpOpsSIn,go_sem,Exit.thenS,k1,k5];refine wpSIn_cond (t:=false) (by simp[Act.eval,k6]) ?_;refine wpSIn_of_wpIn rfl (wpIn_skip ?_);refine⟨rfl,.returning,by rw[<-hu],.tuple #[],?_,⟨_,rfl⟩,rfl,rfl⟩;simp[results,Tryz.results19,go_sem]
abbrev jK (n:Int):Value:=.iface 78 (.agg #[.int .i64 n])
theorem aEy(ρ:Operand->Value)(o:Oper)(t:Tmp)(n:Int)(w:World)(ho:o.op=.typeAssert (.tmp t) 20 78 true)(hx:ρ (.tmp t)=jK n):(execOp ρ o).run Tryz.prog w=.ok (.value (.tuple #[.agg #[.int .i64 n],.bool true])) w:=by
 simp[execOp,ho,hx,Instr.typeAssert,go_sem]
 done
theorem aQ2(n:Int){a b:Nat}{x y:V}{h:Heap}{nx:Nat}{K:Heap->Nat->Prop}(hab:a≠b)(ha:h.look a=some (.box [x]))(hb:h.look b=some (.box [y]))(hax:a<nx)(hbx:b<nx)
  (hK:∀h' nx',nx<=nx'->h'.look a=some (.box [.t (.lit (.slice none 0 0))])->h'.look b=some (.box [aA n])->K h' nx') :
  RecD Tryz.prog 19 [{ v:=jK n,recovered:=false }] [.own a,.own b] h nx K:=by
 refine⟨Tryz.X19,λE w cap hr hbd hcs=>callsDIn_of_wpSIn Tryz.func19 rfl trivial λc₀ cs hu=>?_⟩;obtain⟨l⟩:=cap;rcases l with _|⟨v0,_|⟨v1,_|⟨v2,l⟩⟩⟩<;>simp only[RdVs,and_false,and_true]at hcs
 obtain⟨hc0,hc1⟩:=hcs;apply wpSIn_seq;apply wpSIn_region;simp[wpOpsSIn,Fence.wide,go_sem,recoverD,hu,Tryz.ntmps19,Exit.thenS];apply wpSIn_seq;apply wpSIn_region;simp[wpOpsSIn,go_sem,Exit.thenS];refine wpSIn_cond (t:=true) (by simp[Act.eval]) ?_;refine wpSIn_of_wpIn rfl ?_;rw[if_pos rfl];show Code.wpIn (Wd none) 0 Tryz.prog _ _ _ _
 have hrel:RelF (E.at0 none) { fr:=[.own a,.own b,.t (.lit (jK n)),.dead,.dead,.t (.lit (jK n)),.t (.lit (jK n)),aR true,.dead,.dead,.dead,.dead,.dead,.dead,.dead,.dead],h:=h,nx:=nx } { tmps:=#[v0,v1]++((((Array.replicate 14 undef).setIfInBounds 3 (jK n)).setIfInBounds 0 (jK n)).setIfInBounds 4 (jK n)).setIfInBounds 5 (Value.bool true),defers:=[] } w:=by
  have hl:∀S,RdT w S (.lit (jK n)) (jK n):=λS=>RdT.lit _ rfl trivial
  refine⟨hr.ro none,hbd,?_,⟨rfl,rfl⟩⟩;show RdVs w _ _ [v0,v1,jK n,undef,undef,jK n,jK n,Value.bool true,undef,undef,undef,undef,undef,undef,undef,undef]
  simp only[RdVs,RdV,and_true,true_and];exact⟨hc0.ro none,hc1.ro none,hl _,hl _,hl _,RdT.lit _ rfl trivial⟩
 refine wpIn_mono ((?H:AWP Tryz.prog nx _ (λe σ'=>e=.normal/\σ'.df=[]/\K σ'.h σ'.nx) _) (E.at0 none) _ w hrel (E.at0 none) w hbd (Ext.refl _ _)) ?_
 rotate_left
 .rintro e a' w' ⟨σ',E',h1,h2,rfl,h4,h5⟩;have hd:=h1.defers;rw[h4]at hd;refine⟨hd.1,_,rfl,.tuple #[],?_,⟨_,rfl⟩,rfl,E'.at0 E.ro,σ'.h,h1.rel.ro _,σ'.nx,h1.bound,h2.back,h5⟩;simp[results,Tryz.results19,go_sem]
 have e1:(h.set a (.box [.t (.lit (.slice none 0 0))])).look b=some (.box [y]):=by rw[Heap.look_set _ _ _ ha,if_neg (λe=>hab e.symm)];exact hb
 have e0:(h.set a (.box [.t (.lit (.slice none 0 0))])).look a=some (.box [.t (.lit (.slice none 0 0))]):=by rw[Heap.look_set _ _ _ ha,if_pos rfl]
 refine aH (aB _ ?_);simp only[go_sem,seval,ha,e1];generalize h.set a (.box [.t (.lit (.slice none 0 0))])=h1 at*;have e2:(h1.set b (.box [aA 1])).look a=some (.box [.t (.lit (.slice none 0 0))]):=by rw[Heap.look_set _ _ _ e1,if_neg hab];exact e0
 have e3:(h1.set b (.box [aA 1])).look b=some (.box [aA 1]):=by rw[Heap.look_set _ _ _ e1,if_pos rfl]
 refine aH (aU 1 ?_);simp only[go_sem,seval];refine aPs (x:=.tup [.agg [aA n],aR true]) (v:=.tuple #[.agg #[.int .i64 n],.bool true]) rfl (λc hc=>by cases hc) (λw E=>?_) (λE a w hr=>?_) (dC ?_)
 .simp only[RdV];refine⟨#[.agg #[.int .i64 n],.bool true],rfl,?_⟩;show RdVs w E [_,_] [_,_]
  simp only[RdVs,RdV,and_true];refine⟨⟨#[.int .i64 n],rfl,?_,rfl⟩,RdT.lit _ rfl trivial⟩;show RdVs w E [_] [_]
  simp only[RdVs,RdV,and_true];exact RdT.lit _ rfl trivial
 .have hv:=hr.ev (.tmp 9);have hv2:RdV w E (.t (.lit (jK n))) (a.eval (.tmp 9)):=hv;exact aEy a.eval _ 9 n w rfl (aJ hv2).1
 have hbn:(nx=b)=False:=by simp;omega
 have hbn':(b=nx)=False:=by simp;omega
 simp only[go_sem,seval];have e4:(h1.set b (.box [aA n])).look a=some (.box [.t (.lit (.slice none 0 0))]):=by rw[Heap.look_set _ _ _ e1,if_neg hab];exact e0
 have e5:(h1.set b (.box [aA n])).look b=some (.box [aA n]):=by rw[Heap.look_set _ _ _ e1,if_pos rfl]
 refine aB _ ?_;simp only[go_sem,seval,e3,hbn'];refine hK _ _ (by omega) ?_ ?_
 .rw[Heap.look,if_neg (by omega)];exact e4
 .rw[Heap.look,if_neg (by omega)];exact e5
structure LayN where
 m:Nat
 m0:Nat
 m1:Nat
 m2:Nat
 b:Nat->Nat
 t:Nat->Nat
 c:Nat->Nat
def DN(p:ProjR)(N:LayN)(q:Nat):Prop:=∀i,i<p.seqs.length->q≠N.c i
def aGb(l:List Int):V:=.agg [aA (l.getD 0 0),aA (l.getD 1 0),aA (l.getD 2 0),aA (l.getD 3 0)]
structure KeptE (p:ProjR) (A:List AudioR) (i:Nat) (es:aN7):Prop where
 kinds:eJ (.int .i64) es=true
 val:∀j v,fV (.int .i64 j) es=some v ->∃l,sM p A i j=.ok l/\v=aGb l
structure MixH (p:ProjR) (A:List AudioR) (N:LayN) (n0:Nat) (H:Heap):Prop where
 box:H.look N.m=some (.box [.own N.m0,.own N.m1,.own N.m2])
 rt:∃R,H.look N.m0=some (.map (tEs R))/\eJ .string R=true /\∀k,k<p.media.length->fV (.string (p.media.getD k default).name) R=some (bV (p.media.getD k default).seq.rate)
 au:∃U,H.look N.m1=some (.map (tEs U))/\eJ .string U=true /\∀n,fV (.string n) U=(rN A n).map λa=> .agg [cF a.name,.t (pY a.chs)]
 sq:∃S:List (Value×V),H.look N.m2=some (.map S)/\fP .string S=true/\(∀i,i<p.seqs.length->fX (.string (p.seqs.getD i default).name) S=some (.own (N.b i))) /\∀n,gU p n<0->fX (.string n) S=none
 seq:∀i,i<p.seqs.length->H.look (N.b i)=some (.box [aA (p.seqs.getD i default).rate.num,aA (p.seqs.getD i default).rate.den,aA (p.seqs.getD i default).channels,.own (N.t i),.own (N.c i)])
 trk:∀i,i<p.seqs.length->H.look (N.t i)=some (.row 124 3 aNb (aS ((p.seqs.getD i default).sound.map Xs)))
 kept:∀i,i<p.seqs.length ->∃es,H.look (N.c i)=some (.map (tEs es))/\KeptE p A i es
 dm:DN p N N.m/\DN p N N.m0/\DN p N N.m1/\DN p N N.m2
 db:∀i,i<p.seqs.length->DN p N (N.b i)/\DN p N (N.t i)
 inj:∀i j,i<p.seqs.length->j<p.seqs.length->N.c i=N.c j->i=j
 lm:N.m<n0/\N.m0<n0/\N.m1<n0/\N.m2<n0
 lb:∀i,i<p.seqs.length->N.b i<n0/\N.t i<n0/\N.c i<n0
 wf:∀q,n0<=q->H.look q=none
theorem MixH.later{p:ProjR}{A:List AudioR}{N:LayN}{n0 n':Nat}{H H':Heap}(h:MixH p A N n0 H)(hle:n0<=n')(hD:bF (DN p N) H H')(hk:∀i,i<p.seqs.length ->∃es,H'.look (N.c i)=some (.map (tEs es))/\KeptE p A i es)(hwf:∀q,n'<=q->H'.look q=none):MixH p A N n' H':=by
 obtain⟨R,r1,r2⟩:=h.rt;obtain⟨U,u1,u2⟩:=h.au;obtain⟨S,v1,v2⟩:=h.sq;obtain⟨d1,d2,d3,d4⟩:=h.dm;obtain⟨l1,l2,l3,l4⟩:=h.lm;refine⟨hD _ _ d1 h.box,⟨R,hD _ _ d2 r1,r2⟩,⟨U,hD _ _ d3 u1,u2⟩,⟨S,hD _ _ d4 v1,v2⟩,λi hi=>hD _ _ (h.db i hi).1 (h.seq i hi),λi hi=>hD _ _ (h.db i hi).2 (h.trk i hi),hk,h.dm,h.db,h.inj,⟨by omega,by omega,by omega,by omega⟩,λi hi=>?_,hwf⟩;have:=h.lb i hi;omega
theorem aN{H:Heap}{n0:Nat}(hwf:∀q,n0<=q->H.look q=none){q:Nat}{b:Blk}(hq:H.look q=some b){k:Nat}{c:Blk}(hk:n0<=k):Heap.look ((k,c)::H) q=some b:=by
 rw[Heap.look,if_neg]
 .exact hq
 .intro e;subst e;rw[hwf _ hk]at hq;cases hq
theorem MixH.top{p:ProjR}{A:List AudioR}{N:LayN}{n0:Nat}{H:Heap}(h:MixH p A N n0 H){k:Nat}(c:Blk)(hk:n0<=k):MixH p A N (k+1) ((k,c)::H):=by
 refine h.later (by omega) (λq b _ hq=>aN h.wf hq hk) (λi hi=>?_) λq hq=>?_
 .obtain⟨es,h1,h2⟩:=h.kept i hi;exact⟨es,aN h.wf h1 hk,h2⟩
 .rw[Heap.look,if_neg (by omega)];exact h.wf q (by omega)
theorem MixH.nx{p:ProjR}{A:List AudioR}{N:LayN}{n0 n1:Nat}{H:Heap}(h:MixH p A N n0 H)(hle:n0<=n1):MixH p A N n1 H:=h.later hle (λ_ _ _ h=>h) h.kept λq hq=>h.wf q (by omega)
theorem pRate1{p:ProjR}(hp:PrjV p){A:List AudioR}{N:LayN}{σ:St}{KP:List PanicEntry->St->Prop}{d:Option Tmp}{K:St->Prop}(hM:MixH p A N σ.nx σ.h){i:Nat}{s:SourceR}(hs:SrcV p i s)(hk:s.kind=1)
  (hK:∀h' nx',σ.nx<=nx'->bF (DN p N) σ.h h'->MixH p A N nx' h'->K (({ σ with h:=h',nx:=nx' }:St).put d (bV (cS p s)))) :
  PCall Tryz.prog (DN p N) KP σ d 125 [.own N.m,eH s] K:=by
 obtain⟨R,hR1,hR2,hR3⟩:=hM.rt;have hbx:=hM.box;obtain⟨l1,l2,l3,l4⟩:=hM.lm;refine fK Tryz.X125 Tryz.func125 rfl Tryz.ntmps125 (by rw[Tryz.results125]) ?_;obtain⟨fr0,H0,n0,df0⟩:= σ;simp only at hbx hR1 l1 l2 l3 l4 hK⊢;have e1:(N.m=n0)=False:=by simp;omega
 have e2:∀k,(N.m=n0+k)=False:=λk=>by simp;omega
 have e3:(N.m0=n0)=False:=by simp;omega
 have e4:∀k,(N.m0=n0+k)=False:=λk=>by simp;omega
 refine aB _ ?_;simp only[go_sem,seval,hk,Nat.add_assoc,Nat.left_eq_add];obtain⟨k,hkl,hki,hkn⟩:∃k,k<p.media.length/\Fk p s.name=(k:Int)/\(p.media.getD k default).name=s.name:=by
  rcases hs.kind with h|h|h
  .omega
  .obtain⟨k,h1,h2,h3⟩:=Ad h.2;exact⟨k,h1,h2,(bq _ _).1 h3⟩
  .omega
 have hlk:=hR3 k hkl;rw[hkn]at hlk;have hre:cS p s=(p.media.getD k default).seq.rate:=by
  unfold cS;rw[if_pos hk,hki,Int.toNat_natCast]
 rw[hre]at hK;generalize(p.media.getD k default).seq.rate=r at*;refine bL [0,1,2,3,4,5,6] (.step 7 .done) (h:=?_);simp only[go_sem,seval,e1,e2,e3,e4,hbx,hR1,hR2,hlk,Nat.left_eq_add];have hM1:=MixH.top hM (k:=n0) (.box [aA 1,cF s.name,aA s.pos.num,aA s.pos.den,aA s.speed.num,aA s.speed.den,aR s.smooth]) (Nat.le_refl _);have hM2:=MixH.top hM1 (k:=n0+1) (.box [aA r.num,aA r.den]) (Nat.le_refl _);have hD:bF (DN p N) H0 ((n0+1,.box [aA r.num,aA r.den])::(n0,.box [aA 1,cF s.name,aA s.pos.num,aA s.pos.den,aA s.speed.num,aA s.speed.den,aR s.smooth])::H0):=λq b _ hq=>aN hM1.wf (aN hM.wf hq (Nat.le_refl _)) (Nat.le_refl _)
 have hK2:=hK _ _ (show n0<=n0+1+1 by omega) hD hM2;unfold vW;simp only[go_sem,seval];exact⟨hD,hK2⟩
theorem pRate2{p:ProjR}(hp:PrjV p){A:List AudioR}{N:LayN}{σ:St}{KP:List PanicEntry->St->Prop}{d:Option Tmp}{K:St->Prop}(hM:MixH p A N σ.nx σ.h){i:Nat}{s:SourceR}(hs:SrcV p i s)(hk:s.kind=2)
  (hK:∀h' nx',σ.nx<=nx'->bF (DN p N) σ.h h'->MixH p A N nx' h'->K (({ σ with h:=h',nx:=nx' }:St).put d (bV (cS p s)))) :
  PCall Tryz.prog (DN p N) KP σ d 125 [.own N.m,eH s] K:=by
 obtain⟨S,hS1,hS2,hS3,_⟩:=hM.sq;have hbx:=hM.box;obtain⟨l1,l2,l3,l4⟩:=hM.lm;have hx:0<=gU p s.name:=by
  rcases hs.kind with h|h|h
  .omega
  .omega
  .exact h.2.1
 obtain⟨k,hkl,hki,hkn⟩:=mT hx;have hlk:=hS3 k hkl;rw[hkn]at hlk;have hsq:=hM.seq k hkl;have hlb:=(hM.lb k hkl).1;have hre:cS p s=(p.seqs.getD k default).rate:=by
  unfold cS;rw[if_neg (by omega),hki,Int.toNat_natCast]
 rw[hre]at hK;have hk1:(s.kind==1)=false:=by rw[hk];rfl
 refine fK Tryz.X125 Tryz.func125 rfl Tryz.ntmps125 (by rw[Tryz.results125]) ?_;obtain⟨fr0,H0,n0,df0⟩:= σ;simp only at hbx hS1 hsq l1 l2 l3 l4 hlb hK hM⊢;have e1:(N.m=n0)=False:=by simp;omega
 have e2:∀k,(N.m=n0+k)=False:=λk=>by simp;omega
 have e3:(N.m2=n0)=False:=by simp;omega
 have e4:∀k,(N.m2=n0+k)=False:=λk=>by simp;omega
 have e5:(N.b k=n0)=False:=by simp;omega
 have e6:∀j,(N.b k=n0+j)=False:=λj=>by simp;omega
 generalize(p.seqs.getD k default).rate=r at*;refine aB _ ?_;simp only[go_sem,seval,hk1,Nat.add_assoc,Nat.left_eq_add];refine bL [0,1,2,3,4,5,6,7,8,9] (.step 10 .done) (h:=?_);simp only[go_sem,seval,e1,e2,e3,e4,e5,e6,hbx,hS1,hS2,hlk,hsq,Nat.left_eq_add];have hM1:=MixH.top hM (k:=n0) (.box [aA s.kind,cF s.name,aA s.pos.num,aA s.pos.den,aA s.speed.num,aA s.speed.den,aR s.smooth]) (Nat.le_refl _);have hM2:=MixH.top hM1 (k:=n0+1) (.box [aA r.num,aA r.den]) (Nat.le_refl _);have hD:bF (DN p N) H0 ((n0+1,.box [aA r.num,aA r.den])::(n0,.box [aA s.kind,cF s.name,aA s.pos.num,aA s.pos.den,aA s.speed.num,aA s.speed.den,aR s.smooth])::H0):=λq b _ hq=>aN hM1.wf (aN hM.wf hq (Nat.le_refl _)) (Nat.le_refl _)
 have hK2:=hK _ _ (show n0<=n0+1+1 by omega) hD hM2;unfold vW;simp only[go_sem,seval];exact⟨hD,hK2⟩
theorem Vc{p:ProjR}(hp:PrjV p){A:List AudioR}{N:LayN}{σ:St}{KP:List PanicEntry->St->Prop}{d:Option Tmp}{K:St->Prop}(hM:MixH p A N σ.nx σ.h){i:Nat}{s:SourceR}(hs:SrcV p i s)(hk:s.kind≠0)
  (hK:∀h' nx',σ.nx<=nx'->bF (DN p N) σ.h h'->MixH p A N nx' h'->K (({ σ with h:=h',nx:=nx' }:St).put d (bV (cS p s)))) :
  PCall Tryz.prog (DN p N) KP σ d 125 [.own N.m,eH s] K:=by
 by_cases h:s.kind=2
 .exact pRate2 hp hM hs h hK
 .exact pRate1 hp hM hs (by rcases hs.kind with q|q|q<;>omega) hK
def pK(n0 q:Nat):Nat:=if q<n0 then 0 else 1+(q-n0)
def renL(n0:Nat)(L:Log):Log:=L.map λe=>(e.1,pK n0 e.2.1,e.2.2)
theorem jL{l:List Oper}{n0:Nat}{L:Log}(h:vJ l 1 (renL n0 L)=true):vJ l n0 L=true:=by
 unfold vJ at h⊢;rw[List.all_eq_true]at h⊢;intro e he;have h1:=h _ (List.mem_map.2 ⟨e,he,rfl⟩);unfold aSc at h1⊢;simp only[Bool.and_eq_true,List.all_eq_true,Bool.or_eq_true]at h1⊢;obtain⟨h1,h2⟩:=h1;refine⟨λf hf=>?_,?_⟩
 .have h3:=h1 _ (List.mem_map.2 ⟨f,hf,rfl⟩);rcases h3 with (h3|h3)|h3
  .left;left;simp only[Bool.not_eq_true',Bool.and_eq_false_iff,beq_eq_false_iff_ne]at h3⊢;rcases h3 with h3|h3
   .exact .inl h3
   .refine .inr λhq=>h3 ?_
    rw[hq]
  .exact .inl (.inr h3)
  .exact .inr h3
 .unfold pK at h2
  by_cases hq:e.2.1<n0
  .left;exact decide_eq_true hq
  .right;rw[if_neg hq]at h2;rcases h2 with h2|h2
   .have:=of_decide_eq_true h2;omega
   .have e1:1+(e.2.1-n0)-1=e.2.1-n0:=by omega
    rw[e1]at h2;exact h2
theorem jG(n0:Nat):renL n0 []=[]:=rfl
theorem gB(n0 i q:Nat)(u:Bool)(L:Log):renL n0 ((i,q,u)::L)=(i,pK n0 q,u)::renL n0 L:=rfl
theorem cC{n0 q:Nat}(h:q<n0):pK n0 q=0:=by unfold pK;rw[if_pos h]
theorem rR{n0 k j:Nat}(h:j<=k):pK (n0+j) (n0+k)=1+(k-j):=by
 unfold pK;rw[if_neg (by omega)];omega
theorem Ve{n0 j:Nat}(h:0<j):pK (n0+j) n0=0:=cC (by omega)
theorem eS{P:Program}{n0:Nat}{c:Operand}{x y:Code}{b:Bool}{Q:Exit->St->Prop}{σ:St}(hc:σ.ev c=.t (.lit (.bool b)))(h:AWP P n0 (if b=true then x else y) Q σ):AWP P n0 (.cond c x y) Q σ:=by
 intro E a w hr E0 w0 hU hE;have hv:=hr.ev c;rw[hc]at hv;exact wpIn_cond (aJ hv).1 (h E a w hr E0 w0 hU hE)
theorem dM{P:Program}{D:Nat->Prop}{KP:List PanicEntry->St->Prop}{σ:St}{d:Option Tmp}{f:FuncId}{xs:List V}{K:St->Prop}(h:PCall P D KP σ d f xs K):PCall P (λ_=>False) KP σ d f xs K:=
 ⟨h.1,λE w vs h1 h2 h3=>(h.2 E w vs h1 h2 h3).mono λe w' hh=>by
  rcases hh with ⟨v,x,h',nx',E',q1,q2,q3,q4,q5,q6,q7⟩|hh
  .exact .inl ⟨v,x,h',nx',E',q1,q2,q3,q4,q5,λq b hf=>hf.elim,q7⟩
  .exact .inr hh⟩
theorem wB(d x y z:List T)(l:List (List T)):nth d (x::y::z::l) 2=z:=rfl
theorem De(d x y z u:List T)(l:List (List T)):nth d (x::y::z::u::l) 3=u:=rfl
theorem pX{p:ProjR}{A:List AudioR}{N:LayN}{n0:Nat}{H:Heap}(h:MixH p A N n0 H)(b0 b1 b2 b3:Blk):bF (DN p N) H ((n0+15,b3)::(n0+12,b2)::(n0+1,b1)::(n0,b0)::H)/\MixH p A N (n0+16) ((n0+15,b3)::(n0+12,b2)::(n0+1,b1)::(n0,b0)::H):=by
 have h1:=MixH.top h (k:=n0) b0 (Nat.le_refl _);have h2:=MixH.top h1 (k:=n0+1) b1 (Nat.le_refl _);have h3:=MixH.top h2 (k:=n0+12) b2 (by omega);have h4:=MixH.top h3 (k:=n0+15) b3 (by omega);exact⟨λq b _ hq=>aN h3.wf (aN h2.wf (aN h1.wf (aN h.wf hq (Nat.le_refl _)) (Nat.le_refl _)) (by omega)) (by omega),h4⟩
set_option maxHeartbeats 4000000 in
theorem pNum1{p:ProjR}{A:List AudioR}(hA:AudP A){N:LayN}{σ:St}{KP:List PanicEntry->St->Prop}{d:Option Tmp}{K:St->Prop}(hM:MixH p A N σ.nx σ.h){s:SourceR}(hk:s.kind≠2)(j:Int)(hj:I64 j)
  (hK:∀a,rN A s.name=some a ->∀h' nx',σ.nx<=nx'->bF (DN p N) σ.h h'->MixH p A N nx' h'->K (({ σ with h:=h',nx:=nx' }:St).put d (vP (a.chs.map λl=>aZ l j))))
  (hKP:rN A s.name=none ->∀h' nx',σ.nx<=nx'->bF (DN p N) σ.h h'->MixH p A N nx' h'->KP [{ v:=jK 7,recovered:=false }] { σ with fr:=[],h:=h',nx:=nx' }) :
  PCall Tryz.prog (DN p N) KP σ d 128 [.own N.m,eH s,aA j] K:=by
 obtain⟨U,hU1,hU2,hU3⟩:=hM.au;have hbx:=hM.box;obtain⟨l1,l2,l3,l4⟩:=hM.lm;have hlk:=hU3 s.name;have hk1:(s.kind==2)=false:=by rw[beq_eq_false_iff_ne];exact hk
 refine fK Tryz.X128 Tryz.func128 rfl Tryz.ntmps128 (by rw[Tryz.results128]) ?_;obtain⟨fr0,H0,n0,df0⟩:= σ;simp only at hbx hU1 l1 l2 l3 l4 hK hKP hM⊢;have e1:(N.m=n0)=False:=by simp;omega
 have e2:∀k,(N.m=n0+k)=False:=λk=>by simp;omega
 have e3:(N.m1=n0)=False:=by simp;omega
 have e4:∀k,(N.m1=n0+k)=False:=λk=>by simp;omega
 have o1:=cC (n0:=n0+2) (q:=N.m) (by omega);have o2:=cC (n0:=n0+2) (q:=N.m1) (by omega);refine aH (aB _ ?_);simp only[go_sem,seval,Nat.add_assoc];refine aH (aB _ ?_);simp only[go_sem,seval,hk1,Nat.left_eq_add];refine aH ?_;refine aB _ ?_;simp only[go_sem,seval];refine aQ 13 .done (h:=?_);cases hsn:rN A s.name with
 |none=>
  rw[hsn]at hlk;simp only[go_sem,seval,e1,e2,e3,e4,hbx,hU1,hU2,hlk,Nat.add_assoc,Nat.left_eq_add];refine⟨jL ?_,?_⟩
  .simp only[gB,jG,o1,o2,rR,Ve,Nat.reduceLeDiff,Nat.reduceLT,Nat.reduceSub,Nat.reduceAdd]
   kernel_rfl
  refine aH ?_;refine aH (aB _ ?_);simp only[go_sem,seval];refine eS (b:=true) rfl ?_;rw[if_pos rfl];refine aU 1 ?_;simp only[go_sem,seval];refine tE 44 45 rfl rfl rfl rfl rfl (u:=_) rfl (by intro m;exact λh=>by cases h) (by show 45<76;omega) rfl ?_;intro fr;have hM1:=MixH.top hM (k:=n0) (.box [aA s.kind,cF s.name,aA s.pos.num,aA s.pos.den,aA s.speed.num,aA s.speed.den,aR s.smooth]) (Nat.le_refl _);have hM2:=MixH.top hM1 (k:=n0+1) (.box [aA 0,aA 0,aA 0,aA 0,aA 0]) (Nat.le_refl _);have hM3:=MixH.nx (MixH.top hM2 (k:=n0+12) (.box [cF ⟨#[]⟩,.t (.lit (.slice none 0 0))]) (by omega)) (show n0+12+1<=n0+15 by omega);exact⟨rfl,hKP hsn _ (n0+15) (show n0<=n0+15 by omega) (λq b _ hq=>aN hM2.wf (aN hM1.wf (aN hM.wf hq (Nat.le_refl _)) (Nat.le_refl _)) (by omega)) hM3⟩
 |some a=>
  rw[hsn]at hlk;have hK:=hK a hsn;have hmem:a∈A:=List.mem_of_find?_eq_some hsn;obtain⟨h4,hlen⟩:=hA.four hmem;have hpc:=hA.pcm a hmem;obtain⟨nm,L⟩:=a;simp only at h4 hlen hpc hK hlk;simp only[go_sem,seval,e1,e2,e3,e4,hbx,hU1,hU2,hlk,Nat.add_assoc,Nat.left_eq_add,pY,t16];refine⟨jL ?_,?_⟩
  .simp only[gB,jG,o1,o2,rR,Ve,Nat.reduceLeDiff,Nat.reduceLT,Nat.reduceSub,Nat.reduceAdd]
   kernel_rfl
  have ww1:IntKind.i64.wrap 1=1:=by decide
  have ww2:IntKind.i64.wrap 2=2:=by decide
  have ww3:IntKind.i64.wrap 3=3:=by decide
  have ww4:IntKind.i64.wrap 4=4:=by decide
  have w01:IntKind.i64.wrap (0+1)=1:=by decide
  have w11:IntKind.i64.wrap (1+1)=2:=by decide
  have w21:IntKind.i64.wrap (2+1)=3:=by decide
  have w31:IntKind.i64.wrap (3+1)=4:=by decide
  have cD:=λc=>MixH.top hM (k:=n0) c (Nat.le_refl _)
  rcases L with _|⟨p0,_|⟨p1,_|⟨p2,_|⟨p3,_|⟨p4,l⟩⟩⟩⟩⟩
  .clear hlk;refine aB _ ?_;simp only[go_sem,seval,Nat.add_assoc,Nat.add_left_cancel_iff];refine bC ?_;refine aK (aB _ ?_);simp only[go_sem,dtf,seval,Nat.add_left_cancel_iff];unfold vW;simp only[go_sem,seval,Nat.add_left_cancel_iff];exact⟨(pX hM _ _ _ _).1,hK _ (n0+16) (show n0<=n0+16 by omega) (pX hM _ _ _ _).1 (pX hM _ _ _ _).2⟩
  .clear hlk;obtain⟨ln0,le0⟩:=hlen p0 (by simp);have pb0:=gV (hpc p0 (by simp)).2 j;have wp0:=wrap64 (x:=aZ p0 j);have le0:p0.length=p0.length:=le0;refine aB _ ?_;simp only[go_sem,seval,Nat.add_assoc,Nat.add_left_cancel_iff]
   by_cases hin:0<=j/\j<p0.length
   .have d1:decide (j>=0)=true:=decide_eq_true hin.1;have lp0:decide (j<(p0.length:Int))=true:=decide_eq_true (by omega);have np0:=λd=>kZ (p:=p0) (j:=j) hin.1 (by omega) d
    refine bC ?_;refine aK (aB _ ?_);simp only[go_sem,dtf,seval,ww1,d1,lp0,np0,wp0,jR];refine⟨⟨hin.1,by omega⟩,?_⟩;refine aK (aB _ ?_);simp only[go_sem,dtf,seval,Nat.add_left_cancel_iff];unfold vW;simp only[go_sem,seval,Nat.add_left_cancel_iff];exact⟨(pX hM _ _ _ _).1,hK _ (n0+16) (show n0<=n0+16 by omega) (pX hM _ _ _ _).1 (pX hM _ _ _ _).2⟩
   .refine bC ?_;have z0:aZ p0 j=0:=gS (by omega);simp only[List.map_cons,List.map_nil,z0]at hK;refine aK (aB _ ?_);simp only[go_sem,dtf,seval,jR];refine⟨λh=>(by simp only[Bool.and_eq_true,decide_eq_true_eq]at h;omega),λ_=>?_⟩;unfold awS;simp only[go_sem,seval,ww1];refine aK (aB _ ?_);simp only[go_sem,dtf,seval,Nat.add_left_cancel_iff];unfold vW;simp only[go_sem,seval,Nat.add_left_cancel_iff];exact⟨(pX hM _ _ _ _).1,hK _ (n0+16) (show n0<=n0+16 by omega) (pX hM _ _ _ _).1 (pX hM _ _ _ _).2⟩
  .clear hlk;obtain⟨ln0,le0⟩:=hlen p0 (by simp);have pb0:=gV (hpc p0 (by simp)).2 j;have wp0:=wrap64 (x:=aZ p0 j);obtain⟨ln1,le1⟩:=hlen p1 (by simp);have pb1:=gV (hpc p1 (by simp)).2 j;have wp1:=wrap64 (x:=aZ p1 j);have le0:p0.length=p0.length:=le0;have le1:p1.length=p0.length:=le1;refine aB _ ?_;simp only[go_sem,seval,Nat.add_assoc,Nat.add_left_cancel_iff]
   by_cases hin:0<=j/\j<p0.length
   .have d1:decide (j>=0)=true:=decide_eq_true hin.1;have lp0:decide (j<(p0.length:Int))=true:=decide_eq_true (by omega);have np0:=λd=>kZ (p:=p0) (j:=j) hin.1 (by omega) d
    have lp1:decide (j<(p1.length:Int))=true:=decide_eq_true (by omega);have np1:=λd=>kZ (p:=p1) (j:=j) hin.1 (by omega) d
    refine bC ?_;refine aK (aB _ ?_);simp only[go_sem,dtf,seval,ww1,d1,lp0,np0,wp0,jR];refine⟨⟨hin.1,by omega⟩,?_⟩;refine aK (aB _ ?_);simp only[go_sem,dtf,seval,ww2,d1,lp1,np1,wp1,rU];refine⟨⟨hin.1,by omega⟩,?_⟩;refine aK (aB _ ?_);simp only[go_sem,dtf,seval,Nat.add_left_cancel_iff];unfold vW;simp only[go_sem,seval,Nat.add_left_cancel_iff];exact⟨(pX hM _ _ _ _).1,hK _ (n0+16) (show n0<=n0+16 by omega) (pX hM _ _ _ _).1 (pX hM _ _ _ _).2⟩
   .refine bC ?_;have z0:aZ p0 j=0:=gS (by omega);have z1:aZ p1 j=0:=gS (by omega);simp only[List.map_cons,List.map_nil,z0,z1]at hK;refine aK (aB _ ?_);simp only[go_sem,dtf,seval,jR];refine⟨λh=>(by simp only[Bool.and_eq_true,decide_eq_true_eq]at h;omega),λ_=>?_⟩;unfold awS;simp only[go_sem,seval,ww1];refine aK (aB _ ?_);simp only[go_sem,dtf,seval,rU];refine⟨λh=>(by simp only[Bool.and_eq_true,decide_eq_true_eq]at h;omega),λ_=>?_⟩;unfold awS;simp only[go_sem,seval,ww2];refine aK (aB _ ?_);simp only[go_sem,dtf,seval,Nat.add_left_cancel_iff];unfold vW;simp only[go_sem,seval,Nat.add_left_cancel_iff];exact⟨(pX hM _ _ _ _).1,hK _ (n0+16) (show n0<=n0+16 by omega) (pX hM _ _ _ _).1 (pX hM _ _ _ _).2⟩
  .clear hlk;obtain⟨ln0,le0⟩:=hlen p0 (by simp);have pb0:=gV (hpc p0 (by simp)).2 j;have wp0:=wrap64 (x:=aZ p0 j);obtain⟨ln1,le1⟩:=hlen p1 (by simp);have pb1:=gV (hpc p1 (by simp)).2 j;have wp1:=wrap64 (x:=aZ p1 j);obtain⟨ln2,le2⟩:=hlen p2 (by simp);have pb2:=gV (hpc p2 (by simp)).2 j;have wp2:=wrap64 (x:=aZ p2 j);have le0:p0.length=p0.length:=le0;have le1:p1.length=p0.length:=le1;have le2:p2.length=p0.length:=le2;refine aB _ ?_;simp only[go_sem,seval,Nat.add_assoc,Nat.add_left_cancel_iff]
   by_cases hin:0<=j/\j<p0.length
   .have d1:decide (j>=0)=true:=decide_eq_true hin.1;have lp0:decide (j<(p0.length:Int))=true:=decide_eq_true (by omega);have np0:=λd=>kZ (p:=p0) (j:=j) hin.1 (by omega) d
    have lp1:decide (j<(p1.length:Int))=true:=decide_eq_true (by omega);have np1:=λd=>kZ (p:=p1) (j:=j) hin.1 (by omega) d
    have lp2:decide (j<(p2.length:Int))=true:=decide_eq_true (by omega);have np2:=λd=>kZ (p:=p2) (j:=j) hin.1 (by omega) d
    refine bC ?_;refine aK (aB _ ?_);simp only[go_sem,dtf,seval,ww1,d1,lp0,np0,wp0,jR];refine⟨⟨hin.1,by omega⟩,?_⟩;refine aK (aB _ ?_);simp only[go_sem,dtf,seval,ww2,d1,lp1,np1,wp1,rU];refine⟨⟨hin.1,by omega⟩,?_⟩;refine aK (aB _ ?_);simp only[go_sem,dtf,seval,ww3,d1,lp2,np2,wp2,wB];refine⟨⟨hin.1,by omega⟩,?_⟩;refine aK (aB _ ?_);simp only[go_sem,dtf,seval,Nat.add_left_cancel_iff];unfold vW;simp only[go_sem,seval,Nat.add_left_cancel_iff];exact⟨(pX hM _ _ _ _).1,hK _ (n0+16) (show n0<=n0+16 by omega) (pX hM _ _ _ _).1 (pX hM _ _ _ _).2⟩
   .refine bC ?_;have z0:aZ p0 j=0:=gS (by omega);have z1:aZ p1 j=0:=gS (by omega);have z2:aZ p2 j=0:=gS (by omega);simp only[List.map_cons,List.map_nil,z0,z1,z2]at hK;refine aK (aB _ ?_);simp only[go_sem,dtf,seval,jR];refine⟨λh=>(by simp only[Bool.and_eq_true,decide_eq_true_eq]at h;omega),λ_=>?_⟩;unfold awS;simp only[go_sem,seval,ww1];refine aK (aB _ ?_);simp only[go_sem,dtf,seval,rU];refine⟨λh=>(by simp only[Bool.and_eq_true,decide_eq_true_eq]at h;omega),λ_=>?_⟩;unfold awS;simp only[go_sem,seval,ww2];refine aK (aB _ ?_);simp only[go_sem,dtf,seval,wB];refine⟨λh=>(by simp only[Bool.and_eq_true,decide_eq_true_eq]at h;omega),λ_=>?_⟩;unfold awS;simp only[go_sem,seval,ww3];refine aK (aB _ ?_);simp only[go_sem,dtf,seval,Nat.add_left_cancel_iff];unfold vW;simp only[go_sem,seval,Nat.add_left_cancel_iff];exact⟨(pX hM _ _ _ _).1,hK _ (n0+16) (show n0<=n0+16 by omega) (pX hM _ _ _ _).1 (pX hM _ _ _ _).2⟩
  .clear hlk;obtain⟨ln0,le0⟩:=hlen p0 (by simp);have pb0:=gV (hpc p0 (by simp)).2 j;have wp0:=wrap64 (x:=aZ p0 j);obtain⟨ln1,le1⟩:=hlen p1 (by simp);have pb1:=gV (hpc p1 (by simp)).2 j;have wp1:=wrap64 (x:=aZ p1 j);obtain⟨ln2,le2⟩:=hlen p2 (by simp);have pb2:=gV (hpc p2 (by simp)).2 j;have wp2:=wrap64 (x:=aZ p2 j);obtain⟨ln3,le3⟩:=hlen p3 (by simp);have pb3:=gV (hpc p3 (by simp)).2 j;have wp3:=wrap64 (x:=aZ p3 j);have le0:p0.length=p0.length:=le0;have le1:p1.length=p0.length:=le1;have le2:p2.length=p0.length:=le2;have le3:p3.length=p0.length:=le3;refine aB _ ?_;simp only[go_sem,seval,Nat.add_assoc,Nat.add_left_cancel_iff]
   by_cases hin:0<=j/\j<p0.length
   .have d1:decide (j>=0)=true:=decide_eq_true hin.1;have lp0:decide (j<(p0.length:Int))=true:=decide_eq_true (by omega);have np0:=λd=>kZ (p:=p0) (j:=j) hin.1 (by omega) d
    have lp1:decide (j<(p1.length:Int))=true:=decide_eq_true (by omega);have np1:=λd=>kZ (p:=p1) (j:=j) hin.1 (by omega) d
    have lp2:decide (j<(p2.length:Int))=true:=decide_eq_true (by omega);have np2:=λd=>kZ (p:=p2) (j:=j) hin.1 (by omega) d
    have lp3:decide (j<(p3.length:Int))=true:=decide_eq_true (by omega);have np3:=λd=>kZ (p:=p3) (j:=j) hin.1 (by omega) d
    refine bC ?_;refine aK (aB _ ?_);simp only[go_sem,dtf,seval,ww1,d1,lp0,np0,wp0,jR];refine⟨⟨hin.1,by omega⟩,?_⟩;refine aK (aB _ ?_);simp only[go_sem,dtf,seval,ww2,d1,lp1,np1,wp1,rU];refine⟨⟨hin.1,by omega⟩,?_⟩;refine aK (aB _ ?_);simp only[go_sem,dtf,seval,ww3,d1,lp2,np2,wp2,wB];refine⟨⟨hin.1,by omega⟩,?_⟩;refine aK (aB _ ?_);simp only[go_sem,dtf,seval,ww4,d1,lp3,np3,wp3,De];refine⟨⟨hin.1,by omega⟩,?_⟩;refine aK (aB _ ?_);simp only[go_sem,dtf,seval,Nat.add_left_cancel_iff];unfold vW;simp only[go_sem,seval,Nat.add_left_cancel_iff];exact⟨(pX hM _ _ _ _).1,hK _ (n0+16) (show n0<=n0+16 by omega) (pX hM _ _ _ _).1 (pX hM _ _ _ _).2⟩
   .refine bC ?_;have z0:aZ p0 j=0:=gS (by omega);have z1:aZ p1 j=0:=gS (by omega);have z2:aZ p2 j=0:=gS (by omega);have z3:aZ p3 j=0:=gS (by omega);simp only[List.map_cons,List.map_nil,z0,z1,z2,z3]at hK;refine aK (aB _ ?_);simp only[go_sem,dtf,seval,jR];refine⟨λh=>(by simp only[Bool.and_eq_true,decide_eq_true_eq]at h;omega),λ_=>?_⟩;unfold awS;simp only[go_sem,seval,ww1];refine aK (aB _ ?_);simp only[go_sem,dtf,seval,rU];refine⟨λh=>(by simp only[Bool.and_eq_true,decide_eq_true_eq]at h;omega),λ_=>?_⟩;unfold awS;simp only[go_sem,seval,ww2];refine aK (aB _ ?_);simp only[go_sem,dtf,seval,wB];refine⟨λh=>(by simp only[Bool.and_eq_true,decide_eq_true_eq]at h;omega),λ_=>?_⟩;unfold awS;simp only[go_sem,seval,ww3];refine aK (aB _ ?_);simp only[go_sem,dtf,seval,De];refine⟨λh=>(by simp only[Bool.and_eq_true,decide_eq_true_eq]at h;omega),λ_=>?_⟩;unfold awS;simp only[go_sem,seval,ww4];refine aK (aB _ ?_);simp only[go_sem,dtf,seval,Nat.add_left_cancel_iff];unfold vW;simp only[go_sem,seval,Nat.add_left_cancel_iff];exact⟨(pX hM _ _ _ _).1,hK _ (n0+16) (show n0<=n0+16 by omega) (pX hM _ _ _ _).1 (pX hM _ _ _ _).2⟩
  .simp at h4
theorem tA{l:List Int}{k:Nat}(h:k<l.length)(d:List T):nth d (l.map eB) k=eB (l.getD k 0):=by
 unfold nth;rw[List.getElem?_map,List.getElem?_eq_getElem h,List.getD_eq_getElem?_getD,List.getElem?_eq_getElem h];rfl
theorem med_nth{l:List MediumR}{k:Nat}(h:k<l.length)(d:List T):nth d (l.map MediumR.c) k=MediumR.c (l.getD k default):=by
 unfold nth;rw[List.getElem?_map,List.getElem?_eq_getElem h,bB h];rfl
set_option maxHeartbeats 4000000 in
theorem Zq{p:ProjR}(hp:PrjV p){A:List AudioR}(hA:AudP A){nest:Nat->Int->Ev (List Int)}{i:Nat}(hN:aGj p A nest i)(hB:NestB nest){s:SourceR}(hs:SrcV p i s)(take:List Int)(ht:take.length<=4){k:Rat}(hk:cH k=true):
  aL Tryz.prog 110 [Xm p A,eH s,.t (cM take),bV (ofQ k)] (zD (aE9 p A nest s take k)):=by
 have hns:=λha j h1 h2=>cRNum p hA hN hs ha j h1 h2
 have hnb:=λj l=>zJ hA.toAudF hB (s:=s) (p:=p) (j:=j) (l:=l)
 obtain⟨R,hR⟩:∃R,R=aE9 p A nest s take k:=⟨_,rfl⟩
 rw[<-hR];unfold aE9 vT at hR;refine aF Tryz.X110 Tryz.func110 rfl Tryz.ntmps110 (by rw[Tryz.results110]) (aB _ ?_);simp only[go_sem,seval];refine⟨⟨by omega,by unfold maxLen;omega,by omega⟩,_,uC s,?_⟩;simp only[go_sem,seval];refine⟨λhz=>?_,λhz=>?_⟩
 .rw[if_pos (zX hz)]at hR;rw[hR];unfold awS;unfold zD;simp only[go_sem,seval];have e:List.replicate take.length [T.lit (.int .i64 0)]=List.map eB (List.map (λc=>aZ [] c) take):=by
   refine List.ext_getElem (by simp) λi h1 h2=>?_
   simp only[List.getElem_replicate,List.getElem_map,pcm_nil];rfl
  rw[e];rfl
 have hk0:s.kind≠0:=by
  rcases isZ_k12 hz hs.ok with h|h<;>omega
 rw[if_neg hk0]at hR;obtain⟨hvp,hvs⟩:dA s.pos=true/\dA s.speed=true:=by
  have:=hs.ok;unfold aT at this;rw[hz,Bool.false_or]at this;simp only[Bool.and_eq_true]at this;exact⟨this.1.1.1.1.2,this.1.1.1.2⟩
 have fps:=Fz hs.fit.pos hvp;have c1:=aDs hk (Fz hs.fit.speed hvs);rw[Fb hvs]at c1;have c2:=λz (hz:cH z=true)=>aSz fps hz
 rw[Fb hvp]at c2;unfold awS;simp only[go_sem,seval];refine⟨λh1=> ?ca,λh1=> ?cb⟩
 case' ca=>
  simp only[bxx]at h1;obtain⟨hk1,hm⟩:s.kind=1/\0<=Fk p s.name:=by
   rcases hs.kind with h|h|h
   .omega
   .exact h
   .omega
  obtain⟨j,hjl,hji,hj⟩:=Ad hm;have hji':nB (λm:MediumR=>m.name.toList==s.name.toList) p.media=(j:Int):=hji;have hmi:Fk p s.name=(j:Int):=hji;have cm:=Sa p s.name;rw[hji']at cm;obtain⟨hrv,hrf⟩:=hp.med _ (aW (d:=default) hjl);have hr:cS p s=(p.media.getD j default).seq.rate:=by
   unfold cS;rw[if_pos hk1,hmi,Int.toNat_natCast]
  have hmn:=λd=>med_nth hjl d
  rw[hr]at hR;clear hji hm hj;generalize p.media.getD j default=m at*;refine aQ 13 .done (h:=?_);simp only[go_sem,seval];refine⟨_,cm,?_⟩;simp only[go_sem,seval,hmn];refine⟨⟨by omega,by omega⟩,by kernel_rfl,?_⟩;generalize m.seq.rate=r at *
 case' cb=>
  simp only[bxx]at h1;obtain⟨hk1,hm,hdp⟩:s.kind=2/\0<=gU p s.name/\eM p (gU p s.name)<eM p (i:Int):=by
   rcases hs.kind with h|h|h
   .omega
   .omega
   .exact h
  obtain⟨j,hjl,hji,_⟩:=mT hm;have cm:=qW p s.name;have hji':nB (λm:SequenceR=>m.name.toList==s.name.toList) p.seqs=(j:Int):=hji;rw[hji']at cm;have hsv:=hp.seq j hjl;have hrv:=hsv.rate;have hrf:=hsv.fit.rate;have hr:cS p s=(p.seqs.getD j default).rate:=by
   unfold cS;rw[if_neg (by omega),hji,Int.toNat_natCast]
  have hmn:=λd=>Ep hjl d
  rw[hr]at hR;clear hji hm hsv hdp;generalize p.seqs.getD j default=m at*;refine aQ 12 .done (h:=?_);simp only[go_sem,seval];refine⟨_,cm,?_⟩;simp only[go_sem,seval,hmn];refine⟨⟨by omega,by omega⟩,by kernel_rfl,?_⟩;generalize m.rate=r at *
 all_goals
  have ca:=Wu r hrf;refine⟨_,ca,?_⟩;simp only[go_sem,seval];refine⟨λh2=>?_,λh2=>?_⟩
  .rw[if_pos (by simpa using h2)]at hR;dsimp only at hR;rw[hR];unfold awS;unfold zD;simp only[go_sem,seval]
  have haud:bG r=true:=by simpa using h2
  obtain⟨n,d,en,ed,n1,n2,d1,d2,q1,q2,q3,q4⟩:=qT haud;rw[if_neg (by rw[haud];decide)]at hR;clear ca h2;unfold awS;simp only[go_sem,seval];refine⟨_,c1,?_⟩;generalize k*toQ s.speed=z1 at *
  by_cases hf1:cH z1=true
  rotate_left
  .rw[Bool.not_eq_true]at hf1;rw[if_pos hf1]at hR;dsimp only at hR;rw[hR,qD hf1];unfold zD;simp only[go_sem,seval]
  rw[if_neg (by rw[hf1];decide)]at hR;rw[mJ hf1];simp only[go_sem,seval];refine⟨_,c2 z1 hf1,?_⟩;generalize toQ s.pos+z1=z2 at *
  by_cases hf2:cH z2=true
  rotate_left
  .rw[Bool.not_eq_true]at hf2;rw[if_pos hf2]at hR;dsimp only at hR;rw[hR,qD hf2];unfold zD;simp only[go_sem,seval]
  rw[if_neg (by rw[hf2];decide)]at hR;rw[mJ hf2];have c3:=aDs q4 (Bv (n:=48000) (by decide));rw[q1,Bm,q2,mJ q3,<-en,<-ed]at c3;have c4:=aDs hf2 q3;simp only[go_sem,seval];refine⟨_,c3,?_⟩;simp only[go_sem,seval];refine⟨_,c4,?_⟩;generalize z2*fU r=y at *
  by_cases hf3:cH y=true
  rotate_left
  .rw[Bool.not_eq_true]at hf3;rw[if_pos hf3]at hR;dsimp only at hR;rw[hR,qD hf3];unfold zD;simp only[go_sem,seval]
  rw[if_neg (by rw[hf3];decide)]at hR;rw[mJ hf3];obtain⟨fy,vy⟩:=eC hf3;have c5:=cRFloor (ofQ y) fy vy;rw[Xt]at c5;simp only[go_sem,seval];refine⟨_,c5,?_⟩;simp only[go_sem,seval];refine⟨λh3=>?_,λh3=>?_⟩
  .simp only[Bool.or_eq_true,decide_eq_true_eq]at h3;rw[if_pos (by omega)]at hR;dsimp only at hR;rw[hR];unfold awS;unfold zD;simp only[go_sem,seval]
  simp only[Bool.or_eq_false_iff,decide_eq_false_iff_not]at h3;rw[if_neg (by omega)]at hR;obtain⟨g1,g2⟩:=aRs hf3;have c6:=cRSub hf3 (Bv (n:=y.floor) (by omega));rw[mJ g1,Bm,g2]at c6;have c7:=hns (by rw[hr];exact haud) y.floor (by omega) (by omega);have c8:=hns (by rw[hr];exact haud) (y.floor+1) (by omega) (by omega);have b7:=hnb y.floor;have b8:=hnb (y.floor+1);unfold aKm at hR;have hw1:IntKind.i64.wrap (y.floor+1)=y.floor+1:=wrap64;unfold awS;simp only[go_sem,seval];refine⟨_,c7,?_⟩;cases hn1:rS p A nest s y.floor with
  |error e=>
   rw[hn1]at hR;dsimp only at hR;have he:(e != 0)=true:=by
    rw[bne_iff_ne];exact Fc hB (by assumption)
   rw[hR];unfold sG zD;simp only[go_sem,seval,he]
  |ok a=>
  rw[hn1]at hR;dsimp only at hR;unfold sG t16;simp only[go_sem,seval,hw1];refine⟨_,c8,?_⟩;cases hn2:rS p A nest s (y.floor+1)with
  |error e=>
   rw[hn2]at hR;dsimp only at hR;have he:(e != 0)=true:=by
    rw[bne_iff_ne];exact Fc hB (by assumption)
   rw[hR];unfold sG zD;simp only[go_sem,seval,he]
  |ok b=>
  rw[hn2]at hR;dsimp only at hR;unfold sG t16;simp only[go_sem,seval];refine⟨_,c6,?_⟩;obtain⟨s1,s2⟩:=uK y;have b7':=b7 a hn1;have b8':=b8 b hn2;have hfl:take.map (λc=>aZ (Jr y a b) c)=dQ (λi=>aZ (Jr y a b) (take.getD i 0)) take.length take.length:=by
   rw[qU];exact(tJ take 0 λc=>aZ (Jr y a b) c).symm
  obtain⟨f,hf⟩:∃f:Nat->Int,f=λi=>aZ (Jr y a b) (take.getD i 0):=⟨_,rfl⟩
  rw[<-hf]at hfl;rw[hR,hfl];have bat:=bet_at y a b;obtain⟨y1,y2⟩:=dJ.1 hf3;have y3:=y.den_pos;clear c1 c2 c3 c4 c5 c6 c7 c8 hR hfl b7 b8 hns hnb;generalize y.num-y.floor*(y.den:Int)=m at*;generalize y.den=dd at*;unfold zD;simp only[go_sem,seval];refine aE (λ(i:Nat) σ=>mY 3 (.row 2 1 (eB 0) (aS ((dQ f take.length i).map eB))) (bP 24 (aA i) (aY [25,135,136,137,138,139,140,141,142,143,144,145,146,147,148,149,150,151,152,153,154,155,156,157,158,159,160,161,162,163,164,165,166,167,168,169,170,171,172,173,174,175,176,177,178,179,180] (bE σ)))) (λi=>i<=take.length) (λi=>take.length-i) 0 (aC ?_) (Nat.zero_le _) ?_
  .simp only[go_sem,seval]
   repeat' apply And.intro
   all_goals first|exact(wP eB f _).symm|simp
  .intro i hi;refine aB _ ?_;simp only[go_sem,seval];refine⟨λhlt=>?_,λhge=>?_⟩
   .simp only[bxx]at hlt;have hil:i<take.length:=by omega
    have hwi:IntKind.i64.wrap ((i:Int)+1)=((i+1:Nat):Int):=by rw[bJ (by omega)];omega
    have hfi:f i=aZ (Jr y a b) (take.getD i 0):=by rw[hf]
    have hcn:=tA hil;generalize take.getD i 0=c at*;rw[bat]at hfi;unfold awS;simp only[go_sem,seval,hcn];refine⟨⟨by omega,by omega⟩,λhc=>?_,λhc=>?_⟩
    .simp only[Bool.and_eq_true,decide_eq_true_eq]at hc;rw[if_pos (by omega)]at hfi;have na:=λd=>kZ (p:=a) (j:=c) (by omega) (by omega) d
     have nb:=λd=>kZ (p:=b) (j:=c) (by omega) (by omega) d
     obtain⟨ba1,ba2⟩:=aTs b7' c;obtain⟨bb1,bb2⟩:=aTs b8' c;generalize aZ a c=u at*;generalize aZ b c=v at*;have hsq:=eT (x:=v-u) s1 (show m<=(dd:Int) by omega) y3;have hnr:=dZ (x:=v-u) s1 (show m<=(dd:Int) by omega) y3;have cn:=aDu (v-u) m dd ⟨by omega,by omega⟩ ⟨by omega,by omega⟩ y3 (by omega) ⟨by omega,by omega⟩;unfold mH at hfi;generalize gK (v-u) m dd=z at*;unfold awS;simp only[go_sem,seval];refine aQ 23 .done (h:=?_);simp only[go_sem,seval,na,nb,wrap64 (x:=u),wrap64 (x:=v),wrap64 (x:=v-u)];refine⟨⟨by omega,by omega⟩,⟨by omega,by omega⟩,⟨by omega,by omega⟩,_,cn,?_⟩;simp only[go_sem,seval,wrap64 (x:=u+z),eD];have hset:(List.map eB (dQ f take.length i)).set i [.lit (.int .i64 (u+z))]=List.map eB (dQ f take.length (i+1)):=Ab eB f hil hfi.symm;refine⟨⟨by omega,by omega⟩,hil,by kernel_rfl,i+1,aC ?_,by omega,by omega⟩;simp only[go_sem,seval,hwi,Ua,hset];simp
    .rw[if_neg (by
      simp only[Bool.and_eq_false_iff,decide_eq_false_iff_not]at hc;omega)]at hfi
     unfold awS;simp only[go_sem,seval];refine⟨i+1,aC ?_,by omega,by omega⟩;simp only[go_sem,seval,hwi,Wc f hfi];simp
   .simp only[bxx]at hge;have:i=take.length:=by omega
    subst this;unfold awS;simp only[go_sem,seval]
    done
theorem Bd(l:List Int):zD (.ok l)=.tup [.t (cM l),aA 0]:=rfl
theorem Eu(e:Int):zD (.error e)=.tup [.t (.lit (.slice none 0 0)),aA e]:=rfl
theorem yW{p:ProjR}{A:List AudioR}{nest:Nat->Int->Ev (List Int)}(hB:NestB nest){s:SourceR}{k:Rat}{e:Int}(h:vT p A nest s k=.error e):e≠0:=by
 unfold vT at h
 repeat' split at h
 all_goals first
  |(cases h;done)
  |(injection h with h;omega)
  |skip
 unfold aKm at h;split at h
 .rename_i hn;injection h with h;subst h;exact Fc hB hn
 .split at h
  .rename_i hn;injection h with h;subst h;exact Fc hB hn
  .cases h
theorem yX{p:ProjR}{A:List AudioR}(hA:AudP A){nest:Nat->Int->Ev (List Int)}(hB:NestB nest){s:SourceR}{k:Rat}{l:List Int}(h:vT p A nest s k=.ok l):Tp 262144 l/\l.length<=4:=by
 unfold vT at h;split at h
 .injection h with h;subst h;exact⟨λu hu=>absurd hu (by simp),by simp⟩
 repeat' split at h
 all_goals first
  |(cases h;done)
  |skip
 generalize(toQ s.pos+k*toQ s.speed)*fU (cS p s)=y at h;unfold aKm at h;split at h
 .cases h
 .rename_i a ha;split at h
  .cases h
  .rename_i b hb;injection h with h;subst h;have b1:=zJ hA.toAudF hB ha;have b2:=zJ hA.toAudF hB hb;obtain⟨s1,s2⟩:=uK y;have y3:=y.den_pos;refine⟨λu hu=>?_,?_⟩
   .unfold Jr at hu;obtain⟨i,hi,rfl⟩:=List.getElem_of_mem hu;rw[List.length_zipWith]at hi;rw[List.getElem_zipWith];have c1:=b1 _ (List.getElem_mem (show i<a.length by omega));have c2:=b2 _ (List.getElem_mem (show i<b.length by omega));generalize a[i]'(by omega)=u1 at*;generalize b[i]'(by omega)=u2 at*;unfold mH;have:=dZ (x:=u2-u1) s1 (show y.num-y.floor*(y.den:Int)<=(y.den:Int) by omega) y3;omega
   .unfold Jr;rw[List.length_zipWith];unfold rS at ha;split at ha
    .have:=(hB.ok _ _ _ ha).2;omega
    .split at ha
     .cases ha
     .rename_i w hw;injection ha with ha;subst ha;have hm:w∈A:=List.mem_of_find?_eq_some hw;have:=(hA.four hm).1;rw[List.length_map];omega
theorem Ea(x:Int):I64 (IntKind.i64.wrap x):=by
 have e1:(2:Int) ^ IntKind.i64.bits=18446744073709551616:=by decide
 have e2:(2:Int) ^ (IntKind.i64.bits-1)=9223372036854775808:=by decide
 unfold I64 IntKind.wrap;simp only[IntKind.signed,e1,e2,Bool.true_and,decide_eq_true_eq];split<;>omega
theorem cGain(z g:Int):aL Tryz.prog 112 [aA (IntKind.i64.wrap (IntKind.i64.wrap (z*g)+2048)),aA 1,aA 4096] (.tup [aA (uV z g),aA (IntKind.i64.wrap (IntKind.i64.wrap (z*g)+2048)%4096),aA 0]):=by
 have hx:=Ea (IntKind.i64.wrap (z*g)+2048);unfold uV;generalize IntKind.i64.wrap (IntKind.i64.wrap (z*g)+2048)=x at*;have hf:mD (x*1/((4096:Nat):Int))=true:=by
  obtain⟨h1,h2⟩:=hx;unfold mD;rw[decide_eq_true (by omega),decide_eq_true (by omega)];rfl
 have h:=aDr x 1 4096 hx ⟨by decide,by decide⟩ (by decide) (by decide) hf;rw[Int.mul_one]at h;exact h
theorem Xn{p:ProjR}{A:List AudioR}{nest:Nat->Int->Ev (List Int)}{s:SourceR}{t:List Int}{k:Rat}{l:List Int}(h:vT p A nest s k=.ok l):aE9 p A nest s t k=.ok (t.map λc=>aZ l c):=by
 unfold aE9;rw[h]
theorem Xp{p:ProjR}{A:List AudioR}{nest:Nat->Int->Ev (List Int)}{s:SourceR}{t:List Int}{k:Rat}{e:Int}(h:vT p A nest s k=.error e):aE9 p A nest s t k=.error e:=by
 unfold aE9;rw[h]
theorem Yn{l t:List Int}{i:Nat}(h:i<t.length):(t.map λc=>aZ l c).getD i 0=aZ l (t.getD i 0):=by
 simp only[List.getD_eq_getElem?_getD,List.getElem?_map,List.getElem?_eq_getElem h];rfl
theorem Rx{c:ClipR}(h:cG c=true):c.chan.length<=4:=by
 unfold cG nC fG at h;simp only[Bool.and_eq_true,decide_eq_true_eq]at h;exact h.1.1.1.2.1
theorem cRClip1{p:ProjR}(hp:PrjV p){A:List AudioR}(hA:AudP A){nest:Nat->Int->Ev (List Int)}{i:Nat}(hN:aGj p A nest i)(hB:NestB nest){c:ClipR}(hc:ClpV p i c)(hk2:c.kind≠2){k:Rat}(hk:cH k=true):
  aL Tryz.prog 65 [Xm p A,kJ c,bV (ofQ k)] (zD (sK p A nest c k)):=by
 have h4:=Rx hc.ok;have cv:=Zq hp hA hN hB hc.a c.chan h4 hk;have kb:(c.kind==2)=false:=by rw[beq_eq_false_iff_ne];exact hk2
 obtain⟨R,hR⟩:∃R,R=sK p A nest c k:=⟨_,rfl⟩
 rw[<-hR];unfold sK En at hR;rw[if_neg hk2]at hR;dsimp only at hR;refine aF Tryz.X65 Tryz.func65 rfl Tryz.ntmps65 (by rw[Tryz.results65]) (aB _ ?_);simp only[go_sem,seval,kb];refine⟨_,cv,?_⟩;cases hs:vT p A nest c.a k with
 |error e=>
  have he:(e != 0)=true:=by
   rw[bne_iff_ne];exact yW hB hs
  rw[hs]at hR;dsimp only at hR;rw[hR,Xp hs,Eu];simp only[go_sem,seval,he]
 |ok a=>
 rw[hs]at hR;dsimp only at hR;rw[if_neg hk2]at hR;obtain⟨ba,_⟩:=yX hA hB hs;rw[hR,Xn hs,Bd,Bd];have hfl:Lp c 0 a []=dQ (λi=>uV (aZ a (c.chan.getD i 0)) c.gain) c.chan.length c.chan.length:=by
  rw[qU];unfold Lp aLp;simp only[if_neg hk2];exact(tJ c.chan 0 λch=>uV (aZ a ch) c.gain).symm
 rw[hfl];obtain⟨f,hf⟩:∃f:Nat->Int,f=λi=>uV (aZ a (c.chan.getD i 0)) c.gain:=⟨_,rfl⟩
 rw[<-hf];obtain⟨L,hL⟩:∃L,L=c.chan.map λch=>aZ a ch:=⟨_,rfl⟩
 have hLl:L.length=c.chan.length:=by rw[hL,List.length_map]
 rw[<-hL];simp only[go_sem,seval,kb];refine⟨⟨by omega,by unfold maxLen;omega,by omega⟩,?_⟩;refine aE (λ(i:Nat) σ=>mY 4 (.row 2 1 (eB 0) (aS ((dQ f c.chan.length i).map eB))) (bP 15 (aA i) (aY [16,76,77,78,79,80,81,82,83,84,85,86,87,88,89,90,91,92,93,94,95,96,97,98,99,100,101,102,103,104,105,106,107,108,109,110,111,112,113,114] (bE σ)))) (λi=>i<=c.chan.length) (λi=>c.chan.length-i) 0 (aC ?_) (Nat.zero_le _) ?_
 .simp only[go_sem,seval]
  repeat' apply And.intro
  all_goals first|exact(wP eB f _).symm|simp
 .intro i hi;refine aB _ ?_;simp only[go_sem,seval,eD];refine⟨λhlt=>?_,λhge=>?_⟩
  .simp only[bxx]at hlt;have hil:i<c.chan.length:=by omega
   have hwi:IntKind.i64.wrap ((i:Int)+1)=((i+1:Nat):Int):=by rw[bJ (by omega)];omega
   have hfi:f i=uV (aZ a (c.chan.getD i 0)) c.gain:=by rw[hf]
   have hcn:=tA (show i<L.length by omega);rw[hL,Yn hil,<-hL]at hcn;generalize aZ a (c.chan.getD i 0)=z at*;have hset:(List.map eB (dQ f c.chan.length i)).set i [.lit (.int .i64 (uV z c.gain))]=List.map eB (dQ f c.chan.length (i+1)):=Ab eB f hil hfi.symm;unfold awS;simp only[go_sem,seval,kb,hcn];refine⟨⟨by omega,by omega⟩,_,cGain z c.gain,?_⟩;simp only[go_sem,seval,eD];refine⟨⟨by omega,by omega⟩,hil,i+1,aC ?_,by omega,by omega⟩;simp only[go_sem,seval,hwi,hset];simp
  .simp only[bxx]at hge;have:i=c.chan.length:=by omega
   unfold awS;simp only[go_sem,seval];rw[this];try exact⟨rfl,rfl⟩
set_option maxHeartbeats 4000000 in
theorem cRClip2{p:ProjR}(hp:PrjV p){A:List AudioR}(hA:AudP A){nest:Nat->Int->Ev (List Int)}{i:Nat}(hN:aGj p A nest i)(hB:NestB nest){c:ClipR}(hc:ClpV p i c)(hk2:c.kind=2){k:Rat}(hk:cH k=true)(hsh:∀q,En c k=.ok q->0<=q.num/\q.num<=(q.den:Int)):
  aL Tryz.prog 65 [Xm p A,kJ c,bV (ofQ k)] (zD (sK p A nest c k)):=by
 have h4:=Rx hc.ok;have cv:=Zq hp hA hN hB hc.a c.chan h4 hk;have cw:=Zq hp hA hN hB hc.b c.chan h4 hk;have kb:(c.kind==2)=true:=by rw[beq_iff_eq];exact hk2
 have hkk:cP c=true:=by
  have:=hc.ok;unfold cG at this;rw[Bool.and_eq_true]at this;exact this.2
 unfold cP at hkk;rw[if_neg (by omega),if_neg (by omega),if_pos hk2]at hkk;unfold fS at hkk;simp only[Bool.and_eq_true,decide_eq_true_eq]at hkk;obtain⟨⟨⟨⟨⟨s1,s2⟩,s3⟩,s4⟩,_⟩,_⟩:=hkk;have hl:=(fD hc.ok).1;obtain⟨n,hn⟩:=eF (n:=c.total+1) (by omega);have e2:(c.total+1).toNat=n:=by omega
 obtain⟨R,hR⟩:∃R,R=sK p A nest c k:=⟨_,rfl⟩
 rw[<-hR];unfold sK at hR;unfold En at hsh hR;rw[if_pos hk2,e2]at hR;rw[if_pos hk2,e2]at hsh;have c1:=aSz hk (Bv (n:=c.off+1) (by omega));rw[Bm]at c1;have w1:IntKind.i64.wrap (c.off+1)=c.off+1:=wrap64;have w2:IntKind.i64.wrap (c.total+1)=(n:Int):=by rw[wrap64 (by omega) (by omega)];exact hn
 refine aF Tryz.X65 Tryz.func65 rfl Tryz.ntmps65 (by rw[Tryz.results65]) (aB _ ?_);simp only[go_sem,seval,kb,w1];refine⟨_,c1,?_⟩;generalize k+((c.off+1:Int):Rat)=z1 at *
 by_cases hf1:cH z1=true
 rotate_left
 .rw[Bool.not_eq_true]at hf1;rw[if_pos hf1]at hR;dsimp only at hR;rw[hR,qD hf1];unfold zD;simp only[go_sem,seval]
 rw[if_neg (by rw[hf1];decide)]at hR hsh;rw[mJ hf1];simp only[go_sem,seval,w2];refine⟨_,cRDiv hf1 n (by omega) (by omega),?_⟩;generalize z1*inv n=q at *
 by_cases hf2:cH q=true
 rotate_left
 .rw[Bool.not_eq_true]at hf2;rw[if_pos hf2]at hR;dsimp only at hR;rw[hR,qD hf2];unfold zD;simp only[go_sem,seval]
 rw[if_neg (by rw[hf2];decide)]at hR hsh;rw[mJ hf2];dsimp only at hR;obtain⟨t1,t2⟩:=hsh q rfl;have y3:=q.den_pos;obtain⟨y1,y2⟩:=dJ.1 hf2;unfold ofQ;simp only[go_sem,seval];refine⟨_,cv,?_⟩;cases hs:vT p A nest c.a k with
 |error e=>
  have he:(e != 0)=true:=by
   rw[bne_iff_ne];exact yW hB hs
  rw[hs]at hR;dsimp only at hR;rw[hR,Xp hs,Eu];simp only[go_sem,seval,he]
 |ok a=>
 rw[hs]at hR;dsimp only at hR;rw[if_pos hk2]at hR;rw[Xn hs,Bd];simp only[go_sem,seval,kb];refine⟨_,cw,?_⟩;cases hs2:vT p A nest c.b k with
 |error e=>
  have he:(e != 0)=true:=by
   rw[bne_iff_ne];exact yW hB hs2
  rw[hs2]at hR;dsimp only at hR;rw[hR,Xp hs2,Eu];simp only[go_sem,seval,he]
 |ok b=>
 rw[hs2]at hR;dsimp only at hR;obtain⟨ba,_⟩:=yX hA hB hs;obtain⟨bb,_⟩:=yX hA hB hs2;rw[hR,Xn hs2,Bd,Bd];have hfl:Lp c q a b=dQ (λi=>uV (aZ a (c.chan.getD i 0)+gK (aZ b (c.chan.getD i 0)-aZ a (c.chan.getD i 0)) q.num q.den) c.gain) c.chan.length c.chan.length:=by
  rw[qU];unfold Lp aLp;simp only[if_pos hk2];exact(tJ c.chan 0 λch=>uV (aZ a ch+gK (aZ b ch-aZ a ch) q.num q.den) c.gain).symm
 rw[hfl];obtain⟨f,hf⟩:∃f:Nat->Int,f=λi=>uV (aZ a (c.chan.getD i 0)+gK (aZ b (c.chan.getD i 0)-aZ a (c.chan.getD i 0)) q.num q.den) c.gain:=⟨_,rfl⟩
 rw[<-hf];obtain⟨L,hL⟩:∃L,L=c.chan.map λch=>aZ a ch:=⟨_,rfl⟩
 have hLl:L.length=c.chan.length:=by rw[hL,List.length_map]
 obtain⟨M,hM⟩:∃M,M=c.chan.map λch=>aZ b ch:=⟨_,rfl⟩
 have hMl:M.length=c.chan.length:=by rw[hM,List.length_map]
 rw[<-hL,<-hM];clear cv cw hR hsh c1 hfl;simp only[go_sem,seval];refine⟨⟨by omega,by unfold maxLen;omega,by omega⟩,?_⟩;refine aE (λ(i:Nat) σ=>mY 5 (.row 2 1 (eB 0) (aS ((dQ f c.chan.length i).map eB))) (bP 15 (aA i) (aY [16,76,77,78,79,80,81,82,83,84,85,86,87,88,89,90,91,92,93,94,95,96,97,98,99,100,101,102,103,104,105,106,107,108,109,110,111,112,113,114] (bE σ)))) (λi=>i<=c.chan.length) (λi=>c.chan.length-i) 0 (aC ?_) (Nat.zero_le _) ?_
 .simp only[go_sem,seval]
  repeat' apply And.intro
  all_goals first|exact(wP eB f _).symm|simp
 .intro i hi;refine aB _ ?_;simp only[go_sem,seval,eD];refine⟨λhlt=>?_,λhge=>?_⟩
  .simp only[bxx]at hlt;have hil:i<c.chan.length:=by omega
   have hwi:IntKind.i64.wrap ((i:Int)+1)=((i+1:Nat):Int):=by rw[bJ (by omega)];omega
   have hfi:f i=uV (aZ a (c.chan.getD i 0)+gK (aZ b (c.chan.getD i 0)-aZ a (c.chan.getD i 0)) q.num q.den) c.gain:=by rw[hf]
   have hcn:=tA (show i<L.length by omega);rw[hL,Yn hil,<-hL]at hcn;have hdn:=tA (show i<M.length by omega);rw[hM,Yn hil,<-hM]at hdn;obtain⟨u1,u2⟩:=vZ ba (by omega) (c.chan.getD i 0);obtain⟨v1,v2⟩:=vZ bb (by omega) (c.chan.getD i 0);generalize aZ a (c.chan.getD i 0)=u at*;generalize aZ b (c.chan.getD i 0)=v at*;have hsq:=eT (x:=v-u) t1 t2 y3;have hnr:=dZ (x:=v-u) t1 t2 y3;have cn:=aDu (v-u) q.num q.den ⟨by omega,by omega⟩ ⟨by omega,by omega⟩ y3 (by omega) ⟨by omega,by omega⟩;generalize gK (v-u) q.num q.den=z at*;have hset:(List.map eB (dQ f c.chan.length i)).set i [.lit (.int .i64 (uV (u+z) c.gain))]=List.map eB (dQ f c.chan.length (i+1)):=Ab eB f hil hfi.symm;unfold awS;simp only[go_sem,seval,kb,hcn];refine⟨⟨by omega,by omega⟩,?_⟩;refine aQ 14 .done (h:=?_);simp only[go_sem,seval,hcn,hdn,wrap64 (x:=v-u)];refine⟨⟨by omega,by omega⟩,⟨by omega,by omega⟩,_,cn,?_⟩;simp only[go_sem,seval,wrap64 (x:=u+z)];refine⟨by kernel_rfl,?_⟩;refine⟨_,cGain (u+z) c.gain,?_⟩;simp only[go_sem,seval,eD];refine⟨⟨by omega,by omega⟩,hil,i+1,aC ?_,by omega,by omega⟩;simp only[go_sem,seval,hwi,hset];simp
  .simp only[bxx]at hge;have:i=c.chan.length:=by omega
   unfold awS;simp only[go_sem,seval];rw[this];try exact⟨rfl,rfl⟩
def tX(f h:Nat->Int)(n i:Nat):List Int:=(List.range n).map λj=>if j<i then f j else h j
theorem aMb(f h:Nat->Int)(n i:Nat):(tX f h n i).length=n:=by unfold tX;simp
theorem aMa(f h:Nat->Int){n i:Nat}(hi:i<n):(tX f h n i).getD i 0=h i:=by
 unfold tX;rw[List.getD_eq_getElem?_getD,List.getElem?_map,List.getElem?_range hi];show(if i<i then f i else h i)=h i
 rw[if_neg (by omega)]
theorem aM9{α:Type}(c:Int->α)(f h:Nat->Int){n i:Nat}(hi:i<n){z:Int}(hz:z=f i):((tX f h n i).map c).set i (c z)=(tX f h n (i+1)).map c:=by
 subst hz;unfold tX;refine List.ext_getElem (by simp) λj h1 h2=>?_
 rw[List.getElem_set]
 by_cases hj:i=j
 .subst hj;simp
 .rw[if_neg hj];simp only[List.getElem_map,List.getElem_range];congr 1
  by_cases h3:j<i
  .rw[if_pos h3,if_pos (by omega)]
  .rw[if_neg h3,if_neg (by omega)]
theorem aL7(l:List Int):(List.range l.length).map (λi=>l.getD i 0)=l:=by
 refine List.ext_getElem (by simp) λi h1 h2=>?_
 simp only[List.getElem_map,List.getElem_range];rw[List.getD_eq_getElem?_getD,List.getElem?_eq_getElem h2];rfl
theorem aFr(f:Nat->Int)(l:List Int):tX f (λj=>l.getD j 0) l.length 0=l:=by
 unfold tX;refine Eq.trans ?_ (aL7 l);refine List.map_congr_left λj _=>?_
 rw[if_neg (by omega)]
theorem aFs(f h:Nat->Int)(n:Nat):tX f h n n=(List.range n).map f:=by
 unfold tX;refine List.map_congr_left λj hj=>?_
 rw[if_pos (List.mem_range.1 hj)]
theorem aGf(a g:List Int)(h:g.length=a.length):(List.range a.length).map (λj=>IntKind.i64.wrap (a.getD j 0+g.getD j 0))=Dx a g:=by
 unfold Dx;refine List.ext_getElem (by simp[h]) λi h1 h2=>?_
 rw[List.length_map,List.length_range]at h1;simp only[List.getElem_map,List.getElem_range,List.getElem_zipWith];simp only[List.getD_eq_getElem?_getD,List.getElem?_eq_getElem h1,List.getElem?_eq_getElem (show i<g.length by omega)];rfl
theorem Sj(a g:List Int)(h:g.length=a.length):(Dx a g).length=a.length:=by
 unfold Dx;rw[List.length_zipWith];omega
theorem aBw(c:ClipR)(q:Rat)(a b:List Int):(Lp c q a b).length=c.chan.length:=by
 unfold Lp;rw[List.length_map]
theorem Jk{p:ProjR}{A:List AudioR}{nest:Nat->Int->Ev (List Int)}{c:ClipR}{k:Rat}{g:List Int}(h:sK p A nest c k=.ok g):g.length=c.chan.length:=by
 unfold sK at h
 repeat' split at h
 all_goals first
  |(cases h;done)
  |(injection h with h;subst h;exact aBw _ _ _ _)
theorem Wm{p:ProjR}{A:List AudioR}{nest:Nat->Int->Ev (List Int)}(hB:NestB nest){c:ClipR}{k:Rat}{e:Int}(h:sK p A nest c k=.error e):e≠0:=by
 unfold sK at h;split at h
 .rename_i hs;injection h with h;subst h;unfold En at hs
  repeat' split at hs
  all_goals first
   |(injection hs with hs;omega)
   |(cases hs;done)
 .split at h
  .rename_i hs;injection h with h;subst h;exact yW hB hs
  .split at h
   .split at h
    .rename_i hs;injection h with h;subst h;exact yW hB hs
    .cases h
   .cases h
theorem Vu{r:RatR}(ha:bG r=true){t:Int}{T:List ClipR}(hv:cL T=true){c:ClipR}{b:Int}(hh:Tc T (tM r t)=some (c,b)):∀q,En c (tB r t-(b:Rat))=.ok q->0<=q.num/\q.num<=(q.den:Int):=by
 intro q hq;obtain⟨hm,_,_,h1,h2,_⟩:=Fw hv hh;unfold En at hq;split at hq
 .rename_i hk
  repeat' split at hq
  all_goals first
   |(cases hq;done)
   |skip
  injection hq with hq;subst hq;have hvc:=(nE hv).2.1 c hm;obtain⟨q0,q1⟩:=aL0 ha (t:=t) hvc hk ⟨h1,h2⟩;exact share01 q0 q1
 .injection hq with hq;subst hq;exact⟨by decide,by decide⟩
theorem cRClipA{p:ProjR}(hp:PrjV p){A:List AudioR}(hA:AudP A){nest:Nat->Int->Ev (List Int)}{i:Nat}(hN:aGj p A nest i)(hB:NestB nest){c:ClipR}(hc:ClpV p i c){k:Rat}(hk:cH k=true)(hsh:∀q,En c k=.ok q->0<=q.num/\q.num<=(q.den:Int)):
  aL Tryz.prog 65 [Xm p A,kJ c,bV (ofQ k)] (zD (sK p A nest c k)):=by
 by_cases h:c.kind=2
 .exact cRClip2 hp hA hN hB hc h hk hsh
 .exact cRClip1 hp hA hN hB hc h hk
theorem aAd{p:ProjR}{A:List AudioR}{nest:Nat->Int->Ev (List Int)}{x:Rat}{f:Int}{ts:List (List ClipR)}{k:Nat}(h:k<ts.length)(acc:List Int):wZ p A nest x f (ts.drop k) acc=match Ng p A nest x f acc (ts.getD k [])with
  | .error e=> .error e
  | .ok a=>wZ p A nest x f (ts.drop (k+1)) a:=by
 have e:ts.drop k=ts.getD k []::ts.drop (k+1):=by
  rw[List.drop_eq_getElem_cons h,List.getD_eq_getElem?_getD,List.getElem?_eq_getElem h];rfl
 rw[e];rfl
theorem aP2{r:RatR}(h:bG r=true)(t:Int):(t:Rat)/(((48000:Nat):Int):Rat)*toQ r=tB r t:=by
 obtain⟨_,hv,hn,hd,_⟩:=qZ h;rw[toQ_div hv];have hd:=rat_ne (show r.den≠0 by omega);have e:(((48000:Nat):Int):Rat)=48000:=rfl;unfold tB;rw[e]
 grind
theorem aHq{r:RatR}(ha:bG r=true){t:Int}(ht : -1099511627776<=t/\t<=1099511627776):I64 (tM r t):=by
 obtain⟨_,_,hn,hd,_⟩:=qZ ha;have a1:(2*t+1).natAbs<=2199023255553:=by omega
 have a2:r.num.natAbs<=1048576:=by omega
 have a3:((2*t+1)*r.num).natAbs<=2199023255553*1048576:=by rw[Int.natAbs_mul];exact Nat.mul_le_mul a1 a2
 unfold tM;have h:=Int.natAbs_ediv_le_natAbs ((2*t+1)*r.num-1) (96000*r.den);generalize((2*t+1)*r.num-1)/(96000*r.den)=q at*;generalize(2*t+1)*r.num=z at*;unfold I64;omega
theorem rep_int(m:Nat):List.replicate m [T.lit (.int .i64 0)]=List.map eB (List.replicate m 0):=by
 rw[List.map_replicate];rfl
theorem aA6{l:List (List ClipR)}{k:Nat}(h:k<l.length)(d:List T):nth d (l.map fJ) k=fJ (l.getD k []):=by
 unfold nth;rw[List.getElem?_map,List.getElem?_eq_getElem h,List.getD_eq_getElem?_getD,List.getElem?_eq_getElem h];rfl
theorem clp_nth{l:List ClipR}{k:Nat}(h:k<l.length)(d:List T):nth d (l.map ClipR.c) k=ClipR.c (l.getD k default):=by
 unfold nth;rw[List.getElem?_map,List.getElem?_eq_getElem h,bB h];rfl
set_option maxHeartbeats 4000000 in
theorem aDq{p:ProjR}(hp:PrjV p){A:List AudioR}(hA:AudP A){nest:Nat->Int->Ev (List Int)}{i:Nat}(hi:i<p.seqs.length)(hN:aGj p A nest i)(hB:NestB nest)(ha:bG (p.seqs.getD i default).rate=true)(t:Int)(ht : -1099511627776<=t/\t<=1099511627776):
  aL Tryz.prog 30 [Xm p A,dE (p.seqs.getD i default),aA t] (sG (Cc p A nest (p.seqs.getD i default) t)):=by
 obtain⟨hrv,hfit,hch,h8,htrk⟩:=hp.seq i hi;have hmem:∀T∈(p.seqs.getD i default).sound,∀c∈T,c.kind≠0->(c.chan.length:Int)=(p.seqs.getD i default).channels:=λT hT c hc hk=>by
  rcases((htrk T hT).2 c hc).kind with h|h
  .exact absurd h hk
  .exact h.2
 generalize p.seqs.getD i default=s at*;obtain⟨usa,_,hn,hd,_⟩:=qZ ha;obtain⟨m,hm⟩:=eF (n:=s.channels) (by omega);have hmt:s.channels.toNat=m:=by omega
 obtain⟨R,hR⟩:∃R,R=Cc p A nest s t:=⟨_,rfl⟩
 rw[<-hR];unfold Cc at hR;rw[hmt]at hR;have co:=cROwner t s.rate hfit.rate usa ht;have c1:=cROf t 48000 (by decide) (by omega) (by decide);have f1:cH ((t:Rat)/(((48000:Nat):Int):Rat))=true:=Zk (Ma t 48000 (by decide)) (by omega) (by decide);have c2:=aDs f1 (Fz hfit.rate hrv);have tf:=aAb ha (t:=t) (by omega);rw[aP2 ha t,Fb hrv,mJ tf]at c2;have hw:=λ(T:List ClipR) (hv:cL T=true) (c:ClipR) (b:Int) hh=>Vu ha (t:=t) hv (c:=c) (b:=b) hh
 have hfi:I64 (tM s.rate t):=aHq ha ht;generalize hx:tB s.rate t=x at*;generalize tM s.rate t=f at*;refine aF Tryz.X30 Tryz.func30 rfl Tryz.ntmps30 (by rw[Tryz.results30]) (aB _ ?_);simp only[go_sem,seval,hm];refine⟨⟨by omega,by unfold maxLen;omega,by omega⟩,?_⟩;refine⟨_,co,?_⟩;simp only[go_sem,seval];refine⟨_,c1,?_⟩;simp only[go_sem,seval];refine⟨_,c2,?_⟩;simp only[go_sem,seval];clear c1 c2 co;refine aE (λ(y:Nat×List Int) σ=>mY 2 (.row 2 1 (eB 0) (aS (y.2.map eB))) (bP 15 (aA y.1) (aY [16,17,18,19,20,21,22,23,50,51,52,53,54,55,56,57,58,59,60,61,62,63,64,65,66,67,68,69,70,71,72,73,74,75,76,77,78,79,80,81,82,83,84,85,86,87,88,89,90,91,92,93,94,95,96,97,98,99,100,101,102,103,104,105,106,107,108,109,110,111,112,113,114,115,116,117,118,119,120,121,122,123,124,125,126,127,128] (bE σ)))) (λy=>y.1<=s.sound.length/\y.2.length=m/\wZ p A nest x f s.sound (List.replicate m 0)=wZ p A nest x f (s.sound.drop y.1) y.2) (λy=>s.sound.length-y.1) (0,List.replicate m 0) (aC ?_) ⟨Nat.zero_le _,by simp,rfl⟩ ?_
 .simp only[go_sem,seval]
  repeat' apply And.intro
  all_goals first|exact rep_int m|simp
 .rintro⟨k,acc⟩ ⟨hk,hacc,hsum⟩;simp only at hk hacc hsum;refine aB _ ?_;simp only[go_sem,seval];refine⟨λhlt=>?_,λhge=>?_⟩
  .simp only[bxx]at hlt;have hkl:k<s.sound.length:=by omega
   have hwk:IntKind.i64.wrap ((k:Int)+1)=((k+1:Nat):Int):=by rw[bJ (by omega)];omega
   have hT:=aW (d:=[]) hkl;obtain⟨hv,hcl⟩:=htrk _ hT;have hmT:=hmem _ hT;have hTn:=aA6 hkl;rw[aAd hkl]at hsum;unfold Ng at hsum;obtain⟨tr,hte⟩:∃tr,s.sound.getD k []=tr:=⟨_,rfl⟩
   rw[hte]at hT hv hcl hmT hsum;simp only[hte]at hTn;have cf:=cRFind tr f hfi λc hc=>(hcl c hc).fit
   rcases hit_cases hv f with ⟨hh,_,hfo⟩|⟨j,hjl,hf0,hb1,hb2,hfe,hh⟩
   .rw[hh]at hsum;dsimp only at hsum;generalize pS tr f=r at*;obtain⟨r1,r2,r3⟩:=r;simp only at hfo;subst hfo;unfold awS;simp only[go_sem,seval,hTn];refine⟨⟨by omega,by omega⟩,_,cf,?_⟩;simp only[go_sem,seval];refine⟨False.elim,False.elim,(k+1,acc),aC ?_,⟨by show k+1<=_;omega,hacc,hsum⟩,by show _-(k+1)<_;omega⟩;simp only[go_sem,seval,hwk];simp
   .rw[hfe]at cf;have hcn:=λd=>clp_nth hjl d
    have hcm:=aW (d:=default) hjl;have hcv:=hcl _ hcm;have hmc:=hmT _ hcm;have hw1:=hw tr hv;have hsm:=λc b=>Fw hv (f:=f) (c:=c) (b:=b)
    generalize tr.getD j default=c at *
    by_cases hk0:c.kind=0
    .rw[hh,if_pos hk0]at hsum;dsimp only at hsum;unfold awS;simp only[go_sem,seval,hTn];refine⟨⟨by omega,by omega⟩,_,cf,?_⟩;simp only[go_sem,seval,hTn,hcn,hk0];refine⟨⟨by omega,by omega⟩,⟨by omega,by omega⟩,(k+1,acc),aC ?_,⟨by show k+1<=_;omega,hacc,hsum⟩,by show _-(k+1)<_;omega⟩;simp only[go_sem,seval,hwk];simp
    .rw[hh,if_neg hk0]at hsum;dsimp only at hsum;rw[if_neg hk0]at hh;have hk0b:(c.kind==0)=false:=by rw[beq_eq_false_iff_ne];exact hk0
     obtain⟨_,_,b0,_,_,b3⟩:=hsm c _ hh;have hw2:=hw1 c _ hh;have hcl2:=hmc hk0;generalize cJ (List.take j tr)=b at*;have w1:IntKind.i64.wrap (f-(f-b))=b:=by rw[wrap64 (by omega) (by omega)];omega
     have c5:=cRSub tf (Bv (n:=b) (by omega));rw[Bm]at c5;generalize x-(b:Rat)=z at*;unfold awS;simp only[go_sem,seval,hTn];refine⟨⟨by omega,by omega⟩,_,cf,?_⟩;simp only[go_sem,seval,hTn,hcn,hk0b,w1];refine⟨⟨by omega,by omega⟩,⟨by omega,by omega⟩,⟨by omega,by omega⟩,⟨by omega,by omega⟩,_,c5,?_⟩
     by_cases hfz:cH z=true
     rotate_left
     .rw[Bool.not_eq_true]at hfz;rw[if_pos hfz]at hsum;dsimp only at hsum;rw[hsum]at hR;dsimp only at hR;rw[hR,qD hfz];unfold sG;simp only[go_sem,seval]
     rw[if_neg (by rw[hfz];decide)]at hsum;rw[mJ hfz];simp only[go_sem,seval];refine⟨_,cRClipA hp hA hN hB hcv hfz hw2,?_⟩;cases hx2:sK p A nest c z with
     |error e=>
      have he:(e != 0)=true:=by
       rw[bne_iff_ne];exact Wm hB hx2
      rw[hx2]at hsum;dsimp only at hsum;rw[hsum]at hR;dsimp only at hR;rw[hR,Eu];unfold sG;simp only[go_sem,seval,he]
     |ok g=>
     rw[hx2]at hsum;dsimp only at hsum;have hgl:g.length=acc.length:=by rw[Jk hx2];omega
     have hadd:=aGf acc g hgl;have hal:=Sj acc g hgl;rw[Bd];obtain⟨fa,hfa⟩:∃fa:Nat->Int,fa=λj=>IntKind.i64.wrap (acc.getD j 0+g.getD j 0):=⟨_,rfl⟩
     obtain⟨fh,hfh⟩:∃fh:Nat->Int,fh=λj=>acc.getD j 0:=⟨_,rfl⟩
     have hz0:=aFr fa acc;have hfu:=aFs fa fh acc.length;rw[<-hfa]at hadd;rw[<-hfh]at hz0;rw[hadd]at hfu;rw[hacc]at hz0 hfu hgl hal;simp only[go_sem,seval];refine aE (λ(q:Nat) σ=>mY 2 (.row 2 1 (eB 0) (aS ((tX fa fh m q).map eB))) (bP 23 (aA q) (aY [111,112,113,114,115,116,117,118,119,120,121,122,123,124,125,126,127,128] (bE σ)))) (λq=>q<=m) (λq=>m-q) 0 (aC ?_) (Nat.zero_le _) ?_
     .simp only[go_sem,seval,hz0];simp
     .intro q hq;refine aB _ ?_;simp only[go_sem,seval];refine⟨λhlt2=>?_,λhge2=>?_⟩
      .simp only[bxx]at hlt2;have hql:q<m:=by omega
       have hwq:IntKind.i64.wrap ((q:Int)+1)=((q+1:Nat):Int):=by rw[bJ (by omega)];omega
       have hgn:=tA (show q<g.length by omega);unfold awS;simp only[go_sem,seval];refine aQ 13 .done (h:=?_);simp only[go_sem,seval,hgn,aMb];have hset:(List.map eB (tX fa fh m q)).set q [.lit (.int .i64 (IntKind.i64.wrap ((tX fa fh m q).getD q 0+g.getD q 0)))]=List.map eB (tX fa fh m (q+1)):=aM9 eB fa fh hql (by rw[aMa _ _ hql,hfh,hfa]);refine⟨⟨by omega,by omega⟩,hql,⟨by omega,by omega⟩,⟨by omega,by omega⟩,hql,by kernel_rfl,q+1,aC ?_,by omega,by omega⟩;simp only[go_sem,seval,hwq,Ua,hset];simp
      .simp only[bxx]at hge2;have hqm:q=m:=by omega
       subst hqm;unfold awS;simp only[go_sem,seval];refine⟨(k+1,Dx acc g),aC ?_,⟨by show k+1<=_;omega,hal,hsum⟩,by show _-(k+1)<_;omega⟩;simp only[go_sem,seval,hwk,hfu];simp
  .simp only[bxx]at hge;rw[List.drop_of_length_le (by omega)]at hsum;rw[hsum]at hR;unfold wZ at hR;dsimp only at hR;rw[hR];have hfl:acc.map vH=dQ (λj=>vH (acc.getD j 0)) m m:=by
    rw[qU,<-hacc];exact(tJ acc 0 vH).symm
   obtain⟨fc,hfc⟩:∃fc:Nat->Int,fc=λj=>vH (acc.getD j 0):=⟨_,rfl⟩
   rw[hfl,<-hfc];unfold sG t16;unfold awS;simp only[go_sem,seval];refine⟨⟨by omega,by unfold maxLen;omega,by omega⟩,?_⟩;refine aE (λ(q:Nat) σ=>mY 5 (.row 76 1 (c16 0) (aS ((dQ fc m q).map c16))) (bP 25 (aA q) (aY [132,133,134,135,136,137,138,139,140,141,142,143,144,145,146,147] (bE σ)))) (λq=>q<=m) (λq=>m-q) 0 (aC ?_) (Nat.zero_le _) ?_
   .simp only[go_sem,seval]
    repeat' apply And.intro
    all_goals first|exact(wP c16 fc _).symm|simp
   .intro q hq;refine aB _ ?_;simp only[go_sem,seval];refine⟨λhlt2=>?_,λhge2=>?_⟩
    .simp only[bxx]at hlt2;have hql:q<m:=by omega
     have hwq:IntKind.i64.wrap ((q:Int)+1)=((q+1:Nat):Int):=by rw[bJ (by omega)];omega
     have hgn:=tA (show q<acc.length by omega);unfold awS;simp only[go_sem,seval,hgn,eD];have hfq:fc q=max (-32768) (min 32767 (acc.getD q 0)):=by rw[hfc];rfl
     have w16:IntKind.i16.wrap (max (-32768) (min 32767 (acc.getD q 0)))=max (-32768) (min 32767 (acc.getD q 0)):=Xh (by omega) (by omega);have hset:(List.map c16 (dQ fc m q)).set q [.lit (.int .i16 (max (-32768) (min 32767 (acc.getD q 0))))]=List.map c16 (dQ fc m (q+1)):=Ab c16 fc hql hfq.symm;refine⟨⟨by omega,by omega⟩,by omega,⟨by omega,by omega⟩,hql,q+1,aC ?_,by omega,by omega⟩;simp only[go_sem,seval,hwq,w16,hset];simp
    .simp only[bxx]at hge2;have hqm:q=m:=by omega
     subst hqm;unfold awS;simp only[go_sem,seval];try exact⟨rfl,rfl⟩
theorem addE_le(a g:List Int):(Dx a g).length<=a.length:=by
 unfold Dx;rw[List.length_zipWith];omega
theorem aAe{p:ProjR}{A:List AudioR}{nest:Nat->Int->Ev (List Int)}{x:Rat}{f:Int}:∀(ts:List (List ClipR)) (acc l:List Int),wZ p A nest x f ts acc=.ok l->l.length<=acc.length
 |[],acc,l,h=>by
  unfold wZ at h;injection h with h;subst h;exact Nat.le_refl _
 |t::ts,acc,l,h=>by
  unfold wZ at h;split at h
  .cases h
  .rename_i a ha;have h1:=aAe ts a l h;unfold Ng at ha
   repeat' split at ha
   all_goals first
    |(cases ha;done)
    |skip
   .injection ha with ha;subst ha;exact h1
   .injection ha with ha;subst ha;exact Nat.le_trans h1 (addE_le _ _)
theorem aAf{p:ProjR}{A:List AudioR}{nest:Nat->Int->Ev (List Int)}(hB:NestB nest){x:Rat}{f:Int}{e:Int}:∀(ts:List (List ClipR)) (acc:List Int),wZ p A nest x f ts acc=.error e->e≠0
 |[],acc,h=>by
  unfold wZ at h;cases h
 |t::ts,acc,h=>by
  unfold wZ at h;split at h
  .rename_i a ha;injection h with h;subst h;unfold Ng at ha;split at ha
   .cases ha
   .split at ha
    .injection ha with ha;omega
    .split at ha
     .rename_i hc;injection ha with ha;subst ha;exact Wm hB hc
     .cases ha
  .exact aAf hB ts _ h
theorem aG2(z:Int): -32768<=vH z/\vH z<=32767:=by
 unfold vH;omega
theorem aJk{p:ProjR}{A:List AudioR}{nest:Nat->Int->Ev (List Int)}{s:SequenceR}{t:Int}{l:List Int}(h:Cc p A nest s t=.ok l):(∀u∈l,-32768<=u/\u<=32767)/\l.length<=s.channels.toNat:=by
 unfold Cc at h;split at h
 .cases h
 .rename_i a ha;injection h with h;subst h;have h1:=aAe _ _ _ ha;rw[List.length_replicate]at h1;refine⟨λu hu=>?_,by rw[List.length_map];exact h1⟩;obtain⟨z,_,rfl⟩:=List.mem_map.1 hu;exact aG2 z
theorem aDf{p:ProjR}{A:List AudioR}{nest:Nat->Int->Ev (List Int)}(hB:NestB nest){s:SequenceR}{t e:Int}(h:Cc p A nest s t=.error e):e≠0:=by
 unfold Cc at h;split at h
 .rename_i a ha;injection h with h;subst h;exact aAf hB _ _ ha
 .cases h
theorem aSd{p:ProjR}(hp:PrjV p)(k:Nat):(p.seqs.getD k default).channels.toNat<=4:=by
 rcases Nat.lt_or_ge k p.seqs.length with h|h
 .have:=(hp.seq k h).ch;omega
 .rw[List.getD_eq_getElem?_getD,List.getElem?_eq_none h];exact Nat.zero_le _
theorem aHu{p:ProjR}(hp:PrjV p)(A:List AudioR):∀(n i:Nat),eM p (i:Int)<n->NestB (eQ p A i)
 |0,i,h=>absurd h (by omega)
 |n+1,i,h=>by
  refine⟨λk j l hl=>?_,λk j e he=>?_⟩
  .unfold eQ at hl;split at hl
   .rw[sL]at hl;obtain⟨h1,h2⟩:=aJk hl;refine⟨λu hu=>?_,Nat.le_trans h2 (aSd hp k)⟩;have:=h1 u hu;omega
   .cases hl
  .unfold eQ at he;split at he
   .rename_i hd;rw[sL]at he;exact aDf (aHu hp A n k (by omega)) he
   .injection he with he;omega
theorem Vj{p:ProjR}(hp:PrjV p)(A:List AudioR)(i:Nat):NestB (eQ p A i):=aHu hp A _ i (Nat.lt_succ_self _)
theorem aH6{p:ProjR}(hp:PrjV p){A:List AudioR}(hA:AudP A):∀(n i:Nat),eM p (i:Int)<n->aGj p A (eQ p A i) i
 |0,i,h=>absurd h (by omega)
 |n+1,i,h=>λk hk hd ha j h1 h2=>by
  have e:eQ p A i k j=Cc p A (eQ p A k) (p.seqs.getD k default) j:=by
   unfold eQ;rw[if_pos hd,sL];rfl
  rw[e];exact aDq hp hA hk (aH6 hp hA n k (by omega)) (Vj hp A k) ha j ⟨h1,h2⟩
theorem cRSmp{p:ProjR}(hp:PrjV p){A:List AudioR}(hA:AudP A){i:Nat}(hi:i<p.seqs.length)(ha:bG (p.seqs.getD i default).rate=true)(t:Int)(ht : -1099511627776<=t/\t<=1099511627776):
  aL Tryz.prog 30 [Xm p A,dE (p.seqs.getD i default),aA t] (sG (sM p A i t)):=by
 rw[sL];exact aDq hp hA hi (aH6 hp hA _ i (Nat.lt_succ_self _)) (Vj hp A i) ha t ht
def dT(p:ProjR)(A:List AudioR)(i:Nat)(fr0:Int):Nat->Ev (List (List Int))
 |0=> .ok []
 |k+1=>match dT p A i fr0 k with
  | .error e=> .error e
  | .ok L=>match sM p A i (fr0+(k:Int))with
   | .error e=> .error e
   | .ok l=> .ok (L++[l])
def pZ(p:ProjR)(A:List AudioR)(name:ByteArray)(fr0 n:Int):Ev (List (List Int)):=
 if eN p≠0 then .error (eN p)
 else if gU p name<0 then .error 7
 else if A.all nK=false then .error 1
 else if n<0 then .error 1
 else if 1048576<n then .error 5
 else if fr0 < -1099511627776\/1099511627776-n<fr0\/bG (p.seqs.getD (gU p name).toNat default).rate=false then .error 2
 else match dT p A (gU p name).toNat fr0 n.toNat with
  | .error e=> .error e
  | .ok L=> .ok ((List.range (p.seqs.getD (gU p name).toNat default).channels.toNat).map λc=>L.map λl=>l.getD c 0)
