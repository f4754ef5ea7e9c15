/- Proved here: The contract of the reference's Sound. -/
import Derived.Test.YtkjdkbmfaamhaaaGreatQ09
set_option linter.unusedSimpArgs false
set_option linter.unusedVariables false
set_option linter.unusedSectionVars false
set_option linter.unnecessarySimpa false
namespace Go.Proofs.YtkjdkbmfaamhaaaGreat
open Go.RowKit
set_option maxRecDepth 4000
theorem aGt{p:ProjR}{A:List AudioR}{nest:Nat->Int->Ev (List Int)}{x:Rat}{f:Int}{m:Nat}:∀(ts:List (List ClipR)) (acc l:List Int),(∀t∈ts,cL t=true /\∀c∈t,c.kind≠0->c.chan.length=m)->acc.length=m->wZ p A nest x f ts acc=.ok l->l.length=m
 |[],acc,l,_,ha,h=>by
  unfold wZ at h;injection h with h;subst h;exact ha
 |t::ts,acc,l,hc,ha,h=>by
  unfold wZ at h;split at h
  .cases h
  .rename_i a hst;refine aGt ts a l (λt ht=>hc t (by simp[ht])) ?_ h;unfold Ng at hst;split at hst
   .injection hst with hst;subst hst;exact ha
   .rename_i cb hh;split at hst
    .cases hst
    .split at hst
     .cases hst
     .rename_i g hg;injection hst with hst;subst hst;obtain⟨hv,hcl⟩:=hc t (by simp);obtain⟨h1,h2,_⟩:=Fw hv (c:=cb.1) (b:=cb.2) hh;rw[Sj _ _ (by rw[Jk hg,hcl _ h1 h2,ha]),ha]
theorem Ek{p:ProjR}(hp:PrjV p){A:List AudioR}{i:Nat}(hi:i<p.seqs.length){t:Int}{l:List Int}(h:sM p A i t=.ok l):l.length=(p.seqs.getD i default).channels.toNat /\∀u∈l,-32768<=u/\u<=32767:=by
 rw[sL]at h;refine⟨?_,(aJk h).1⟩;unfold Cc at h;split at h
 .cases h
 .rename_i a ha;injection h with h;subst h;rw[List.length_map];have hs:=hp.seq i hi;refine aGt _ _ _ (λt ht=>⟨(hs.trk t ht).1,λc hc hk=>?_⟩) (List.length_replicate ..) ha;rcases((hs.trk t ht).2 c hc).kind with h|h
  .exact absurd h hk
  .have:=h.2;have:=hs.ch;omega
theorem tD{p:ProjR}{A:List AudioR}{i:Nat}{fr0:Int}{j:Nat}{e:Int}(h:dT p A i fr0 j=.error e):∀(N:Nat),j<=N->dT p A i fr0 N=.error e
 |0,hN=>by
  have:j=0:=by omega
  subst this;exact h
 |N+1,hN=>by
  rcases Nat.lt_or_ge j (N+1)with h1|h1
  .unfold dT;rw[tD h N (by omega)]
  .have:j=N+1:=by omega
   subst this;exact h
theorem nS{p:ProjR}{A:List AudioR}{i:Nat}{fr0:Int}:∀{k:Nat} {L:List (List Int)},dT p A i fr0 k=.ok L->L.length=k
 |0,L,h=>by
  unfold dT at h;injection h with h;subst h;rfl
 |k+1,L,h=>by
  unfold dT at h;split at h
  .cases h
  .rename_i M hM;split at h
   .cases h
   .injection h with h;subst h;rw[List.length_append,nS hM];rfl
theorem vV{p:ProjR}(hp:PrjV p){A:List AudioR}{i:Nat}{t e:Int}(h:sM p A i t=.error e):e≠0:=by
 rw[sL]at h;exact aDf (Vj hp A i) h
def nN(e:Ev (List (List Int))):V:=
 match e with
 | .ok l=> .tup [.t (pY l),aA 0]
 | .error e=> .tup [.t (.lit (.slice none 0 0)),aA e]
theorem nV_0(d:List T)(x:List V)(l:List (List V)):pL d (x::l) 0=x:=rfl
theorem nV_1(d:List T)(x y:List V)(l:List (List V)):pL d (x::y::l) 1=y:=rfl
theorem nV_2(d:List T)(x y z:List V)(l:List (List V)):pL d (x::y::z::l) 2=z:=rfl
theorem nV_3(d:List T)(x y z u:List V)(l:List (List V)):pL d (x::y::z::u::l) 3=u:=rfl
theorem rB{l:List Int}{k:Nat}(h:k<l.length)(d:List T):nth d (l.map c16) k=c16 (l.getD k 0):=Zs h d
set_option maxHeartbeats 4000000 in
theorem aSn{p:ProjR}(h:p.fit){A:List AudioR}(hA:AudF A)(name:ByteArray)(fr0 n:Int)(hf:I64 fr0)(hn:I64 n):
  aL Tryz.prog 11 [jY p,cF name,aA fr0,aA n,.t (uJ A)] (nN (pZ p A name fr0 n)):=by
 obtain⟨f1,f2⟩:=hf;obtain⟨n1,n2⟩:=hn;obtain⟨R,hR⟩:∃R,R=pZ p A name fr0 n:=⟨_,rfl⟩
 rw[<-hR];unfold pZ at hR;refine aF Tryz.X11 Tryz.func11 rfl Tryz.ntmps11 (by rw[Tryz.results11]) (aB _ ?_);simp only[go_sem,seval];refine⟨_,aSm p h,?_⟩;simp only[go_sem,seval];refine⟨λhv=>?_,λhv=>?_⟩
 .rw[bne_iff_ne]at hv;rw[if_pos hv]at hR;rw[hR];unfold nN;unfold awS;simp only[go_sem,seval]
 have hv:eN p=0:=by simpa using hv
 have hp:=Ym h hv;rw[if_neg (by rw[hv];simp)]at hR;have cs:=qW p name;have hsi:nB (λm:SequenceR=>m.name.toList==name.toList) p.seqs=gU p name:=rfl;rw[hsi]at cs;unfold awS;simp only[go_sem,seval];refine⟨_,cs,?_⟩;simp only[go_sem,seval];refine⟨λh1=>?_,λh1=>?_⟩
 .simp only[bxx]at h1;rw[if_pos h1]at hR;rw[hR];unfold nN;unfold awS;simp only[go_sem,seval]
 simp only[bxx]at h1;rw[if_neg h1]at hR;obtain⟨i,hi,hii,_⟩:=mT (show 0<=gU p name by omega);rw[hii,Int.toNat_natCast]at hR;rw[hii];unfold awS;simp only[go_sem,seval];refine aE (λ(k:Nat) σ=>bP 14 (aA k) (aY [31,32,33,34,35,36,37,38,39,40,41,42] (bE σ))) (λk=>k<=A.length /\∀i,i<k->nK (A.getD i default)=true) (λk=>A.length-k) 0 (aC ?_) ⟨Nat.zero_le _,λi hi=>absurd hi (by omega)⟩ ?_
 .simp only[go_sem,seval]<;>simp
 .rintro k ⟨hk,hki⟩;refine aB _ ?_;simp only[go_sem,seval];have hAl:=hA.len;refine⟨λhlt=>?_,λhge=>?_⟩
  .simp only[bxx]at hlt;have hkl:k<A.length:=by omega
   have hwk:IntKind.i64.wrap ((k:Int)+1)=((k+1:Nat):Int):=by rw[bJ (by omega)];omega
   have cp:=aSr (A.getD k default) (hA.chs _ (aW hkl));unfold awS;simp only[go_sem,seval,Gs hkl];refine⟨⟨by omega,by omega⟩,_,cp,?_⟩;simp only[go_sem,seval];refine⟨λh5=>?_,λh5=>?_⟩
   .rw[if_pos (cK hkl (by simpa using h5))]at hR;rw[hR];unfold nN;unfold awS;simp only[go_sem,seval]
   .unfold awS;simp only[go_sem,seval];refine⟨k+1,aC ?_,⟨by omega,upto hki (by simpa using h5)⟩,by omega⟩;simp only[go_sem,seval,hwk];simp
  .simp only[bxx]at hge;have hall:A.all nK=true:=Gt (d:=default) (by rw[show A.length=k by omega];exact hki);have hP:AudP A:=⟨hA,List.all_eq_true.1 hall⟩
   rw[if_neg (by rw[hall];decide)]at hR;unfold awS;simp only[go_sem,seval];refine⟨λh2=>?_,λh2=>?_⟩
   .simp only[bxx]at h2;rw[if_pos h2]at hR;rw[hR];unfold nN;unfold awS;simp only[go_sem,seval]
   simp only[bxx]at h2;rw[if_neg h2]at hR;unfold awS;simp only[go_sem,seval];refine⟨λh3=>?_,λh3=>?_⟩
   .simp only[bxx]at h3;rw[if_pos (by omega)]at hR;rw[hR];unfold nN;unfold awS;simp only[go_sem,seval]
   simp only[bxx]at h3;rw[if_neg (by omega)]at hR;have hq9:=λd=>Ep hi d
   obtain⟨_,hfit,hch,_,_⟩:=hp.seq i hi;have hsl:=λ(t:Int) (l:List Int)=>Ek (A:=A) hp hi (t:=t) (l:=l)
   have hse:=λ(t e:Int)=>vV (A:=A) hp (i:=i) (t:=t) (e:=e)
   have hsm:=λha t ht=>cRSmp hp hP hi ha t ht
   obtain⟨s,hs⟩:∃s,p.seqs.getD i default=s:=⟨_,rfl⟩
   rw[hs]at hR hfit hch hsm;simp only[hs]at hsl;simp only[hs]at hq9;have cau:=Wu s.rate hfit.rate;have w1:IntKind.i64.wrap (1099511627776-n)=1099511627776-n:=wrap64;unfold awS;simp only[go_sem,seval,hq9];refine⟨⟨by omega,by omega⟩,?_⟩;simp only[go_sem,seval,w1];refine⟨_,λ_=>cau,?_⟩;simp only[go_sem,seval];refine⟨λh4=>?_,λh4=>?_⟩
   .simp only[Bool.or_eq_true,decide_eq_true_eq,Bool.not_eq_true']at h4;rw[if_pos (by rcases h4 with (h4|h4)|h4<;>simp[h4])]at hR;rw[hR];unfold nN;unfold awS;simp only[go_sem,seval]
   simp only[Bool.or_eq_false_iff,decide_eq_false_iff_not,Bool.not_eq_false']at h4;obtain⟨⟨h4,h5⟩,hau⟩:=h4;have hsm:=hsm hau;rw[if_neg (by
    rw[hau];rintro(h|h|h)
    .omega
    .omega
    .cases h)]at hR
   obtain⟨m,hm⟩:=eF (n:=s.channels) (by omega);have hmt:s.channels.toNat=m:=by omega
   rw[hmt]at hR;simp only[hmt]at hsl;obtain⟨N,hN⟩:=eF (n:=n) (by omega);subst hN;rw[Int.toNat_natCast]at hR;unfold awS;simp only[go_sem,seval,hm];refine⟨⟨by omega,by unfold maxLen;omega,by omega⟩,?_⟩;clear cau cs hse hki hq9;have ww1:IntKind.i64.wrap 1=1:=by decide
   have ww2:IntKind.i64.wrap 2=2:=by decide
   have ww3:IntKind.i64.wrap 3=3:=by decide
   have ww4:IntKind.i64.wrap 4=4:=by decide
   have w01:IntKind.i64.wrap (0+1)=1:=by decide
   have w11:IntKind.i64.wrap (1+1)=2:=by decide
   have w21:IntKind.i64.wrap (2+1)=3:=by decide
   have w31:IntKind.i64.wrap (3+1)=4:=by decide
   have hm4:m=0\/m=1\/m=2\/m=3\/m=4:=by omega
   rcases hm4 with rfl|rfl|rfl|rfl|rfl
   .have hm':s.channels=0:=hm;have sc:True=True:=rfl;refine aE (λ(y:Nat×List (List Int)) σ=>bP 17 (aA y.1) (aY [18,19,20,69,70,71,72,73,74,75,76,77,78,79,80,81,82,83,84,85,86,87,88,89,90,91,92,93,94,95,96,97,98,99,100,101,102,103,104,105,106] (bE σ))) (λy=>y.1<=N/\dT p A i fr0 y.1=.ok y.2) (λy=>N-y.1) (0,[]) (aC ?_) ⟨Nat.zero_le _,rfl⟩ ?_
    .simp only[go_sem,seval]
     repeat' apply And.intro
     all_goals first|rfl|simp
    .rintro⟨q,L⟩ ⟨hq,hL⟩;simp only at hq hL;refine aB _ ?_;simp only[go_sem,seval];refine⟨λhlt2=>?_,λhge2=>?_⟩
     .simp only[bxx]at hlt2;have hql:q<N:=by omega
      have hLl:=nS hL;have hwq:IntKind.i64.wrap ((q:Int)+1)=((q+1:Nat):Int):=by rw[bJ (by omega)];omega
      have w2:IntKind.i64.wrap (fr0+(q:Int))=fr0+q:=wrap64;have cq:=hsm (fr0+q) ⟨by omega,by omega⟩;unfold dE at cq;rw[hm']at cq;unfold awS;simp only[go_sem,seval,w2];refine⟨_,cq,?_⟩;cases hsq:sM p A i (fr0+(q:Int))with
      |error e=>
       have he:(e != 0)=true:=by
        rw[bne_iff_ne];exact vV hp hsq
       have hq1:dT p A i fr0 (q+1)=.error e:=by
        unfold dT;rw[hL];dsimp only;rw[hsq]
       rw[tD hq1 N (by omega)]at hR;dsimp only at hR;rw[hR];unfold sG nN;simp only[go_sem,seval,he]
      |ok l=>
      obtain⟨hll,_⟩:=hsl _ _ hsq;have hq1:dT p A i fr0 (q+1)=.ok (L++[l]):=by
       unfold dT;rw[hL];dsimp only;rw[hsq]
      unfold sG t16;simp only[go_sem,seval];refine bC ?_;refine aK (aB _ ?_);simp only[go_sem,dtf,seval];refine⟨(q+1,L++[l]),cA [(2,some 2),(1,some 1),(0,some 0)] ?_,⟨by show q+1<=N;omega,hq1⟩,by show N-(q+1)<N-q;omega⟩;simp only[go_sem,seval,hwq];simp
     .simp only[bxx]at hge2;have hqN:q=N:=by omega
      subst hqN;rw[hL]at hR;dsimp only at hR;rw[hR];unfold nN;unfold awS;simp only[go_sem,seval];rfl
   .have hm':s.channels=1:=hm;refine jN (jP 2 0 76 1 _ _ (c16 0) _ _ (Nat.zero_le _) rfl rfl) ?_;have sc:(aS [[T.lit (.slice none 0 0)]]).set 0 [V.own 3]=[[V.own 3]]:=rfl;refine aE (λ(y:Nat×List (List Int)) σ=>mY 3 (.row 76 1 (c16 0) (aS ((y.2.map λl=>l.getD 0 0).map c16))) (bP 17 (aA y.1) (aY [18,19,20,69,70,71,72,73,74,75,76,77,78,79,80,81,82,83,84,85,86,87,88,89,90,91,92,93,94,95,96,97,98,99,100,101,102,103,104,105,106] (bE σ)))) (λy=>y.1<=N/\dT p A i fr0 y.1=.ok y.2) (λy=>N-y.1) (0,[]) (aC ?_) ⟨Nat.zero_le _,rfl⟩ ?_
    .simp only[go_sem,seval,sc]
     repeat' apply And.intro
     all_goals first|rfl|simp
    .rintro⟨q,L⟩ ⟨hq,hL⟩;simp only at hq hL;refine aB _ ?_;simp only[go_sem,seval,sc];refine⟨λhlt2=>?_,λhge2=>?_⟩
     .simp only[bxx]at hlt2;have hql:q<N:=by omega
      have hLl:=nS hL;have hwq:IntKind.i64.wrap ((q:Int)+1)=((q+1:Nat):Int):=by rw[bJ (by omega)];omega
      have w2:IntKind.i64.wrap (fr0+(q:Int))=fr0+q:=wrap64;have cq:=hsm (fr0+q) ⟨by omega,by omega⟩;unfold dE at cq;rw[hm']at cq;unfold awS;simp only[go_sem,seval,w2];refine⟨_,cq,?_⟩;cases hsq:sM p A i (fr0+(q:Int))with
      |error e=>
       have he:(e != 0)=true:=by
        rw[bne_iff_ne];exact vV hp hsq
       have hq1:dT p A i fr0 (q+1)=.error e:=by
        unfold dT;rw[hL];dsimp only;rw[hsq]
       rw[tD hq1 N (by omega)]at hR;dsimp only at hR;rw[hR];unfold sG nN;simp only[go_sem,seval,he]
      |ok l=>
      obtain⟨hll,_⟩:=hsl _ _ hsq;have hq1:dT p A i fr0 (q+1)=.ok (L++[l]):=by
       unfold dT;rw[hL];dsimp only;rw[hsq]
      unfold sG t16;simp only[go_sem,seval];have hl0:=λd=>rB (l:=l) (k:=0) (by omega) d
      refine bC ?_;refine aK (aB _ ?_);simp only[go_sem,dtf,seval];refine aQ 14 .done (h:=?_);simp only[go_sem,seval,ww1,hll,hl0,nV_0];refine⟨⟨by unfold maxLen;omega,by omega⟩,by kernel_rfl,?_⟩;refine aK (aB _ ?_);simp only[go_sem,dtf,seval];refine⟨(q+1,L++[l]),cA [(3,some 15),(2,some 2),(1,some 1),(0,some 0)] ?_,⟨by show q+1<=N;omega,hq1⟩,by show N-(q+1)<N-q;omega⟩;simp only[go_sem,seval,hwq];simp[c16]
     .simp only[bxx]at hge2;have hqN:q=N:=by omega
      subst hqN;rw[hL]at hR;dsimp only at hR;rw[hR];unfold nN;unfold awS;simp only[go_sem,seval];rfl
   .have hm':s.channels=2:=hm;refine jN (jP 2 0 76 1 _ _ (c16 0) _ _ (Nat.zero_le _) rfl rfl) ?_;refine jN (jP 2 1 76 1 _ _ (c16 0) _ _ (Nat.zero_le _) rfl rfl) ?_;have sc:((aS [[T.lit (.slice none 0 0)],[T.lit (.slice none 0 0)]]).set 0 [V.own 3]).set 1 [V.own 4]=[[V.own 3],[V.own 4]]:=rfl;refine aE (λ(y:Nat×List (List Int)) σ=>mY 3 (.row 76 1 (c16 0) (aS ((y.2.map λl=>l.getD 0 0).map c16))) (mY 4 (.row 76 1 (c16 0) (aS ((y.2.map λl=>l.getD 1 0).map c16))) (bP 17 (aA y.1) (aY [18,19,20,69,70,71,72,73,74,75,76,77,78,79,80,81,82,83,84,85,86,87,88,89,90,91,92,93,94,95,96,97,98,99,100,101,102,103,104,105,106] (bE σ))))) (λy=>y.1<=N/\dT p A i fr0 y.1=.ok y.2) (λy=>N-y.1) (0,[]) (aC ?_) ⟨Nat.zero_le _,rfl⟩ ?_
    .simp only[go_sem,seval,sc]
     repeat' apply And.intro
     all_goals first|rfl|simp
    .rintro⟨q,L⟩ ⟨hq,hL⟩;simp only at hq hL;refine aB _ ?_;simp only[go_sem,seval,sc];refine⟨λhlt2=>?_,λhge2=>?_⟩
     .simp only[bxx]at hlt2;have hql:q<N:=by omega
      have hLl:=nS hL;have hwq:IntKind.i64.wrap ((q:Int)+1)=((q+1:Nat):Int):=by rw[bJ (by omega)];omega
      have w2:IntKind.i64.wrap (fr0+(q:Int))=fr0+q:=wrap64;have cq:=hsm (fr0+q) ⟨by omega,by omega⟩;unfold dE at cq;rw[hm']at cq;unfold awS;simp only[go_sem,seval,w2];refine⟨_,cq,?_⟩;cases hsq:sM p A i (fr0+(q:Int))with
      |error e=>
       have he:(e != 0)=true:=by
        rw[bne_iff_ne];exact vV hp hsq
       have hq1:dT p A i fr0 (q+1)=.error e:=by
        unfold dT;rw[hL];dsimp only;rw[hsq]
       rw[tD hq1 N (by omega)]at hR;dsimp only at hR;rw[hR];unfold sG nN;simp only[go_sem,seval,he]
      |ok l=>
      obtain⟨hll,_⟩:=hsl _ _ hsq;have hq1:dT p A i fr0 (q+1)=.ok (L++[l]):=by
       unfold dT;rw[hL];dsimp only;rw[hsq]
      unfold sG t16;simp only[go_sem,seval];have hl0:=λd=>rB (l:=l) (k:=0) (by omega) d
      have hl1:=λd=>rB (l:=l) (k:=1) (by omega) d
      refine bC ?_;refine aK (aB _ ?_);simp only[go_sem,dtf,seval];refine aQ 14 .done (h:=?_);simp only[go_sem,seval,ww1,hll,hl0,nV_0];refine⟨⟨by unfold maxLen;omega,by omega⟩,by kernel_rfl,?_⟩;refine aK (aB _ ?_);simp only[go_sem,dtf,seval];refine aQ 14 .done (h:=?_);simp only[go_sem,seval,ww2,hll,hl1,nV_1];refine⟨⟨by unfold maxLen;omega,by omega⟩,by kernel_rfl,?_⟩;refine aK (aB _ ?_);simp only[go_sem,dtf,seval];refine⟨(q+1,L++[l]),cA [(4,some 30),(3,some 16),(2,some 2),(1,some 1),(0,some 0)] ?_,⟨by show q+1<=N;omega,hq1⟩,by show N-(q+1)<N-q;omega⟩;simp only[go_sem,seval,hwq];simp[c16]
     .simp only[bxx]at hge2;have hqN:q=N:=by omega
      subst hqN;rw[hL]at hR;dsimp only at hR;rw[hR];unfold nN;unfold awS;simp only[go_sem,seval];rfl
   .have hm':s.channels=3:=hm;refine jN (jP 2 0 76 1 _ _ (c16 0) _ _ (Nat.zero_le _) rfl rfl) ?_;refine jN (jP 2 1 76 1 _ _ (c16 0) _ _ (Nat.zero_le _) rfl rfl) ?_;refine jN (jP 2 2 76 1 _ _ (c16 0) _ _ (Nat.zero_le _) rfl rfl) ?_;have sc:(((aS [[T.lit (.slice none 0 0)],[T.lit (.slice none 0 0)],[T.lit (.slice none 0 0)]]).set 0 [V.own 3]).set 1 [V.own 4]).set 2 [V.own 5]=[[V.own 3],[V.own 4],[V.own 5]]:=rfl;refine aE (λ(y:Nat×List (List Int)) σ=>mY 3 (.row 76 1 (c16 0) (aS ((y.2.map λl=>l.getD 0 0).map c16))) (mY 4 (.row 76 1 (c16 0) (aS ((y.2.map λl=>l.getD 1 0).map c16))) (mY 5 (.row 76 1 (c16 0) (aS ((y.2.map λl=>l.getD 2 0).map c16))) (bP 17 (aA y.1) (aY [18,19,20,69,70,71,72,73,74,75,76,77,78,79,80,81,82,83,84,85,86,87,88,89,90,91,92,93,94,95,96,97,98,99,100,101,102,103,104,105,106] (bE σ)))))) (λy=>y.1<=N/\dT p A i fr0 y.1=.ok y.2) (λy=>N-y.1) (0,[]) (aC ?_) ⟨Nat.zero_le _,rfl⟩ ?_
    .simp only[go_sem,seval,sc]
     repeat' apply And.intro
     all_goals first|rfl|simp
    .rintro⟨q,L⟩ ⟨hq,hL⟩;simp only at hq hL;refine aB _ ?_;simp only[go_sem,seval,sc];refine⟨λhlt2=>?_,λhge2=>?_⟩
     .simp only[bxx]at hlt2;have hql:q<N:=by omega
      have hLl:=nS hL;have hwq:IntKind.i64.wrap ((q:Int)+1)=((q+1:Nat):Int):=by rw[bJ (by omega)];omega
      have w2:IntKind.i64.wrap (fr0+(q:Int))=fr0+q:=wrap64;have cq:=hsm (fr0+q) ⟨by omega,by omega⟩;unfold dE at cq;rw[hm']at cq;unfold awS;simp only[go_sem,seval,w2];refine⟨_,cq,?_⟩;cases hsq:sM p A i (fr0+(q:Int))with
      |error e=>
       have he:(e != 0)=true:=by
        rw[bne_iff_ne];exact vV hp hsq
       have hq1:dT p A i fr0 (q+1)=.error e:=by
        unfold dT;rw[hL];dsimp only;rw[hsq]
       rw[tD hq1 N (by omega)]at hR;dsimp only at hR;rw[hR];unfold sG nN;simp only[go_sem,seval,he]
      |ok l=>
      obtain⟨hll,_⟩:=hsl _ _ hsq;have hq1:dT p A i fr0 (q+1)=.ok (L++[l]):=by
       unfold dT;rw[hL];dsimp only;rw[hsq]
      unfold sG t16;simp only[go_sem,seval];have hl0:=λd=>rB (l:=l) (k:=0) (by omega) d
      have hl1:=λd=>rB (l:=l) (k:=1) (by omega) d
      have hl2:=λd=>rB (l:=l) (k:=2) (by omega) d
      refine bC ?_;refine aK (aB _ ?_);simp only[go_sem,dtf,seval];refine aQ 14 .done (h:=?_);simp only[go_sem,seval,ww1,hll,hl0,nV_0];refine⟨⟨by unfold maxLen;omega,by omega⟩,by kernel_rfl,?_⟩;refine aK (aB _ ?_);simp only[go_sem,dtf,seval];refine aQ 14 .done (h:=?_);simp only[go_sem,seval,ww2,hll,hl1,nV_1];refine⟨⟨by unfold maxLen;omega,by omega⟩,by kernel_rfl,?_⟩;refine aK (aB _ ?_);simp only[go_sem,dtf,seval];refine aQ 14 .done (h:=?_);simp only[go_sem,seval,ww3,hll,hl2,nV_2];refine⟨⟨by unfold maxLen;omega,by omega⟩,by kernel_rfl,?_⟩;refine aK (aB _ ?_);simp only[go_sem,dtf,seval];refine⟨(q+1,L++[l]),cA [(5,some 45),(4,some 31),(3,some 17),(2,some 2),(1,some 1),(0,some 0)] ?_,⟨by show q+1<=N;omega,hq1⟩,by show N-(q+1)<N-q;omega⟩;simp only[go_sem,seval,hwq];simp[c16]
     .simp only[bxx]at hge2;have hqN:q=N:=by omega
      subst hqN;rw[hL]at hR;dsimp only at hR;rw[hR];unfold nN;unfold awS;simp only[go_sem,seval];rfl
   .have hm':s.channels=4:=hm;refine jN (jP 2 0 76 1 _ _ (c16 0) _ _ (Nat.zero_le _) rfl rfl) ?_;refine jN (jP 2 1 76 1 _ _ (c16 0) _ _ (Nat.zero_le _) rfl rfl) ?_;refine jN (jP 2 2 76 1 _ _ (c16 0) _ _ (Nat.zero_le _) rfl rfl) ?_;refine jN (jP 2 3 76 1 _ _ (c16 0) _ _ (Nat.zero_le _) rfl rfl) ?_;have sc:((((aS [[T.lit (.slice none 0 0)],[T.lit (.slice none 0 0)],[T.lit (.slice none 0 0)],[T.lit (.slice none 0 0)]]).set 0 [V.own 3]).set 1 [V.own 4]).set 2 [V.own 5]).set 3 [V.own 6]=[[V.own 3],[V.own 4],[V.own 5],[V.own 6]]:=rfl;refine aE (λ(y:Nat×List (List Int)) σ=>mY 3 (.row 76 1 (c16 0) (aS ((y.2.map λl=>l.getD 0 0).map c16))) (mY 4 (.row 76 1 (c16 0) (aS ((y.2.map λl=>l.getD 1 0).map c16))) (mY 5 (.row 76 1 (c16 0) (aS ((y.2.map λl=>l.getD 2 0).map c16))) (mY 6 (.row 76 1 (c16 0) (aS ((y.2.map λl=>l.getD 3 0).map c16))) (bP 17 (aA y.1) (aY [18,19,20,69,70,71,72,73,74,75,76,77,78,79,80,81,82,83,84,85,86,87,88,89,90,91,92,93,94,95,96,97,98,99,100,101,102,103,104,105,106] (bE σ))))))) (λy=>y.1<=N/\dT p A i fr0 y.1=.ok y.2) (λy=>N-y.1) (0,[]) (aC ?_) ⟨Nat.zero_le _,rfl⟩ ?_
    .simp only[go_sem,seval,sc]
     repeat' apply And.intro
     all_goals first|rfl|simp
    .rintro⟨q,L⟩ ⟨hq,hL⟩;simp only at hq hL;refine aB _ ?_;simp only[go_sem,seval,sc];refine⟨λhlt2=>?_,λhge2=>?_⟩
     .simp only[bxx]at hlt2;have hql:q<N:=by omega
      have hLl:=nS hL;have hwq:IntKind.i64.wrap ((q:Int)+1)=((q+1:Nat):Int):=by rw[bJ (by omega)];omega
      have w2:IntKind.i64.wrap (fr0+(q:Int))=fr0+q:=wrap64;have cq:=hsm (fr0+q) ⟨by omega,by omega⟩;unfold dE at cq;rw[hm']at cq;unfold awS;simp only[go_sem,seval,w2];refine⟨_,cq,?_⟩;cases hsq:sM p A i (fr0+(q:Int))with
      |error e=>
       have he:(e != 0)=true:=by
        rw[bne_iff_ne];exact vV hp hsq
       have hq1:dT p A i fr0 (q+1)=.error e:=by
        unfold dT;rw[hL];dsimp only;rw[hsq]
       rw[tD hq1 N (by omega)]at hR;dsimp only at hR;rw[hR];unfold sG nN;simp only[go_sem,seval,he]
      |ok l=>
      obtain⟨hll,_⟩:=hsl _ _ hsq;have hq1:dT p A i fr0 (q+1)=.ok (L++[l]):=by
       unfold dT;rw[hL];dsimp only;rw[hsq]
      unfold sG t16;simp only[go_sem,seval];have hl0:=λd=>rB (l:=l) (k:=0) (by omega) d
      have hl1:=λd=>rB (l:=l) (k:=1) (by omega) d
      have hl2:=λd=>rB (l:=l) (k:=2) (by omega) d
      have hl3:=λd=>rB (l:=l) (k:=3) (by omega) d
      refine bC ?_;refine aK (aB _ ?_);simp only[go_sem,dtf,seval];refine aQ 14 .done (h:=?_);simp only[go_sem,seval,ww1,hll,hl0,nV_0];refine⟨⟨by unfold maxLen;omega,by omega⟩,by kernel_rfl,?_⟩;refine aK (aB _ ?_);simp only[go_sem,dtf,seval];refine aQ 14 .done (h:=?_);simp only[go_sem,seval,ww2,hll,hl1,nV_1];refine⟨⟨by unfold maxLen;omega,by omega⟩,by kernel_rfl,?_⟩;refine aK (aB _ ?_);simp only[go_sem,dtf,seval];refine aQ 14 .done (h:=?_);simp only[go_sem,seval,ww3,hll,hl2,nV_2];refine⟨⟨by unfold maxLen;omega,by omega⟩,by kernel_rfl,?_⟩;refine aK (aB _ ?_);simp only[go_sem,dtf,seval];refine aQ 14 .done (h:=?_);simp only[go_sem,seval,ww4,hll,hl3,nV_3];refine⟨⟨by unfold maxLen;omega,by omega⟩,by kernel_rfl,?_⟩;refine aK (aB _ ?_);simp only[go_sem,dtf,seval];refine⟨(q+1,L++[l]),cA [(6,some 60),(5,some 46),(4,some 32),(3,some 18),(2,some 2),(1,some 1),(0,some 0)] ?_,⟨by show q+1<=N;omega,hq1⟩,by show N-(q+1)<N-q;omega⟩;simp only[go_sem,seval,hwq];simp[c16]
     .simp only[bxx]at hge2;have hqN:q=N:=by omega
      subst hqN;rw[hL]at hR;dsimp only at hR;rw[hR];unfold nN;unfold awS;simp only[go_sem,seval];rfl
def SmpC(p:ProjR)(A:List AudioR)(N:LayN)(i:Nat):Prop:=
 ∀{σ:St} {KP:List PanicEntry->St->Prop} {d:Option Tmp} {K:St->Prop} (j:Int),MixH p A N σ.nx σ.h -> -1099511627776<=j->j<=1099511627776 ->
  (∀l,sM p A i j=.ok l ->∀h' nx',σ.nx<=nx'->bF (DN p N) σ.h h'->MixH p A N nx' h'->K (({ σ with h:=h',nx:=nx' }:St).put d (aGb l))) ->
  (∀e,sM p A i j=.error e ->∀h' nx',σ.nx<=nx'->bF (DN p N) σ.h h'->MixH p A N nx' h'->KP [{ v:=jK e,recovered:=false }] { σ with fr:=[],h:=h',nx:=nx' }) ->
  PCall Tryz.prog (DN p N) KP σ d 152 [.own N.m,.own (N.b i),aA j] K
theorem pNum2{p:ProjR}(hp:PrjV p){A:List AudioR}{N:LayN}{σ:St}{KP:List PanicEntry->St->Prop}{d:Option Tmp}{K:St->Prop}(hM:MixH p A N σ.nx σ.h){s:SourceR}(hk:s.kind=2){k:Nat}(hkl:k<p.seqs.length)(hkn:(p.seqs.getD k default).name=s.name)(hS:SmpC p A N k)(j:Int)(hj1 : -1099511627776<=j)(hj2:j<=1099511627776)
  (hK:∀l,sM p A k j=.ok l ->∀h' nx',σ.nx<=nx'->bF (DN p N) σ.h h'->MixH p A N nx' h'->K (({ σ with h:=h',nx:=nx' }:St).put d (vP l)))
  (hKP:∀e,sM p A k j=.error e ->∀h' nx',σ.nx<=nx'->bF (DN p N) σ.h h'->MixH p A N nx' h'->KP [{ v:=jK e,recovered:=false }] { σ with fr:=[],h:=h',nx:=nx' }) :
  PCall Tryz.prog (DN p N) KP σ d 128 [.own N.m,eH s,aA j] K:=by
 obtain⟨S,hS1,hS2,hS3,_⟩:=hM.sq;have hbx:=hM.box;obtain⟨l1,l2,l3,l4⟩:=hM.lm;have hlk:=hS3 k hkl;rw[hkn]at hlk;have hsq:=hM.seq k hkl;have hlb:=(hM.lb k hkl).1;have hk1:(s.kind==2)=true:=by rw[hk];rfl
 have hlen:=λl h=>Ek (A:=A) hp hkl (t:=j) (l:=l) h
 obtain⟨dm1,dm2,dm3,dm4⟩:=hM.dm;have db:=(hM.db k hkl).1;refine fK Tryz.X128 Tryz.func128 rfl Tryz.ntmps128 (by rw[Tryz.results128]) ?_;obtain⟨fr0,H0,n0,df0⟩:= σ;simp only at hbx hS1 hsq l1 l2 l3 l4 hlb hK hKP hM⊢;have e1:(N.m=n0)=False:=by simp;omega
 have e2:∀k,(N.m=n0+k)=False:=λk=>by simp;omega
 have e3:(N.m2=n0)=False:=by simp;omega
 have e4:∀k,(N.m2=n0+k)=False:=λk=>by simp;omega
 have e5:(N.b k=n0)=False:=by simp;omega
 have e6:∀j,(N.b k=n0+j)=False:=λj=>by simp;omega
 have dn:∀q,n0<=q->DN p N q:=λq hq i hi=>by have:=(hM.lb i hi).2.2;omega
 have d0:DN p N n0:=dn n0 (Nat.le_refl _);have d1:∀q,DN p N (n0+q):=λq=>dn _ (by omega)
 refine aH (aB _ ?_);simp only[go_sem,seval,Nat.add_assoc];refine aH ?_;refine aH (aB _ ?_);simp only[go_sem,seval,hk1,Nat.left_eq_add];refine eS (b:=true) rfl ?_;rw[if_pos rfl];refine aH (aB _ ?_);simp only[go_sem,seval];refine bL [0,1,2,3,4,5,6,7] .done (h:=?_);simp only[go_sem,seval,e1,e2,e3,e4,hbx,hS1,hS2,hlk,Nat.left_eq_add];refine aH (aB _ ?_);simp only[go_sem,seval];refine aD7 (DN p N) [7] (.look 0 (.look 1 (.look 2 (.look 3 (.look 4 (.look 5 (.look 6 (.step 7 (.step 8 (.step 9 .done)))))))))) rfl (by kernel_rfl) ?_;simp only[go_sem,seval,e5,e6,hsq,dm1,db];have hM1:=MixH.top hM (k:=n0) (.box [aA s.kind,cF s.name,aA s.pos.num,aA s.pos.den,aA s.speed.num,aA s.speed.den,aR s.smooth]) (Nat.le_refl _);have hM2:=MixH.top hM1 (k:=n0+1) (.box [aA 0,aA 0,aA 0,aA 0,aA 0]) (Nat.le_refl _);have hDt:bF (DN p N) H0 ((n0+1,.box [aA 0,aA 0,aA 0,aA 0,aA 0])::(n0,.box [aA s.kind,cF s.name,aA s.pos.num,aA s.pos.den,aA s.speed.num,aA s.speed.den,aR s.smooth])::H0):=λq b _ hq=>aN hM1.wf (aN hM.wf hq (Nat.le_refl _)) (Nat.le_refl _)
 refine hS j hM2 hj1 hj2 (λl hl h' nx' hle hD hMh=>?_) (λe he h' nx' hle hD hMh=>?_)
 .have hle':n0+2<=nx':=hle;have hb:h'.look (n0+1)=some (.box [aA 0,aA 0,aA 0,aA 0,aA 0]):=hD _ _ (d1 1) (by show Heap.look ((n0+1,_)::_) (n0+1)=_;rw[Heap.look,if_pos rfl]);obtain⟨hll,_⟩:=hlen l hl;simp only[go_sem,seval,aGb,hb];have hc0:=(hp.seq k hkl).ch;have hch:(p.seqs.getD k default).channels=(l.length:Int):=by omega
  rw[hch];obtain⟨B,hB⟩:∃B,B=Blk.box [V.t (.lit (.int .i64 (l.length:Int))),aA (l.getD 0 0),aA (l.getD 1 0),aA (l.getD 2 0),aA (l.getD 3 0)]:=⟨_,rfl⟩
  have hs0:(h'.set (n0+1) B).look (n0+1)=some B:=by rw[Heap.look_set _ _ _ hb,if_pos rfl]
  have hD3:bF (DN p N) H0 (h'.set (n0+1) B):=λq b dq hq=>by
   rw[Heap.look_set _ _ _ hb,if_neg]
   .exact bK hDt hD q b dq hq
   .intro e;rw[e,hM.wf _ (by show n0<=n0+1;omega)]at hq;cases hq
  have hM3:MixH p A N nx' (h'.set (n0+1) B):=hM.later (by show n0<=nx';omega) hD3 (λi hi=>by
   obtain⟨es,q1,q2⟩:=hMh.kept i hi;refine⟨es,?_,q2⟩;rw[Heap.look_set _ _ _ hb,if_neg]
   .exact q1
   .intro e;exact d1 1 i hi e.symm) λq hq=>by
   rw[Heap.look_set _ _ _ hb,if_neg (by omega)];exact hMh.wf q hq
  rw[<-hB];rw[hB]at hs0;refine aB _ ?_;simp only[go_sem,seval];unfold vW;rw[hB];simp only[go_sem,seval,hs0];rw[hB]at hD3 hM3;exact⟨hD3,hK l hl _ nx' (by omega) hD3 hM3⟩
 .intro fr;exact⟨rfl,hKP e he h' nx' (by have:n0+2<=nx':=hle;omega) (bK hDt hD) hMh⟩
structure OutK (p:ProjR) (A:List AudioR) (N:LayN) (σ:St) (KP:List PanicEntry->St->Prop) (d:Option Tmp) (K:St->Prop) (e:Ev V):Prop where
 ok:∀x,e=.ok x ->∀h' nx',σ.nx<=nx'->bF (DN p N) σ.h h'->MixH p A N nx' h'->K (({ σ with h:=h',nx:=nx' }:St).put d x)
 bad:∀n,e=.error n ->∀h' nx',σ.nx<=nx'->bF (DN p N) σ.h h'->MixH p A N nx' h'->KP [{ v:=jK n,recovered:=false }] { σ with fr:=[],h:=h',nx:=nx' }
def mapE{α β:Type}(f:α->β)(e:Ev α):Ev β:=
 match e with
 | .ok a=> .ok (f a)
 | .error n=> .error n
def Lj(p:ProjR)(A:List AudioR)(N:LayN)(i:Nat):Prop:=∀k,k<p.seqs.length->eM p (k:Int)<eM p (i:Int)->bG (p.seqs.getD k default).rate=true->SmpC p A N k
theorem pNum{p:ProjR}(hp:PrjV p){A:List AudioR}(hA:AudP A){N:LayN}{σ:St}{KP:List PanicEntry->St->Prop}{d:Option Tmp}{K:St->Prop}(hM:MixH p A N σ.nx σ.h){i:Nat}(hS:Lj p A N i)
    {s:SourceR} (hs:SrcV p i s) (hau:bG (cS p s)=true) (j:Int) (hj1 : -1099511627776<=j) (hj2:j<=1099511627776) (hO:OutK p A N σ KP d K (mapE vP (rS p A (eQ p A i) s j))) :
    PCall Tryz.prog (DN p N) KP σ d 128 [.own N.m,eH s,aA j] K:=by
  by_cases hk:s.kind=2
  · obtain⟨hx,hd⟩:0<=gU p s.name/\eM p (gU p s.name)<eM p (i:Int):=by
      rcases hs.kind with h|h|h
      · omega
      · omega
      · exact h.2
    obtain⟨k,hkl,hki,hkn⟩:=mT hx;rw[hki]at hd;unfold cS at hau;rw[if_neg (by omega),hki,Int.toNat_natCast]at hau;have e:rS p A (eQ p A i) s j=sM p A k j:=by
      unfold rS;rw[if_pos hk,hki,Int.toNat_natCast];unfold eQ;rw[if_pos hd]
    rw[e]at hO;exact pNum2 hp hM hk hkl hkn (hS k hkl hd hau) j hj1 hj2 (λl hl=>hO.ok _ (by rw[hl]; rfl)) (λn hn=>hO.bad n (by rw[hn]; rfl))
  · have e:rS p A (eQ p A i) s j=match rN A s.name with
        |none=> .error 7
        |some a=> .ok (a.chs.map λl=>aZ l j):=by
      unfold rS;rw[if_neg hk];cases rN A s.name <;> rfl
    rw[e]at hO;exact pNum1 hA hM hk j ⟨by omega,by omega⟩ (λa ha=>hO.ok _ (by rw[ha]; rfl)) (λhn=>hO.bad 7 (by rw[hn]; rfl))
theorem jH{p:ProjR}{A:List AudioR}{N:LayN}{σ:St}{KP:List PanicEntry->St->Prop}{d:Option Tmp}{K:St->Prop}(hM:MixH p A N σ.nx σ.h)(r:RatR)(n:Int)(hn:n≠0)
  (hKP:∀h' nx',σ.nx<=nx'->bF (DN p N) σ.h h'->MixH p A N nx' h'->KP [{ v:=jK n,recovered:=false }] { σ with fr:=[],h:=h',nx:=nx' }) :
  PCall Tryz.prog (DN p N) KP σ d 48 [bV r,aA n] K:=by
 have hnb:(n != 0)=true:=by rw[bne_iff_ne];exact hn
 refine fK Tryz.X48 Tryz.func48 rfl Tryz.ntmps48 (by rw[Tryz.results48]) ?_;obtain⟨fr0,H0,n0,df0⟩:= σ;simp only at hKP hM⊢;have hM1:=MixH.top hM (k:=n0) (.box [aA r.num,aA r.den]) (Nat.le_refl _);have hM2:=MixH.top hM1 (k:=n0+1) (.box [aA 0,aA 0]) (Nat.le_refl _);have hDt:bF (DN p N) H0 ((n0+1,.box [aA 0,aA 0])::(n0,.box [aA r.num,aA r.den])::H0):=λq b _ hq=>aN hM1.wf (aN hM.wf hq (Nat.le_refl _)) (Nat.le_refl _)
 refine aH (aB _ ?_);simp only[go_sem,seval,Nat.add_assoc];refine aH ?_;refine aH (aB _ ?_);simp only[go_sem,seval,hnb];refine eS (b:=true) rfl ?_;rw[if_pos rfl];refine aU 2 ?_;simp only[go_sem,seval];refine tE 8 9 rfl rfl rfl rfl rfl (u:=_) rfl (by intro m;exact λh=>by cases h) (by show 9<11;omega) rfl ?_;intro fr;exact⟨rfl,hKP _ (n0+2) (show n0<=n0+2 by omega) hDt hM2⟩
theorem pSrc0{p:ProjR}{A:List AudioR}{N:LayN}{σ:St}{KP:List PanicEntry->St->Prop}{d:Option Tmp}{K:St->Prop}(hM:MixH p A N σ.nx σ.h){s:SourceR}(hk:s.kind=0)(r:RatR)
  (hK:∀h' nx',σ.nx<=nx'->bF (DN p N) σ.h h'->MixH p A N nx' h'->K (({ σ with h:=h',nx:=nx' }:St).put d (vP []))) :
  PCall Tryz.prog (DN p N) KP σ d 91 [.own N.m,eH s,bV r] K:=by
 have hkb:(s.kind==0)=true:=by rw[hk];rfl
 refine fK Tryz.X91 Tryz.func91 rfl Tryz.ntmps91 (by rw[Tryz.results91]) ?_;obtain⟨fr0,H0,n0,df0⟩:= σ;simp only at hK hM⊢;refine aB _ ?_;simp only[go_sem,seval,hkb,Nat.add_assoc,Nat.left_eq_add];unfold vW;simp only[go_sem,seval];have h1:=λb=>MixH.top hM (k:=n0) b (Nat.le_refl _)
 have h2:=λb c=>MixH.top (h1 b) (k:=n0+1) c (Nat.le_refl _)
 have h3:=λb c e=>MixH.top (h2 b c) (k:=n0+2) e (Nat.le_refl _)
 have hD:∀b c e,bF (DN p N) H0 ((n0+2,e)::(n0+1,c)::(n0,b)::H0):=λb c e q x _ hq=>aN (h2 b c).wf (aN (h1 b).wf (aN hM.wf hq (Nat.le_refl _)) (Nat.le_refl _)) (Nat.le_refl _)
 exact⟨hD _ _ _,hK _ (n0+3) (show n0<=n0+3 by omega) (hD _ _ _) (h3 _ _ _)⟩
theorem pSrcN{p:ProjR}(hp:PrjV p){A:List AudioR}{N:LayN}{σ:St}{KP:List PanicEntry->St->Prop}{d:Option Tmp}{K:St->Prop}(hM:MixH p A N σ.nx σ.h){i:Nat}{s:SourceR}(hs:SrcV p i s)(hk:s.kind≠0)(hau:bG (cS p s)=false)(hf:(cS p s).fit)(r:RatR)
  (hKP:∀h' nx',σ.nx<=nx'->bF (DN p N) σ.h h'->MixH p A N nx' h'->KP [{ v:=jK 2,recovered:=false }] { σ with fr:=[],h:=h',nx:=nx' }) :
  PCall Tryz.prog (DN p N) KP σ d 91 [.own N.m,eH s,bV r] K:=by
 have hkb:(s.kind==0)=false:=by rw[beq_eq_false_iff_ne];exact hk
 have cau:=qX (cS p s) hf;rw[hau]at cau;refine fK Tryz.X91 Tryz.func91 rfl Tryz.ntmps91 (by rw[Tryz.results91]) ?_;obtain⟨fr0,H0,n0,df0⟩:= σ;simp only at hKP hM⊢;have h1:=λb=>MixH.top hM (k:=n0) b (Nat.le_refl _)
 have h2:=λb c=>MixH.top (h1 b) (k:=n0+1) c (Nat.le_refl _)
 have h3:=λb c e=>MixH.top (h2 b c) (k:=n0+2) e (Nat.le_refl _)
 have hD:∀b c e,bF (DN p N) H0 ((n0+2,e)::(n0+1,c)::(n0,b)::H0):=λb c e q x _ hq=>aN (h2 b c).wf (aN (h1 b).wf (aN hM.wf hq (Nat.le_refl _)) (Nat.le_refl _)) (Nat.le_refl _)
 refine aH (aB _ ?_);simp only[go_sem,seval,Nat.add_assoc];refine aH (aB _ ?_);simp only[go_sem,seval,hkb,Nat.left_eq_add];refine aH (aU 2 ?_);simp only[go_sem,seval,Nat.left_eq_add];refine nV rfl rfl ?_;simp only[go_sem,seval];refine dM (Vc hp (h3 _ _ _) hs hk λh' nx' hle hD' hM'=>dC ?_);generalize cS p s=q at*;simp only[go_sem,seval];refine aH ?_;refine aH (aB _ ?_);simp only[go_sem,seval];refine⟨_,cau,?_⟩;simp only[go_sem,seval];refine eS (b:=true) rfl ?_;rw[if_pos rfl];refine aU 1 ?_;simp only[go_sem,seval];refine tE 22 23 rfl rfl rfl rfl rfl (u:=_) rfl (by intro m;exact λh=>by cases h) (by show 23<82;omega) rfl ?_;intro fr;have hM4:=MixH.top hM' (k:=nx') (.box [aA q.num,aA q.den]) (Nat.le_refl _);exact⟨rfl,hKP _ (nx'+1) (by have:n0+2+1<=nx':=hle;omega) (λy x dy hq=>aN hM'.wf (hD' y x dy (hD _ _ _ y x dy hq)) (Nat.le_refl _)) hM4⟩
def mapClrR(h:Heap)(u:Option (TypeId×TypeId))(m:V):RO Heap:=
 match u,m with
 |some _,.own i=>mcA h i (h.look i)
 |_,_=>none
where
 mcA (h:Heap) (i:Nat) (b:Option Blk):RO Heap:=
  match b with
  |some (.map _)=>some (True,h.set i (.map []))
  |_=>none
section
variable {P:Program} {σ:St} {o:Oper} {K:St->Prop}
theorem aQm{m:Operand}{t:TypeId}{tys:Array TypeId}(ho:o.op=.call { callee:=.builtin .clear,args:=#[m],argTypes:=tys })(ht:tys[0]?=some t)(hdst:o.dst=none)
  (h:dB true (σ.ev m) λm'=>kR (mapClrR σ.h (P.mapT t) m') (λh'=>K { σ with h:=h' })):OpW P o σ K:=by
 obtain⟨m',h2,hm⟩:=cB h;clear h;unfold mapClrR mapClrR.mcA at h2;split at h2
 .rename_i ke i hu;split at h2
  .rename_i es hl;obtain⟨-,hK⟩:=h2;intro E a w hr next Q hn;have e1:=hm w E _ rfl (hr.ev m);obtain⟨hv,hB0,r,entries,clock,rfl,h3,h4,h5,h6⟩:=hr.rel.has i _ hl;have hB:E.B i=some (.map (some r)):=hB0;simp only[RdV]at e1;have e3:=e1.2.2 _ (.inl hB);unfold Program.mapT at hu;split at hu
   .rename_i kt' et' hut;have hgo:(getObj r).run P w=.ok (.map entries clock) w:=by simp[getObj,Sem.run,h3]
    have hexec:∀w',(Builtin.clear_ tys o.type #[.map (some r)]).run P w=.ok (.tuple #[]) w'->(execOp a.eval o).run P w=.ok (.value (.tuple #[])) w':=by
     intro w' hw;simp[execOp,ho,resolve,invoke,builtin,e3,hw]
    have hrlt:r<w.heap.size:=(Array.getElem?_eq_some_iff.1 h3).1;have fin:∀w',(execOp a.eval o).run P w=.ok (.value (.tuple #[])) w'->RelF E { σ with h:= σ.h.set i (.map []) } a w'->Ext E w E w'->o.wp P a w next Q:=by
     intro w' hrun k1 k2;unfold Oper.wp;rw[hrun];have:a.put o.dst (.tuple #[])=a:=by rw[hdst];rfl
     show next (a.put o.dst (.tuple #[])) w'
     rw[this];exact hn _ w' _ _ k1 k2 hK
    have hup:=hr.upd (blk:=.map []) hB hl (by simpa[aV]using xV w r (.map #[] clock)) (by simp) (λhE=>by
     refine⟨r,#[],clock,rfl,by simp[hrlt],?_,?_,?_⟩
     .simp[RdEs]
     .simp
     .simp) rfl
    refine fin _ (hexec _ ?_) hup.1 hup.2;simp only[Builtin.clear_,ht,List.getElem?_toArray,List.getElem?_cons_zero,Sem.run_bind,run_underlying hut,Result.andThen_ok,hgo,zA _ h3,Sem.run_pure]
   .cases hu
  .exact h2.elim
 .exact h2.elim
end
theorem aEw{P:Program}{ops:List Oper}{Q:Exit->St->Prop}{o:Oper}{r:List Oper}{σ:St}{m:Operand}{t:TypeId}{tys:Array TypeId}(hg:o.guard=none)
  (ho:o.op=.call { callee:=.builtin .clear,args:=#[m],argTypes:=tys }) (ht:tys[0]?=some t) (hdst:o.dst=none)
  (h:dB true (σ.ev m) λm'=>kR (mapClrR σ.h (P.mapT t) m') (λh'=>sF P ops Q r { σ with h:=h' })):sF P ops Q (o::r) σ:=by
 intro E a w hr E0 w0 hE;unfold wpListIn;have hw:Region.wanted o (yielded ops.toArray a.tmps)=true:=by simp[Region.wanted,hg]
 rw[if_pos hw];have hi:OpI P o σ (sF P ops Q r):=vE (.inr λc hc=>by rw[ho]at hc;cases hc) (aQm ho ht hdst h);exact hi E a w hr _ _ λa' w' E' σ' h1 h2 h3=>by
  have:=h3 E' a' w' h1 E0 w0 (hE.trans h2);rwa[h2.ro]at this
attribute [go_sem] mapClrR mapClrR.mcA
inductive PU where
 |done
 |look (i:Nat) (t:PU)
 |step (i:Nat) (t:PU)
 |two (i:Nat) (t:PU) (j:Nat) (u:PU)
def aKc(P:Program)(ops:Array Oper)(xs:List Nat)(w:Bool)(i:Nat):Bool:=w&&(xs.contains i||(ops[i]?).any λo=> !yK P o.op)
def puB(P:Program)(ops:Array Oper)(xs:List Nat):Nat->Array Bool->Bool->PU->Bool
 |0,listed,_,.done=>Region.ready .any ops listed == []
 |0,_,_,_=>false
 |_+1,listed,_,.done=>Region.ready .any ops listed == []
 |f+1,listed,w,.look i t=>w&&aHy P ops xs listed i&&puB P ops xs f (listed.setIfInBounds i true) w t
 |f+1,listed,w,.step i t=>Region.ready .any ops listed == [i]&&(ops[i]?).isSome&&puB P ops xs f (listed.setIfInBounds i true) (aKc P ops xs w i) t
 |f+1,listed,w,.two i t j u=>Region.ready .any ops listed == [i,j]&&((ops[i]?).isSome&&puB P ops xs f (listed.setIfInBounds i true) (aKc P ops xs w i) t)&&((ops[j]?).isSome&&puB P ops xs f (listed.setIfInBounds j true) (aKc P ops xs w j) u)
def gJ(P:Program)(l:List Oper)(D:Nat->Prop)(KP:List PanicEntry->St->Prop)(xs:List Nat)(K:St->Prop):PU->St->Prop
 | .done,σ=>K σ
 | .look i t,σ=>Qb P l D (l[i]?) σ (gJ P l D KP xs K t)
 | .step i t,σ=>vS P l D KP (xs.contains i) (l[i]?) σ (gJ P l D KP xs K t)
 | .two i t j u,σ=>vS P l D KP (xs.contains i) (l[i]?) σ (gJ P l D KP xs K t)/\vS P l D KP (xs.contains j) (l[j]?) σ (gJ P l D KP xs K u)
theorem Hg{P:Program}{D:Nat->Prop}{KP:List PanicEntry->St->Prop}{l:List Oper}{xs:List Nat}{w:Bool}{i:Nat}{o:Oper}{σ:St}{K:St->Prop}(ho:l.toArray[i]?=some o)(hw:w=true->WFh σ)
  (h:yV P D KP l.toArray (xs.contains i) o σ K):yV P D KP l.toArray (xs.contains i) o σ λs=>(aKc P l.toArray xs w i=true->WFh s)/\K s:=by
 cases hx:xs.contains i with
 |true=>
  rw[hx]at h;exact yP (λs hs=>⟨λ_=>hs.1,hs.2⟩) (Gx h)
 |false=>
  rw[hx]at h;cases hq:aKc P l.toArray xs w i with
  |false=>exact nF (λs hs=>And.intro (λ(h:false=true)=>nomatch h) hs) h
  |true=>
   unfold aKc at hq;rw[hx,ho]at hq;simp only[Option.any_some,Bool.false_or,Bool.and_eq_true,Bool.not_eq_true']at hq;have:=Ds (P:=P) (ops:=l) (σ:= σ) (d:=none) (x:=.dead) (K:=K) (λt h=>by cases h) (λt j w h=>by cases h) (λt h=>by cases h) hq.2 (hw hq.1) (show dH P l (σ.put none .dead) o.dst o.op o.guard K from h);exact qJ (λs hs=>⟨λ_=>hs.2.2.1,hs.1⟩) this
theorem aBp{P:Program}{D:Nat->Prop}{KP:List PanicEntry->St->Prop}{l:List Oper}{xs:List Nat}{K:St->Prop}:∀(f:Nat) (t:PU) (listed:Array Bool) (w:Bool) (σ:St),puB P l.toArray xs f listed w t=true->HeadInv .any l.toArray l.toArray.size listed->(w=true->WFh σ) ->
  gJ P l D KP xs K t σ->Rp P D KP l.toArray xs K f listed σ
 |0,.done,listed,w,σ,hB,inv,hw,h=>by
  unfold puB at hB;exact⟨by simpa using hB,h⟩
 |0,.look _ _,listed,w,σ,hB,_,_,_=>by cases hB
 |0,.step _ _,listed,w,σ,hB,_,_,_=>by cases hB
 |0,.two _ _ _ _,listed,w,σ,hB,_,_,_=>by cases hB
 |f+1,.done,listed,w,σ,hB,inv,hw,h=>by
  unfold puB at hB;have h0:Region.ready .any l.toArray listed=[]:=by simpa using hB
  exact⟨λ_=>h,λi hi=>by rw[h0]at hi;cases hi⟩
 |f+1,.look i t,listed,w,σ,hB,inv,hw,h=>by
  unfold puB aHy at hB;simp only[Bool.and_eq_true]at hB;obtain⟨⟨bw,⟨⟨⟨b1,b2⟩,b3⟩,b3x⟩,b4⟩,b5⟩:=hB;have hr:i∈Region.ready .any l.toArray listed:=by simpa using b1
  obtain⟨oi,ho,hm⟩:∃oi,l.toArray[i]?=some oi/\fM P oi.op=true:=by
   cases hq:l.toArray[i]? with
   |none=>rw[hq]at b3;cases b3
   |some oi=>rw[hq]at b3;exact⟨oi,rfl,by simpa using b3⟩
  have ho':l[i]?=some oi:=by simpa using ho
  simp only[gJ,ho',Qb]at h;obtain⟨hD,h⟩:=h;obtain⟨y,hk,hst0⟩:=sQ hm h;have hst:∀σ',mN σ σ' oi.op.operands.toList->bF D σ.h σ'.h->(∀j w,oi.guard=some (j,w) ->∀t,eP l j=some t->σ'.ev (.tmp t)=σ.ev (.tmp t)) ->∀K':St->Prop,K' (σ'.put oi.dst y)->dH P l σ' oi.dst oi.op oi.guard K':=
   λσ' he hh hg K' hk'=>hst0 σ' he (λy hy q b hm hq=>hh q b (Yq hD y hy q hm) hq) hg K' hk'
  have his:i<l.toArray.size:=(Array.getElem?_eq_some_iff.1 ho).1;refine Ky (y:=y) ho (by simpa using b3x) (λj oj hoj hh=>?_) f listed σ inv (Region.free_spec ho b2) hr (hw bw) hst ?_
  .have hj:=(List.all_eq_true.1 b4) j (List.mem_range.2 (Array.getElem?_eq_some_iff.1 hoj).1);simp only[hoj,Option.any_some,hh,Bool.not_true,Bool.false_or,Bool.or_eq_true]at hj;exact hj
  .exact aBp f t _ w _ b5 (inv.set hr his) (λq=>(wK (hw q)).2.1) hk
 |f+1,.step i t,listed,w,σ,hB,inv,hw,h=>by
  unfold puB at hB;simp only[Bool.and_eq_true,beq_iff_eq]at hB;obtain⟨⟨h1,h2⟩,h3⟩:=hB;obtain⟨o,ho⟩:=Option.isSome_iff_exists.1 h2;have ho':l[i]?=some o:=by simpa using ho
  have hi:i∈Region.ready .any l.toArray listed:=by rw[h1];simp
  have his:i<l.toArray.size:=(Array.getElem?_eq_some_iff.1 ho).1;refine⟨λh0=>(by rw[h1]at h0;cases h0),λj hj=>?_⟩;rw[h1]at hj;simp only[List.mem_singleton]at hj;subst hj;refine⟨o,ho,?_⟩;simp only[gJ,ho',vS]at h;exact nF (λσ' hk=>aBp f t _ _ σ' h3 (inv.set hi his) hk.1 hk.2) (Hg ho hw h)
 |f+1,.two i t j u,listed,w,σ,hB,inv,hw,h=>by
  unfold puB at hB;simp only[Bool.and_eq_true,beq_iff_eq]at hB;obtain⟨⟨h1,h2,h3⟩,h4,h5⟩:=hB;obtain⟨o,ho⟩:=Option.isSome_iff_exists.1 h2;obtain⟨o2,ho2⟩:=Option.isSome_iff_exists.1 h4;have ho':l[i]?=some o:=by simpa using ho
  have ho2':l[j]?=some o2:=by simpa using ho2
  have hi:i∈Region.ready .any l.toArray listed:=by rw[h1];simp
  have hj:j∈Region.ready .any l.toArray listed:=by rw[h1];simp
  have his:i<l.toArray.size:=(Array.getElem?_eq_some_iff.1 ho).1;have hjs:j<l.toArray.size:=(Array.getElem?_eq_some_iff.1 ho2).1;simp only[gJ,ho',ho2',vS]at h;refine⟨λh0=>(by rw[h1]at h0;cases h0),λk hk=>?_⟩;rw[h1]at hk;simp only[List.mem_cons,List.not_mem_nil,or_false]at hk;rcases hk with rfl|rfl
  .exact⟨o,ho,nF (λσ' hk=>aBp f t _ _ σ' h3 (inv.set hi his) hk.1 hk.2) (Hg ho hw h.1)⟩
  .exact⟨o2,ho2,nF (λσ' hk=>aBp f u _ _ σ' h5 (inv.set hj hjs) hk.1 hk.2) (Hg ho2 hw h.2)⟩
theorem aD8{P:Program}{n0:Nat}{id:Nat}{l:List Oper}{Q:Exit->St->Prop}{σ:St}(D:Nat->Prop)(xs:List Nat)(t:PU)(hm:P.follows .mixedOrders=true)
  (hT:puB P l.toArray xs l.length (Array.replicate l.length false) true t=true) (h:gJ P l D (KQ Q) xs (Q .normal) t σ):Xe P n0 id l.toArray Q σ:=by
 intro E a w hr E0 w0 hU hE;refine wpIn_region_any hm ?_;have inv:HeadInv .any l.toArray l.toArray.size (Array.replicate l.length false):=by
  have:=rE (ops:=l.toArray) (md:=.any);simpa using this
 have hd:=aBp _ t _ true σ hT inv (λ_=>hr.wfh) h;have hdr:RelF E σ a { w with drawn:=w.drawn+1 }/\Ext E0 w0 E { w with drawn:=w.drawn+1 }:=by
  have hb:Below w.heap.size w { w with drawn:=w.drawn+1 }:=⟨rfl,rfl,rfl,Nat.le_refl _,λ_ _=>rfl⟩
  obtain⟨k1,k2⟩:=hr.later hb (λ_ h=>h) (λb hb=> .inl hb) (λb hb'=>hr.rel.slt b hb');exact⟨k1,hE.trans k2⟩
 have:=Gg _ _ σ hd E a _ hdr.1 E0 w0 hdr.2;simpa using this
section
variable {P:Program} {l:List Oper} {D:Nat->Prop} {KP:List PanicEntry->St->Prop} {xs:List Nat} {K:St->Prop} {σ:St} {o:Oper}
@[go_sem] theorem pusteps_done:gJ P l D KP xs K .done σ=K σ:=rfl
@[go_sem] theorem pusteps_look{i:Nat}{t:PU}:gJ P l D KP xs K (.look i t) σ=Qb P l D (l[i]?) σ (gJ P l D KP xs K t):=rfl
@[go_sem] theorem pusteps_step{i:Nat}{t:PU}:gJ P l D KP xs K (.step i t) σ=vS P l D KP (xs.contains i) (l[i]?) σ (gJ P l D KP xs K t):=rfl
@[go_sem] theorem pusteps_two{i j:Nat}{t u:PU}:gJ P l D KP xs K (.two i t j u) σ=(vS P l D KP (xs.contains i) (l[i]?) σ (gJ P l D KP xs K t)/\vS P l D KP (xs.contains j) (l[j]?) σ (gJ P l D KP xs K u)):=rfl
end
theorem pSrcA{p:ProjR}(hp:PrjV p){A:List AudioR}{N:LayN}{σ:St}{KP:List PanicEntry->St->Prop}{d:Option Tmp}{K:St->Prop}(hM:MixH p A N σ.nx σ.h){i:Nat}{s:SourceR}(hs:SrcV p i s)(hk:s.kind≠0)(hau:bG (cS p s)=true)(hf:(cS p s).fit)(k:Rat)(hfk:cH k=true)(hsp:cH (toQ s.speed)=true)(hse:s.speed=ofQ (toQ s.speed))(h1x:cH (k*toQ s.speed)=false)
  (hKP:∀h' nx',σ.nx<=nx'->bF (DN p N) σ.h h'->MixH p A N nx' h'->KP [{ v:=jK 2,recovered:=false }] { σ with fr:=[],h:=h',nx:=nx' }) :
  PCall Tryz.prog (DN p N) KP σ d 91 [.own N.m,eH s,bV (ofQ k)] K:=by
 have hkb:(s.kind==0)=false:=by rw[beq_eq_false_iff_ne];exact hk
 have cau:=qX (cS p s) hf;rw[hau]at cau;refine fK Tryz.X91 Tryz.func91 rfl Tryz.ntmps91 (by rw[Tryz.results91]) ?_;obtain⟨fr0,H0,n0,df0⟩:= σ;simp only at hKP hM⊢;have h1:=λb=>MixH.top hM (k:=n0) b (Nat.le_refl _)
 have h2:=λb c=>MixH.top (h1 b) (k:=n0+1) c (Nat.le_refl _)
 have h3:=λb c e=>MixH.top (h2 b c) (k:=n0+2) e (Nat.le_refl _)
 have hD:∀b c e,bF (DN p N) H0 ((n0+2,e)::(n0+1,c)::(n0,b)::H0):=λb c e q x _ hq=>aN (h2 b c).wf (aN (h1 b).wf (aN hM.wf hq (Nat.le_refl _)) (Nat.le_refl _)) (Nat.le_refl _)
 refine aH (aB _ ?_);simp only[go_sem,seval,Nat.add_assoc];refine aH (aB _ ?_);simp only[go_sem,seval,hkb,Nat.left_eq_add];refine aH (aU 2 ?_);simp only[go_sem,seval,Nat.left_eq_add];refine nV rfl rfl ?_;simp only[go_sem,seval];refine dM (Vc hp (h3 _ _ _) hs hk λh' nx' hle hD' hM'=>dC ?_);generalize cS p s=q at*;simp only[go_sem,seval];refine aH ?_;refine aH (aB _ ?_);simp only[go_sem,seval];refine⟨_,cau,?_⟩;simp only[go_sem,seval];refine eS (b:=false) rfl ?_;rw[if_neg (by decide)];refine aB _ ?_;simp only[go_sem,seval];refine aH (aB _ ?_);simp only[go_sem,seval];have hle':n0+2+1<=nx':=hle;have dn:∀q,n0<=q->DN p N q:=λq hq i hi=>by have:=(hM.lb i hi).2.2;omega
 have d0:DN p N n0:=dn n0 (Nat.le_refl _);have d1:DN p N (n0+1):=dn _ (by omega);have g0:(n0=nx')=False:=by simp;omega
 have g1:(n0+1=nx')=False:=by simp;omega
 have g2:(n0=nx'+1)=False:=by simp;omega
 have g3:(n0+1=nx'+1)=False:=by simp;omega
 have hb0:h'.look n0=some (.box [aA s.kind,cF s.name,aA s.pos.num,aA s.pos.den,aA s.speed.num,aA s.speed.den,aR s.smooth]):=hD' _ _ d0 (by show Heap.look ((n0+2,_)::(n0+1,_)::(n0,_)::_) n0=_;rw[Heap.look,if_neg (by omega),Heap.look,if_neg (by omega),Heap.look,if_pos rfl]);have hb1:h'.look (n0+1)=some (.box [aA (ofQ k).num,aA (ofQ k).den]):=hD' _ _ d1 (by show Heap.look ((n0+2,_)::(n0+1,_)::(n0,_)::_) (n0+1)=_;rw[Heap.look,if_neg (by omega),Heap.look,if_pos rfl]);have cm:aL Tryz.prog 124 [bV (ofQ k),bV s.speed] (kW (k*toQ s.speed)):=by have:=Gm hfk hsp;rwa[<-hse]at this
 simp only[kW,h1x,cond_false]at cm;refine aD8 (DN p N) [8,12] (.look 0 (.look 1 (.look 2 (.look 3 (.look 4 (.two 5 (.look 6 (.look 7 (.two 8 (.two 9 (.look 10 (.look 11 (.two 12 (.step 13 (.step 14 .done)) 13 (.step 12 (.step 14 .done))))) 13 (.step 9 (.look 10 (.look 11 (.step 12 (.step 14 .done)))))) 13 (.step 8 (.step 9 (.look 10 (.look 11 (.step 12 (.step 14 .done))))))))) 13 (.step 5 (.look 6 (.look 7 (.step 8 (.step 9 (.look 10 (.look 11 (.step 12 (.step 14 .done))))))))))))))) rfl (by kernel_rfl) ?_;simp only[go_sem,seval,g0,g1,hb0,hb1,d0,d1,Nat.add_assoc];have hDs:bF (DN p N) H0 h':=λy x dy hq=>hD' y x dy (hD _ _ _ y x dy hq)
 have hM4:=MixH.top hM' (k:=nx') (.box [aA q.num,aA q.den]) (Nat.le_refl _);have hM5:=λb=>MixH.top hM4 (k:=nx'+1) b (Nat.le_refl _)
 have hDt:bF (DN p N) H0 ((nx',.box [aA q.num,aA q.den])::h'):=λy x dy hq=>aN hM'.wf (hDs y x dy hq) (Nat.le_refl _)
 have hDu:∀b,bF (DN p N) H0 ((nx'+1,b)::(nx',.box [aA q.num,aA q.den])::h'):=λb y x dy hq=>aN hM4.wf (hDt y x dy hq) (Nat.le_refl _)
 refine⟨⟨_,cm,?_⟩,?_⟩
 .simp only[go_sem,seval,Nat.add_assoc];refine⟨jH hM4 ⟨0,0⟩ 2 (by decide) λh2 nx2 hl2 hD2 hM2 fr=>⟨rfl,hKP _ nx2 (by have:nx'+1<=nx2:=hl2;omega) (bK hDt hD2) hM2⟩,?_⟩;refine jH (hM5 (.box [aA 0,aA 0])) ⟨0,0⟩ 2 (by decide) λh2 nx2 hl2 hD2 hM2 fr=>⟨rfl,hKP _ nx2 (by have:nx'+1+1<=nx2:=hl2;omega) (bK (hDu _) hD2) hM2⟩
 .refine⟨_,cm,?_⟩;simp only[go_sem,seval];refine jH (hM5 (.box [aA 0,aA 0])) ⟨0,0⟩ 2 (by decide) λh2 nx2 hl2 hD2 hM2 fr=>⟨rfl,hKP _ nx2 (by have:nx'+1+1<=nx2:=hl2;omega) (bK (hDu _) hD2) hM2⟩
theorem pSrcB{p:ProjR}(hp:PrjV p){A:List AudioR}{N:LayN}{σ:St}{KP:List PanicEntry->St->Prop}{d:Option Tmp}{K:St->Prop}(hM:MixH p A N σ.nx σ.h){i:Nat}{s:SourceR}(hs:SrcV p i s)(hk:s.kind≠0)(hau:bG (cS p s)=true)(hf:(cS p s).fit)(k:Rat)(hfk:cH k=true)(hsp:cH (toQ s.speed)=true)(hse:s.speed=ofQ (toQ s.speed))(h1x:cH (k*toQ s.speed)=true)(hps:cH (toQ s.pos)=true)(hpe:s.pos=ofQ (toQ s.pos))(h2x:cH (toQ s.pos+k*toQ s.speed)=false)
  (hKP:∀h' nx',σ.nx<=nx'->bF (DN p N) σ.h h'->MixH p A N nx' h'->KP [{ v:=jK 2,recovered:=false }] { σ with fr:=[],h:=h',nx:=nx' }) :
  PCall Tryz.prog (DN p N) KP σ d 91 [.own N.m,eH s,bV (ofQ k)] K:=by
 have hkb:(s.kind==0)=false:=by rw[beq_eq_false_iff_ne];exact hk
 have cau:=qX (cS p s) hf;rw[hau]at cau;refine fK Tryz.X91 Tryz.func91 rfl Tryz.ntmps91 (by rw[Tryz.results91]) ?_;obtain⟨fr0,H0,n0,df0⟩:= σ;simp only at hKP hM⊢;have h1:=λb=>MixH.top hM (k:=n0) b (Nat.le_refl _)
 have h2:=λb c=>MixH.top (h1 b) (k:=n0+1) c (Nat.le_refl _)
 have h3:=λb c e=>MixH.top (h2 b c) (k:=n0+2) e (Nat.le_refl _)
 have hD:∀b c e,bF (DN p N) H0 ((n0+2,e)::(n0+1,c)::(n0,b)::H0):=λb c e q x _ hq=>aN (h2 b c).wf (aN (h1 b).wf (aN hM.wf hq (Nat.le_refl _)) (Nat.le_refl _)) (Nat.le_refl _)
 refine aH (aB _ ?_);simp only[go_sem,seval,Nat.add_assoc];refine aH (aB _ ?_);simp only[go_sem,seval,hkb,Nat.left_eq_add];refine aH (aU 2 ?_);simp only[go_sem,seval,Nat.left_eq_add];refine nV rfl rfl ?_;simp only[go_sem,seval];refine dM (Vc hp (h3 _ _ _) hs hk λh' nx' hle hD' hM'=>dC ?_);generalize cS p s=q at*;simp only[go_sem,seval];refine aH ?_;refine aH (aB _ ?_);simp only[go_sem,seval];refine⟨_,cau,?_⟩;simp only[go_sem,seval];refine eS (b:=false) rfl ?_;rw[if_neg (by decide)];refine aB _ ?_;simp only[go_sem,seval];refine aH (aB _ ?_);simp only[go_sem,seval];have hle':n0+2+1<=nx':=hle;have dn:∀q,n0<=q->DN p N q:=λq hq i hi=>by have:=(hM.lb i hi).2.2;omega
 have d0:DN p N n0:=dn n0 (Nat.le_refl _);have d1:DN p N (n0+1):=dn _ (by omega);have g0:(n0=nx')=False:=by simp;omega
 have g1:(n0+1=nx')=False:=by simp;omega
 have g2:(n0=nx'+1)=False:=by simp;omega
 have g3:(n0+1=nx'+1)=False:=by simp;omega
 have hb0:h'.look n0=some (.box [aA s.kind,cF s.name,aA s.pos.num,aA s.pos.den,aA s.speed.num,aA s.speed.den,aR s.smooth]):=hD' _ _ d0 (by show Heap.look ((n0+2,_)::(n0+1,_)::(n0,_)::_) n0=_;rw[Heap.look,if_neg (by omega),Heap.look,if_neg (by omega),Heap.look,if_pos rfl]);have hb1:h'.look (n0+1)=some (.box [aA (ofQ k).num,aA (ofQ k).den]):=hD' _ _ d1 (by show Heap.look ((n0+2,_)::(n0+1,_)::(n0,_)::_) (n0+1)=_;rw[Heap.look,if_neg (by omega),Heap.look,if_pos rfl]);have cm:aL Tryz.prog 124 [bV (ofQ k),bV s.speed] (kW (k*toQ s.speed)):=by have:=Gm hfk hsp;rwa[<-hse]at this
 simp only[kW,h1x,cond_true]at cm;have ca:aL Tryz.prog 89 [bV s.pos,bV (ofQ (k*toQ s.speed))] (kW (toQ s.pos+k*toQ s.speed)):=by have:=Wz hps h1x;rwa[<-hpe]at this
 simp only[kW,h2x,cond_false]at ca;refine aD8 (DN p N) [8,12] (.look 0 (.look 1 (.look 2 (.look 3 (.look 4 (.two 5 (.look 6 (.look 7 (.two 8 (.two 9 (.look 10 (.look 11 (.two 12 (.step 13 (.step 14 .done)) 13 (.step 12 (.step 14 .done))))) 13 (.step 9 (.look 10 (.look 11 (.step 12 (.step 14 .done)))))) 13 (.step 8 (.step 9 (.look 10 (.look 11 (.step 12 (.step 14 .done))))))))) 13 (.step 5 (.look 6 (.look 7 (.step 8 (.step 9 (.look 10 (.look 11 (.step 12 (.step 14 .done))))))))))))))) rfl (by kernel_rfl) ?_;simp only[go_sem,seval,g0,g1,hb0,hb1,d0,d1,Nat.add_assoc];have hDs:bF (DN p N) H0 h':=λy x dy hq=>hD' y x dy (hD _ _ _ y x dy hq)
 have hM4:=MixH.top hM' (k:=nx') (.box [aA q.num,aA q.den]) (Nat.le_refl _);have hM5:=λb=>MixH.top hM4 (k:=nx'+1) b (Nat.le_refl _)
 have hDt:bF (DN p N) H0 ((nx',.box [aA q.num,aA q.den])::h'):=λy x dy hq=>aN hM'.wf (hDs y x dy hq) (Nat.le_refl _)
 have hDu:∀b,bF (DN p N) H0 ((nx'+1,b)::(nx',.box [aA q.num,aA q.den])::h'):=λb y x dy hq=>aN hM4.wf (hDt y x dy hq) (Nat.le_refl _)
 refine⟨⟨_,cm,?_⟩,?_⟩
 .simp only[go_sem,seval,Nat.add_assoc];refine⟨xG (jX _) rfl (λ_ _ _ h=>h) ?_,xG (jX _) rfl (λ_ _ _ h=>h) ?_⟩
  .simp only[go_sem,seval,Nat.add_assoc];refine⟨⟨_,ca,?_⟩,?_⟩
   .simp only[go_sem,seval,Nat.add_assoc];exact⟨jH hM4 ⟨0,0⟩ 2 (by decide) λh2 nx2 hl2 hD2 hM2 fr=>⟨rfl,hKP _ nx2 (by have:nx'+1<=nx2:=hl2;omega) (bK hDt hD2) hM2⟩,jH (hM5 (.box [aA 0,aA 0])) ⟨0,0⟩ 2 (by decide) λh2 nx2 hl2 hD2 hM2 fr=>⟨rfl,hKP _ nx2 (by have:nx'+1+1<=nx2:=hl2;omega) (bK (hDu _) hD2) hM2⟩⟩
   .refine⟨_,ca,?_⟩;simp only[go_sem,seval];exact jH (hM5 (.box [aA 0,aA 0])) ⟨0,0⟩ 2 (by decide) λh2 nx2 hl2 hD2 hM2 fr=>⟨rfl,hKP _ nx2 (by have:nx'+1+1<=nx2:=hl2;omega) (bK (hDu _) hD2) hM2⟩
  .simp only[go_sem,seval];refine⟨_,ca,?_⟩;simp only[go_sem,seval];exact jH (hM5 (.box [aA 0,aA 0])) ⟨0,0⟩ 2 (by decide) λh2 nx2 hl2 hD2 hM2 fr=>⟨rfl,hKP _ nx2 (by have:nx'+1+1<=nx2:=hl2;omega) (bK (hDu _) hD2) hM2⟩
 .refine⟨_,cm,?_⟩;simp only[go_sem,seval];refine xG (jX _) rfl (λ_ _ _ h=>h) ?_;simp only[go_sem,seval];refine⟨_,ca,?_⟩;simp only[go_sem,seval];exact jH (hM5 (.box [aA 0,aA 0])) ⟨0,0⟩ 2 (by decide) λh2 nx2 hl2 hD2 hM2 fr=>⟨rfl,hKP _ nx2 (by have:nx'+1+1<=nx2:=hl2;omega) (bK (hDu _) hD2) hM2⟩
theorem pSrcC{p:ProjR}(hp:PrjV p){A:List AudioR}{N:LayN}{σ:St}{KP:List PanicEntry->St->Prop}{d:Option Tmp}{K:St->Prop}(hM:MixH p A N σ.nx σ.h){i:Nat}{s:SourceR}(hs:SrcV p i s)(hk:s.kind≠0)(hau:bG (cS p s)=true)(hf:(cS p s).fit)(k:Rat)(hfk:cH k=true)(hsp:cH (toQ s.speed)=true)(hse:s.speed=ofQ (toQ s.speed))(h1x:cH (k*toQ s.speed)=true)(hps:cH (toQ s.pos)=true)(hpe:s.pos=ofQ (toQ s.pos))(h2x:cH (toQ s.pos+k*toQ s.speed)=true)(h3x:cH ((toQ s.pos+k*toQ s.speed)*fU (cS p s))=false)
  (hKP:∀h' nx',σ.nx<=nx'->bF (DN p N) σ.h h'->MixH p A N nx' h'->KP [{ v:=jK 2,recovered:=false }] { σ with fr:=[],h:=h',nx:=nx' }) :
  PCall Tryz.prog (DN p N) KP σ d 91 [.own N.m,eH s,bV (ofQ k)] K:=by
 have hkb:(s.kind==0)=false:=by rw[beq_eq_false_iff_ne];exact hk
 have cau:=qX (cS p s) hf;rw[hau]at cau;refine fK Tryz.X91 Tryz.func91 rfl Tryz.ntmps91 (by rw[Tryz.results91]) ?_;obtain⟨fr0,H0,n0,df0⟩:= σ;simp only at hKP hM⊢;have h1:=λb=>MixH.top hM (k:=n0) b (Nat.le_refl _)
 have h2:=λb c=>MixH.top (h1 b) (k:=n0+1) c (Nat.le_refl _)
 have h3:=λb c e=>MixH.top (h2 b c) (k:=n0+2) e (Nat.le_refl _)
 have hD:∀b c e,bF (DN p N) H0 ((n0+2,e)::(n0+1,c)::(n0,b)::H0):=λb c e q x _ hq=>aN (h2 b c).wf (aN (h1 b).wf (aN hM.wf hq (Nat.le_refl _)) (Nat.le_refl _)) (Nat.le_refl _)
 refine aH (aB _ ?_);simp only[go_sem,seval,Nat.add_assoc];refine aH (aB _ ?_);simp only[go_sem,seval,hkb,Nat.left_eq_add];refine aH (aU 2 ?_);simp only[go_sem,seval,Nat.left_eq_add];refine nV rfl rfl ?_;simp only[go_sem,seval];refine dM (Vc hp (h3 _ _ _) hs hk λh' nx' hle hD' hM'=>dC ?_);generalize cS p s=q at*;simp only[go_sem,seval];refine aH ?_;refine aH (aB _ ?_);simp only[go_sem,seval];refine⟨_,cau,?_⟩;simp only[go_sem,seval];refine eS (b:=false) rfl ?_;rw[if_neg (by decide)];refine aB _ ?_;simp only[go_sem,seval];refine aH (aB _ ?_);simp only[go_sem,seval];have hle':n0+2+1<=nx':=hle;have dn:∀q,n0<=q->DN p N q:=λq hq i hi=>by have:=(hM.lb i hi).2.2;omega
 have d0:DN p N n0:=dn n0 (Nat.le_refl _);have d1:DN p N (n0+1):=dn _ (by omega);have g0:(n0=nx')=False:=by simp;omega
 have g1:(n0+1=nx')=False:=by simp;omega
 have g2:(n0=nx'+1)=False:=by simp;omega
 have g3:(n0+1=nx'+1)=False:=by simp;omega
 have hb0:h'.look n0=some (.box [aA s.kind,cF s.name,aA s.pos.num,aA s.pos.den,aA s.speed.num,aA s.speed.den,aR s.smooth]):=hD' _ _ d0 (by show Heap.look ((n0+2,_)::(n0+1,_)::(n0,_)::_) n0=_;rw[Heap.look,if_neg (by omega),Heap.look,if_neg (by omega),Heap.look,if_pos rfl]);have hb1:h'.look (n0+1)=some (.box [aA (ofQ k).num,aA (ofQ k).den]):=hD' _ _ d1 (by show Heap.look ((n0+2,_)::(n0+1,_)::(n0,_)::_) (n0+1)=_;rw[Heap.look,if_neg (by omega),Heap.look,if_pos rfl]);have cm:aL Tryz.prog 124 [bV (ofQ k),bV s.speed] (kW (k*toQ s.speed)):=by have:=Gm hfk hsp;rwa[<-hse]at this
 simp only[kW,h1x,cond_true]at cm;have ca:aL Tryz.prog 89 [bV s.pos,bV (ofQ (k*toQ s.speed))] (kW (toQ s.pos+k*toQ s.speed)):=by have:=Wz hps h1x;rwa[<-hpe]at this
 simp only[kW,h2x,cond_true]at ca;have cfr:aL Tryz.prog 49 [aA (IntKind.i64.wrap (48000*q.den)),aA q.num] (.tup [bV (ofQ (fU q)),aA 0]):=by
  obtain⟨n,d,en,ed,n1,n2,d1',d2,_⟩:=qT hau;have ew:IntKind.i64.wrap (48000*q.den)=48000*q.den:=by rw[ed];exact wrap64
  have:=cOfZ (48000*q.den) n n1 (by rw[ed];omega) (by omega);rw[ew,en];unfold fU;rw[en];exact this
 have hDs:bF (DN p N) H0 h':=λy x dy hq=>hD' y x dy (hD _ _ _ y x dy hq)
 have hM4:=MixH.top hM' (k:=nx') (.box [aA q.num,aA q.den]) (Nat.le_refl _);have hDt:bF (DN p N) H0 ((nx',.box [aA q.num,aA q.den])::h'):=λy x dy hq=>aN hM'.wf (hDs y x dy hq) (Nat.le_refl _)
 have ff:cH (fU q)=true:=by
  obtain⟨n,d,_,_,_,_,_,_,_,_,f,_⟩:=qT hau;exact f
 have cm3:=Gm h2x ff;simp only[kW,h3x,cond_false]at cm3;refine aQ 15 .done (h:=?_);simp only[go_sem,seval,g0,g1,hb0,hb1,Nat.add_assoc];refine⟨_,cm,?_⟩;simp only[go_sem,seval];refine⟨_,jX _,?_⟩;simp only[go_sem,seval];refine⟨_,ca,?_⟩;simp only[go_sem,seval];refine⟨_,jX _,?_⟩;simp only[go_sem,seval,Nat.add_assoc];refine⟨jL ?_,?_⟩
 .have o0:pK (nx'+1) n0=0:=cC (by omega);have o1:pK (nx'+1) (n0+1)=0:=cC (by omega);have o2:pK (nx'+1) nx'=0:=cC (by omega);simp only[gB,jG,o0,o1,rR,Nat.reduceLeDiff,Nat.reduceSub,Nat.reduceAdd];show vJ _ _ _=true
  kernel_rfl
 refine aH (aB _ ?_);simp only[go_sem,seval,Nat.left_eq_add];refine⟨_,cfr,?_⟩;simp only[go_sem,seval];refine⟨_,jX _,?_⟩;simp only[go_sem,seval,Nat.add_assoc];refine aH (aU 5 ?_);simp only[go_sem,seval,Nat.add_left_cancel_iff];refine⟨_,cm3,?_⟩;simp only[go_sem,seval];refine nV rfl rfl ?_;simp only[go_sem,seval];have hM6:=MixH.top hM4 (k:=nx'+14) (.box [aA (ofQ (toQ s.pos+k*toQ s.speed)).num,aA (ofQ (toQ s.pos+k*toQ s.speed)).den]) (by omega);have hM7:=MixH.top hM6 (k:=nx'+16) (.box [aA (ofQ (fU q)).num,aA (ofQ (fU q)).den]) (by omega);have hD7:bF (DN p N) H0 ((nx'+16,.box [aA (ofQ (fU q)).num,aA (ofQ (fU q)).den])::(nx'+14,.box [aA (ofQ (toQ s.pos+k*toQ s.speed)).num,aA (ofQ (toQ s.pos+k*toQ s.speed)).den])::(nx',.box [aA q.num,aA q.den])::h'):=λy x dy hq=>aN hM6.wf (aN hM4.wf (hDt y x dy hq) (show nx'+1<=nx'+14 by omega)) (show nx'+14+1<=nx'+16 by omega)
 exact dM (jH hM7 ⟨0,0⟩ 2 (by decide) λh2 nx2 hl2 hD2 hM2 fr=>⟨rfl,hKP _ nx2 (by have:nx'+16+1<=nx2:=hl2;omega) (bK hD7 hD2) hM2⟩)
theorem pSrcD{p:ProjR}(hp:PrjV p){A:List AudioR}{N:LayN}{σ:St}{KP:List PanicEntry->St->Prop}{d:Option Tmp}{K:St->Prop}(hM:MixH p A N σ.nx σ.h){i:Nat}{s:SourceR}(hs:SrcV p i s)(hk:s.kind≠0)(hau:bG (cS p s)=true)(hf:(cS p s).fit)(k:Rat)(hfk:cH k=true)(hsp:cH (toQ s.speed)=true)(hse:s.speed=ofQ (toQ s.speed))(h1x:cH (k*toQ s.speed)=true)(hps:cH (toQ s.pos)=true)(hpe:s.pos=ofQ (toQ s.pos))(h2x:cH (toQ s.pos+k*toQ s.speed)=true)(h3x:cH ((toQ s.pos+k*toQ s.speed)*fU (cS p s))=true)(hz:((toQ s.pos+k*toQ s.speed)*fU (cS p s)).floor < -1099511627776\/1099511627776<=((toQ s.pos+k*toQ s.speed)*fU (cS p s)).floor)
  (hKP:∀h' nx',σ.nx<=nx'->bF (DN p N) σ.h h'->MixH p A N nx' h'->KP [{ v:=jK 2,recovered:=false }] { σ with fr:=[],h:=h',nx:=nx' }) :
  PCall Tryz.prog (DN p N) KP σ d 91 [.own N.m,eH s,bV (ofQ k)] K:=by
 have hkb:(s.kind==0)=false:=by rw[beq_eq_false_iff_ne];exact hk
 have cau:=qX (cS p s) hf;rw[hau]at cau;refine fK Tryz.X91 Tryz.func91 rfl Tryz.ntmps91 (by rw[Tryz.results91]) ?_;obtain⟨fr0,H0,n0,df0⟩:= σ;simp only at hKP hM⊢;have h1:=λb=>MixH.top hM (k:=n0) b (Nat.le_refl _)
 have h2:=λb c=>MixH.top (h1 b) (k:=n0+1) c (Nat.le_refl _)
 have h3:=λb c e=>MixH.top (h2 b c) (k:=n0+2) e (Nat.le_refl _)
 have hD:∀b c e,bF (DN p N) H0 ((n0+2,e)::(n0+1,c)::(n0,b)::H0):=λb c e q x _ hq=>aN (h2 b c).wf (aN (h1 b).wf (aN hM.wf hq (Nat.le_refl _)) (Nat.le_refl _)) (Nat.le_refl _)
 refine aH (aB _ ?_);simp only[go_sem,seval,Nat.add_assoc];refine aH (aB _ ?_);simp only[go_sem,seval,hkb,Nat.left_eq_add];refine aH (aU 2 ?_);simp only[go_sem,seval,Nat.left_eq_add];refine nV rfl rfl ?_;simp only[go_sem,seval];refine dM (Vc hp (h3 _ _ _) hs hk λh' nx' hle hD' hM'=>dC ?_);generalize cS p s=q at*;simp only[go_sem,seval];refine aH ?_;refine aH (aB _ ?_);simp only[go_sem,seval];refine⟨_,cau,?_⟩;simp only[go_sem,seval];refine eS (b:=false) rfl ?_;rw[if_neg (by decide)];refine aB _ ?_;simp only[go_sem,seval];refine aH (aB _ ?_);simp only[go_sem,seval];have hle':n0+2+1<=nx':=hle;have dn:∀q,n0<=q->DN p N q:=λq hq i hi=>by have:=(hM.lb i hi).2.2;omega
 have d0:DN p N n0:=dn n0 (Nat.le_refl _);have d1:DN p N (n0+1):=dn _ (by omega);have g0:(n0=nx')=False:=by simp;omega
 have g1:(n0+1=nx')=False:=by simp;omega
 have g2:(n0=nx'+1)=False:=by simp;omega
 have g3:(n0+1=nx'+1)=False:=by simp;omega
 have hb0:h'.look n0=some (.box [aA s.kind,cF s.name,aA s.pos.num,aA s.pos.den,aA s.speed.num,aA s.speed.den,aR s.smooth]):=hD' _ _ d0 (by show Heap.look ((n0+2,_)::(n0+1,_)::(n0,_)::_) n0=_;rw[Heap.look,if_neg (by omega),Heap.look,if_neg (by omega),Heap.look,if_pos rfl]);have hb1:h'.look (n0+1)=some (.box [aA (ofQ k).num,aA (ofQ k).den]):=hD' _ _ d1 (by show Heap.look ((n0+2,_)::(n0+1,_)::(n0,_)::_) (n0+1)=_;rw[Heap.look,if_neg (by omega),Heap.look,if_pos rfl]);have cm:aL Tryz.prog 124 [bV (ofQ k),bV s.speed] (kW (k*toQ s.speed)):=by have:=Gm hfk hsp;rwa[<-hse]at this
 simp only[kW,h1x,cond_true]at cm;have ca:aL Tryz.prog 89 [bV s.pos,bV (ofQ (k*toQ s.speed))] (kW (toQ s.pos+k*toQ s.speed)):=by have:=Wz hps h1x;rwa[<-hpe]at this
 simp only[kW,h2x,cond_true]at ca;have cfr:aL Tryz.prog 49 [aA (IntKind.i64.wrap (48000*q.den)),aA q.num] (.tup [bV (ofQ (fU q)),aA 0]):=by
  obtain⟨n,d,en,ed,n1,n2,d1',d2,_⟩:=qT hau;have ew:IntKind.i64.wrap (48000*q.den)=48000*q.den:=by rw[ed];exact wrap64
  have:=cOfZ (48000*q.den) n n1 (by rw[ed];omega) (by omega);rw[ew,en];unfold fU;rw[en];exact this
 have hDs:bF (DN p N) H0 h':=λy x dy hq=>hD' y x dy (hD _ _ _ y x dy hq)
 have hM4:=MixH.top hM' (k:=nx') (.box [aA q.num,aA q.den]) (Nat.le_refl _);have hDt:bF (DN p N) H0 ((nx',.box [aA q.num,aA q.den])::h'):=λy x dy hq=>aN hM'.wf (hDs y x dy hq) (Nat.le_refl _)
 have ff:cH (fU q)=true:=by
  obtain⟨n,d,_,_,_,_,_,_,_,_,f,_⟩:=qT hau;exact f
 have cm3:=Gm h2x ff;simp only[kW,h3x,cond_true]at cm3;refine aQ 15 .done (h:=?_);simp only[go_sem,seval,g0,g1,hb0,hb1,Nat.add_assoc];refine⟨_,cm,?_⟩;simp only[go_sem,seval];refine⟨_,jX _,?_⟩;simp only[go_sem,seval];refine⟨_,ca,?_⟩;simp only[go_sem,seval];refine⟨_,jX _,?_⟩;simp only[go_sem,seval,Nat.add_assoc];refine⟨jL ?_,?_⟩
 .have o0:pK (nx'+1) n0=0:=cC (by omega);have o1:pK (nx'+1) (n0+1)=0:=cC (by omega);have o2:pK (nx'+1) nx'=0:=cC (by omega);simp only[gB,jG,o0,o1,rR,Nat.reduceLeDiff,Nat.reduceSub,Nat.reduceAdd];show vJ _ _ _=true
  kernel_rfl
 refine aH (aB _ ?_);simp only[go_sem,seval,Nat.left_eq_add];refine⟨_,cfr,?_⟩;simp only[go_sem,seval];refine⟨_,jX _,?_⟩;simp only[go_sem,seval,Nat.add_assoc];refine aH (aB _ ?_);simp only[go_sem,seval,Nat.add_left_cancel_iff];refine⟨_,cm3,?_⟩;simp only[go_sem,seval];refine⟨_,jX _,?_⟩;simp only[go_sem,seval,Nat.add_assoc];refine aH (aB _ ?_);simp only[go_sem,seval];obtain⟨fy,vy⟩:=eC h3x;have cf:=aTe _ fy vy;rw[Xt]at cf;refine⟨_,cf,?_⟩;simp only[go_sem,seval];refine aH ?_;have hz':=hz;generalize((toQ s.pos+k*toQ s.speed)*fU q).floor=z at*;have hM6:=MixH.top hM4 (k:=nx'+14) (.box [aA (ofQ (toQ s.pos+k*toQ s.speed)).num,aA (ofQ (toQ s.pos+k*toQ s.speed)).den]) (by omega);have hM7:=MixH.top hM6 (k:=nx'+16) (.box [aA (ofQ (fU q)).num,aA (ofQ (fU q)).den]) (by omega);have hM8:=MixH.top hM7 (k:=nx'+17) (.box [aA (ofQ ((toQ s.pos+k*toQ s.speed)*fU q)).num,aA (ofQ ((toQ s.pos+k*toQ s.speed)*fU q)).den]) (by omega);have hD8:bF (DN p N) H0 ((nx'+17,.box [aA (ofQ ((toQ s.pos+k*toQ s.speed)*fU q)).num,aA (ofQ ((toQ s.pos+k*toQ s.speed)*fU q)).den])::(nx'+16,.box [aA (ofQ (fU q)).num,aA (ofQ (fU q)).den])::(nx'+14,.box [aA (ofQ (toQ s.pos+k*toQ s.speed)).num,aA (ofQ (toQ s.pos+k*toQ s.speed)).den])::(nx',.box [aA q.num,aA q.den])::h'):=λy x dy hq=>aN hM7.wf (aN hM6.wf (aN hM4.wf (hDt y x dy hq) (show nx'+1<=nx'+14 by omega)) (show nx'+14+1<=nx'+16 by omega)) (show nx'+16+1<=nx'+17 by omega)
 refine aH (aB _ ?_)
 by_cases hlo:z < -1099511627776
 .simp only[go_sem,dtf,seval,hlo];refine eS (b:=true) rfl ?_;rw[if_pos rfl];refine aU 1 ?_;simp only[go_sem,seval];refine tE 60 61 rfl rfl rfl rfl rfl (u:=_) rfl (by intro m;exact λh=>by cases h) (by show 61<82;omega) rfl ?_;intro fr;exact⟨rfl,hKP _ (nx'+18) (by omega) hD8 hM8⟩
 .have hhi:1099511627776<=z:=by omega
  simp only[go_sem,seval,dtf,hlo,hhi];refine eS (b:=true) rfl ?_;rw[if_pos rfl];refine aU 1 ?_;simp only[go_sem,seval];refine tE 60 61 rfl rfl rfl rfl rfl (u:=_) rfl (by intro m;exact λh=>by cases h) (by show 61<82;omega) rfl ?_;intro fr;exact⟨rfl,hKP _ (nx'+18) (by omega) hD8 hM8⟩
theorem aQu{p:ProjR}(hp:PrjV p){A:List AudioR}(hA:AudP A){i:Nat}{s:SourceR}(hs:SrcV p i s){j j':Int}{a b:List Int}(ha:rS p A (eQ p A i) s j=.ok a)(hb:rS p A (eQ p A i) s j'=.ok b):a.length=b.length/\a.length<=4:=by
 unfold rS at ha hb;split at ha
 .rename_i hk;rw[if_pos hk]at hb;have hx:0<=gU p s.name:=by
   rcases hs.kind with h|h|h
   .omega
   .omega
   .exact h.2.1
  obtain⟨k,hkl,hki,hkn⟩:=mT hx;rw[hki,Int.toNat_natCast]at ha hb;unfold eQ at ha hb;split at ha
  .rename_i hd;rw[if_pos hd]at hb;have h1:=(Ek hp hkl ha).1;have h2:=(Ek hp hkl hb).1;have:=aSd hp k;omega
  .cases ha
 .rename_i hk;rw[if_neg hk]at hb;cases hw:rN A s.name with
  |none=>rw[hw]at ha;cases ha
  |some w=>
   rw[hw]at ha hb;injection ha with ha;injection hb with hb;subst ha;subst hb;have hm:w∈A:=List.mem_of_find?_eq_some hw;have:=(hA.four hm).1;rw[List.length_map,List.length_map];exact⟨rfl,by omega⟩
theorem aK9{a b:Int}(h0 : -9223372036854775808<=a-b)(h1:a-b<=9223372036854775807):IntKind.i64.wrap (a-IntKind.i64.wrap b)=a-b:=by
 have e1:(2:Int) ^ IntKind.i64.bits=18446744073709551616:=by decide
 have e2:(2:Int) ^ (IntKind.i64.bits-1)=9223372036854775808:=by decide
 unfold IntKind.wrap;simp only[IntKind.signed,e1,e2,Bool.true_and,decide_eq_true_eq]
 repeat' split
 all_goals omega
set_option maxHeartbeats 4000000 in
theorem pSrcE{p:ProjR}(hp:PrjV p){A:List AudioR}(hA:AudP A){N:LayN}{σ:St}{KP:List PanicEntry->St->Prop}{d:Option Tmp}{K:St->Prop}(hM:MixH p A N σ.nx σ.h){i:Nat}(hS:Lj p A N i){s:SourceR}(hs:SrcV p i s)(hk:s.kind≠0)(hau:bG (cS p s)=true)(hf:(cS p s).fit)(k:Rat)(hfk:cH k=true)(hsp:cH (toQ s.speed)=true)(hse:s.speed=ofQ (toQ s.speed))(h1x:cH (k*toQ s.speed)=true)(hps:cH (toQ s.pos)=true)(hpe:s.pos=ofQ (toQ s.pos))(h2x:cH (toQ s.pos+k*toQ s.speed)=true)(y:Rat)(hy:y=(toQ s.pos+k*toQ s.speed)*fU (cS p s))(h3x:cH y=true)(hz : -1099511627776<=y.floor/\y.floor<1099511627776)
  (hO:OutK p A N σ KP d K (mapE vP (aKm p A (eQ p A i) s y))) :
  PCall Tryz.prog (DN p N) KP σ d 91 [.own N.m,eH s,bV (ofQ k)] K:=by
 have hkb:(s.kind==0)=false:=by rw[beq_eq_false_iff_ne];exact hk
 have cau:=qX (cS p s) hf;rw[hau]at cau;refine fK Tryz.X91 Tryz.func91 rfl Tryz.ntmps91 (by rw[Tryz.results91]) ?_;obtain⟨fr0,H0,n0,df0⟩:= σ;simp only at hO hM⊢;have h1:=λb=>MixH.top hM (k:=n0) b (Nat.le_refl _)
 have h2:=λb c=>MixH.top (h1 b) (k:=n0+1) c (Nat.le_refl _)
 have h3:=λb c e=>MixH.top (h2 b c) (k:=n0+2) e (Nat.le_refl _)
 have hD:∀b c e,bF (DN p N) H0 ((n0+2,e)::(n0+1,c)::(n0,b)::H0):=λb c e q x _ hq=>aN (h2 b c).wf (aN (h1 b).wf (aN hM.wf hq (Nat.le_refl _)) (Nat.le_refl _)) (Nat.le_refl _)
 refine aH (aB _ ?_);simp only[go_sem,seval,Nat.add_assoc];refine aH (aB _ ?_);simp only[go_sem,seval,hkb,Nat.left_eq_add];refine aH (aU 2 ?_);simp only[go_sem,seval,Nat.left_eq_add];refine nV rfl rfl ?_;simp only[go_sem,seval];refine dM (Vc hp (h3 _ _ _) hs hk λh' nx' hle hD' hM'=>dC ?_);generalize hqe:cS p s=q at*;simp only[go_sem,seval];refine aH ?_;refine aH (aB _ ?_);simp only[go_sem,seval];refine⟨_,cau,?_⟩;simp only[go_sem,seval];refine eS (b:=false) rfl ?_;rw[if_neg (by decide)];refine aB _ ?_;simp only[go_sem,seval];refine aH (aB _ ?_);simp only[go_sem,seval];have hle':n0+2+1<=nx':=hle;have dn:∀q,n0<=q->DN p N q:=λq hq i hi=>by have:=(hM.lb i hi).2.2;omega
 have d0:DN p N n0:=dn n0 (Nat.le_refl _);have d1:DN p N (n0+1):=dn _ (by omega);have g0:(n0=nx')=False:=by simp;omega
 have g1:(n0+1=nx')=False:=by simp;omega
 have g2:(n0=nx'+1)=False:=by simp;omega
 have g3:(n0+1=nx'+1)=False:=by simp;omega
 have hb0:h'.look n0=some (.box [aA s.kind,cF s.name,aA s.pos.num,aA s.pos.den,aA s.speed.num,aA s.speed.den,aR s.smooth]):=hD' _ _ d0 (by show Heap.look ((n0+2,_)::(n0+1,_)::(n0,_)::_) n0=_;rw[Heap.look,if_neg (by omega),Heap.look,if_neg (by omega),Heap.look,if_pos rfl]);have hb1:h'.look (n0+1)=some (.box [aA (ofQ k).num,aA (ofQ k).den]):=hD' _ _ d1 (by show Heap.look ((n0+2,_)::(n0+1,_)::(n0,_)::_) (n0+1)=_;rw[Heap.look,if_neg (by omega),Heap.look,if_pos rfl]);have cm:aL Tryz.prog 124 [bV (ofQ k),bV s.speed] (kW (k*toQ s.speed)):=by have:=Gm hfk hsp;rwa[<-hse]at this
 simp only[kW,h1x,cond_true]at cm;have ca:aL Tryz.prog 89 [bV s.pos,bV (ofQ (k*toQ s.speed))] (kW (toQ s.pos+k*toQ s.speed)):=by have:=Wz hps h1x;rwa[<-hpe]at this
 simp only[kW,h2x,cond_true]at ca;have cfr:aL Tryz.prog 49 [aA (IntKind.i64.wrap (48000*q.den)),aA q.num] (.tup [bV (ofQ (fU q)),aA 0]):=by
  obtain⟨n,d,en,ed,n1,n2,d1',d2,_⟩:=qT hau;have ew:IntKind.i64.wrap (48000*q.den)=48000*q.den:=by rw[ed];exact wrap64
  have:=cOfZ (48000*q.den) n n1 (by rw[ed];omega) (by omega);rw[ew,en];unfold fU;rw[en];exact this
 have hDs:bF (DN p N) H0 h':=λy x dy hq=>hD' y x dy (hD _ _ _ y x dy hq)
 have hM4:=MixH.top hM' (k:=nx') (.box [aA q.num,aA q.den]) (Nat.le_refl _);have hDt:bF (DN p N) H0 ((nx',.box [aA q.num,aA q.den])::h'):=λy x dy hq=>aN hM'.wf (hDs y x dy hq) (Nat.le_refl _)
 have ff:cH (fU q)=true:=by
  obtain⟨n,d,_,_,_,_,_,_,_,_,f,_⟩:=qT hau;exact f
 have cm3:=Gm h2x ff;rw[<-hy]at cm3;simp only[kW,h3x,cond_true]at cm3;refine aQ 15 .done (h:=?_);simp only[go_sem,seval,g0,g1,hb0,hb1,Nat.add_assoc];refine⟨_,cm,?_⟩;simp only[go_sem,seval];refine⟨_,jX _,?_⟩;simp only[go_sem,seval];refine⟨_,ca,?_⟩;simp only[go_sem,seval];refine⟨_,jX _,?_⟩;simp only[go_sem,seval,Nat.add_assoc];refine⟨jL ?_,?_⟩
 .have o0:pK (nx'+1) n0=0:=cC (by omega);have o1:pK (nx'+1) (n0+1)=0:=cC (by omega);have o2:pK (nx'+1) nx'=0:=cC (by omega);simp only[gB,jG,o0,o1,rR,Nat.reduceLeDiff,Nat.reduceSub,Nat.reduceAdd];show vJ _ _ _=true
  kernel_rfl
 refine aH (aB _ ?_);simp only[go_sem,seval,Nat.left_eq_add];refine⟨_,cfr,?_⟩;simp only[go_sem,seval];refine⟨_,jX _,?_⟩;simp only[go_sem,seval,Nat.add_assoc];refine aH (aB _ ?_);simp only[go_sem,seval,Nat.add_left_cancel_iff];refine⟨_,cm3,?_⟩;simp only[go_sem,seval];refine⟨_,jX _,?_⟩;simp only[go_sem,seval,Nat.add_assoc];refine aH (aB _ ?_);simp only[go_sem,seval];obtain⟨fy,vy⟩:=eC h3x;have cf:=aTe _ fy vy;rw[Xt]at cf;refine⟨_,cf,?_⟩;simp only[go_sem,seval];refine aH ?_;have hM6:=MixH.top hM4 (k:=nx'+14) (.box [aA (ofQ (toQ s.pos+k*toQ s.speed)).num,aA (ofQ (toQ s.pos+k*toQ s.speed)).den]) (by omega);have hM7:=MixH.top hM6 (k:=nx'+16) (.box [aA (ofQ (fU q)).num,aA (ofQ (fU q)).den]) (by omega);have hM8:=MixH.top hM7 (k:=nx'+17) (.box [aA (ofQ y).num,aA (ofQ y).den]) (by omega);have hD8:bF (DN p N) H0 ((nx'+17,.box [aA (ofQ y).num,aA (ofQ y).den])::(nx'+16,.box [aA (ofQ (fU q)).num,aA (ofQ (fU q)).den])::(nx'+14,.box [aA (ofQ (toQ s.pos+k*toQ s.speed)).num,aA (ofQ (toQ s.pos+k*toQ s.speed)).den])::(nx',.box [aA q.num,aA q.den])::h'):=λy x dy hq=>aN hM7.wf (aN hM6.wf (aN hM4.wf (hDt y x dy hq) (show nx'+1<=nx'+14 by omega)) (show nx'+14+1<=nx'+16 by omega)) (show nx'+16+1<=nx'+17 by omega)
 obtain⟨z,ez⟩:∃z,z=y.floor:=⟨_,rfl⟩
 rw[<-ez]at hz⊢;refine aH (aB _ ?_);have hlo : ¬z < -1099511627776:=by omega
 have hhi : ¬1099511627776<=z:=by omega
 simp only[go_sem,dtf,seval,hlo,hhi];refine eS (b:=false) rfl ?_;rw[if_neg (by decide)];refine aB _ ?_;simp only[go_sem,seval];refine aH (aB _ ?_);simp only[go_sem,seval];have gn:∀j,(n0=nx'+j)=False:=λj=>by simp;omega
 have dm1:DN p N N.m:=hM.dm.1;have dk:∀j,DN p N (nx'+j):=λj=>dn _ (by omega)
 have d2:DN p N (n0+2):=dn _ (by omega);obtain⟨fy1,fy2⟩:=dJ.1 h3x;obtain⟨sr1,sr2⟩:=uK y;rw[<-ez]at sr1 sr2;have wd:IntKind.i64.wrap ((ofQ y).num-IntKind.i64.wrap (z*(ofQ y).den))=y.num-z*(y.den:Int):=aK9 (by show _<=y.num-z*(y.den:Int);omega) (by show y.num-z*(y.den:Int)<=_;omega);have wz:IntKind.i64.wrap (z+1)=z+1:=wrap64;have hB:=Vj hp A i;have hb2:h'.look (n0+2)=some (.box [aA 0,aA 0,aA 0,aA 0,aA 0]):=hD' _ _ d2 (by show Heap.look ((n0+2,_)::_) (n0+2)=_;rw[Heap.look,if_pos rfl]);refine aD7 (DN p N) [4,9,19] (.look 0 (.look 1 (.look 2 (.look 3 (.look 5 (.look 6 (.look 7 (.look 8 (.look 10 (.look 11 (.look 12 (.look 13 (.look 14 (.look 15 (.look 16 (.look 17 (.look 18 (.step 4 (.step 9 (.step 19 (.step 20 .done))))))))))))))))))))) rfl (by kernel_rfl) ?_;simp only[go_sem,seval,g0,gn,hb0,dm1,d0,dk,wd,wz];have hle8:n0<=nx'+18:=by omega
 unfold aKm at hO;rw[<-ez]at hO;refine pNum hp hA hM8 hS hs (by rw[hqe];exact hau) z (by omega) (by omega) ⟨λx hx h2 nx2 hl2 hD2 hM2=>?_,λn hn h2 nx2 hl2 hD2 hM2=>?_⟩
 rotate_left
 .cases hn1:rS p A (eQ p A i) s z with
  |ok a=>rw[hn1]at hn;cases hn
  |error e=>
   rw[hn1]at hn hO;injection hn with hn;subst hn;intro fr;exact⟨rfl,hO.bad _ rfl h2 nx2 (Nat.le_trans hle8 hl2) (bK hD8 hD2) hM2⟩
 cases hn1:rS p A (eQ p A i) s z with
 |error e=>rw[hn1]at hx;cases hx
 |ok a=>
 rw[hn1]at hx hO;injection hx with hx;subst hx;have hl2:nx'+18<=nx2:=hl2;simp only[go_sem,seval];refine pNum hp hA hM2 hS hs (by rw[hqe];exact hau) (z+1) (by omega) (by omega) ⟨λx hx h3 nx3 hl3 hD3 hM3=>?_,λn hn h3 nx3 hl3 hD3 hM3=>?_⟩
 rotate_left
 .cases hn2:rS p A (eQ p A i) s (z+1)with
  |ok b=>rw[hn2]at hn;cases hn
  |error e=>
   rw[hn2]at hn hO;injection hn with hn;subst hn;intro fr;exact⟨rfl,hO.bad _ rfl h3 nx3 (Nat.le_trans (Nat.le_trans hle8 hl2) hl3) (bK hD8 (bK hD2 hD3)) hM3⟩
 cases hn2:rS p A (eQ p A i) s (z+1)with
 |error e=>rw[hn2]at hx;cases hx
 |ok b=>
 rw[hn2]at hx hO;injection hx with hx;subst hx;have hl3:nx2<=nx3:=hl3;have b1:=zJ hA.toAudF hB hn1;have b2:=zJ hA.toAudF hB hn2;obtain⟨el,e4⟩:=aQu hp hA hs hn1 hn2;have cb:=cBetG el e4 (λu hu=>by have:=b1 u hu;omega) (λu hu=>by have:=b2 u hu;omega) (n:=y.num-z*(y.den:Int)) (d:=y.den) (by omega) (by omega) (by omega);have hDe:bF (DN p N) H0 h3:=bK hD8 (bK hD2 hD3);have hb3:h3.look (n0+2)=some (.box [aA 0,aA 0,aA 0,aA 0,aA 0]):=hD3 _ _ d2 (hD2 _ _ d2 (aN hM7.wf (aN hM6.wf (aN hM4.wf (aN hM'.wf hb2 (Nat.le_refl _)) (show nx'+1<=nx'+14 by omega)) (show nx'+14+1<=nx'+16 by omega)) (show nx'+16+1<=nx'+17 by omega)));simp only[go_sem,seval];refine aLc cb rfl ?_;have eL:List.zipWith (λu v=>mH u v (y.num-z*(y.den:Int)) y.den) a b=Jr y a b:=by rw[ez];rfl
 rw[eL];have hOk:=hO.ok _ rfl;clear hO cb eL;generalize Jr y a b=L at*;obtain⟨B,hBB⟩:∃B,B=Blk.box [V.t (.lit (.int .i64 (L.length:Int))),aA (L.getD 0 0),aA (L.getD 1 0),aA (L.getD 2 0),aA (L.getD 3 0)]:=⟨_,rfl⟩
 have hs0:(h3.set (n0+2) B).look (n0+2)=some B:=by rw[Heap.look_set _ _ _ hb3,if_pos rfl]
 have hDf:bF (DN p N) H0 (h3.set (n0+2) B):=λq b dq hq=>by
  rw[Heap.look_set _ _ _ hb3,if_neg]
  .exact hDe q b dq hq
  .intro e;rw[e,hM.wf _ (by show n0<=n0+2;omega)]at hq;cases hq
 have hMf:MixH p A N nx3 (h3.set (n0+2) B):=hM.later (by show n0<=nx3;omega) hDf (λj hj=>by
  obtain⟨es,q1,q2⟩:=hM3.kept j hj;refine⟨es,?_,q2⟩;rw[Heap.look_set _ _ _ hb3,if_neg]
  .exact q1
  .intro e;exact d2 j hj e.symm) λq hq=>by
  rw[Heap.look_set _ _ _ hb3,if_neg (by omega)];exact hM3.wf q hq
 unfold vP;simp only[go_sem,seval,hb3];rw[<-hBB];rw[hBB]at hs0;refine aB _ ?_;simp only[go_sem,seval];unfold vW;rw[hBB];simp only[go_sem,seval,hs0];rw[hBB]at hDf hMf;exact⟨hDf,hOk _ nx3 (by show n0<=nx3;omega) hDf hMf⟩
theorem aQ5{p:ProjR}(hp:PrjV p){i:Nat}{s:SourceR}(hs:SrcV p i s)(hk:s.kind≠0):(cS p s).fit:=by
 unfold cS;rcases hs.kind with h|h|h
 .exact absurd h hk
 .rw[if_pos h.1];obtain⟨k,h1,h2,h3⟩:=Ad h.2;have hm:Fk p s.name=(k:Int):=h2;rw[hm,Int.toNat_natCast];exact(hp.med _ (aW h1)).2
 .rw[if_neg (by omega)];obtain⟨k,h1,h2,h3⟩:=mT h.2.1;rw[h2,Int.toNat_natCast];exact(hp.seq k h1).fit.rate
theorem pSrc{p:ProjR}(hp:PrjV p){A:List AudioR}(hA:AudP A){N:LayN}{σ:St}{KP:List PanicEntry->St->Prop}{d:Option Tmp}{K:St->Prop}(hM:MixH p A N σ.nx σ.h){i:Nat}(hS:Lj p A N i){s:SourceR}(hs:SrcV p i s)(k:Rat)(hfk:cH k=true)
  (hO:OutK p A N σ KP d K (mapE vP (vT p A (eQ p A i) s k))) :
  PCall Tryz.prog (DN p N) KP σ d 91 [.own N.m,eH s,bV (ofQ k)] K:=by
 obtain⟨R,hR⟩:∃R,R=vT p A (eQ p A i) s k:=⟨_,rfl⟩
 rw[<-hR]at hO;unfold vT at hR
 by_cases hk:s.kind=0
 .rw[if_pos hk]at hR;rw[hR]at hO;exact pSrc0 hM hk _ (hO.ok _ rfl)
 rw[if_neg hk]at hR;have hf:=aQ5 hp hs hk;obtain⟨hvp,hvs⟩:dA s.pos=true/\dA s.speed=true:=by
  have:=hs.ok;unfold aT at this;have hz:s.isZ=false:=by
   cases hz:s.isZ with
   |false=>rfl
   |true=>exact absurd (zX hz) hk
  rw[hz,Bool.false_or]at this;simp only[Bool.and_eq_true]at this;exact⟨this.1.1.1.1.2,this.1.1.1.2⟩
 have hps:=Fz hs.fit.pos hvp;have hsp:=Fz hs.fit.speed hvs;have hpe:=(Fb hvp).symm;have hse:=(Fb hvs).symm;cases hau:bG (cS p s)with
 |false=>
  rw[if_pos hau]at hR;rw[hR]at hO;exact pSrcN hp hM hs hk hau hf _ (hO.bad _ rfl)
 |true=>
 rw[if_neg (by rw[hau];decide)]at hR;cases h1x:cH (k*toQ s.speed)with
 |false=>
  rw[if_pos h1x]at hR;rw[hR]at hO;exact pSrcA hp hM hs hk hau hf k hfk hsp hse h1x (hO.bad _ rfl)
 |true=>
 rw[if_neg (by rw[h1x];decide)]at hR;cases h2x:cH (toQ s.pos+k*toQ s.speed)with
 |false=>
  rw[if_pos h2x]at hR;rw[hR]at hO;exact pSrcB hp hM hs hk hau hf k hfk hsp hse h1x hps hpe h2x (hO.bad _ rfl)
 |true=>
 rw[if_neg (by rw[h2x];decide)]at hR;cases h3x:cH ((toQ s.pos+k*toQ s.speed)*fU (cS p s))with
 |false=>
  rw[if_pos h3x]at hR;rw[hR]at hO;exact pSrcC hp hM hs hk hau hf k hfk hsp hse h1x hps hpe h2x h3x (hO.bad _ rfl)
 |true=>
 rw[if_neg (by rw[h3x];decide)]at hR
 by_cases hz:((toQ s.pos+k*toQ s.speed)*fU (cS p s)).floor < -1099511627776\/1099511627776<=((toQ s.pos+k*toQ s.speed)*fU (cS p s)).floor
 .rw[if_pos hz]at hR;rw[hR]at hO;exact pSrcD hp hM hs hk hau hf k hfk hsp hse h1x hps hpe h2x h3x hz (hO.bad _ rfl)
 .rw[if_neg hz]at hR;rw[hR]at hO;exact pSrcE hp hA hM hS hs hk hau hf k hfk hsp hse h1x hps hpe h2x _ rfl h3x (by omega) hO
theorem wM{D D':Nat->Prop}{a b:Heap}(hs:∀q,D' q->D q)(h:bF D a b):bF D' a b:=λq x hq hx=>h q x (hs q hq) hx
theorem Wy(l:List Int)(h4:l.length<=4)(x:Int):aL Tryz.prog 92 [vP l,aA x] (aA (aZ l x)):=by
 by_cases h:0<=x/\x<(l.length:Int)
 .obtain⟨i,rfl⟩:=eF h.1;have hi:i<l.length:=by omega
  have c:=aMv (l.length:Int) (l.getD 0 0) (l.getD 1 0) (l.getD 2 0) (l.getD 3 0) i (by omega) (by omega);have e:aZ l (i:Int)=[l.getD 0 0,l.getD 1 0,l.getD 2 0,l.getD 3 0].getD i 0:=by
   unfold aZ;rw[if_pos (by omega),Int.toNat_natCast];have:i=0\/i=1\/i=2\/i=3:=by omega
   rcases this with rfl|rfl|rfl|rfl<;>rfl
  rw[e];exact c
 .have e:aZ l x=0:=by
   by_cases h0:x<0
   .exact gS (.inl h0)
   .exact gS (.inr (by omega))
  rw[e];exact aMw _ _ _ _ _ x (by omega)
structure OffN (p:ProjR) (N:LayN) (q:Nat):Prop where
 m:q≠N.m/\q≠N.m0/\q≠N.m1/\q≠N.m2
 b:∀i,i<p.seqs.length->q≠N.b i/\q≠N.t i/\q≠N.c i
theorem OffN.dn{p:ProjR}{N:LayN}{q:Nat}(h:OffN p N q):DN p N q:=λi hi=>(h.b i hi).2.2
theorem MixH.off{p:ProjR}{A:List AudioR}{N:LayN}{n0:Nat}{H:Heap}(h:MixH p A N n0 H){q:Nat}(hq:n0<=q):OffN p N q:=by
 obtain⟨l1,l2,l3,l4⟩:=h.lm;refine⟨⟨by omega,by omega,by omega,by omega⟩,λi hi=>?_⟩;obtain⟨b1,b2,b3⟩:=h.lb i hi;exact⟨by omega,by omega,by omega⟩
theorem MixH.put{p:ProjR}{A:List AudioR}{N:LayN}{n0:Nat}{H:Heap}(h:MixH p A N n0 H){q:Nat}(ho:OffN p N q){b:Blk}(hb:H.look q=some b)(B:Blk):MixH p A N n0 (H.set q B):=by
 obtain⟨R,r1,r2⟩:=h.rt;obtain⟨U,u1,u2⟩:=h.au;obtain⟨S,v1,v2⟩:=h.sq;have L:∀r x,q≠r->H.look r=some x->(H.set q B).look r=some x:=λr x hr hx=>by
  rw[Heap.look_set _ _ _ hb,if_neg (λe=>hr e.symm)];exact hx
 refine⟨L _ _ ho.m.1 h.box,⟨R,L _ _ ho.m.2.1 r1,r2⟩,⟨U,L _ _ ho.m.2.2.1 u1,u2⟩,⟨S,L _ _ ho.m.2.2.2 v1,v2⟩,λi hi=>L _ _ (ho.b i hi).1 (h.seq i hi),λi hi=>L _ _ (ho.b i hi).2.1 (h.trk i hi),λi hi=>?_,h.dm,h.db,h.inj,h.lm,h.lb,λr hr=>?_⟩
 .obtain⟨es,q1,q2⟩:=h.kept i hi;exact⟨es,L _ _ (ho.b i hi).2.2 q1,q2⟩
 .have hn:=h.wf r hr;rw[Heap.look_set _ _ _ hb,if_neg]
  .exact hn
  .intro e;rw[e,hb]at hn;cases hn
structure OutA (p:ProjR) (A:List AudioR) (N:LayN) (q:Nat) (acc:List Int) (σ:St) (KP:List PanicEntry->St->Prop) (d:Option Tmp) (K:St->Prop) (e:Ev (List Int)):Prop where
 ok:∀g,e=.ok g ->∀h' nx',σ.nx<=nx'->bF (λr=>DN p N r/\r≠q) σ.h h'->h'.look q=some (.box [aA ((Dx acc g).getD 0 0),aA ((Dx acc g).getD 1 0),aA ((Dx acc g).getD 2 0),aA ((Dx acc g).getD 3 0)])->MixH p A N nx' h'->K (({ σ with h:=h',nx:=nx' }:St).put d (.tup []))
 bad:∀n,e=.error n ->∀h' nx',σ.nx<=nx'->bF (λr=>DN p N r/\r≠q) σ.h h'->MixH p A N nx' h'->KP [{ v:=jK n,recovered:=false }] { σ with fr:=[],h:=h',nx:=nx' }
def Tk(acc g:List Int)(k i:Nat):Int:=if i<k then IntKind.i64.wrap (acc.getD i 0+g.getD i 0)else acc.getD i 0
theorem aN5{acc g:List Int}(h:g.length=acc.length)(i:Nat):Tk acc g acc.length i=(Dx acc g).getD i 0:=by
 unfold Tk Dx;split
 .rename_i hi;simp only[List.getD_eq_getElem?_getD,List.getElem?_zipWith,List.getElem?_eq_getElem hi,List.getElem?_eq_getElem (show i<g.length by omega)]
  all_goals rfl
 .simp only[List.getD_eq_getElem?_getD,List.getElem?_zipWith,List.getElem?_eq_none (show acc.length<=i by omega)]
  all_goals rfl
theorem out_at{c:ClipR}{q:Rat}{a b:List Int}{j:Nat}(h:j<c.chan.length):(Lp c q a b).getD j 0=uV (aLp c q a b (c.chan.getD j 0)) c.gain:=by
 unfold Lp;simp only[List.getD_eq_getElem?_getD,List.getElem?_map,List.getElem?_eq_getElem h]
 all_goals rfl
set_option maxHeartbeats 4000000 in
theorem pAdd{p:ProjR}(hp:PrjV p){A:List AudioR}(hA:AudP A){N:LayN}{σ:St}{KP:List PanicEntry->St->Prop}{d:Option Tmp}{K:St->Prop}(hM:MixH p A N σ.nx σ.h){i:Nat}(hS:Lj p A N i){c:ClipR}(hc:ClpV p i c)(k:Rat)(hfk:cH k=true)(hsh:∀q,En c k=.ok q->0<=q.num/\q.num<=(q.den:Int)){qs:Nat}(ho:OffN p N qs)(hqn:qs<σ.nx){acc:List Int}(hl:acc.length=c.chan.length)
  (hb:σ.h.look qs=some (.box [aA (acc.getD 0 0),aA (acc.getD 1 0),aA (acc.getD 2 0),aA (acc.getD 3 0)])) (hO:OutA p A N qs acc σ KP d K (sK p A (eQ p A i) c k)) :
  PCall Tryz.prog (λr=>DN p N r/\r≠qs) KP σ d 52 [.own N.m,.own qs,kJ c,bV (ofQ k)] K:=by
 obtain⟨R,hR⟩:∃R,R=sK p A (eQ p A i) c k:=⟨_,rfl⟩
 rw[<-hR]at hO;unfold sK at hR;have h4:=Rx hc.ok;refine fK Tryz.X52 Tryz.func52 rfl Tryz.ntmps52 (by rw[Tryz.results52]) ?_;obtain⟨fr0,H0,n0,df0⟩:= σ;simp only at hO hM hqn hb⊢;have dn:∀q,n0<=q->DN p N q:=λq hq=>(hM.off hq).dn
 have d0:DN p N n0:=dn n0 (Nat.le_refl _);have dk:∀j,DN p N (n0+j):=λj=>dn _ (by omega)
 have hM1:=λb=>MixH.top hM (k:=n0) b (Nat.le_refl _)
 have hM2:=λb b'=>MixH.top (hM1 b) (k:=n0+1) b' (Nat.le_refl _)
 have hM3:=λb b' b''=>MixH.top (hM2 b b') (k:=n0+2) b'' (Nat.le_refl _)
 have hD:∀b c e,bF (DN p N) H0 ((n0+2,e)::(n0+1,c)::(n0,b)::H0):=λb c e q x _ hq=>aN (hM2 b c).wf (aN (hM1 b).wf (aN hM.wf hq (Nat.le_refl _)) (Nat.le_refl _)) (Nat.le_refl _)
 refine aH (aB _ ?_);simp only[go_sem,seval,Nat.add_assoc];refine aH (aB _ ?_);simp only[go_sem,seval,Nat.add_assoc];have hM3':=hM3 (.box [aA c.len,aA c.kind,aA c.a.kind,cF c.a.name,aA c.a.pos.num,aA c.a.pos.den,aA c.a.speed.num,aA c.a.speed.den,aR c.a.smooth,aA c.b.kind,cF c.b.name,aA c.b.pos.num,aA c.b.pos.den,aA c.b.speed.num,aA c.b.speed.den,aR c.b.smooth,aA c.off,aA c.total,aA c.param,cF c.text,aA c.gain,.t (.list 1 (eB 0) (c.chan.map eB))]) (.box [aA (ofQ k).num,aA (ofQ k).den]) (.box [aA 0,aA 0]);refine sB (λ(x:Heap×Nat×Int×Int)=>{ fr:=[V.own N.m,.own qs,kJ c,bV (ofQ k),.dead,.dead,.own n0,.own (n0+1),.own (n0+2)]++List.replicate 81 .dead,h:=x.1,nx:=x.2.1 })
  (λx=>(∃q,En c k=.ok q/\(c.kind=2->x.2.2.1=q.num/\x.2.2.2=(q.den:Int)/\q.den<=9223372036854775807))/\n0+3<=x.2.1/\(x.1.look n0=some (.box [aA c.len,aA c.kind,aA c.a.kind,cF c.a.name,aA c.a.pos.num,aA c.a.pos.den,aA c.a.speed.num,aA c.a.speed.den,aR c.a.smooth,aA c.b.kind,cF c.b.name,aA c.b.pos.num,aA c.b.pos.den,aA c.b.speed.num,aA c.b.speed.den,aR c.b.smooth,aA c.off,aA c.total,aA c.param,cF c.text,aA c.gain,.t (.list 1 (eB 0) (c.chan.map eB))])/\x.1.look (n0+1)=some (.box [aA (ofQ k).num,aA (ofQ k).den])/\x.1.look (n0+2)=some (.box [aA x.2.2.1,aA x.2.2.2]))/\bF (DN p N) H0 x.1/\MixH p A N x.2.1 x.1) ?_ ?_
 .refine aH (aB _ ?_)
  by_cases hk2:c.kind=2
  .have kb:(c.kind==2)=true:=by rw[beq_iff_eq];exact hk2
   have hkk:cP c=true:=by
    have:=hc.ok;unfold cG at this;rw[Bool.and_eq_true]at this;exact this.2
   unfold cP at hkk;rw[if_neg (by omega),if_neg (by omega),if_pos hk2]at hkk;unfold fS at hkk;simp only[Bool.and_eq_true,decide_eq_true_eq]at hkk;obtain⟨⟨⟨⟨⟨s1,s2⟩,s3⟩,s4⟩,_⟩,_⟩:=hkk;have hlen:=(fD hc.ok).1;obtain⟨m,hm⟩:=eF (n:=c.total+1) (by omega);have e2:(c.total+1).toNat=m:=by omega
   obtain⟨S,hSe⟩:∃S,S=En c k:=⟨_,rfl⟩
   rw[<-hSe];rw[<-hSe]at hR hsh;unfold En at hSe;rw[if_pos hk2,e2]at hSe;have c1:=Wz hfk (Bv (n:=c.off+1) (by omega));rw[Bm]at c1;have w1:IntKind.i64.wrap (c.off+1)=c.off+1:=wrap64;have w2:IntKind.i64.wrap (c.total+1)=(m:Int):=by rw[wrap64 (by omega) (by omega)];exact hm
   generalize k+((c.off+1:Int):Rat)=z1 at*;simp only[go_sem,seval,kb,Nat.left_eq_add];refine eS (b:=true) rfl ?_;rw[if_pos rfl];cases hf1:cH z1 with
   |false=>
    rw[qD hf1]at c1;rw[if_pos hf1]at hSe;rw[hSe]at hR;dsimp only at hR;rw[hR]at hO;refine aH (aU 8 ?_);simp only[go_sem,seval,w1,Nat.add_left_cancel_iff,Nat.left_eq_add];refine⟨_,c1,?_⟩;simp only[go_sem,seval];refine nV rfl rfl ?_;simp only[go_sem,seval];refine dM (jH hM3' ⟨0,0⟩ 2 (by decide) λh2 nx2 hl2 hD2 hM2 fr=>⟨rfl,hO.bad _ rfl _ nx2 (by have:n0+3<=nx2:=hl2;show n0<=nx2;omega) (wM (λr hr=>hr.1) (bK (hD _ _ _) hD2)) hM2⟩)
   |true=>
   rw[mJ hf1]at c1;rw[if_neg (by rw[hf1];decide)]at hSe;have c2:=cDivG hf1 m (by omega) (by omega);generalize z1*inv m=q at*;refine aH (aB _ ?_);simp only[go_sem,seval,w1,Nat.add_left_cancel_iff,Nat.left_eq_add];refine⟨_,c1,?_⟩;simp only[go_sem,seval];refine⟨_,jX _,?_⟩;simp only[go_sem,seval,Nat.add_assoc];have hM4:=MixH.top hM3' (k:=n0+3) (.box [aA (ofQ z1).num,aA (ofQ z1).den]) (Nat.le_refl _);have hD4:bF (DN p N) H0 ((n0+3,.box [aA (ofQ z1).num,aA (ofQ z1).den])::(n0+2,.box [aA 0,aA 0])::(n0+1,.box [aA (ofQ k).num,aA (ofQ k).den])::(n0,.box [aA c.len,aA c.kind,aA c.a.kind,cF c.a.name,aA c.a.pos.num,aA c.a.pos.den,aA c.a.speed.num,aA c.a.speed.den,aR c.a.smooth,aA c.b.kind,cF c.b.name,aA c.b.pos.num,aA c.b.pos.den,aA c.b.speed.num,aA c.b.speed.den,aR c.b.smooth,aA c.off,aA c.total,aA c.param,cF c.text,aA c.gain,.t (.list 1 (eB 0) (c.chan.map eB))])::H0):=λr x dr hq=>aN hM3'.wf (hD _ _ _ r x dr hq) (Nat.le_refl _)
   cases hf2:cH q with
   |false=>
    rw[qD hf2]at c2;rw[if_pos hf2]at hSe;rw[hSe]at hR;dsimp only at hR;rw[hR]at hO;refine aU 8 ?_;simp only[go_sem,seval,w2,Nat.left_eq_add];refine⟨_,c2,?_⟩;simp only[go_sem,seval];refine nV rfl rfl ?_;simp only[go_sem,seval];refine dM (jH hM4 ⟨0,0⟩ 2 (by decide) λh2 nx2 hl2 hD2 hM2 fr=>⟨rfl,hO.bad _ rfl _ nx2 (by have:n0+4<=nx2:=hl2;show n0<=nx2;omega) (wM (λr hr=>hr.1) (bK hD4 hD2)) hM2⟩)
   |true=>
   rw[mJ hf2]at c2;rw[if_neg (by rw[hf2];decide)]at hSe;refine aB _ ?_;simp only[go_sem,seval,w2,Nat.left_eq_add];refine⟨_,c2,?_⟩;simp only[go_sem,seval];refine⟨_,jX _,?_⟩;simp only[go_sem,seval,Nat.add_left_cancel_iff];have hM5:=MixH.top (hM3 (.box [aA c.len,aA c.kind,aA c.a.kind,cF c.a.name,aA c.a.pos.num,aA c.a.pos.den,aA c.a.speed.num,aA c.a.speed.den,aR c.a.smooth,aA c.b.kind,cF c.b.name,aA c.b.pos.num,aA c.b.pos.den,aA c.b.speed.num,aA c.b.speed.den,aR c.b.smooth,aA c.off,aA c.total,aA c.param,cF c.text,aA c.gain,.t (.list 1 (eB 0) (c.chan.map eB))]) (.box [aA (ofQ k).num,aA (ofQ k).den]) (.box [aA (ofQ q).num,aA (ofQ q).den])) (k:=n0+3) (.box [aA (ofQ z1).num,aA (ofQ z1).den]) (Nat.le_refl _);refine⟨(_,_,q.num,(q.den:Int)),dD ⟨rfl,Nat.le_refl _,rfl,?_⟩,⟨q,hSe,λ_=>⟨rfl,rfl,(dJ.1 hf2).2⟩⟩,Nat.le_succ _,⟨?_,?_,?_⟩,?_,hM5⟩
   .simp only[go_sem,seval]
   .show Heap.look ((n0+3,_)::(n0+2,_)::(n0+1,_)::(n0,_)::_) n0=_
    rw[Heap.look,if_neg (by omega),Heap.look,if_neg (by omega),Heap.look,if_neg (by omega),Heap.look,if_pos rfl]
   .show Heap.look ((n0+3,_)::(n0+2,_)::(n0+1,_)::_) (n0+1)=_
    rw[Heap.look,if_neg (by omega),Heap.look,if_neg (by omega),Heap.look,if_pos rfl]
   .show Heap.look ((n0+3,_)::(n0+2,_)::_) (n0+2)=_
    rw[Heap.look,if_neg (by omega),Heap.look,if_pos rfl];rfl
   .exact λr x dr hq=>aN (hM3 _ _ _).wf (hD _ _ _ r x dr hq) (Nat.le_refl _)
  .have hkb:(c.kind==2)=false:=by rw[beq_eq_false_iff_ne];exact hk2
   have he:En c k=.ok 0:=by unfold En;rw[if_neg hk2]
   simp only[go_sem,seval,hkb,Nat.left_eq_add];refine eS (b:=false) rfl ?_;rw[if_neg (by decide)];refine aB _ ?_;simp only[go_sem,seval];refine⟨(_,_,0,0),dD ⟨rfl,Nat.le_refl _,rfl,?_⟩,⟨0,he,λh=>absurd h hk2⟩,Nat.le_refl _,⟨?_,?_,?_⟩,hD _ _ _,hM3'⟩
   .simp only[go_sem,seval]
   .show Heap.look ((n0+2,_)::(n0+1,_)::(n0,_)::_) n0=_
    rw[Heap.look,if_neg (by omega),Heap.look,if_neg (by omega),Heap.look,if_pos rfl]
   .show Heap.look ((n0+2,_)::(n0+1,_)::_) (n0+1)=_
    rw[Heap.look,if_neg (by omega),Heap.look,if_pos rfl]
   .show Heap.look ((n0+2,_)::_) (n0+2)=_
    rw[Heap.look,if_pos rfl]
 rintro⟨H,n,sn,sd⟩ ⟨⟨q,hq,hqv⟩,hn,⟨g0,g1,g2⟩,hDH,hMH⟩;simp only at hqv hn g0 g1 g2 hDH hMH;have e0:(n0=n)=False:=eq_false (by omega);have e1:∀j,(n0=n+j)=False:=λj=>eq_false (by omega)
 have f0:(n0+1=n)=False:=eq_false (by omega);have f1:∀j,(n0+1=n+j)=False:=λj=>eq_false (by omega)
 have f2:(n0+2=n)=False:=eq_false (by omega);have f3:∀j,(n0+2=n+j)=False:=λj=>eq_false (by omega)
 rw[hq]at hR;dsimp only at hR;refine aH (aU 4 ?_);simp only[go_sem,seval,g0,g1];refine nV rfl rfl ?_;simp only[go_sem,seval];refine dM (pSrc hp hA hMH hS hc.a k hfk ⟨λx hx h2 n2 hl2 hD2 hM2=>dC ?_,λm hm h2 n2 hl2 hD2 hM2=>?_⟩)
 rotate_left
 .cases hs:vT p A (eQ p A i) c.a k with
  |ok a=>rw[hs]at hm;cases hm
  |error e=>
   rw[hs]at hm hR;injection hm with hm;subst hm;dsimp only at hR;rw[hR]at hO;intro fr;exact⟨rfl,hO.bad _ rfl h2 n2 (by have:n<=n2:=hl2;show n0<=n2;omega) (wM (λr hr=>hr.1) (bK hDH hD2)) hM2⟩
 cases hs:vT p A (eQ p A i) c.a k with
 |error e=>rw[hs]at hx;cases hx
 |ok a=>
 rw[hs]at hx hR;injection hx with hx;subst hx;dsimp only at hR;obtain⟨ba,la4⟩:=yX hA (Vj hp A i) hs;have hl2:n<=n2:=hl2;have g0:=hD2 _ _ d0 g0;have g1:=hD2 _ _ (dk 1) g1;have g2:=hD2 _ _ (dk 2) g2;have hDH2:=bK hDH hD2;unfold vP;simp only[go_sem,seval];refine aH (aB _ ?_);simp only[go_sem,seval,Nat.add_assoc];have hMA:=MixH.top hM2 (k:=n2) (.box [aA a.length,aA (a.getD 0 0),aA (a.getD 1 0),aA (a.getD 2 0),aA (a.getD 3 0)]) (Nat.le_refl _);have hMB:=MixH.top hMA (k:=n2+1) (.box [aA 0,aA 0,aA 0,aA 0,aA 0]) (Nat.le_refl _);have up:∀r x,h2.look r=some x->Heap.look ((n2+1,.box [aA 0,aA 0,aA 0,aA 0,aA 0])::(n2,.box [aA a.length,aA (a.getD 0 0),aA (a.getD 1 0),aA (a.getD 2 0),aA (a.getD 3 0)])::h2) r=some x:=λr x hq=>aN hMA.wf (aN hM2.wf hq (Nat.le_refl _)) (Nat.le_refl _)
 have kA:Heap.look ((n2+1,.box [aA 0,aA 0,aA 0,aA 0,aA 0])::(n2,.box [aA a.length,aA (a.getD 0 0),aA (a.getD 1 0),aA (a.getD 2 0),aA (a.getD 3 0)])::h2) n2=some (.box [aA a.length,aA (a.getD 0 0),aA (a.getD 1 0),aA (a.getD 2 0),aA (a.getD 3 0)]):=by rw[Heap.look,if_neg (by omega),Heap.look,if_pos rfl]
 have kB:Heap.look ((n2+1,.box [aA 0,aA 0,aA 0,aA 0,aA 0])::(n2,.box [aA a.length,aA (a.getD 0 0),aA (a.getD 1 0),aA (a.getD 2 0),aA (a.getD 3 0)])::h2) (n2+1)=some (.box [aA 0,aA 0,aA 0,aA 0,aA 0]):=by rw[Heap.look,if_pos rfl]
 refine sB (λ(x:Heap×Nat×List Int)=>{ fr:=[V.own N.m,.own qs,kJ c,bV (ofQ k),.dead,.dead,.own n0,.own (n0+1),.own (n0+2),.dead,.own n2,.own (n2+1)]++List.replicate 78 .dead,h:=x.1,nx:=x.2.1 })
  (λx=>(R=.ok (Lp c q a x.2.2)/\Tp 262144 x.2.2/\x.2.2.length<=4)/\n2+2<=x.2.1/\(x.1.look n0=some (.box [aA c.len,aA c.kind,aA c.a.kind,cF c.a.name,aA c.a.pos.num,aA c.a.pos.den,aA c.a.speed.num,aA c.a.speed.den,aR c.a.smooth,aA c.b.kind,cF c.b.name,aA c.b.pos.num,aA c.b.pos.den,aA c.b.speed.num,aA c.b.speed.den,aR c.b.smooth,aA c.off,aA c.total,aA c.param,cF c.text,aA c.gain,.t (.list 1 (eB 0) (c.chan.map eB))])/\x.1.look (n0+2)=some (.box [aA sn,aA sd])/\x.1.look n2=some (.box [aA a.length,aA (a.getD 0 0),aA (a.getD 1 0),aA (a.getD 2 0),aA (a.getD 3 0)])/\x.1.look (n2+1)=some (.box [aA x.2.2.length,aA (x.2.2.getD 0 0),aA (x.2.2.getD 1 0),aA (x.2.2.getD 2 0),aA (x.2.2.getD 3 0)]))/\bF (DN p N) H0 x.1/\MixH p A N x.2.1 x.1) ?_ ?_
 .refine aH (aB _ ?_);have g0':=up _ _ g0;have g1':=up _ _ g1;have g2':=up _ _ g2;have hDB:bF (DN p N) H0 ((n2+1,.box [aA 0,aA 0,aA 0,aA 0,aA 0])::(n2,.box [aA a.length,aA (a.getD 0 0),aA (a.getD 1 0),aA (a.getD 2 0),aA (a.getD 3 0)])::h2):=λr x dr hq=>up _ _ (hDH2 r x dr hq)
  generalize((n2+1,Blk.box [aA 0,aA 0,aA 0,aA 0,aA 0])::(n2,Blk.box [aA a.length,aA (a.getD 0 0),aA (a.getD 1 0),aA (a.getD 2 0),aA (a.getD 3 0)])::h2:Heap)=HB at *
  by_cases hk2:c.kind=2
  .have kb:(c.kind==2)=true:=by rw[beq_iff_eq];exact hk2
   rw[if_pos hk2]at hR;simp only[go_sem,seval,kb,g0'];refine eS (b:=true) rfl ?_;rw[if_pos rfl];refine aU 4 ?_;simp only[go_sem,seval,g0',g1'];refine nV rfl rfl ?_;simp only[go_sem,seval];refine dM (pSrc hp hA hMB hS hc.b k hfk ⟨λx hx h3 n3 hl3 hD3 hM3=>dC ?_,λm hm h3 n3 hl3 hD3 hM3=>?_⟩)
   rotate_left
   .cases hs:vT p A (eQ p A i) c.b k with
    |ok b=>rw[hs]at hm;cases hm
    |error e=>
     rw[hs]at hm hR;injection hm with hm;subst hm;dsimp only at hR;rw[hR]at hO;intro fr;exact⟨rfl,hO.bad _ rfl h3 n3 (by have:n2+2<=n3:=hl3;show n0<=n3;omega) (wM (λr hr=>hr.1) (bK hDB hD3)) hM3⟩
   cases hs:vT p A (eQ p A i) c.b k with
   |error e=>rw[hs]at hx;cases hx
   |ok b=>
   rw[hs]at hx hR;injection hx with hx;subst hx;dsimp only at hR;obtain⟨bb,lb4⟩:=yX hA (Vj hp A i) hs;have hl3:n2+2<=n3:=hl3;have k0:=hD3 _ _ d0 g0';have k2:=hD3 _ _ (dk 2) g2';have dn2:DN p N n2:=dn n2 (by omega);have dn21:DN p N (n2+1):=dn _ (by omega);have kA:=hD3 _ _ dn2 kA;have kB:=hD3 _ _ dn21 kB;unfold vP;simp only[go_sem,seval,kB];have hL:∀r,(h3.set (n2+1) (.box [aA b.length,aA (b.getD 0 0),aA (b.getD 1 0),aA (b.getD 2 0),aA (b.getD 3 0)])).look r=if r=n2+1 then some (.box [aA b.length,aA (b.getD 0 0),aA (b.getD 1 0),aA (b.getD 2 0),aA (b.getD 3 0)])else h3.look r:=λr=>Heap.look_set _ _ _ kB r
   refine⟨(_,_,b),dD ⟨rfl,Nat.le_refl _,rfl,?_⟩,⟨hR,bb,lb4⟩,hl3,⟨?_,?_,?_,?_⟩,λr x dr hq=>?_,MixH.put hM3 (hM.off (show n0<=n2+1 by omega)) kB _⟩
   .simp only[go_sem,seval]
   .rw[hL,if_neg (by omega)];exact k0
   .rw[hL,if_neg (by omega)];exact k2
   .rw[hL,if_neg (by omega)];exact kA
   .rw[hL,if_pos rfl]
   .rw[hL,if_neg]
    .exact bK hDB hD3 r x dr hq
    .intro e;rw[e,hM.wf _ (show n0<=n2+1 by omega)]at hq;cases hq
  .have hkb:(c.kind==2)=false:=by rw[beq_eq_false_iff_ne];exact hk2
   rw[if_neg hk2]at hR;simp only[go_sem,seval,hkb,g0'];refine eS (b:=false) rfl ?_;rw[if_neg (by decide)];refine aB _ ?_;simp only[go_sem,seval];refine⟨(_,_,[]),dD ⟨rfl,Nat.le_refl _,rfl,?_⟩,⟨hR,λu hu=>absurd hu (by simp),by simp⟩,Nat.le_refl _,⟨g0',g2',kA,kB⟩,hDB,hMB⟩;simp only[go_sem,seval]
 rintro⟨H3,n3,b⟩ ⟨⟨hR,bb,lb4⟩,hl3,⟨g0,g2,kA,kB⟩,hDH,hMH⟩;simp only at hR bb lb4 hl3 g0 g2 kA kB hDH hMH;refine aH (aB _ ?_);simp only[go_sem,seval,g0];refine aB _ ?_;simp only[go_sem,seval];obtain⟨g,hg⟩:∃g,g=Lp c q a b:=⟨_,rfl⟩
 rw[<-hg]at hR;rw[hR]at hO;have hOk:=hO.ok g rfl;have hgl:g.length=acc.length:=by rw[hg,aBw,hl]
 have hga:=λj (h:j<c.chan.length)=>out_at (c:=c) (q:=q) (a:=a) (b:=b) h
 rw[<-hg]at hga;have hbq:H3.look qs=some (.box [aA (acc.getD 0 0),aA (acc.getD 1 0),aA (acc.getD 2 0),aA (acc.getD 3 0)]):=hDH _ _ ho.dn hb;refine aE (λ(x:Nat×Heap×Nat) σ=>(fun τ : St=>{ τ with h:=x.2.1,nx:=x.2.2 }) (bP 52 (aA x.1) (aY [12,13,14,53,54,55,56,57,58,59,60,61,62,63,64,65,66,67,68,69,70,71,72,73,74,75,76,77,78,79,80,81,82,83,84,85,86,87,88,89] σ)))
  (λx=>(x.1<=c.chan.length/\n3<=x.2.2)/\(x.2.1.look n0=some (.box [aA c.len,aA c.kind,aA c.a.kind,cF c.a.name,aA c.a.pos.num,aA c.a.pos.den,aA c.a.speed.num,aA c.a.speed.den,aR c.a.smooth,aA c.b.kind,cF c.b.name,aA c.b.pos.num,aA c.b.pos.den,aA c.b.speed.num,aA c.b.speed.den,aR c.b.smooth,aA c.off,aA c.total,aA c.param,cF c.text,aA c.gain,.t (.list 1 (eB 0) (c.chan.map eB))])/\x.2.1.look (n0+2)=some (.box [aA sn,aA sd])/\x.2.1.look n2=some (.box [aA a.length,aA (a.getD 0 0),aA (a.getD 1 0),aA (a.getD 2 0),aA (a.getD 3 0)])/\x.2.1.look (n2+1)=some (.box [aA b.length,aA (b.getD 0 0),aA (b.getD 1 0),aA (b.getD 2 0),aA (b.getD 3 0)])/\x.2.1.look qs=some (.box [aA (Tk acc g x.1 0),aA (Tk acc g x.1 1),aA (Tk acc g x.1 2),aA (Tk acc g x.1 3)]))/\bF (λr=>DN p N r/\r≠qs) H0 x.2.1/\MixH p A N x.2.2 x.2.1)
  (λx=>c.chan.length-x.1) (0,H3,n3) (dD ⟨rfl,Nat.le_refl _,rfl,?_⟩) ⟨⟨Nat.zero_le _,Nat.le_refl _⟩,⟨g0,g2,kA,kB,hbq⟩,wM (λr hr=>hr.1) hDH,hMH⟩ ?_
 .simp only[go_sem,seval]
 rintro⟨j,H,nn⟩ ⟨⟨hj,hnn⟩,⟨j0,j2,jA,jB,jq⟩,hDJ,hMJ⟩;simp only at hj hnn j0 j2 jA jB jq hDJ hMJ;refine aB _ ?_;simp only[go_sem,seval];refine⟨λhlt=>?_,λhge=>?_⟩
 .simp only[bxx]at hlt;have hjl:j<c.chan.length:=by omega
  obtain⟨j',hj'⟩:∃j',j'=j+1:=⟨_,rfl⟩
  have hwj:IntKind.i64.wrap ((j:Int)+1)=(j':Int):=by rw[bJ (by omega)];omega
  have hcn:=tA hjl;have hgj:=hga j hjl;obtain⟨x,hx⟩:∃x,x=c.chan.getD j 0:=⟨_,rfl⟩
  rw[<-hx]at hgj;simp only[<-hx]at hcn;unfold awS;simp only[go_sem,seval,hcn,jA];refine⟨⟨by omega,by omega⟩,_,Wy a la4 x,?_⟩;obtain⟨u1,u2⟩:=vZ ba (by omega) x;obtain⟨v1,v2⟩:=vZ bb (by omega) x;have ww1:IntKind.i64.wrap 1=1:=by decide
  have ww2:IntKind.i64.wrap 2=2:=by decide
  have ww3:IntKind.i64.wrap 3=3:=by decide
  have cb:=Wy b lb4 x;obtain⟨y,hy⟩:∃y,y=aLp c q a b x:=⟨_,rfl⟩
  have hgy:g.getD j 0=IntKind.i64.wrap (IntKind.i64.wrap (y*c.gain)+2048)/4096:=by rw[hgj,<-hy];rfl
  have key:∀i,Tk acc g j' i=if i=j then IntKind.i64.wrap (Tk acc g j i+g.getD j 0)else Tk acc g j i:=λi=>by
   rw[hj'];unfold Tk
   by_cases e:i=j
   .subst e;rw[if_pos (by omega),if_pos rfl,if_neg (by omega)]
   .rw[if_neg e]
    by_cases e2:i<j
    .rw[if_pos (by omega),if_pos e2]
    .rw[if_neg (by omega),if_neg e2]
  unfold aLp at hy;generalize aZ a x=u at*;generalize aZ b x=v at*;rcases Classical.em (c.kind=2)with hk2|hk2
  case' inl=>
   obtain⟨hs1,hs2,hs3⟩:=hqv hk2;obtain⟨t1,t2⟩:=hsh q hq;have kb:(c.kind==2)=true:=by rw[beq_iff_eq];exact hk2
   rw[if_pos hk2]at hy;have y3:=q.den_pos;have hsq:=eT (x:=v-u) t1 t2 y3;have hnr:=dZ (x:=v-u) t1 t2 y3;have cp:=gX (v-u) q.num q.den ⟨by omega,by omega⟩ ⟨by omega,by omega⟩ y3 (by omega) ⟨by omega,by omega⟩;have cp':aL Tryz.prog 93 [aA (v-u),aA sn,aA sd] (aA (gK (v-u) q.num q.den)):=by rw[hs1,hs2];exact cp
   have wy:IntKind.i64.wrap (u+gK (v-u) q.num q.den)=y:=by rw[hy];exact wrap64
   have wv:IntKind.i64.wrap (v-u)=v-u:=wrap64;simp only[go_sem,seval,kb,j0];refine aQ 13 .done (h:=?_);simp only[go_sem,seval,jB];refine⟨_,cb,?_⟩;simp only[go_sem,seval,wv,j2];refine⟨_,cp',?_⟩;simp only[go_sem,seval,wy];refine⟨jL ?_,?_⟩
   .have o1:pK nn n0=0:=cC (by omega);have o2:pK nn (n0+2)=0:=cC (by omega);have o3:pK nn n2=0:=cC (by omega);have o4:pK nn (n2+1)=0:=cC (by omega);simp only[gB,jG,o2,o4];show vJ _ _ _=true
    kernel_rfl
  case' inr=>
   have hkb:(c.kind==2)=false:=by rw[beq_eq_false_iff_ne];exact hk2
   rw[if_neg hk2]at hy;subst hy;simp only[go_sem,seval,hkb,j0]
  all_goals
   obtain rfl|rfl|rfl|rfl:j=0\/j=1\/j=2\/j=3:=by omega
  all_goals
   refine aQ 15 .done (h:=?_);simp only[go_sem,seval,ww1,ww2,ww3,j0,jq,Nat.add_assoc];refine⟨jL ?_,?_⟩
   .have o1:pK nn n0=0:=cC (by omega);have o2:pK nn qs=0:=cC (by omega);have o5:pK (nn+13) n0=0:=cC (by omega);have o6:pK (nn+13) qs=0:=cC (by omega);simp only[gB,jG,o1,o2,o5,o6];show vJ _ _ _=true
    kernel_rfl
   have hL:∀(B:Blk) r,(H.set qs B).look r=if r=qs then some B else H.look r:=λB r=>Heap.look_set _ _ _ jq r
   refine⟨(j',_,_),dD ⟨rfl,Nat.le_refl _,rfl,?_⟩,⟨⟨by show j'<=_;omega,?_⟩,⟨?_,?_,?_,?_,?_⟩,λr z dr hq=>?_,MixH.nx (MixH.put hMJ ho jq _) ?_⟩,by show _-j'<_-_;omega⟩
   .simp only[go_sem,seval]
    all_goals
     subst hj';rfl
   .exact Nat.le_trans hnn (Nat.le_add_right _ _)
   .rw[hL,if_neg (by omega)];exact j0
   .rw[hL,if_neg (by omega)];exact j2
   .rw[hL,if_neg (by omega)];exact jA
   .rw[hL,if_neg (by omega)];exact jB
   .rw[hL,if_pos rfl];simp only[key,hgy];rfl
   .rw[hL,if_neg dr.2];exact hDJ r z dr hq
   .exact Nat.le_add_right _ _
 .simp only[bxx]at hge;have hjl:j=acc.length:=by omega
  subst hjl;simp only[aN5 hgl]at jq;unfold awS;simp only[go_sem,seval];unfold vW;simp only[go_sem,seval];exact⟨hDJ,hOk H nn (by show n0<=nn;omega) hDJ jq hMJ⟩
theorem Vv{D:Nat->Prop}{a b c:Heap}{q:Nat}(hq:a.look q=none)(h1:bF D a b)(h2:bF (λr=>D r/\r≠q) b c):bF D a c:=λr x hr hx=>h2 r x ⟨hr,λe=>by rw[e,hq]at hx;cases hx⟩ (h1 r x hr hx)
theorem aNz{ts:List (List ClipR)}{k:Nat}(h:k<ts.length)(d:List T):nth d (ts.map Xs) k=Xs (ts.getD k []):=by
 unfold nth;rw[List.getElem?_map,List.getElem?_eq_getElem h,List.getD_eq_getElem?_getD,List.getElem?_eq_getElem h];rfl
set_option maxHeartbeats 400000 in
theorem aBv{p:ProjR}(hp:PrjV p){A:List AudioR}(hA:AudP A){N:LayN}{σ:St}{KP:List PanicEntry->St->Prop}{d:Option Tmp}{K:St->Prop}(hM:MixH p A N σ.nx σ.h){i:Nat}(hi:i<p.seqs.length)(hS:Lj p A N i)(ha:bG (p.seqs.getD i default).rate=true)(j:Int)(hj1 : -1099511627776<=j)(hj2:j<=1099511627776)
  (hO:OutK p A N σ KP d K (mapE aGb (Cc p A (eQ p A i) (p.seqs.getD i default) j))) :
  PCall Tryz.prog (DN p N) KP σ d 25 [.own N.m,.own (N.b i),aA j] K:=by
 obtain⟨hrv,hfit,hch,h8,htrk⟩:=hp.seq i hi;have hsq:=hM.seq i hi;have htr:=hM.trk i hi;have hlb:=hM.lb i hi;have hmem:∀T∈(p.seqs.getD i default).sound,∀c∈T,c.kind≠0->(c.chan.length:Int)=(p.seqs.getD i default).channels:=λT hT c hc hk=>by
  rcases((htrk T hT).2 c hc).kind with h|h
  .exact absurd h hk
  .exact h.2
 generalize hsE:p.seqs.getD i default=s at*;obtain⟨usa,_,hn,hd,_⟩:=qZ ha;obtain⟨m,hm⟩:=eF (n:=s.channels) (by omega);have hmt:s.channels.toNat=m:=by omega
 obtain⟨R,hR⟩:∃R,R=Cc p A (eQ p A i) s j:=⟨_,rfl⟩
 rw[<-hR]at hO;unfold Cc at hR;rw[hmt]at hR;have co:=cOwner j s.rate hfit.rate usa ⟨hj1,hj2⟩;have tf:=aAb ha (t:=j) (by omega);obtain⟨dn,hdn⟩:=eF (n:=48000*s.rate.den) (by omega);have hsr:(j*s.rate.num).natAbs<=1099511627776*1048576:=by rw[Int.natAbs_mul];exact Nat.mul_le_mul (by omega) (by omega)
 have c2:=cOfZ (j*s.rate.num) dn (by omega) (by omega) (by omega);have e2:(((j*s.rate.num:Int)):Rat)/((dn:Int):Rat)=tB s.rate j:=by
  rw[<-hdn,Rat.intCast_mul,Rat.intCast_mul];rfl
 rw[e2,<-hdn]at c2;have w1:IntKind.i64.wrap (j*s.rate.num)=j*s.rate.num:=wrap64;have w2:IntKind.i64.wrap (48000*s.rate.den)=48000*s.rate.den:=wrap64;have hw:=λ(T:List ClipR) (hv:cL T=true) (c:ClipR) (b:Int) hh=>Vu ha (t:=j) hv (c:=c) (b:=b) hh
 have hfi:I64 (tM s.rate j):=aHq ha ⟨hj1,hj2⟩;generalize hx:tB s.rate j=x at*;generalize tM s.rate j=f at*;refine fK Tryz.X25 Tryz.func25 rfl Tryz.ntmps25 (by rw[Tryz.results25]) ?_;obtain⟨fr0,H0,n0,df0⟩:= σ;simp only at hO hM hsq htr hlb⊢;have e5:(N.b i=n0)=False:=by simp;omega
 have e6:∀k,(N.b i=n0+k)=False:=λk=>by simp;omega
 have e7:(N.t i=n0)=False:=by simp;omega
 have e8:∀k,(N.t i=n0+k)=False:=λk=>by simp;omega
 refine aH (aB _ ?_);simp only[go_sem,seval];refine aH (aB _ ?_);simp only[go_sem,seval,e5,hsq];refine⟨_,co,?_⟩;simp only[go_sem,seval];refine⟨_,aTa _,?_⟩;simp only[go_sem,seval];refine aH (aB _ ?_);simp only[go_sem,seval];refine aQ 19 .done (h:=?_);simp only[go_sem,seval,w1,w2,e5,hsq,Nat.add_assoc];refine⟨_,c2,?_⟩;simp only[go_sem,seval];refine⟨_,jX _,?_⟩;simp only[go_sem,seval,Nat.add_assoc];refine⟨jL ?_,?_⟩
 .have o1:pK (n0+1) (N.b i)=0:=cC (by omega);simp only[gB,jG,o1,rR,Nat.reduceLeDiff,Nat.reduceSub,Nat.reduceAdd];show vJ _ _ _=true
  kernel_rfl
 refine aH (aB _ ?_);simp only[go_sem,seval,Nat.add_assoc];refine aH (aB _ ?_);simp only[go_sem,seval,e5,e6,e7,e8,hsq,htr];have hM1:=MixH.top hM (k:=n0) (.box [aA 0,aA 0,aA 0,aA 0]) (Nat.le_refl _);have hM2:=MixH.top hM1 (k:=n0+18) (.box [aA (ofQ x).num,aA (ofQ x).den]) (by omega);have hM3:=MixH.top hM2 (k:=n0+20) (.box [aA 0,aA 0,aA 0,aA 0]) (by omega);have up:bF (DN p N) H0 ((n0+20,.box [aA 0,aA 0,aA 0,aA 0])::(n0+18,.box [aA (ofQ x).num,aA (ofQ x).den])::(n0,.box [aA 0,aA 0,aA 0,aA 0])::H0):=λr z _ hq=>aN hM2.wf (aN hM1.wf (aN hM.wf hq (Nat.le_refl _)) (show n0+1<=n0+18 by omega)) (show n0+18+1<=n0+20 by omega)
 have k6:Heap.look ((n0+20,.box [aA 0,aA 0,aA 0,aA 0])::(n0+18,.box [aA (ofQ x).num,aA (ofQ x).den])::(n0,.box [aA 0,aA 0,aA 0,aA 0])::H0) n0=some (.box [aA 0,aA 0,aA 0,aA 0]):=by rw[Heap.look,if_neg (by omega),Heap.look,if_neg (by omega),Heap.look,if_pos rfl]
 have k8:Heap.look ((n0+20,.box [aA 0,aA 0,aA 0,aA 0])::(n0+18,.box [aA (ofQ x).num,aA (ofQ x).den])::(n0,.box [aA 0,aA 0,aA 0,aA 0])::H0) (n0+18)=some (.box [aA (ofQ x).num,aA (ofQ x).den]):=by rw[Heap.look,if_neg (by omega),Heap.look,if_pos rfl]
 have k9:Heap.look ((n0+20,.box [aA 0,aA 0,aA 0,aA 0])::(n0+18,.box [aA (ofQ x).num,aA (ofQ x).den])::(n0,.box [aA 0,aA 0,aA 0,aA 0])::H0) (n0+20)=some (.box [aA 0,aA 0,aA 0,aA 0]):=by rw[Heap.look,if_pos rfl]
 generalize((n0+20,Blk.box [aA 0,aA 0,aA 0,aA 0])::(n0+18,Blk.box [aA (ofQ x).num,aA (ofQ x).den])::(n0,Blk.box [aA 0,aA 0,aA 0,aA 0])::H0:Heap)=H1 at*;have r0:∀l:List Int,l=List.replicate m 0->[aA 0,aA 0,aA 0,aA 0]=[aA (l.getD 0 0),aA (l.getD 1 0),aA (l.getD 2 0),aA (l.getD 3 0)]:=λl hl=>by
  subst hl;have:∀c,(List.replicate m (0:Int)).getD c 0=0:=λc=>by
   rw[List.getD_eq_getElem?_getD,List.getElem?_replicate];split<;>rfl
  rw[this,this,this,this]
 refine aE (λ(y:Nat×List Int×Heap×Nat) σ=>(fun τ : St=>{ τ with h:=y.2.2.1,nx:=y.2.2.2 }) (bP 48 (aA y.1) (aY [10,11,12,13,14,15,49,50,51,52,53,54,55,56,57,58,59,60,61,62,63,64,65,66,67,68,69,70,71,72,73,74,75,76,77,78,79,80,81,82,83,84] σ)))
  (λy=>(y.1<=s.sound.length/\y.2.1.length=m/\wZ p A (eQ p A i) x f s.sound (List.replicate m 0)=wZ p A (eQ p A i) x f (s.sound.drop y.1) y.2.1/\n0+21<=y.2.2.2)/\(y.2.2.1.look n0=some (.box [aA 0,aA 0,aA 0,aA 0])/\y.2.2.1.look (n0+18)=some (.box [aA (ofQ x).num,aA (ofQ x).den])/\y.2.2.1.look (n0+20)=some (.box [aA (y.2.1.getD 0 0),aA (y.2.1.getD 1 0),aA (y.2.1.getD 2 0),aA (y.2.1.getD 3 0)]))/\bF (DN p N) H0 y.2.2.1/\MixH p A N y.2.2.2 y.2.2.1)
  (λy=>s.sound.length-y.1) (0,List.replicate m 0,H1,n0+21) ?_ ?_ ?_
 .refine dD ⟨rfl,Nat.le_refl _,rfl,?_⟩;simp only[go_sem,seval]
 .refine⟨⟨Nat.zero_le _,List.length_replicate ..,by rw[List.drop_zero],Nat.le_refl _⟩,⟨k6,k8,?_⟩,up,hM3⟩;rw[<-r0 _ rfl];exact k9
 rintro⟨k,acc,H,nn⟩ ⟨⟨hk,hacc,hsum,hnn⟩,⟨g6,g8,g9⟩,hDH,hMH⟩;simp only at hk hacc hsum hnn g6 g8 g9 hDH hMH;have htrH:=hMH.trk i hi;rw[hsE]at htrH
 by_cases hkl:k<s.sound.length
 .have hltb:decide ((k:Int)<(s.sound.length:Int))=true:=decide_eq_true (by omega);have hwk:IntKind.i64.wrap ((k:Int)+1)=((k+1:Nat):Int):=by rw[bJ (by omega)];omega
  have hT:=aW (d:=[]) hkl;obtain⟨hv,hcl⟩:=htrk _ hT;have hmT:=hmem _ hT;have hTn:=aNz hkl;rw[aAd hkl]at hsum;unfold Ng at hsum;obtain⟨tr,hte⟩:∃tr,s.sound.getD k []=tr:=⟨_,rfl⟩
  rw[hte]at hT hv hcl hmT hsum;simp only[hte]at hTn;obtain⟨h64,hvc,hts⟩:=nE hv;have hp1:∀c∈tr,1<=c.len:=λc hc=>(fD (hvc c hc)).1
  refine aH (aB _ ?_);simp only[go_sem,seval,hltb];refine aH (eS (b:=true) rfl ?_);rw[if_pos rfl];refine aB _ ?_;simp only[go_sem,seval];refine aH (wT (aH (aB _ ?_)));simp only[go_sem,seval,htrH,hTn,Xs];refine⟨⟨by omega,by omega⟩,hkl,?_⟩;have hMa:=λb=>MixH.top hMH (k:=nn) b (Nat.le_refl _)
  have hMb:=λb b'=>MixH.top (hMa b) (k:=nn+1) b' (Nat.le_refl _)
  have upb:∀b b',bF (DN p N) H0 ((nn+1,b')::(nn,b)::H):=λb b' r z dr hq=>aN (hMa b).wf (aN hMH.wf (hDH r z dr hq) (Nat.le_refl _)) (Nat.le_refl _)
  have lub:∀b b' r z,H.look r=some z->Heap.look ((nn+1,b')::(nn,b)::H) r=some z:=λb b' r z hq=>aN (hMa b).wf (aN hMH.wf hq (Nat.le_refl _)) (Nat.le_refl _)
  have e8:(n0+18=nn)=False:=eq_false (by omega);have e18:(n0+18=nn+1)=False:=eq_false (by omega);have hcs:(Tc tr f=none/\aL Tryz.prog 50 [aNp tr,aA f] aF8) \/∃c b,Tc tr f=some (c,b)/\aL Tryz.prog 50 [aNp tr,aA f] (.tup [kJ c,aA b,aR true]):=by
   rcases hit_cases hv f with ⟨hh,hout,_⟩|⟨ix,hil,hf0,hb1,hb2,_,hh⟩
   .exact .inl ⟨hh,cAtOut tr f hout⟩
   .have hat:=cAtIn tr f h64 hp1 hts hil hb1 hb2 hf0
    by_cases hk0:(tr.getD ix default).kind=0
    .rw[if_pos hk0]at hh hat;exact .inl ⟨hh,hat⟩
    .rw[if_neg hk0]at hh hat;exact .inr ⟨_,_,hh,hat⟩
  refine aH (aB _ ?_);rcases hcs with ⟨hh,hat⟩|⟨c,b,hh,hat⟩
  .rw[hh]at hsum;dsimp only at hsum;simp only[go_sem,seval];refine⟨_,hat,?_⟩;simp only[go_sem,seval,Nat.add_assoc];refine⟨⟨rfl,rfl,by decide⟩,?_⟩;refine aH (aH (aB _ ?_));simp only[go_sem,seval];refine eS (b:=true) rfl ?_;rw[if_pos rfl];refine aB _ ?_;simp only[go_sem,seval];refine aB _ ?_;simp only[go_sem,seval,hwk];refine⟨(k+1,acc,_,_),dD ⟨rfl,Nat.le_refl _,rfl,?_⟩,⟨⟨by show k+1<=_;omega,hacc,hsum,by show n0+21<=nn+2;omega⟩,⟨lub _ _ _ _ g6,lub _ _ _ _ g8,lub _ _ _ _ g9⟩,upb _ _,hMb _ _⟩,by show _-(k+1)<_-k;omega⟩;simp only[go_sem,seval]
  .rw[hh]at hsum;dsimp only at hsum;obtain⟨hcm,hk0,b0,_,_,b3⟩:=Fw hv hh;have hcv:=hcl _ hcm;have hw2:=hw tr hv c b hh;have hcl2:=hmT _ hcm hk0;have c5:=cSubG tf (Bv (n:=b) (by omega));rw[Bm]at c5;generalize x-(b:Rat)=z at*;simp only[go_sem,seval];refine⟨_,hat,?_⟩;simp only[go_sem,seval,Nat.add_assoc];refine aH (aH (aB _ ?_));simp only[go_sem,seval];refine eS (b:=false) rfl ?_;rw[if_neg (by decide)];refine aB _ ?_;simp only[go_sem,seval];refine aH ?_;cases hfz:cH z with
   |false=>
    rw[qD hfz]at c5;rw[if_pos hfz]at hsum;rw[hsum]at hR;dsimp only at hR;rw[hR]at hO;refine aU 6 ?_;simp only[go_sem,seval,e8,e18,g8];refine⟨_,c5,?_⟩;simp only[go_sem,seval];refine nV rfl rfl ?_;simp only[go_sem,seval];refine dM (jH (hMb _ _) ⟨0,0⟩ 2 (by decide) λh2 nx2 hl2 hD2 hM2 fr=>⟨rfl,hO.bad _ rfl _ nx2 (by have:nn+1+1<=nx2:=hl2;show n0<=nx2;omega) (bK (upb _ _) hD2) hM2⟩)
   |true=>
   rw[mJ hfz]at c5;rw[if_neg (by rw[hfz];decide)]at hsum;refine aB _ ?_;simp only[go_sem,seval,e8,e18,g8];refine⟨_,c5,?_⟩;simp only[go_sem,seval];refine⟨_,jX _,?_⟩;simp only[go_sem,seval,Nat.add_assoc];have hMc:=MixH.top (hMb (.box [.t (jC tr),.t (cM (uZ tr)),aA (cJ tr)]) (.box [aA c.len,aA c.kind,aA c.a.kind,cF c.a.name,aA c.a.pos.num,aA c.a.pos.den,aA c.a.speed.num,aA c.a.speed.den,aR c.a.smooth,aA c.b.kind,cF c.b.name,aA c.b.pos.num,aA c.b.pos.den,aA c.b.speed.num,aA c.b.speed.den,aR c.b.smooth,aA c.off,aA c.total,aA c.param,cF c.text,aA c.gain,.t (.list 1 (eB 0) (c.chan.map eB))])) (k:=nn+2) (.box [aA (ofQ z).num,aA (ofQ z).den]) (Nat.le_refl _);have luc:∀r y,H.look r=some y->Heap.look ((nn+2,.box [aA (ofQ z).num,aA (ofQ z).den])::(nn+1,.box [aA c.len,aA c.kind,aA c.a.kind,cF c.a.name,aA c.a.pos.num,aA c.a.pos.den,aA c.a.speed.num,aA c.a.speed.den,aR c.a.smooth,aA c.b.kind,cF c.b.name,aA c.b.pos.num,aA c.b.pos.den,aA c.b.speed.num,aA c.b.speed.den,aR c.b.smooth,aA c.off,aA c.total,aA c.param,cF c.text,aA c.gain,.t (.list 1 (eB 0) (c.chan.map eB))])::(nn,.box [.t (jC tr),.t (cM (uZ tr)),aA (cJ tr)])::H) r=some y:=λr y hq=>aN (hMb _ _).wf (lub _ _ _ _ hq) (Nat.le_refl _)
   have dn0:∀q,n0<=q->DN p N q:=λq hq=>(hM.off hq).dn
   refine aU 3 ?_;simp only[go_sem,seval,Nat.add_left_cancel_iff];refine nV rfl rfl ?_;simp only[go_sem,seval];refine dM (pAdd hp hA hMc hS hcv z hfz hw2 (qs:=n0+20) (hM.off (by show n0<=n0+20;omega)) (by show n0+20<nn+3;omega) (acc:=acc) (by omega) (luc _ _ g9) ⟨λg hg h2 n2 hl2 hD2 hq2 hM2=>?_,λe he h2 n2 hl2 hD2 hM2=>?_⟩)
   rotate_left
   .rw[he]at hsum;dsimp only at hsum;rw[hsum]at hR;dsimp only at hR;rw[hR]at hO;intro fr;exact⟨rfl,hO.bad _ rfl h2 n2 (by have:nn+3<=n2:=hl2;show n0<=n2;omega) (Vv (hM.wf _ (by show n0<=n0+20;omega)) (λr y hr hy=>luc r y (hDH r y hr hy)) hD2) hM2⟩
   rw[hg]at hsum;dsimp only at hsum;have hl2:nn+3<=n2:=hl2;have hgl:g.length=acc.length:=by rw[Jk hg];omega
   refine dC ?_;simp only[go_sem,seval];refine aB _ ?_;simp only[go_sem,seval,hwk];refine⟨(k+1,Dx acc g,h2,n2),dD ⟨rfl,Nat.le_refl _,rfl,?_⟩,⟨⟨by show k+1<=_;omega,by rw[Sj _ _ hgl];exact hacc,hsum,by show n0+21<=n2;omega⟩,⟨hD2 _ _ ⟨dn0 _ (Nat.le_refl _),by omega⟩ (luc _ _ g6),hD2 _ _ ⟨dn0 _ (by omega),by omega⟩ (luc _ _ g8),hq2⟩,Vv (hM.wf _ (by show n0<=n0+20;omega)) (λr y hr hy=>luc r y (hDH r y hr hy)) hD2,hM2⟩,by show _-(k+1)<_-k;omega⟩;simp only[go_sem,seval]
 .have hltb:decide ((k:Int)<(s.sound.length:Int))=false:=decide_eq_false (by omega);rw[List.drop_of_length_le (by omega)]at hsum;rw[hsum]at hR;unfold wZ at hR;dsimp only at hR;rw[hR]at hO;have hOk:=hO.ok _ rfl;refine aH (aB _ ?_);simp only[go_sem,seval,hltb];refine aH (eS (b:=false) rfl ?_);rw[if_neg (by decide)];refine aB _ ?_;simp only[go_sem,seval];have hL:∀(B:Blk) r,(H.set (n0+20) B).look r=if r=n0+20 then some B else H.look r:=λB r=>Heap.look_set _ _ _ g9 r
  have hL0:∀(B:Blk),(H.set (n0+20) B).look (n0+20)=some B:=λB=>by rw[hL,if_pos rfl]
  have hL1:∀(B:Blk),(H.set (n0+20) B).look n0=some (.box [aA 0,aA 0,aA 0,aA 0]):=λB=>by rw[hL,if_neg (by omega)];exact g6
  have hL2:∀(B C:Blk) r,((H.set (n0+20) B).set n0 C).look r=if r=n0 then some C else if r=n0+20 then some B else H.look r:=λB C r=>by rw[Heap.look_set _ _ _ (hL1 B) r,hL]
  have hL3:∀(B C:Blk),((H.set (n0+20) B).set n0 C).look n0=some C:=λB C=>by rw[hL2,if_pos rfl]
  have dn0:∀q,n0<=q->DN p N q:=λq hq=>(hM.off hq).dn
  have hDf:∀B C,bF (DN p N) H0 ((H.set (n0+20) B).set n0 C):=λB C r y hr hy=>by
   rw[hL2,if_neg,if_neg]
   .exact hDH r y hr hy
   .intro e;rw[e,hM.wf _ (by show n0<=n0+20;omega)]at hy;cases hy
   .intro e;rw[e,hM.wf _ (Nat.le_refl _)]at hy;cases hy
  have hMf:∀B C,MixH p A N nn ((H.set (n0+20) B).set n0 C):=λB C=>MixH.put (MixH.put hMH (hM.off (by show n0<=n0+20;omega)) g9 B) (hM.off (Nat.le_refl _)) (hL1 B) C
  have ww1:IntKind.i64.wrap 1=1:=by decide
  have ww2:IntKind.i64.wrap 2=2:=by decide
  have ww3:IntKind.i64.wrap 3=3:=by decide
  have ww4:IntKind.i64.wrap 4=4:=by decide
  have w01:IntKind.i64.wrap (0+1)=1:=by decide
  have w11:IntKind.i64.wrap (1+1)=2:=by decide
  have w21:IntKind.i64.wrap (2+1)=3:=by decide
  have w31:IntKind.i64.wrap (3+1)=4:=by decide
  have hcl:∀c,max (-32768) (min 32767 (acc.getD c 0))=(acc.map vH).getD c 0:=λc=>by
   rcases Nat.lt_or_ge c acc.length with h|h
   .simp only[List.getD_eq_getElem?_getD,List.getElem?_map,List.getElem?_eq_getElem h];rfl
   .simp only[List.getD_eq_getElem?_getD,List.getElem?_map,List.getElem?_eq_none h];rfl
  refine aB _ ?_;simp only[go_sem,seval];refine bC ?_
  iterate 5
   refine aK (aB _ ?_);simp only[go_sem,seval,dtf,ww1,ww2,ww3,ww4,g9,hL0,hL1,hcl]
  unfold vW;simp only[go_sem,seval,hL3];exact⟨hDf _ _,hOk _ nn (by show n0<=nn;omega) (hDf _ _) (hMf _ _)⟩
theorem kindI{v:Value}(h:gQ (.int .i64) v=true):∃a,v=.int .i64 a:=by
 cases v<;>simp only[gQ,decide_eq_true_eq,Bool.false_eq_true]at h
 subst h;exact⟨_,rfl⟩
theorem Ks{j:Int}{m:Bool×List T}:∀{es:List Ent},eJ (.int .i64) es=true->eJ (.int .i64) (jV (.int .i64 j) m es)=true
 |[],_=>rfl
 |e0::es,h=>by
  simp only[eJ,Bool.and_eq_true]at h;simp only[jV];split
  .simp only[eJ,h.2,gQ,decide_true,Bool.and_self]
  .simp only[eJ,h.1,Ks h.2,Bool.and_self]
theorem Qc{j j':Int}{m:Bool×List T}:∀{es:List Ent},eJ (.int .i64) es=true->fV (.int .i64 j) (jV (.int .i64 j') m es)=if j=j' then some (mkV m)else fV (.int .i64 j) es
 |[],_=>by simp only[jV,fV,pM,decide_eq_true_eq]
 |(k0,m0)::es,h=>by
  simp only[eJ,Bool.and_eq_true]at h;obtain⟨s,rfl⟩:=kindI h.1;have ih:=Qc (j:=j) (j':=j') (m:=m) h.2;simp only[jV,pM,decide_eq_true_eq];split
  .rename_i h1;subst h1;simp only[fV,pM,decide_eq_true_eq];split<;>rfl
  .rename_i h1;simp only[fV,pM,decide_eq_true_eq,ih];split
   .rename_i h2;subst h2;rw[if_neg (λh=>h1 h.symm)]
   .rfl
theorem Hy(p:ProjR)(A:List AudioR)(i:Nat):KeptE p A i []:=⟨rfl,λj v h=>by cases h⟩
theorem aM1{p:ProjR}{A:List AudioR}{i:Nat}{es:aN7}(h:KeptE p A i es){j:Int}{l:List Int}(hl:sM p A i j=.ok l):KeptE p A i (jV (.int .i64 j) (true,[ti (l.getD 0 0),ti (l.getD 1 0),ti (l.getD 2 0),ti (l.getD 3 0)]) es):=by
 refine⟨Ks h.kinds,λj' v hv=>?_⟩;rw[Qc h.kinds]at hv;split at hv
 .rename_i e;subst e;injection hv with hv;exact⟨l,hl,hv.symm⟩
 .exact h.val _ _ hv
theorem MixH.keep{p:ProjR}{A:List AudioR}{N:LayN}{n0:Nat}{H:Heap}(h:MixH p A N n0 H){i:Nat}(hi:i<p.seqs.length){es es':aN7}(hl:H.look (N.c i)=some (.map (tEs es)))(hk:KeptE p A i es'):MixH p A N n0 (H.set (N.c i) (.map (tEs es'))):=by
 refine h.later (Nat.le_refl _) (λq b hq hb=>?_) (λk hk2=>?_) λq hq=>?_
 .rw[Heap.look_set _ _ _ hl,if_neg (hq i hi)];exact hb
 .by_cases e:k=i
  .subst e;exact⟨es',by rw[Heap.look_set _ _ _ hl,if_pos rfl],hk⟩
  .obtain⟨es2,q1,q2⟩:=h.kept k hk2;exact⟨es2,by rw[Heap.look_set _ _ _ hl,if_neg (λe2=>e (h.inj _ _ hk2 hi e2))];exact q1,q2⟩
 .rw[Heap.look_set _ _ _ hl,if_neg (by have:=(h.lb i hi).2.2;omega)];exact h.wf q hq
set_option maxHeartbeats 4000000 in
theorem pSample{p:ProjR}(hp:PrjV p){A:List AudioR}(hA:AudP A){N:LayN}{i:Nat}(hi:i<p.seqs.length)(hS:Lj p A N i)(ha:bG (p.seqs.getD i default).rate=true):SmpC p A N i:=by
 intro σ KP d K j hM hj1 hj2 hok hbad;have hsq:=hM.seq i hi;have hlb:=hM.lb i hi;have dbb:=(hM.db i hi).1;obtain⟨es,hes,hke⟩:=hM.kept i hi;have hkk:=hke.kinds;refine fK Tryz.X152 Tryz.func152 rfl Tryz.ntmps152 (by rw[Tryz.results152]) ?_;obtain⟨fr0,H0,n0,df0⟩:= σ;simp only at hok hbad hM hsq hlb hes⊢;have e5:(N.b i=n0)=False:=by simp;omega
 have e6:∀k,(N.b i=n0+k)=False:=λk=>by simp;omega
 have e7:(N.c i=n0)=False:=by simp;omega
 have e8:∀k,(N.c i=n0+k)=False:=λk=>by simp;omega
 have dn:∀q,n0<=q->DN p N q:=λq hq=>(hM.off hq).dn
 refine aH (aB _ ?_);simp only[go_sem,seval];refine aH (aB _ ?_);cases hlk:fV (.int .i64 j) es with
 |some v=>
  obtain⟨l,hl,rfl⟩:=hke.val _ _ hlk;have hOk:=hok l hl;unfold aGb at hlk hOk;simp only[go_sem,dtf,seval,e5,e7,hsq,hes,hlk,Nat.add_assoc,Nat.left_eq_add];refine⟨hkk,?_⟩;unfold vW;simp only[go_sem,seval,Nat.left_eq_add];have h1:=λb=>MixH.top hM (k:=n0) b (Nat.le_refl _)
  have h2:=λb c=>MixH.top (h1 b) (k:=n0+1) c (Nat.le_refl _)
  have hD:∀b c,bF (DN p N) H0 ((n0+1,c)::(n0,b)::H0):=λb c q x _ hq=>aN (h1 b).wf (aN hM.wf hq (Nat.le_refl _)) (Nat.le_refl _)
  exact⟨hD _ _,hOk _ (n0+2) (show n0<=n0+2 by omega) (hD _ _) (h2 _ _)⟩
 |none=>
  simp only[go_sem,dtf,seval,e5,e7,hsq,hes,hlk,Nat.add_assoc];refine⟨hkk,?_⟩;have h1:=MixH.top hM (k:=n0) (.box [aA 0,aA 0,aA 0,aA 0]) (Nat.le_refl _);have h2:=MixH.top h1 (k:=n0+1) (.box [aA 0,aA 0,aA 0,aA 0]) (Nat.le_refl _);have hD:bF (DN p N) H0 ((n0+1,.box [aA 0,aA 0,aA 0,aA 0])::(n0,.box [aA 0,aA 0,aA 0,aA 0])::H0):=λq x _ hq=>aN h1.wf (aN hM.wf hq (Nat.le_refl _)) (Nat.le_refl _)
  have hbx:Heap.look ((n0+1,.box [aA 0,aA 0,aA 0,aA 0])::(n0,.box [aA 0,aA 0,aA 0,aA 0])::H0) n0=some (.box [aA 0,aA 0,aA 0,aA 0]):=by rw[Heap.look,if_neg (by omega),Heap.look,if_pos rfl]
  refine aH (aU 3 ?_);simp only[go_sem,seval];refine nV rfl rfl ?_;simp only[go_sem,seval];refine dM (aBv hp hA h2 hi hS ha j hj1 hj2 ⟨λx hx h3 n3 hl3 hD3 hM3=>dC ?_,λm hm h3 n3 hl3 hD3 hM3=>?_⟩)
  all_goals rw[<-sL]at *
  rotate_left
  .cases hs:sM p A i j with
   |ok a=>rw[hs]at hm;cases hm
   |error e=>
    rw[hs]at hm;injection hm with hm;subst hm;intro fr;exact⟨rfl,hbad _ hs h3 n3 (by have:n0+2<=n3:=hl3;show n0<=n3;omega) (bK hD hD3) hM3⟩
  cases hs:sM p A i j with
  |error e=>rw[hs]at hx;cases hx
  |ok l=>
  rw[hs]at hx;injection hx with hx;subst hx;have hOk:=hok l hs;have hl3:n0+2<=n3:=hl3;unfold aGb;simp only[go_sem,seval];have hMt:=MixH.top hM3 (k:=n3) (.box [aA (l.getD 0 0),aA (l.getD 1 0),aA (l.getD 2 0),aA (l.getD 3 0)]) (Nat.le_refl _);have hDt:bF (DN p N) H0 ((n3,.box [aA (l.getD 0 0),aA (l.getD 1 0),aA (l.getD 2 0),aA (l.getD 3 0)])::h3):=λq x dq hq=>aN hM3.wf (bK hD hD3 q x dq hq) (Nat.le_refl _)
  have hbt:=aN hM3.wf (hD3 _ _ (dn n0 (Nat.le_refl _)) hbx) (Nat.le_refl _) (c:=.box [aA (l.getD 0 0),aA (l.getD 1 0),aA (l.getD 2 0),aA (l.getD 3 0)]);have hkt:Heap.look ((n3,.box [aA (l.getD 0 0),aA (l.getD 1 0),aA (l.getD 2 0),aA (l.getD 3 0)])::h3) n3=some (.box [aA (l.getD 0 0),aA (l.getD 1 0),aA (l.getD 2 0),aA (l.getD 3 0)]):=by rw[Heap.look,if_pos rfl]
  generalize((n3,Blk.box [aA (l.getD 0 0),aA (l.getD 1 0),aA (l.getD 2 0),aA (l.getD 3 0)])::h3:Heap)=H4 at*;have hsq4:=hMt.seq i hi;obtain⟨es4,hes4,hke4⟩:=hMt.kept i hi;refine sB (λ(x:Heap)=>{ fr:=[V.own N.m,.own (N.b i),aA j,.dead,.dead,.dead,.own n0,.dead,.dead,.own n3]++List.replicate 32 .dead,h:=x,nx:=n3+1 })
   (λx=>(∃es5,x.look (N.c i)=some (.map (tEs es5))/\KeptE p A i es5)/\x.look n0=some (.box [aA 0,aA 0,aA 0,aA 0])/\x.look n3=some (.box [aA (l.getD 0 0),aA (l.getD 1 0),aA (l.getD 2 0),aA (l.getD 3 0)])/\bF (DN p N) H0 x/\MixH p A N (n3+1) x) ?_ ?_
  .refine aH (aB _ ?_);simp only[go_sem,seval,hsq4,hes4];cases hbl:decide ((es4.length:Int)>=32768)with
   |false=>
    refine eS (b:=false) rfl ?_;rw[if_neg (by decide)];refine aB _ ?_;simp only[go_sem,seval];refine⟨H4,dD ⟨rfl,Nat.le_refl _,rfl,?_⟩,⟨es4,hes4,hke4⟩,hbt,hkt,hDt,hMt⟩;simp only[go_sem,seval]
   |true=>
    have hL:∀r,Heap.look (Heap.set H4 (N.c i) (.map [])) r=if r=N.c i then some (.map [])else Heap.look H4 r:=λr=>Heap.look_set _ _ _ hes4 r
    refine eS (b:=true) rfl ?_;rw[if_pos rfl];refine aU 4 ?_;simp only[go_sem,seval,hsq4];refine aEw rfl rfl rfl rfl ?_;simp only[go_sem,seval,hes4];refine dC ?_;simp only[go_sem,seval];refine⟨Heap.set H4 (N.c i) (.map []),dD ⟨rfl,Nat.le_refl _,rfl,?_⟩,⟨[],by rw[hL,if_pos rfl];rfl,Hy p A i⟩,?_,?_,λr x hr hx=>?_,MixH.keep hMt hi hes4 (Hy p A i)⟩
    .simp only[go_sem,seval]
    .rw[hL,if_neg (by omega)];exact hbt
    .rw[hL,if_neg (by omega)];exact hkt
    .rw[hL,if_neg (hr i hi)];exact hDt r x hr hx
  rintro H5 ⟨⟨es5,hes5,hke5⟩,hb5,hk5,hD5,hM5⟩;have hsq5:=hM5.seq i hi;have hL:∀r,(H5.set (N.c i) (.map (tEs (jV (.int .i64 j) (true,[ti (l.getD 0 0),ti (l.getD 1 0),ti (l.getD 2 0),ti (l.getD 3 0)]) es5)))).look r=if r=N.c i then some (.map (tEs (jV (.int .i64 j) (true,[ti (l.getD 0 0),ti (l.getD 1 0),ti (l.getD 2 0),ti (l.getD 3 0)]) es5)))else H5.look r:=λr=>Heap.look_set _ _ _ hes5 r
  have hM6:=MixH.keep hM5 hi hes5 (aM1 hke5 hs);refine aH (aB _ ?_);simp only[go_sem,seval];refine bL [0,1,2,3,4,5] (.step 6 .done) (h:=?_);simp only[go_sem,dtf,seval,hsq5,hes5,hk5];refine⟨hke5.kinds,?_⟩;rw[show uE (.int .i64 j) (V.agg [aA (l.getD 0 0),aA (l.getD 1 0),aA (l.getD 2 0),aA (l.getD 3 0)]) (tEs es5)=tEs (jV (.int .i64 j) (true,[ti (l.getD 0 0),ti (l.getD 1 0),ti (l.getD 2 0),ti (l.getD 3 0)]) es5) from tL (.int .i64 j) (true,[ti (l.getD 0 0),ti (l.getD 1 0),ti (l.getD 2 0),ti (l.getD 3 0)]) es5];have hD6:bF (DN p N) H0 (H5.set (N.c i) (.map (tEs (jV (.int .i64 j) (true,[ti (l.getD 0 0),ti (l.getD 1 0),ti (l.getD 2 0),ti (l.getD 3 0)]) es5)))):=λr x hr hx=>by
   rw[hL,if_neg (hr i hi)];exact hD5 r x hr hx
  have hb6:=hL n0;rw[if_neg (by omega),hb5]at hb6;have hk6:=hL n3;rw[if_neg (by omega),hk5]at hk6;generalize H5.set (N.c i) (.map (tEs (jV (.int .i64 j) (true,[ti (l.getD 0 0),ti (l.getD 1 0),ti (l.getD 2 0),ti (l.getD 3 0)]) es5)))=H6 at*;refine aB _ ?_;simp only[go_sem,seval,hb6,hk6];have hL7:∀(B:Blk) r,(H6.set n0 B).look r=if r=n0 then some B else H6.look r:=λB r=>Heap.look_set _ _ _ hb6 r
  have hL8:∀(B:Blk),(H6.set n0 B).look n0=some B:=λB=>by rw[hL7,if_pos rfl]
  unfold vW;simp only[go_sem,seval,hL8];have hD7:∀B,bF (DN p N) H0 (H6.set n0 B):=λB r x hr hx=>by
   rw[hL7,if_neg]
   .exact hD6 r x hr hx
   .intro e;rw[e,hM.wf _ (Nat.le_refl _)]at hx;cases hx
  exact⟨hD7 _,hOk _ (n3+1) (by show n0<=n3+1;omega) (hD7 _) (MixH.put hM6 (hM.off (Nat.le_refl _)) hb6 _)⟩
theorem aC3{p:ProjR}(hp:PrjV p){A:List AudioR}(hA:AudP A)(N:LayN):∀(n i:Nat),eM p (i:Int)<n->Lj p A N i
 |0,i,h=>absurd h (by omega)
 |n+1,i,h=>λk hk hd ha=>pSample hp hA hk (aC3 hp hA N n k (by omega)) ha
theorem nestS{p:ProjR}(hp:PrjV p){A:List AudioR}(hA:AudP A)(N:LayN)(i:Nat):Lj p A N i:=aC3 hp hA N _ i (Nat.lt_succ_self _)
def Er(p:ProjR)(b:Nat->Nat)(k:Nat):List (Value×V):=(List.range k).map λi=>(.string (p.seqs.getD i default).name,.own (b i))
theorem Ba(p:ProjR)(b:Nat->Nat)(k:Nat):Er p b (k+1)=Er p b k++[(.string (p.seqs.getD k default).name,.own (b k))]:=by
 unfold Er;rw[List.range_succ,List.map_append];rfl
theorem aEt(p:ProjR){b b':Nat->Nat}{k:Nat}(h:∀i,i<k->b i=b' i):Er p b k=Er p b' k:=by
 unfold Er;refine List.map_congr_left λi hi=>?_
 rw[h i (List.mem_range.1 hi)]
theorem Qm{d:TypeDesc}:∀(l l':List (Value×V)),fP d (l++l')=(fP d l&&fP d l')
 |[],l'=>by simp[fP]
 |e::l,l'=>by simp only[List.cons_append,fP,Qm l l',Bool.and_assoc]
theorem Da(p:ProjR)(b:Nat->Nat):∀k,fP .string (Er p b k)=true
 |0=>rfl
 |k+1=>by
  rw[Ba,Qm,Da p b k];rfl
theorem Hx(v:Value):∀(l l':List (Value×V)),fX v (l++l')=(fX v l).or (fX v l')
 |[],l'=>by simp[fX]
 |e::l,l'=>by
  simp only[List.cons_append,fX];split
  .rfl
  .exact Hx v l l'
theorem Vk(n m:ByteArray)(x:V):fX (.string n) [(.string m,x)]=if n=m then some x else none:=by
 simp only[fX,pM,decide_eq_true_eq]
theorem Bb{p:ProjR}{b:Nat->Nat}{n:ByteArray}:∀{k:Nat},(∀i,i<k->(p.seqs.getD i default).name≠n)->fX (.string n) (Er p b k)=none
 |0,_=>rfl
 |k+1,h=>by
  rw[Ba,Hx,Bb (k:=k) (λi hi=>h i (by omega)),Vk,if_neg (λe=>h k (by omega) e.symm)];rfl
theorem aHv{p:ProjR}(hn:(p.seqs.map SequenceR.name).Nodup){i j:Nat}(hi:i<j)(hj:j<p.seqs.length):(p.seqs.getD i default).name≠(p.seqs.getD j default).name:=by
 have h:=List.pairwise_iff_getElem.1 hn i j (by rw[List.length_map];omega) (by rw[List.length_map];omega) hi;rw[List.getElem_map,List.getElem_map]at h;rwa[bB (show i<p.seqs.length by omega),bB hj]
theorem Uj{p:ProjR}(hn:(p.seqs.map SequenceR.name).Nodup){b:Nat->Nat}{i:Nat}:∀{k:Nat},i<k->k<=p.seqs.length->fX (.string (p.seqs.getD i default).name) (Er p b k)=some (.own (b i))
 |0,h,_=>absurd h (by omega)
 |k+1,h,hk=>by
  rw[Ba,Hx]
  by_cases e:i=k
  .subst e;rw[Bb (λj hj=>aHv hn hj (by omega)),Vk,if_pos rfl];rfl
  .rw[Uj hn (show i<k by omega) (by omega)];rfl
theorem aBm{v:Value}{x:V}:∀{l:List (Value×V)},fX v l=none->uE v x l=l++[(v,x)]
 |[],_=>rfl
 |e::l,h=>by
  simp only[fX]at h;split at h
  .cases h
  .rename_i hk;simp only[uE,List.cons_append];rw[if_neg hk,aBm h]
theorem aPq{p:ProjR}(hn:(p.seqs.map SequenceR.name).Nodup){b:Nat->Nat}{k x:Nat}(hk:k<p.seqs.length):uE (.string (p.seqs.getD k default).name) (.own x) (Er p b k)=Er p (λi=>if i=k then x else b i) (k+1):=by
 rw[aBm (Bb λj hj=>aHv hn hj hk),Ba,if_pos rfl,aEt p (b:=b) (b':=λi=>if i=k then x else b i) (λi hi=>by rw[if_neg (by omega)])]
theorem aL4{p:ProjR}{n:ByteArray}(h:gU p n<0):∀i,i<p.seqs.length->(p.seqs.getD i default).name≠n:=λi hi=>kQ.1 (Rd.1 h) _ (aW hi)
theorem aCb{l:List MediumR}(hn:(l.map MediumR.name).Nodup){k:Nat}(hk:k<l.length):Fg l (l.getD k default).name=some (l.getD k default):=by
 have key:∀e,mL MediumR.name (l.getD k default).name l=e->e=some (l.getD k default):=λe he=>by
  cases e with
  |none=>exact absurd rfl (kQ.1 he _ (aW hk))
  |some y=>
   obtain⟨h1,h2⟩:=qR he;obtain⟨j,hj,rfl⟩:=List.getElem_of_mem h1;have h3:(l.map MediumR.name)[j]'(by rw[List.length_map];exact hj)=(l.map MediumR.name)[k]'(by rw[List.length_map];exact hk):=by
    rw[List.getElem_map,List.getElem_map,h2,bB hk]
   have h4:=(List.getElem_inj hn).1 h3;subst h4;rw[bB hk]
 exact key _ rfl
