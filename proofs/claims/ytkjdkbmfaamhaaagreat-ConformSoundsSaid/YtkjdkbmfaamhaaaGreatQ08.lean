/- Proved here: Contracts of the reference's rational numbers, with their errors. -/
import Derived.Test.YtkjdkbmfaamhaaaGreatQ07
set_option linter.unusedSimpArgs false
set_option linter.unusedVariables false
set_option linter.unusedSectionVars false
set_option linter.unnecessarySimpa false
namespace Go.Proofs.YtkjdkbmfaamhaaaGreat
open Go.RowKit
set_option maxRecDepth 4000
theorem aPj(x y:Int)(hz:x*y=0->True):(bif (decide (0<(x*y).natAbs)&&(!(decide (x<0)==decide (y<0))))then -((x*y).natAbs:Int)else ((x*y).natAbs:Int))=x*y:=by
 have h:=aH1 x y;have e:decide (0<(x*y).natAbs)=decide (x*y≠0):=decide_eq_decide.2 (by omega);rw[e,Bool.and_comm,h]
 by_cases h0:x*y<0
 .rw[decide_eq_true h0,cond_true];omega
 .rw[decide_eq_false h0,cond_false];omega
theorem xL{n:Int}{g:Nat}(h:g ∣ n.natAbs):n.natAbs/g=(n/(g:Int)).natAbs:=by
 rw[Int.natAbs_ediv_of_dvd (Int.ofNat_dvd_left.2 h),Int.natAbs_natCast]
theorem Ge{n:Int}{g:Nat}(hg:0<g)(h:g ∣ n.natAbs):decide (n/(g:Int)<0)=decide (n<0):=by
 apply decide_eq_decide.2;obtain⟨k,hk⟩:=Int.ofNat_dvd_left.2 h;rw[hk,Int.mul_ediv_cancel_left _ (by omega)];constructor
 .intro h;exact Int.mul_neg_of_pos_of_neg (by omega) h
 .intro h;rcases Int.lt_or_le k 0 with h2|h2
  .exact h2
  .have:=Int.mul_nonneg (show(0:Int)<=g by omega) h2;omega
theorem aPh{a b:Int}(h:(!(decide (a<0)==decide (b<0)))=false):(a<0↔b<0):=by
 by_cases h1:a<0<;>by_cases h2:b<0<;>simp[h1,h2]at h ⊢
theorem aPk{a b:Int}(h:(!(decide (a<0)==decide (b<0)))=true): ¬(a<0↔b<0):=by
 by_cases h1:a<0<;>by_cases h2:b<0<;>simp[h1,h2]at h ⊢
theorem aS1(a b:Int):EqV Tryz.prog 179 [bD a,bD b] [bD 0,bD 0] (a==0&&b==0):=by
 intro w E vs us h1 h2;obtain⟨x1,x2,rfl,h1,h2'⟩:=Au h1;obtain⟨y1,y2,rfl,k1,k2⟩:=Au h2;rw[(aJ h1).1,(aJ h2').1,(aJ k1).1,(aJ k2).1];constructor
 .unfold Op.equal;simp[go_sem,Op.maxDepth]
  repeat' split
  all_goals simp_all
 .intro p q;unfold eqGuard;simp[Tryz.eqGuardType179]
theorem aGp(z:Nat):((((z/18446744073709551616:Nat):Int)==0)&&(((z%18446744073709551616:Nat):Int)==0))=decide (z=0):=by
 rw[Bool.eq_iff_iff];simp only[Bool.and_eq_true,decide_eq_true_eq,beq_iff_eq];omega
theorem aC6{n:Int}{k:Nat}(hk:1<=k):decide (n*(k:Int)<0)=decide (n<0):=by
 apply decide_eq_decide.2;constructor
 .intro h;rcases Int.lt_or_le n 0 with h2|h2
  .exact h2
  .have:=Int.mul_nonneg h2 (show(0:Int)<=k by omega);omega
 .intro h;exact Int.mul_neg_of_neg_of_pos h (by omega)
theorem aDs{p q:Rat}(hp':cH p=true)(hq':cH q=true):aL Tryz.prog 62 [bV (ofQ p),bV (ofQ q)] (kW (p*q)):=by
 obtain⟨fa,ha⟩:=eC hp';obtain⟨fb,hb⟩:=eC hq';obtain⟨pn,pd⟩:=dJ.1 hp';obtain⟨qn,qd⟩:=dJ.1 hq';obtain⟨mn,md⟩:=mulQ p q;have p0:=p.den_pos;have q0:=q.den_pos;have cpa:=uY _ fa;have cpb:=uY _ fb;rw[ha]at cpa;rw[hb]at cpb;have cma:=Gk p.num ⟨by omega,by omega⟩;have cmb:=Gk q.num ⟨by omega,by omega⟩;unfold ofQ at cpa cpb⊢;have hg1:0<Nat.gcd p.num.natAbs q.den:=Nat.gcd_pos_of_pos_right _ (by omega);have hg2:0<Nat.gcd q.num.natAbs p.den:=Nat.gcd_pos_of_pos_right _ (by omega);have hg1q:Nat.gcd p.num.natAbs q.den<=q.den:=Nat.gcd_le_right _ (by omega);have hg2p:Nat.gcd q.num.natAbs p.den<=p.den:=Nat.gcd_le_right _ (by omega);have x1:=xL (n:=p.num) (Nat.gcd_dvd_left p.num.natAbs q.den);have y1:=xL (n:=q.num) (Nat.gcd_dvd_left q.num.natAbs p.den);have sx:=Ge hg1 (Nat.gcd_dvd_left p.num.natAbs q.den);have sy:=Ge hg2 (Nat.gcd_dvd_left q.num.natAbs p.den);have x2:p.num.natAbs/Nat.gcd p.num.natAbs q.den<=p.num.natAbs:=Nat.div_le_self _ _;have y2:q.num.natAbs/Nat.gcd q.num.natAbs p.den<=q.num.natAbs:=Nat.div_le_self _ _;have d1:p.den/Nat.gcd q.num.natAbs p.den<=p.den:=Nat.div_le_self _ _;have d2:q.den/Nat.gcd p.num.natAbs q.den<=q.den:=Nat.div_le_self _ _;have cg1:=Jp p.num.natAbs q.den;have cg2:=Jp q.num.natAbs p.den;have hr:=Ez mn md;rw[<-hr];clear hr mn md;generalize p.num=an at*;generalize q.num=bn at*;generalize p.den=ad at*;generalize q.den=bd at*;generalize Nat.gcd an.natAbs bd=g1 at*;generalize Nat.gcd bn.natAbs ad=g2 at*;generalize hX:an/(g1:Int)=x at*;generalize hY:bn/(g2:Int)=y at*;generalize hP:ad/g2=p' at*;generalize hQ:bd/g1=q' at*;refine aF Tryz.X62 Tryz.func62 rfl Tryz.ntmps62 (by rw[Tryz.results62]) (aB _ ?_);simp only[go_sem,seval];refine⟨_,cpa,?_⟩;simp only[go_sem,seval];refine⟨_,cpb,?_⟩;simp only[go_sem,seval];refine bL [0,1,2,3,4,5,6,7,8,9,10,11,12,13,14,15] .done (h:=?_);simp only[go_sem,seval];refine⟨_,cma,?_⟩;simp only[go_sem,seval,bZ (n:=bd)];refine⟨_,cg1,?_⟩;simp only[go_sem,seval];refine⟨_,cmb,?_⟩;simp only[go_sem,seval,bZ (n:=ad)];refine⟨_,cg2,?_⟩;simp only[go_sem,seval];rw[x1]at x2;rw[y1]at y2;have ct:=Jn x.natAbs y.natAbs (by omega) (by omega);rw[<-Int.natAbs_mul]at ct;have cu:=Jn p' q' (by omega) (by omega);have sz:=aPj x y (λ_=>trivial);rw[sx,sy]at sz;have hz:(x*y).natAbs<18446744073709551616*18446744073709551616:=by rw[Int.natAbs_mul];exact Nat.mul_lt_mul'' (by omega) (by omega)
 have hw:p'*q'<18446744073709551616*18446744073709551616:=Nat.mul_lt_mul'' (by omega) (by omega);refine aQ 13 .done (h:=?_);simp only[go_sem,seval];refine⟨_,cma,?_⟩;simp only[go_sem,seval,cX,x1,wNU (n:=x.natAbs) (by omega)];refine⟨by omega,_,cmb,?_⟩;simp only[go_sem,seval,cX,y1,wNU (n:=y.natAbs) (by omega)];refine⟨by omega,_,ct,?_⟩;generalize x*y=z at*;simp only[go_sem,seval];refine⟨by kernel_rfl,?_⟩;refine aQ 13 .done (h:=?_);simp only[go_sem,seval,cX,hP,hQ,bZ (n:=ad),bZ (n:=bd),wNU (n:=p') (by omega),wNU (n:=q') (by omega)];refine⟨by omega,by omega,_,cu,?_⟩;generalize p'*q'=w at*;simp only[go_sem,seval];refine⟨by kernel_rfl,?_⟩;have zd:=Nat.div_add_mod z.natAbs 18446744073709551616;have wd:=Nat.div_add_mod w 18446744073709551616;have zm:=Nat.mod_lt z.natAbs (show 0<18446744073709551616 by decide);have wm:=Nat.mod_lt w (show 0<18446744073709551616 by decide);refine⟨λh1=>?_,λh1=>?_⟩
 .have:vqN z w=.tup [bV ⟨0,0⟩,aA 2]:=by
   unfold vqN;have:(decide (z.natAbs<=9223372036854775807)&&decide (w<=9223372036854775807))=false:=by
    rw[Bool.and_eq_false_iff,decide_eq_false_iff_not,decide_eq_false_iff_not];simp only[Bool.or_eq_true,decide_eq_true_eq]at h1;omega
   rw[this];rfl
  rw[this];unfold awS;simp only[go_sem,seval]
 .have h2:z.natAbs/18446744073709551616=0/\w/18446744073709551616=0:=by
   simp only[Bool.or_eq_false_iff,decide_eq_false_iff_not]at h1;omega
  rw[h2.1]at zd;rw[h2.2]at wd;have zl:z.natAbs%18446744073709551616=z.natAbs:=by omega
  have wl:w%18446744073709551616=w:=by omega
  have cm:=λs=>aTd s z.natAbs w (by omega) (by omega)
  unfold awS;simp only[go_sem,seval,zl,wl];refine⟨_,cm _,?_⟩;have e0:(decide ((z.natAbs:Int)>0))=decide (0<z.natAbs):=decide_eq_decide.2 (by omega);rw[e0,sz];unfold vqN
  by_cases hv:(decide (z.natAbs<=9223372036854775807)&&decide (w<=9223372036854775807))=true
  .rw[hv,cond_true];simp only[go_sem,seval]
  .rw[Bool.not_eq_true]at hv;rw[hv,cond_false];simp only[go_sem,seval]
set_option maxHeartbeats 4000000 in
theorem aSz{p q:Rat}(hp':cH p=true)(hq':cH q=true):aL Tryz.prog 107 [bV (ofQ p),bV (ofQ q)] (kW (p+q)):=by
 obtain⟨fa,ha⟩:=eC hp';obtain⟨fb,hb⟩:=eC hq';obtain⟨pn,pd⟩:=dJ.1 hp';obtain⟨qn,qd⟩:=dJ.1 hq';obtain⟨mn,md⟩:=addQ p q;have p0:=p.den_pos;have q0:=q.den_pos;have cpa:=uY _ fa;have cpb:=uY _ fb;rw[ha]at cpa;rw[hb]at cpb;have cma:=Gk p.num ⟨by omega,by omega⟩;have cmb:=Gk q.num ⟨by omega,by omega⟩;unfold ofQ at cpa cpb⊢;have hg:0<Nat.gcd p.den q.den:=Nat.gcd_pos_of_pos_right _ (by omega);have hgp:Nat.gcd p.den q.den<=p.den:=Nat.gcd_le_left _ (by omega);have hgq:Nat.gcd p.den q.den<=q.den:=Nat.gcd_le_right _ (by omega);have d1:p.den/Nat.gcd p.den q.den<=p.den:=Nat.div_le_self _ _;have d2:q.den/Nat.gcd p.den q.den<=q.den:=Nat.div_le_self _ _;have d3:1<=p.den/Nat.gcd p.den q.den:=Nat.div_pos hgp hg;have d4:1<=q.den/Nat.gcd p.den q.den:=Nat.div_pos hgq hg;have cg1:=Jp p.den q.den;have hz0:(p+q).num=0->(p+q).den=1:=λh=>by
  have:=Rat.num_eq_zero.1 h;rw[this];rfl
 rw[mn,md]at hz0;have hr:=Ez mn md;rw[<-hr];clear hr mn md;generalize p.num=an at*;generalize q.num=bn at*;generalize p.den=ad at*;generalize q.den=bd at*;generalize Nat.gcd ad bd=g at*;generalize hP:ad/g=p' at*;generalize hQ:bd/g=q' at*;refine aF Tryz.X107 Tryz.func107 rfl Tryz.ntmps107 (by rw[Tryz.results107]) (aB _ ?_);simp only[go_sem,seval];refine⟨_,cpa,?_⟩;simp only[go_sem,seval];refine⟨_,cpb,?_⟩;simp only[go_sem,seval,bZ (n:=ad),bZ (n:=bd)];refine⟨_,cg1,?_⟩;simp only[go_sem,seval];have b1:an.natAbs*q'<=9223372036854775807*9223372036854775807:=Nat.mul_le_mul pn (by omega);have b2:bn.natAbs*p'<=9223372036854775807*9223372036854775807:=Nat.mul_le_mul qn (by omega);have ct1:=Jn an.natAbs q' (by omega) (by omega);have ct2:=Jn bn.natAbs p' (by omega) (by omega);have e1:(an*(q':Int)).natAbs=an.natAbs*q':=by rw[Int.natAbs_mul,Int.natAbs_natCast]
 have e2:(bn*(p':Int)).natAbs=bn.natAbs*p':=by rw[Int.natAbs_mul,Int.natAbs_natCast]
 have s1:decide (an*(q':Int)<0)=decide (an<0):=aC6 d4;have s2:decide (bn*(p':Int)<0)=decide (bn<0):=aC6 d3;rw[<-e1]at b1 ct1;rw[<-e2]at b2 ct2;clear e1 e2;refine aQ 22 .done (h:=?_);simp only[go_sem,seval];refine⟨_,cma,?_⟩;simp only[go_sem,seval,cX,hQ,bZ (n:=bd),wNU (n:=q') (by omega)];refine⟨by omega,_,ct1,?_⟩;simp only[go_sem,seval];refine⟨_,cmb,?_⟩;simp only[go_sem,seval,cX,hP,bZ (n:=ad),wNU (n:=p') (by omega)];refine⟨by omega,_,ct2,?_⟩;generalize an*(q':Int)=X at*;generalize bn*(p':Int)=Y at*;simp only[go_sem,seval];refine⟨by kernel_rfl,?_⟩;have bS:X.natAbs+Y.natAbs<18446744073709551616*18446744073709551616:=by omega
 refine aQ 9 .done (h:=?_);simp only[go_sem,seval];refine⟨_,cRPlus X.natAbs Y.natAbs bS,?_⟩;simp only[go_sem,seval];refine⟨by kernel_rfl,?_⟩;have bT:(X+Y).natAbs<18446744073709551616*18446744073709551616:=by omega
 have t1:=decide_eq_decide.1 s1;have t2:=decide_eq_decide.1 s2;have cr:=cRRest (X+Y).natAbs g bT ⟨hg,by omega⟩;have hmod:Nat.gcd ((X+Y).natAbs%g) g=Nat.gcd (X+Y).natAbs g:=by rw[<-Nat.gcd_rec,Nat.gcd_comm]
 have cg:=Jp ((X+Y).natAbs%g) g;rw[hmod]at cg;have hh:0<Nat.gcd (X+Y).natAbs g:=Nat.gcd_pos_of_pos_right _ hg;have hhg:Nat.gcd (X+Y).natAbs g<=g:=Nat.gcd_le_right _ hg;have hhS:Nat.gcd (X+Y).natAbs g ∣ (X+Y).natAbs:=Nat.gcd_dvd_left _ _;have d5:bd/Nat.gcd (X+Y).natAbs g<=bd:=Nat.div_le_self _ _;clear hmod;generalize Nat.gcd (X+Y).natAbs g=h at*;have co:=aSs (X+Y).natAbs h bT ⟨hh,by omega⟩;have sq:=Ge hh hhS;have sz:=xL hhS;have szz:(X+Y).natAbs=0↔(X+Y)/(h:Int)=0:=by
  obtain⟨k,hk⟩:=Int.ofNat_dvd_left.2 hhS;rw[hk,Int.mul_ediv_cancel_left _ (by omega),Int.natAbs_mul,Int.natAbs_natCast,Nat.mul_eq_zero];omega
 generalize hQ2:bd/h=q2 at*;have cw:=Jn p' q2 (by omega) (by omega);have hw:p'*q2<18446744073709551616*18446744073709551616:=Nat.mul_lt_mul'' (by omega) (by omega);generalize p'*q2=w at*;refine⟨λh1=> ?ca,λh1=> ?cb⟩
 case' cb=>
  have h1':=aPh h1;unfold awS;simp only[go_sem,seval];have hM:X.natAbs+Y.natAbs=(X+Y).natAbs:=by omega
  have hfl:(X+Y).natAbs≠0->decide (an<0)=decide (X+Y<0):=λ_=>decide_eq_decide.2 (by omega)
  rw[hM];generalize decide (an<0)=fl at*;clear h1
 case' ca=>
  have h1':=aPk h1;unfold awS;simp only[go_sem,seval];refine⟨_,cRLess X.natAbs Y.natAbs,?_⟩;simp only[go_sem,seval];refine⟨λh2=> ?cc,λh2=> ?cd⟩
  case' cd=>
   simp only[bxx]at h2;unfold awS;simp only[go_sem,seval];refine⟨_,aJw X.natAbs Y.natAbs (by omega) (by omega),?_⟩;simp only[go_sem,seval];have hM:X.natAbs-Y.natAbs=(X+Y).natAbs:=by omega
   have hfl:(X+Y).natAbs≠0->decide (an<0)=decide (X+Y<0):=λ_=>decide_eq_decide.2 (by omega)
   rw[hM];generalize decide (an<0)=fl at*;clear h1 h2
  case' cc=>
   simp only[bxx]at h2;unfold awS;simp only[go_sem,seval];refine aQ 8 .done (h:=?_);simp only[go_sem,seval];refine⟨_,aJw Y.natAbs X.natAbs (by omega) (by omega),?_⟩;simp only[go_sem,seval];refine⟨by kernel_rfl,?_⟩;have hM:Y.natAbs-X.natAbs=(X+Y).natAbs:=by omega
   have hfl:(X+Y).natAbs≠0->decide (bn<0)=decide (X+Y<0):=λ_=>decide_eq_decide.2 (by omega)
   rw[hM];generalize decide (bn<0)=fl at*;clear h1 h2
 all_goals
  refine⟨_,cr,?_⟩;simp only[go_sem,seval];refine⟨_,cg,?_⟩;simp only[go_sem,seval];refine⟨_,co,?_⟩
  by_cases ho:(X+Y).natAbs/h<18446744073709551616
  .rw[aNr ho];simp only[go_sem,seval];refine aQ 13 .done (h:=?_);simp only[go_sem,seval,cX,hP,hQ2,bZ (n:=ad),bZ (n:=bd),wNU (n:=p') (by omega),wNU (n:=q2) (by omega)];refine⟨by omega,by omega,_,cw,?_⟩;simp only[go_sem,seval];refine⟨by kernel_rfl,?_⟩;have eq:=aS1 (((X+Y).natAbs/18446744073709551616:Nat):Int) (((X+Y).natAbs%18446744073709551616:Nat):Int);rw[aGp]at eq;refine⟨_,eq,λh3=>?_,λh3=>?_⟩
   .simp only[bxx]at h3;have h01:vqN 0 1=.tup [bV ⟨0,1⟩,aA 0]:=by kernel_rfl
    rw[szz.1 h3,hz0 (szz.1 h3),h01];unfold awS;simp only[go_sem,seval]
   .simp only[bxx]at h3;have wd:=Nat.div_add_mod w 18446744073709551616;have wm:=Nat.mod_lt w (show 0<18446744073709551616 by decide);rw[hfl h3,<-sq,sz];rw[sz]at ho;unfold awS;simp only[go_sem,seval];refine⟨λh4=>?_,λh4=>?_⟩
    .simp only[bxx]at h4;have:vqN ((X+Y)/(h:Int)) w=.tup [bV ⟨0,0⟩,aA 2]:=by
      unfold vqN;rw[decide_eq_false (show ¬w<=9223372036854775807 by omega),Bool.and_false];rfl
     rw[this];unfold awS;simp only[go_sem,seval]
    .simp only[bxx]at h4;have wl:w%18446744073709551616=w:=by omega
     have cm:=aTd (decide ((X+Y)/(h:Int)<0)) ((X+Y)/(h:Int)).natAbs w (by omega) (by omega);have e3:(bif decide ((X+Y)/(h:Int)<0)then -((((X+Y)/(h:Int)).natAbs:Nat):Int)else ((((X+Y)/(h:Int)).natAbs:Nat):Int))=(X+Y)/(h:Int):=by
      by_cases h0:(X+Y)/(h:Int)<0
      .rw[decide_eq_true h0,cond_true];omega
      .rw[decide_eq_false h0,cond_false];omega
     rw[e3]at cm;clear hfl hz0 sq sz szz cw cr co cg cma cmb cpa cpb cg1 e3;unfold awS;simp only[go_sem,seval,wl];refine⟨_,cm,?_⟩;unfold vqN
     by_cases hv:(decide (((X+Y)/(h:Int)).natAbs<=9223372036854775807)&&decide (w<=9223372036854775807))=true
     .rw[hv,cond_true];simp only[go_sem,seval]
     .rw[Bool.not_eq_true]at hv;rw[hv,cond_false];simp only[go_sem,seval]
  .rw[vov_f ho];simp only[go_sem,seval];refine aQ 13 .done (h:=?_);simp only[go_sem,seval,cX,hP,hQ2,bZ (n:=ad),bZ (n:=bd),wNU (n:=p') (by omega),wNU (n:=q2) (by omega)];refine⟨by omega,by omega,_,cw,?_⟩;simp only[go_sem,seval];refine⟨by kernel_rfl,?_⟩;have eq:=aS1 (((X+Y).natAbs/18446744073709551616:Nat):Int) (((X+Y).natAbs%18446744073709551616:Nat):Int);rw[aGp]at eq;refine⟨_,eq,λh3=>?_,λh3=>?_⟩
   .simp only[bxx]at h3;rw[h3,Nat.zero_div]at ho;exact absurd (by decide) ho
   .simp only[bxx]at h3;rw[sz]at ho;have:vqN ((X+Y)/(h:Int)) w=.tup [bV ⟨0,0⟩,aA 2]:=by
     unfold vqN;rw[decide_eq_false (show ¬((X+Y)/(h:Int)).natAbs<=9223372036854775807 by omega)];rfl
    rw[this];unfold awS;simp only[go_sem,seval]
theorem cRNeg(n d:Int)(hn : -9223372036854775808<n/\n<=9223372036854775807):aL Tryz.prog 108 [bV ⟨n,d⟩] (bV ⟨-n,d⟩):=by
 refine aF Tryz.X108 Tryz.func108 rfl Tryz.ntmps108 (by rw[Tryz.results108]) (aB _ ?_);simp only[go_sem,seval,Int.zero_sub,wrap64 (x:= -n)]
theorem cRSub{p q:Rat}(hp:cH p=true)(hq:cH q=true):aL Tryz.prog 64 [bV (ofQ p),bV (ofQ q)] (kW (p-q)):=by
 obtain⟨fb,hb⟩:=eC hq;obtain⟨qn,qd⟩:=dJ.1 hq;have cpb:=uY _ fb;rw[hb]at cpb;have h:=aSz hp (q:= -q) (by rw[aD1];exact hq);rw[aHr,<-Rat.sub_eq_add_neg]at h;have hn:=cRNeg q.num q.den (by omega);unfold ofQ at cpb h⊢;refine aF Tryz.X64 Tryz.func64 rfl Tryz.ntmps64 (by rw[Tryz.results64]) (aB _ ?_);simp only[go_sem,seval];refine⟨_,cpb,?_⟩;simp only[go_sem,seval];refine aQ 8 .done (h:=?_);simp only[go_sem,seval];refine⟨_,hn,?_⟩;simp only[go_sem,seval];refine⟨_,h,?_⟩
 by_cases hf:cH (p-q)=true
 .rw[mJ hf];simp only[go_sem,seval]
  kernel_rfl
 .rw[Bool.not_eq_true]at hf;rw[qD hf];simp only[go_sem,seval]
  kernel_rfl
theorem cRDiv{p:Rat}(hp:cH p=true)(n:Nat)(hn:1<=n)(hn2:n<9223372036854775808):
  aL Tryz.prog 109 [bV (ofQ p),bV ⟨n,1⟩] (kW (p*inv n)):=by
 obtain⟨fa,ha⟩:=eC hp;have cpa:=uY _ fa;rw[ha]at cpa;have hv:dA ⟨(n:Int),1⟩=true:=aA3 (by omega);have cpb:=uY ⟨(n:Int),1⟩ ⟨⟨by simp only;omega,by simp only;omega⟩,⟨by simp only;omega,by simp only;omega⟩⟩;rw[hv]at cpb;have hm:=aDs hp (aJ7 hn hn2);rw[Zd hn]at hm;have d1:((n:Int)==0)=false:=by rw[beq_eq_false_iff_ne];omega
 have d2:decide ((n:Int)<0)=false:=decide_eq_false (by omega);refine aF Tryz.X109 Tryz.func109 rfl Tryz.ntmps109 (by rw[Tryz.results109]) (aB _ ?_);simp only[go_sem,seval];refine⟨_,cpa,?_⟩;simp only[go_sem,seval];refine⟨_,cpb,?_⟩;simp only[go_sem,seval,d1,d2];refine⟨_,hm,?_⟩
 by_cases hf:cH (p*inv n)=true
 .rw[mJ hf];simp only[go_sem,seval]
 .rw[Bool.not_eq_true]at hf;rw[qD hf];simp only[go_sem,seval]
theorem aRr(n:Int)(d:Nat)(hd:1<=d):ofQ ((n:Rat)/((d:Int):Rat))=⟨bif decide (n≠0)&&decide (n<0)then -((n.natAbs/Nat.gcd n.natAbs d:Nat):Int)else ((n.natAbs/Nat.gcd n.natAbs d:Nat):Int),(d/Nat.gcd n.natAbs d:Nat)⟩:=by
 rw[zG n d hd];congr 1;have hg:0<Nat.gcd n.natAbs d:=Nat.gcd_pos_of_pos_right _ hd;have h1:=xL (Nat.gcd_dvd_left n.natAbs d);have h2:=decide_eq_decide.1 (Ge hg (Nat.gcd_dvd_left n.natAbs d));rw[h1];generalize n/((Nat.gcd n.natAbs d:Nat):Int)=q at *
 by_cases h:n<0
 .rw[decide_eq_true h,decide_eq_true (show n≠0 by omega)];show q = -(q.natAbs:Int)
  omega
 .rw[decide_eq_false h,Bool.and_false];show q=(q.natAbs:Int)
  omega
theorem cROf(n:Int)(d:Nat)(hd:1<=d)(hn:n.natAbs<=9223372036854775807)(hd2:d<=9223372036854775807):aL Tryz.prog 61 [aA n,aA d] (.tup [bV (ofQ ((n:Rat)/((d:Int):Rat))),aA 0]):=by
 have hg:0<Nat.gcd n.natAbs d:=Nat.gcd_pos_of_pos_right _ hd;have hgd:Nat.gcd n.natAbs d<=d:=Nat.gcd_le_right _ hd;have cmn:=Gk n ⟨by omega,by omega⟩;have cmd:=Gk d ⟨by omega,by omega⟩;rw[Int.natAbs_natCast]at cmd;have q1:n.natAbs/Nat.gcd n.natAbs d<=n.natAbs:=Nat.div_le_self _ _;have q2:d/Nat.gcd n.natAbs d<=d:=Nat.div_le_self _ _;have cg:=Jp n.natAbs d;rw[aRr n d hd];have d2:decide ((d:Int)<0)=false:=decide_eq_false (by omega);have d1:((d:Int)==0)=false:=by rw[beq_eq_false_iff_ne];omega
 generalize Nat.gcd n.natAbs d=g at*;have cm:=λs=>aTd s (n.natAbs/g) (d/g) (by omega) (by omega)
 generalize hM:n.natAbs/g=m at*;generalize hD:d/g=e at*;have e1:(!(n==0) && !(decide (n<0)==false))=(decide (n≠0)&&decide (n<0)):=by
  rw[Bool.eq_iff_iff];simp
 have hr:=λs=>(show vqN (bif s then -(m:Int)else m) e=.tup [bV ⟨bif s then -(m:Int)else m,e⟩,aA 0] by
  have hna:(bif s then -(m:Int)else (m:Int)).natAbs=m:=by
   cases s
   .exact Int.natAbs_natCast m
   .show(-(m:Int)).natAbs=m
    rw[Int.natAbs_neg,Int.natAbs_natCast]
  unfold vqN;rw[hna,decide_eq_true (show m<=9223372036854775807 by omega),decide_eq_true (show e<=9223372036854775807 by omega)];rfl)
 refine aF Tryz.X61 Tryz.func61 rfl Tryz.ntmps61 (by rw[Tryz.results61]) (aB _ ?_);simp only[go_sem,seval,d1];refine⟨_,cmn,?_⟩;simp only[go_sem,seval];refine⟨_,cmd,?_⟩;simp only[go_sem,seval];refine⟨_,cg,?_⟩;simp only[go_sem,seval];refine aQ 22 .done (h:=?_);simp only[go_sem,seval];refine⟨_,cmn,?_⟩;simp only[go_sem,seval,cX,hM,wNU (n:=m) (by omega)];refine⟨by omega,_,cmd,?_⟩;simp only[go_sem,seval,cX,hD,wNU (n:=e) (by omega),d2];refine⟨by omega,_,cm _,?_⟩;rw[hr];simp only[go_sem,seval];refine⟨by kernel_rfl,?_⟩;rw[show(n != 0 && !!decide (n<0))=(decide (¬n=0)&&decide (n<0)) by
  rw[Bool.eq_iff_iff];simp]
theorem cRFloor(r:RatR)(f:r.fit)(hv:dA r=true):aL Tryz.prog 138 [bV r] (aA (toQ r).floor):=by
 have hd:=dF hv;have fn:=f.num;have fd:=f.den.2;have fn2:=Mv hv;have fn3:=fn.2;rw[Vy hv,Na (show 0<r.den by omega)];have q0:(r.num.tdiv r.den).natAbs<=r.num.natAbs:=by rw[Int.natAbs_tdiv];exact Nat.div_le_self _ _
 have q1:(r.num.tmod r.den).natAbs<=r.num.natAbs:=by rw[Int.natAbs_tmod];exact Nat.mod_le _ _
 refine aF Tryz.X138 Tryz.func138 rfl Tryz.ntmps138 (by rw[Tryz.results138]) (aB _ ?_);simp only[go_sem,seval];refine⟨_,uY r f,?_⟩;simp only[go_sem,seval,hv];refine⟨by omega,?_⟩;generalize r.num.tdiv r.den=q at*;generalize r.num.tmod r.den=m at*;simp only[go_sem,seval,wrap64 (x:=q)];refine⟨by omega,λh=>?_,λh=>?_⟩
 .simp only[bxx]at h;unfold awS;simp only[go_sem,seval,wrap64 (x:=q-1)];rw[if_pos (by omega)]
 .simp only[bxx]at h;unfold awS;simp only[go_sem,seval];rw[if_neg (by omega)]
theorem aJt(s:Bool)(q:Nat)(h:q<=9223372036854775807\/(s=true/\q=9223372036854775808)):aL Tryz.prog 140 [aR s,bD q] (.tup [aA (bif s then -(q:Int)else q),aR true]):=by
 refine aF Tryz.X140 Tryz.func140 rfl Tryz.ntmps140 (by rw[Tryz.results140]) (aB _ ?_);cases s
 .have h':q<=9223372036854775807:=by simpa using h
  simp only[go_sem,seval,fC (n:=q),show decide ((q:Int)<=9223372036854775807)=true from decide_eq_true (by omega)]
 .simp only[go_sem,seval];refine⟨λh1=>?_,λh1=>?_⟩
  .simp only[bxx]at h1;have:q=9223372036854775808:=by omega
   subst this;unfold awS;simp only[go_sem,seval]
  .simp only[bxx]at h1;have h':q<=9223372036854775807:=by simp at h;omega
   have w1:IntKind.i64.wrap (0-(q:Int)) = -(q:Int):=by rw[wrap64 (by omega) (by omega)];omega
   unfold awS;simp only[go_sem,seval,fC (n:=q),w1,show decide ((q:Int)<=9223372036854775807)=true from decide_eq_true (by omega)]
theorem or63{k:Nat}(h:k<=9223372036854775808):k<=9223372036854775807\/(true=true/\k=9223372036854775808):=by
 by_cases h1:k<=9223372036854775807
 .exact Or.inl h1
 .exact Or.inr ⟨rfl,by omega⟩
theorem aDr(x n:Int)(d:Nat)(hx:I64 x)(hn:I64 n)(hd:1<=d)(hd2:d<9223372036854775808)(hf:mD (x*n/(d:Int))=true):
  aL Tryz.prog 112 [aA x,aA n,aA d] (.tup [aA (x*n/(d:Int)),aA (x*n%(d:Int)),aA 0]):=by
 have hz:=Pg hx hn;obtain⟨x1,x2⟩:=hx;obtain⟨n1,n2⟩:=hn;have r0:=Int.emod_nonneg (x*n) (show(d:Int)≠0 by omega);have r1:=Int.emod_lt_of_pos (x*n) (show(0:Int)<d by omega);have hpos:=λh=>aHa (z:=x*n) (d:=d) h
 have hneg:=λh=>aHb (z:=x*n) (d:=d) h hd
 have ct:=Jn x.natAbs n.natAbs (by omega) (by omega);rw[<-Int.natAbs_mul]at ct;have co:=aSs (x*n).natAbs d hz ⟨hd,by omega⟩;have hrd:=Nat.mod_lt (x*n).natAbs (show 0<d by omega);have hz0:x*n<0->(decide (x<0)==decide (n<0))=false:=λh=>by
  by_cases h1:x<0<;>by_cases h2:n<0
  .have:0<=x*n:=Int.mul_nonneg_of_nonpos_of_nonpos (by omega) (by omega);omega
  .simp[h1,h2]
  .simp[h1,h2]
  .have:0<=x*n:=Int.mul_nonneg (by omega) (by omega);omega
 have hz1:0<x*n->(decide (x<0)==decide (n<0))=true:=λh=>by
  by_cases h1:x<0<;>by_cases h2:n<0
  .simp[h1,h2]
  .have:x*n<=0:=Int.mul_nonpos_of_nonpos_of_nonneg (by omega) (by omega);omega
  .have:x*n<=0:=Int.mul_nonpos_of_nonneg_of_nonpos (by omega) (by omega);omega
  .simp[h1,h2]
 unfold mD at hf;rw[Bool.and_eq_true,decide_eq_true_eq,decide_eq_true_eq]at hf;generalize x*n=z at*;generalize hs:(decide (x<0)==decide (n<0))=s at*;have hk:z.natAbs/d<=9223372036854775808:=by
  rcases Int.lt_or_le z 0 with h0|h0
  .rcases Nat.eq_zero_or_pos (z.natAbs%d)with h1|h1
   .have:=((hneg h0).1 h1).1;omega
   .have:=((hneg h0).2 h1).1;omega
  .have:=(hpos h0).1;omega
 rw[aNr (by omega)]at co;have cmx:=Gk x ⟨x1,x2⟩;have cmn:=Gk n ⟨n1,n2⟩;refine aF Tryz.X112 Tryz.func112 rfl Tryz.ntmps112 (by rw[Tryz.results112]) (aB _ ?_);simp only[go_sem,seval];refine⟨λh2=>?_,λh2=>?_⟩
 .simp only[bxx]at h2;omega
 unfold awS;simp only[go_sem,seval];refine⟨_,cmx,?_⟩;simp only[go_sem,seval];refine⟨_,cmn,?_⟩;simp only[go_sem,seval];refine⟨_,ct,?_⟩;simp only[go_sem,seval,bZ (n:=d)];refine⟨_,co,?_⟩;simp only[go_sem,seval,hs,show decide (((z.natAbs/d:Nat):Int)>9223372036854775808)=false from decide_eq_false (by omega)];have hk0:=hneg;have hrz:z=0->z.natAbs/d=0/\z.natAbs%d=0:=λh=>by subst h;exact⟨Nat.zero_div d,Nat.zero_mod d⟩
 generalize z.natAbs/d=k at*;generalize z.natAbs%d=r at*;generalize z/(d:Int)=q at*;generalize z%(d:Int)=m at*;refine⟨λh3=>?_,λh3=>?_⟩
 .simp only[Bool.and_eq_true,decide_eq_true_eq,Bool.not_eq_true']at h3;obtain⟨h3,h4⟩:=h3;subst h3;have hneg0:z<0:=by
   rcases Int.lt_trichotomy z 0 with h|h|h
   .exact h
   .have:=hrz h;omega
   .exact absurd (hz1 h) (by decide)
  obtain⟨e1,e2⟩:=(hneg hneg0).2 (by omega);have w1:IntKind.u64.wrap ((k:Int)+1)=((k+1:Nat):Int):=by rw[cZ (by omega) (by omega)];omega
  have w2:IntKind.u64.wrap ((d:Int)-(r:Int))=(d:Int)-r:=cZ;have w3:IntKind.i64.wrap ((d:Int)-(r:Int))=(d:Int)-r:=wrap64;have cs:=aJt true (k+1) (or63 (by omega));have e3:(bif true then -((k+1:Nat):Int)else ((k+1:Nat):Int))=q:=by rw[cond_true];omega
  rw[e3]at cs;rw[e2];unfold awS;simp only[go_sem,seval,w1,w2,bZ (n:=d)];refine⟨_,cs,?_⟩;simp only[go_sem,seval,w3]
 .have hq:(bif !s then -(k:Int)else (k:Int))=q/\(r:Int)=m/\(k<=9223372036854775807\/((!s)=true/\k=9223372036854775808)):=by
   cases s
   .have h4:r=0:=by simp at h3;omega
    simp only[Bool.not_false,cond_true];rcases Int.lt_trichotomy z 0 with h|h|h
    .obtain⟨e1,e2⟩:=(hneg h).1 h4;exact⟨by omega,by omega,by simpa using or63 (k:=k) (by omega)⟩
    .have:=hrz h;have:=hpos (by omega);exact⟨by omega,by omega,by simpa using or63 (k:=k) (by omega)⟩
    .exact absurd (hz1 h) (by decide)
   .simp only[Bool.not_true,cond_false];rcases Int.lt_trichotomy z 0 with h|h|h
    .exact absurd (hz0 h) (by decide)
    .have:=hpos (by omega);exact⟨by omega,by omega,Or.inl (by omega)⟩
    .have:=hpos (by omega);exact⟨by omega,by omega,Or.inl (by omega)⟩
  obtain⟨e1,e2,e3⟩:=hq;have cs:=aJt (!s) k e3;rw[e1]at cs;unfold awS;simp only[go_sem,seval];refine⟨_,cs,?_⟩;simp only[go_sem,seval,fC (n:=r)];rw[e2]
theorem aDu(x n:Int)(d:Nat)(hx:I64 x)(hn:I64 n)(hd:1<=d)(hd2:d<9223372036854775808)(hq : -9223372036854775808<=x*n/(d:Int)/\x*n/(d:Int)<9223372036854775807):
  aL Tryz.prog 111 [aA x,bV ⟨n,d⟩] (aA (gK x n d)):=by
 have r0:=Int.emod_nonneg (x*n) (show(d:Int)≠0 by omega);have r1:=Int.emod_lt_of_pos (x*n) (show(0:Int)<d by omega);have hf:mD (x*n/(d:Int))=true:=by
  unfold mD;rw[decide_eq_true (by omega),decide_eq_true (by omega)];rfl
 have hm:=aDr x n d hx hn hd hd2 hf;unfold gK;generalize x*n/(d:Int)=q at*;generalize x*n%(d:Int)=r at*;refine aF Tryz.X111 Tryz.func111 rfl Tryz.ntmps111 (by rw[Tryz.results111]) (aB _ ?_);simp only[go_sem,seval];refine⟨_,hm,?_⟩;simp only[go_sem,seval,wrap64 (x:=(d:Int)-r)];refine⟨λh=>?_,λh=>?_⟩
 .simp only[bxx]at h;unfold awS;simp only[go_sem,seval,wrap64 (x:=q+1)];rw[if_pos (by omega)]
 .simp only[bxx]at h;unfold awS;simp only[go_sem,seval];rw[if_neg (by omega)]
theorem Xq(r:RatR)(f:r.fit):fR r=(!(decide (r.num<1)||decide (r.num>1048576)||decide (r.den<1)||decide (r.den>65536))&&decide (Nat.gcd r.num.natAbs r.den.natAbs=1)):=by
 unfold fR dA;rw[Bool.eq_iff_iff];simp only[Bool.and_eq_true,Bool.not_eq_true',Bool.or_eq_false_iff,decide_eq_true_eq,decide_eq_false_iff_not];omega
theorem aDp(r:RatR)(f:r.fit):aL Tryz.prog 59 [bV r] (aR (fR r)):=by
 rw[Xq r f];refine aF Tryz.X59 Tryz.func59 rfl Tryz.ntmps59 (by rw[Tryz.results59]) (aB _ ?_);simp only[go_sem,seval];refine⟨λh=>?_,λh=>?_⟩
 .rw[h];unfold awS;simp only[go_sem,seval]
 .rw[h];simp only[Bool.or_eq_false_iff,decide_eq_false_iff_not]at h;obtain⟨n,hn⟩:=eF (n:=r.num) (by omega);obtain⟨d,hd⟩:=eF (n:=r.den) (by omega);rw[hn,hd];unfold awS;simp only[go_sem,seval,Int.natAbs_natCast];refine bL [0,1,2,3,4,5] .done (h:=?_);simp only[go_sem,seval];refine aE (λ(x:Nat×Nat) σ=>bP 3 (aA x.1) (bP 4 (aA x.2) σ)) (λx=>Nat.gcd x.1 x.2=Nat.gcd n d/\x.1<=1048576/\x.2<=1048576) (λx=>x.2) (n,d) (aC ?_) ⟨rfl,by omega,by omega⟩ ?_
  .simp only[go_sem,seval];exact λp hp=>absurd hp (by simp)
  .rintro⟨x,y⟩ ⟨hg,hx1,hy1⟩;simp only at hg hx1 hy1;refine aB _ ?_;simp only[go_sem,seval];refine brW (b:=!decide (y=0)) ?_ ⟨λhb=>?_,λhb=>?_⟩
   .rw[Bool.eq_iff_iff];simp only[bxx];omega
   .unfold awS;simp only[go_sem,seval];have hy:y≠0:=by simpa using hb
    refine bL [0,1,2,3,4,5] .done (h:=?_);simp only[go_sem,seval];have:=Nat.mod_lt x (show 0<y by omega);refine⟨by omega,(y,x%y),aC ?_,⟨?_,by simp only;omega,by simp only;omega⟩,Nat.mod_lt _ (by omega)⟩
    .simp only[go_sem,seval,gT];exact λp hp=>absurd hp (by simp)
    .simp only;rw[<-hg,Nat.gcd_comm x y,Nat.gcd_rec y x,Nat.gcd_comm]
   .unfold awS;simp only[go_sem,seval];have hy:y=0:=by simpa using hb
    subst hy;rw[Nat.gcd_zero_right]at hg;exact congrArg (λb=>V.t (T.lit (.bool b))) (by rw[Bool.eq_iff_iff,beq_iff_eq,decide_eq_true_eq];omega)
theorem qX(r:RatR)(f:r.fit):aL Tryz.prog 24 [bV r] (aR (bG r)):=by
 have e:(fR r&&decide (r.num<=IntKind.i64.wrap (240*r.den)))=bG r:=by
  unfold bG
  by_cases h:fR r=true
  .have h2:=h;unfold fR at h2;simp only[Bool.and_eq_true,decide_eq_true_eq]at h2;have:=dF h2.1.1.1;rw[wrap64 (x:=240*r.den)]
  .rw[Bool.not_eq_true]at h;rw[h,Bool.false_and,Bool.false_and]
 refine aF Tryz.X24 Tryz.func24 rfl Tryz.ntmps24 (by rw[Tryz.results24]) (aB _ ?_);simp only[go_sem,seval];refine⟨_,aJr r f,?_⟩;simp only[go_sem,seval,e]
theorem Wu(r:RatR)(f:r.fit):aL Tryz.prog 29 [bV r] (aR (bG r)):=by
 have e:(fR r&&decide (r.num<=IntKind.i64.wrap (240*r.den)))=bG r:=by
  unfold bG
  by_cases h:fR r=true
  .have h2:=h;unfold fR at h2;simp only[Bool.and_eq_true,decide_eq_true_eq]at h2;have:=dF h2.1.1.1;rw[wrap64 (x:=240*r.den)]
  .rw[Bool.not_eq_true]at h;rw[h,Bool.false_and,Bool.false_and]
 refine aF Tryz.X29 Tryz.func29 rfl Tryz.ntmps29 (by rw[Tryz.results29]) (aB _ ?_);simp only[go_sem,seval];refine⟨_,aDp r f,?_⟩;simp only[go_sem,seval,e]
theorem aQf{n d q:Int}(hd:1<=d)(h1:q*d<n)(h2:n<=(q+1)*d):(n-1)/d=q:=by
 have e:=Int.mul_ediv_add_emod (n-1) d;have m0:=Int.emod_nonneg (n-1) (show d≠0 by omega);have m1:=Int.emod_lt_of_pos (n-1) (show 0<d by omega);generalize(n-1)/d=u at*;generalize(n-1)%d=v at*;rw[Int.add_mul,Int.one_mul]at h2;rw[Int.mul_comm]at e;have h3:(q-u)*d<d:=by rw[Int.sub_mul];omega
 have h4 : -d<(q-u)*d:=by rw[Int.sub_mul];omega
 have h5:q-u<1:=by
  refine Int.lt_of_mul_lt_mul_right (a:=d) ?_ (by omega);omega
 have h6 : -1<q-u:=by
  refine Int.lt_of_mul_lt_mul_right (a:=d) ?_ (by omega);omega
 omega
theorem cROwner(s:Int)(r:RatR)(f:r.fit)(hu:fR r=true)(hs : -1099511627776<=s/\s<=1099511627776):
  aL Tryz.prog 60 [aA s,bV r] (.tup [aA (tM r s),aA 0]):=by
 have hu2:=hu;unfold fR at hu2;simp only[Bool.and_eq_true,decide_eq_true_eq]at hu2;obtain⟨⟨⟨hv,h1⟩,h2⟩,h3⟩:=hu2;have hd:=dF hv;have cu:=aDp r f;rw[hu]at cu;have hm : -2305843009213693953*2<=(2*s+1)*r.num/\(2*s+1)*r.num<=2305843009213693953*2:=by
  have a1:(2*s+1).natAbs<=2199023255553:=by omega
  have a2:r.num.natAbs<=1048576:=by omega
  have a3:((2*s+1)*r.num).natAbs<=2199023255553*1048576:=by rw[Int.natAbs_mul];exact Nat.mul_le_mul a1 a2
  omega
 unfold tM;refine aF Tryz.X60 Tryz.func60 rfl Tryz.ntmps60 (by rw[Tryz.results60]) (aB _ ?_);simp only[go_sem,seval];refine⟨_,cu,?_⟩;simp only[go_sem,seval];refine⟨λh=>?_,λh=>?_⟩
 .simp only[bxx]at h;omega
 unfold awS;simp only[go_sem,seval];refine bL [0,1,2,3,4,5,6,7,8,9,10] .done (h:=?_);simp only[go_sem,seval,wrap64 (x:=2*s),wrap64 (x:=2*s+1),wrap64 (x:=(2*s+1)*r.num),wrap64 (x:=96000*r.den)];have hd1:1<=96000*r.den:=by omega
 have hd2:96000*r.den<=6291456000:=by omega
 generalize 96000*r.den=d at*;generalize(2*s+1)*r.num=n at*;have q1:(n.tdiv d).natAbs<=n.natAbs:=by rw[Int.natAbs_tdiv];exact Nat.div_le_self _ _
 have eq1:=Int.mul_tdiv_add_tmod n d;have t1:(n.tmod d).natAbs<d.natAbs:=by rw[Int.natAbs_tmod];exact Nat.mod_lt _ (by omega)
 rw[Int.mul_comm]at eq1;generalize n.tdiv d=q0 at*;generalize n.tmod d=r0 at*;rw[wrap64 (x:=q0)];refine⟨by omega,?_⟩;refine aE (λ(x:Int) σ=>bP 8 (aA x) σ) (λx=>x.natAbs<=n.natAbs+1/\x*d<n+d/\n-d<=x*d) (λx=>(n-x*d).toNat) q0 (aC ?_) ⟨by omega,by omega,by omega⟩ ?_
 .simp only[go_sem,seval];exact λp hp=>absurd hp (by simp)
 .rintro x ⟨x1,x2,x3⟩;refine aB _ ?_;simp only[go_sem,seval,wrap64 (x:=x*d)];refine brW (b:=decide (x*d<n)) ?_ ⟨λhb=>?_,λhb=>?_⟩
  .rfl
  .simp only[bxx]at hb;unfold awS;simp only[go_sem,seval,wrap64 (x:=x+1)];have e1:(x+1)*d=x*d+d:=by rw[Int.add_mul,Int.one_mul]
   have hx3:(x+1).natAbs<=n.natAbs+1:=by
    rcases Int.lt_or_le x 0 with h|h
    .omega
    .have:x*1<=x*d:=Int.mul_le_mul_of_nonneg_left hd1 h;omega
   refine⟨x+1,aC ?_,⟨hx3,by omega,by omega⟩,by omega⟩;simp only[go_sem,seval];exact λp hp=>absurd hp (by simp)
  .simp only[bxx]at hb;unfold awS;simp only[go_sem,seval];refine aE (λ(y:Int) σ=>bP 8 (aA y) σ) (λy=>y*d<n+d/\n-d<=y*d) (λy=>(y*d-n+d).toNat) x (aC ?_) ⟨by omega,by omega⟩ ?_
   .simp only[go_sem,seval];exact λp hp=>absurd hp (by simp)
   .rintro y ⟨y2,y3⟩;have yb:y.natAbs<=(y*d).natAbs:=by
     rw[Int.natAbs_mul];exact Nat.le_mul_of_pos_right _ (by omega)
    refine aB _ ?_;simp only[go_sem,seval,wrap64 (x:=y*d)];refine brW (b:=decide (y*d>=n)) ?_ ⟨λhb=>?_,λhb=>?_⟩
    .rfl
    .simp only[bxx]at hb;unfold awS;simp only[go_sem,seval,wrap64 (x:=y-1)];have e1:(y-1)*d=y*d-d:=by rw[Int.sub_mul,Int.one_mul]
     refine⟨y-1,aC ?_,⟨by omega,by omega⟩,by omega⟩;simp only[go_sem,seval];exact λp hp=>absurd hp (by simp)
    .simp only[bxx]at hb;unfold awS;simp only[go_sem,seval];have e1:(y+1)*d=y*d+d:=by rw[Int.add_mul,Int.one_mul]
     rw[aQf (q:=y) hd1 (by omega) (by omega)]
def uZ(t:List ClipR):List Int:=(List.range t.length).map λi=>cJ (t.take i)
def Xs(t:List ClipR):List T:=[jC t,cM (uZ t),ti (cJ t)]
abbrev aNp (t:List ClipR):V:=.agg [.t (jC t),.t (cM (uZ t)),aA (cJ t)]
theorem Gp(t:List ClipR):(uZ t).length=t.length:=by unfold uZ;simp
theorem aDx{t:List ClipR}{x:Nat}(h:x<t.length)(d:List T):nth d ((uZ t).map eB) x=[ti (cJ (t.take x))]:=by
 unfold nth uZ;rw[List.getElem?_map,List.getElem?_map,List.getElem?_range h];rfl
theorem aMz{t:List ClipR}{k:Nat}(h:k<t.length):uZ (t.take (k+1))=uZ (t.take k)++[cJ (t.take k)]:=by
 unfold uZ;rw[List.length_take,List.length_take,Nat.min_eq_left (by omega),Nat.min_eq_left (by omega),List.range_succ,List.map_append];congr 1
 .refine List.map_congr_left λi hi=>?_
  rw[List.mem_range]at hi;rw[List.take_take,List.take_take,Nat.min_eq_left (by omega),Nat.min_eq_left (by omega)]
 .simp[List.take_take]
theorem aMu(t:List ClipR)(hv:cL t=true):aL Tryz.prog 44 [.t (jC t)] (aNp t):=by
  have hv':=hv;unfold cL at hv';simp only[Bool.and_eq_true,decide_eq_true_eq,List.all_eq_true]at hv';obtain⟨⟨h64,hvc⟩,hsum⟩:=hv';have hpos : ∀c ∈ t,1<=c.len/\c.len<=2147483647:=λc hc=>fD (hvc c hc)
  refine aF Tryz.X44 Tryz.func44 rfl Tryz.ntmps44 (by rw[Tryz.results44]) (aB _ ?_);simp only[go_sem,seval];refine aE (λ(k:Nat) σ=>{ fr:=(aY [5,11,12,13,14,15,16,17,18,19,20,21,22,23,24,25,26,27] (bP 10 (aA k) σ)).fr,h:= [(2,.row 2 1 (eB 0) (aS ((uZ (t.take k)).map eB))),(1,.box [.t (jC t),.own 2,aA (cJ (t.take k))]),(0,.box [.t (.lit (.slice none 0 0)),.t (.lit (.slice none 0 0)),aA 0])],nx:=3 })
    (λk=>k<=t.length) (λk=>t.length-k) 0 (cA [(2,none),(1,some 1),(0,some 0)] ?_) (Nat.zero_le _) ?_
  · simp only[go_sem,seval] <;> simp[aS,uZ,aAa]
  · intro k hk
    refine aB _ ?_;simp only[go_sem,seval];refine⟨λhlt=> ?_,λhge=> ?_⟩
    · simp only[bxx]at hlt
      have hkl:k<t.length:=by omega
      have tk:=pV t k hkl;have b0:=sZ (t.take k) λc hc=>hpos c (List.mem_of_mem_take hc)
      have b1:=sZ (t.take (k+1)) λc hc=>hpos c (List.mem_of_mem_take hc)
      have hlt':(t.take k).length=k:=by rw[List.length_take]; omega
      have hw:IntKind.i64.wrap (cJ (t.take k)+(t.getD k default).len)=cJ (t.take (k+1)):=by
        rw[<-tk,wrap64 (by omega) (by have:(t.take (k+1)).length<=64:=(by rw[List.length_take];omega);omega)]
      have hel:(uZ (t.take k)).length=k:=by rw[Gp,hlt']
      have hwk:IntKind.i64.wrap ((k:Int)+1)=((k+1:Nat):Int):=by rw[bJ (by omega)]; omega
      unfold awS;simp only[go_sem,seval,hw];refine⟨⟨by omega,by omega⟩,⟨by unfold maxLen; omega,by omega⟩,k+1,cA [(2,some 5),(1,some 1),(0,some 0)] ?_,by omega,by omega⟩;simp only[go_sem,seval,hwk];rw[aMz hkl,List.map_append];exact⟨by simp,rfl,by simp⟩
    · simp only[bxx]at hge
      have:k=t.length:=by omega
      subst this;unfold awS;simp only[go_sem,seval,List.take_length]
abbrev capT (t:List ClipR):V:=.elem 3 (Xs t) [Xs t] 0 0
theorem cLessB(t:List ClipR)(n:Int){x:Nat}(hx:x<t.length):aL Tryz.prog 88 [aA x,capT t,capN n] (aR (decide (n<cJ (t.take x)))):=by
 refine aF Tryz.X88 Tryz.func88 rfl Tryz.ntmps88 (by rw[Tryz.results88]) (aB _ ?_);simp only[go_sem,seval];refine bL [0,1,2,3,4,5,6,7] .done (h:=?_);simp only[go_sem,seval,Mc,Xs,aDx hx,Gp];omega
theorem aSj(t:List ClipR)(n:Int)(r:Nat)(h64:t.length<=64)(hr:r<=t.length)(h1:∀x,x<r->cJ (t.take x)<=n)(h2:∀x,r<=x->x<t.length->n<cJ (t.take x)):
  aL Tryz.prog 87 [aA t.length,.clo 88 [capT t,capN n]] (aA r):=by
 refine aF Tryz.X87 Tryz.func87 rfl Tryz.ntmps87 (by rw[Tryz.results87]) (aB _ ?_);simp only[go_sem,seval];refine aE (λ(x:Nat×Nat) σ=>bP 5 (aA x.1) (bP 6 (aA x.2) (aY [7,9,10,11,12,13,14,15,16,17,18,19,20,21,22,23,24] σ))) (λx=>x.1<=r/\r<=x.2/\x.2<=t.length) (λx=>x.2-x.1) (0,t.length) (aC ?_) ⟨Nat.zero_le _,hr,Nat.le_refl _⟩ ?_
 .simp only[go_sem,seval]<;>simp
 .rintro⟨i,j⟩ ⟨hi,hj,hjl⟩;simp only at hi hj hjl;refine aB _ ?_;simp only[go_sem,seval];refine⟨λhlt=>?_,λhge=>?_⟩
  .simp only[bxx]at hlt;have w1:IntKind.i64.wrap ((i:Int)+(j:Int))=((i+j:Nat):Int):=by rw[wrap64 (by omega) (by omega)];omega
   have w2:IntKind.u64.wrap ((i+j:Nat):Int)=((i+j:Nat):Int):=wNU (by omega);have p2:(2:Int) ^ min (Int.toNat 1) 64=2:=by decide
   have p3:(2:Int) ^ min 1 64=2:=by decide
   have d2:((i+j:Nat):Int)/2=(((i+j)/2:Nat):Int):=rfl;have w3:IntKind.i64.wrap (((i+j)/2:Nat):Int)=(((i+j)/2:Nat):Int):=fC;have hh1:i<=(i+j)/2:=by omega
   have hh2:(i+j)/2<j:=by omega
   unfold awS;simp only[go_sem,seval,w1,w2,p3,d2,w3];obtain⟨x,hx⟩:∃x,x=(i+j)/2:=⟨_,rfl⟩
   rw[<-hx]at hh1 hh2⊢;refine qP (cLessB t n (x:=x) (by omega)) rfl ?_;simp only[go_sem,seval];refine⟨λh3=>?_,λh3=>?_⟩
   .simp only[bxx]at h3;have hxr:x<r:=by
     rcases Nat.lt_or_ge x r with h4|h4
     .exact h4
     .exact absurd (h2 x h4 (by omega)) h3
    unfold awS;simp only[go_sem,seval];refine⟨(x+1,j),aC ?_,⟨by simp only;omega,hj,hjl⟩,by simp only;omega⟩;simp only[go_sem,seval]<;>simp[bJ (show x<9223372036854775807 by omega)]
   .have h3':n<cJ (t.take x):=by simpa using h3
    have hxr:r<=x:=by
     rcases Nat.lt_or_ge x r with h4|h4
     .have:=h1 x h4;omega
     .exact h4
    unfold awS;simp only[go_sem,seval];refine⟨(i,x),aC ?_,⟨hi,hxr,by simp only;omega⟩,by simp only;omega⟩;simp only[go_sem,seval]
  .simp only[bxx]at hge;have:i=r:=by omega
   subst this;unfold awS;simp only[go_sem,seval]
abbrev aF8:V:=.tup [.agg zVs,aA 0,aR false]
theorem cAtOut(t:List ClipR)(f:Int)(h:f<0\/cJ t<=f):aL Tryz.prog 50 [aNp t,aA f] aF8:=by
 refine aF Tryz.X50 Tryz.func50 rfl Tryz.ntmps50 (by rw[Tryz.results50]) (aB _ ?_);simp only[go_sem,seval];refine⟨λh2=>?_,λh2=>?_⟩
 .unfold awS;simp only[go_sem,seval];exact⟨rfl,rfl⟩
 .exfalso;simp only[bxx]at h2;omega
theorem pW{t:List ClipR}(hp:∀c∈t,1<=c.len):∀(j i:Nat),i<=j->j<=t.length->cJ (t.take i)<=cJ (t.take j)
 |0,i,h,_=>by
  have:i=0:=by omega
  subst this;exact Int.le_refl _
 |j+1,i,h,hj=>by
  rcases Nat.lt_or_ge i (j+1)with h1|h1
  .have h2:=pW hp j i (by omega) (by omega);have h3:=pV t j (by omega);have h4:=hp _ (aW (d:=default) (show j<t.length by omega));omega
  .have:i=j+1:=by omega
   subst this;exact Int.le_refl _
theorem cAtIn(t:List ClipR)(f:Int)(h64:t.length<=64)(hp:∀c∈t,1<=c.len)(ht:cJ t<=2147483647){i:Nat}(hi:i<t.length)(h0:cJ (t.take i)<=f)(h1:f<cJ (t.take i)+(t.getD i default).len)(hz:0<=f):
  aL Tryz.prog 50 [aNp t,aA f] (if(t.getD i default).kind=0 then aF8 else .tup [kJ (t.getD i default),aA (cJ (t.take i)),aR true]):=by
 have htk:=pV t i hi;have hm:=pW hp t.length (i+1) (by omega) (Nat.le_refl _);rw[List.take_length]at hm;refine aF Tryz.X50 Tryz.func50 rfl Tryz.ntmps50 (by rw[Tryz.results50]) (aB _ ?_);simp only[go_sem,seval];refine⟨λh2=>?_,λh2=>?_⟩
 .exfalso;simp only[bxx]at h2;omega
 .unfold awS;simp only[go_sem,seval,Gp];have hsr:=aSj t f (i+1) h64 (by omega) (λx hx=>by have:=pW hp i x (by omega) (by omega);omega) (λx hx hx2=>by have:=pW hp x (i+1) (by omega) (by omega);omega);have w1:IntKind.i64.wrap (((i+1:Nat):Int)-1)=(i:Int):=by rw[wrap64 (by omega) (by omega)];omega
  refine xP ?_;simp only[go_sem,seval];refine⟨_,hsr,rfl,?_⟩;simp only[go_sem,seval,w1];refine⟨by omega,λh3=>?_,λh3=>?_⟩
  .simp only[bxx]at h3;unfold awS;simp only[go_sem,seval];rw[if_pos (by omega)];exact⟨rfl,rfl⟩
  .simp only[bxx]at h3;unfold awS;simp only[go_sem,seval];refine aQ 13 .done (h:=?_);simp only[go_sem,seval,aDx hi,Gp];have hk : ¬(t.getD i default).kind=0:=by omega
   rw[if_neg hk];exact⟨by omega,by omega,by kernel_rfl,rfl,rfl⟩
abbrev mG (n:Int) (a b c d:Int):V:=.agg [aA n,aA a,aA b,aA c,aA d]
theorem aMw(n a b c d i:Int)(h:i<0\/n<=i):aL Tryz.prog 92 [mG n a b c d,aA i] (aA 0):=by
 refine aF Tryz.X92 Tryz.func92 rfl Tryz.ntmps92 (by rw[Tryz.results92]) (aB _ ?_);simp only[go_sem,seval];refine⟨λh2=>?_,λh2=>?_⟩
 .unfold awS;simp only[go_sem,seval]
 .exfalso;simp only[bxx]at h2;omega
theorem aMv(n a b c d:Int)(i:Nat)(h:i<4)(hn:(i:Int)<n):aL Tryz.prog 92 [mG n a b c d,aA i] (aA ([a,b,c,d].getD i 0)):=by
 refine aF Tryz.X92 Tryz.func92 rfl Tryz.ntmps92 (by rw[Tryz.results92]) (aB _ ?_);simp only[go_sem,seval];refine⟨λh2=>?_,λh2=>?_⟩
 .exfalso;simp only[bxx]at h2;omega
 .unfold awS;rcases i with _|_|_|_|i
  .simp only[go_sem,seval]
  .simp only[go_sem,seval]
  .simp only[go_sem,seval]
  .simp only[go_sem,seval]
  .omega
theorem aMx(m:V)(d:Int)(n a b c e n2 a2 b2 c2 e2:Int):aL Tryz.prog 127 [m,mG n a b c e,mG n2 a2 b2 c2 e2,aA 0,aA d] (mG n a b c e):=by
 refine aF Tryz.X127 Tryz.func127 rfl Tryz.ntmps127 (by rw[Tryz.results127]) (aB _ ?_);simp only[go_sem,seval]
abbrev aN7:=List (Value×Bool×List T)
abbrev vmix (R A Q:aN7):V:=.elem 3 [.map R,.map A,.map Q] [[.map R,.map A,.map Q]] 0 0
def I16(x:Int):Prop:= -32768<=x/\x<=32767
def c16(x:Int):List T:=[.lit (.int .i16 x)]
def t16(l:List Int):T:=.list 1 (c16 0) (l.map c16)
def pY(L:List (List Int)):T:=.list 1 [.lit (.slice none 0 0)] (L.map λp=>[t16 p])
@[go_sem] theorem c16_t(n:Int):(c16 n).map V.t=[.t (.lit (.int .i16 n))]:=rfl
@[go_sem] theorem c16_l(n:Int):(c16 n).length=1:=rfl
def tchan(n a b c d i:Int):Int:=if i<0\/n<=i then 0 else [a,b,c,d].getD i.toNat 0
theorem Zs{p:List Int}{k:Nat}(h:k<p.length)(d:List T):nth d (p.map c16) k=c16 (p.getD k 0):=by
 unfold nth;rw[List.getElem?_map,List.getElem?_eq_getElem h,List.getD_eq_getElem?_getD,List.getElem?_eq_getElem h];rfl
theorem kZ{p:List Int}{j:Int}(h0:0<=j)(h1:j<p.length)(d:List T):nth d (p.map c16) j.toNat=c16 (aZ p j):=by
 unfold aZ;rw[if_pos h0,Zs (by omega)]
theorem gS{p:List Int}{j:Int}(h:j<0\/(p.length:Int)<=j):aZ p j=0:=by
 unfold aZ;split
 .rw[List.getD_eq_getElem?_getD,List.getElem?_eq_none (by omega)];rfl
 .rfl
theorem jR(d x:List T)(l:List (List T)):nth d (x::l) 0=x:=rfl
theorem rU(d x y:List T)(l:List (List T)):nth d (x::y::l) 1=y:=rfl
theorem toQ_div{r:RatR}(hv:dA r=true):toQ r=(r.num:Rat)/(r.den:Rat):=by
 have hd:=dF hv;unfold toQ;rw[Rat.mkRat_eq_div];congr 1;have:((r.den.toNat:Nat):Int)=r.den:=by omega
 rw[<-this];rfl
structure RateS (r:RatR):Prop where
 fit:r.fit
 aud:bG r=true
 b1:QB (48000/toQ r) 8192 8
 b2:QB (toQ r/48000) 8 8192
 n:0<r.num
 d:0<r.den
 m30:r.num<=30*r.den
def toneL(L:List (List Int))(y:Rat):V:=mG L.length (aR6 (L.getD 0 []) y) (aR6 (L.getD 1 []) y) 0 0
structure SrcM (R A:aN7) (s:SourceR) (r:RatR) (L:List (List Int)) (k:Rat):Prop where
 kind:s.kind=1
 hR:eJ .string R=true
 lR:fV (.string s.name) R=some (bV r)
 hA:eJ .string A=true
 lA:fV (.string s.name) A=some (.agg [cF s.name,.t (pY L)])
 hL:L.length=1\/L.length=2
 i16:∀p∈L,aN9 p
 len:∀p∈L,p.length<=1048576
 same:∀p∈L,p.length=(L.getD 0 []).length
 rate:RateS r
 kb:QB k 134217728 16384
 vp:dA s.pos=true
 vs:dA s.speed=true
 pb:QB (toQ s.pos) 256 1024
 sb:QB (toQ s.speed) 4096 2048
 y0 : -((549755813888:Int):Rat)<=posQ s k*(48000/toQ r)
 y1:posQ s k*(48000/toQ r)<=((549755813888:Int):Rat)
theorem pcm_nil(j:Int):aZ [] j=0:=gS (by simp;omega)
theorem uK(y:Rat):0<=y.num-y.floor*(y.den:Int)/\y.num-y.floor*(y.den:Int)<(y.den:Int):=by
 have dp:=y.den_pos;have e:y.floor=y.num/(y.den:Int):=by
  rw[<-Qz y.num (d:=(y.den:Int)) (by omega)];have h:=Rat.num_divInt_den y;rw[Rat.divInt_eq_div]at h;exact congrArg Rat.floor h.symm
 rw[e];have h1:=Int.mul_ediv_add_emod y.num (y.den:Int);have h2:=Int.emod_nonneg y.num (show(y.den:Int)≠0 by omega);have h3:=Int.emod_lt_of_pos y.num (show(0:Int)<(y.den:Int) by omega);rw[Int.mul_comm]at h1;omega
def aNb:List T:=[.lit (.slice none 0 0),.lit (.slice none 0 0),ti 0]
structure AudioR where
 name:ByteArray
 chs:List (List Int)
 deriving Inhabited
def AudioR.c(a:AudioR):List T:=[mW a.name,pY a.chs]
@[go_sem] theorem AudioR.ct(a:AudioR):(AudioR.c a).map V.t=[cF a.name,.t (pY a.chs)]:=rfl
@[go_sem] theorem AudioR.cl(a:AudioR):(AudioR.c a).length=2:=rfl
abbrev uJ (A:List AudioR):T:=.list 2 [mW ⟨#[]⟩,.lit (.slice none 0 0)] (A.map AudioR.c)
theorem Aj{L:List (List Int)}{k:Nat}(h:k<L.length)(d:List T):nth d (L.map λp=>[T.list 1 (c16 0) (p.map c16)]) k=[T.list 1 (c16 0) ((L.getD k []).map c16)]:=by
 unfold nth;rw[List.getElem?_map,List.getElem?_eq_getElem h,List.getD_eq_getElem?_getD,List.getElem?_eq_getElem h];rfl
theorem Zv{A:List AudioR}{k:Nat}(h:k<A.length)(d:List T):nth d (A.map AudioR.c) k=AudioR.c (A.getD k default):=by
 unfold nth;rw[List.getElem?_map,List.getElem?_eq_getElem h,bB h];rfl
theorem Mm(L:List (List Int))(hl:L.length<=1000000)(hp:∀p∈L,p.length<=1048576):aL Tryz.prog 12 [.t (pY L),.t (pY L)] (aR true):=by
 refine aF Tryz.X12 Tryz.func12 rfl Tryz.ntmps12 (by rw[Tryz.results12]) (aB _ ?_);simp only[go_sem,seval,pY,t16];refine aE (λ(k:Nat) σ=>bP 5 (aA k) (aY [6,12,13,14,15,16,17,18,19,20,21,22,23,24,25,26,27,28,29,30,31,32,33,34,35,36,37,38,39,40,41,42,43,44,45,46,47,48,49,50,51,52] (bE σ))) (λk=>k<=L.length) (λk=>L.length-k) 0 (aC ?_) (Nat.zero_le _) ?_
 .simp only[go_sem,seval]<;>simp
 .intro k hk;refine aB _ ?_;simp only[go_sem,seval];refine⟨λhlt=>?_,λhge=>?_⟩
  .simp only[bxx]at hlt;have hkl:k<L.length:=by omega
   have hwk:IntKind.i64.wrap ((k:Int)+1)=((k+1:Nat):Int):=by rw[bJ (by omega)];omega
   have hpl:=hp _ (aW (d:=[]) hkl);unfold awS;simp only[go_sem,seval];refine bL [0,1,2,3,4,5,6,7,8,9,10] .done (h:=?_);simp only[go_sem,seval,Aj hkl];generalize hP:L.getD k []=P at hpl⊢;have hcn:∀d,nth d (L.map λp=>[T.list 1 (c16 0) (p.map c16)]) k=[T.list 1 (c16 0) (P.map c16)]:=λd=>by rw[Aj hkl,hP]
   refine⟨⟨by omega,by omega⟩,⟨by omega,by omega⟩,?_⟩;refine aE (λ(j:Nat) σ=>bP 6 (aA j) (aY [29,30,31,32,33,34,35,36,37,38,39,40,41,42,43,44,45,46,47,48,49,50,51,52] (bE σ))) (λj=>j<=P.length) (λj=>P.length-j) 0 (aC ?_) (Nat.zero_le _) ?_
   .simp only[go_sem,seval]<;>simp
   .intro j hj;refine aB _ ?_;simp only[go_sem,seval,hcn];refine⟨⟨by omega,by omega⟩,λhlt2=>?_,λhge2=>?_⟩
    .simp only[bxx]at hlt2;have hjl:j<P.length:=by omega
     have hwj:IntKind.i64.wrap ((j:Int)+1)=((j+1:Nat):Int):=by rw[bJ (by omega)];omega
     unfold awS;simp only[go_sem,seval];refine bL [0,1,2,3,4,5,6,7,8,9,10,11,12,13,14] .done (h:=?_);simp only[go_sem,seval,hcn,Zs hjl];refine⟨⟨by omega,by omega⟩,⟨by omega,by omega⟩,⟨by omega,by omega⟩,⟨by omega,by omega⟩,j+1,aC ?_,by omega,by omega⟩;simp only[go_sem,seval,hwj]
    .simp only[bxx]at hge2;unfold awS;simp only[go_sem,seval];refine⟨k+1,aC ?_,by omega,by omega⟩;simp only[go_sem,seval,hwk]
  .unfold awS;simp only[go_sem,seval]
abbrev Ev (α:Type):=Except Int α
def rN(A:List AudioR)(n:ByteArray):Option AudioR:=A.find? λa=>a.name.toList==n.toList
def rS(p:ProjR)(A:List AudioR)(nest:Nat->Int->Ev (List Int))(s:SourceR)(j:Int):Ev (List Int):=
 if s.kind=2 then nest (gU p s.name).toNat j
 else match rN A s.name with
  |none=> .error 7
  |some a=> .ok (a.chs.map λl=>aZ l j)
def cS(p:ProjR)(s:SourceR):RatR:=if s.kind=1 then (p.media.getD (Fk p s.name).toNat default).seq.rate else (p.seqs.getD (gU p s.name).toNat default).rate
def mH(u v n:Int)(d:Nat):Int:=u+gK (v-u) n d
def fU(r:RatR):Rat:=((48000*r.den:Int):Rat)/((r.num:Int):Rat)
def Jr(y:Rat)(a b:List Int):List Int:=List.zipWith (λu v=>mH u v (y.num-y.floor*(y.den:Int)) y.den) a b
def aKm(p:ProjR)(A:List AudioR)(nest:Nat->Int->Ev (List Int))(s:SourceR)(y:Rat):Ev (List Int):=
 match rS p A nest s y.floor with
 | .error e=> .error e
 | .ok a=>match rS p A nest s (y.floor+1)with
  | .error e=> .error e
  | .ok b=> .ok (Jr y a b)
def vT(p:ProjR)(A:List AudioR)(nest:Nat->Int->Ev (List Int))(s:SourceR)(k:Rat):Ev (List Int):=
 if s.kind=0 then .ok []
 else if bG (cS p s)=false then .error 2
 else if cH (k*toQ s.speed)=false then .error 2
 else if cH (toQ s.pos+k*toQ s.speed)=false then .error 2
 else if cH ((toQ s.pos+k*toQ s.speed)*fU (cS p s))=false then .error 2
 else if((toQ s.pos+k*toQ s.speed)*fU (cS p s)).floor < -1099511627776\/1099511627776<=((toQ s.pos+k*toQ s.speed)*fU (cS p s)).floor then .error 2
 else aKm p A nest s ((toQ s.pos+k*toQ s.speed)*fU (cS p s))
def En(c:ClipR)(k:Rat):Ev Rat:=
 if c.kind=2 then
  if cH (k+((c.off+1:Int):Rat))=false then .error 2
  else if cH ((k+((c.off+1:Int):Rat))*inv (c.total+1).toNat)=false then .error 2
  else .ok ((k+((c.off+1:Int):Rat))*inv (c.total+1).toNat)
 else .ok 0
def uV(z g:Int):Int:=IntKind.i64.wrap (IntKind.i64.wrap (z*g)+2048)/4096
def aLp(c:ClipR)(q:Rat)(a b:List Int)(ch:Int):Int:=if c.kind=2 then aZ a ch+gK (aZ b ch-aZ a ch) q.num q.den else aZ a ch
def Lp(c:ClipR)(q:Rat)(a b:List Int):List Int:=c.chan.map λch=>uV (aLp c q a b ch) c.gain
def sK(p:ProjR)(A:List AudioR)(nest:Nat->Int->Ev (List Int))(c:ClipR)(k:Rat):Ev (List Int):=
 match En c k with
 | .error e=> .error e
 | .ok q=>match vT p A nest c.a k with
  | .error e=> .error e
  | .ok a=>
   if c.kind=2 then match vT p A nest c.b k with
    | .error e=> .error e
    | .ok b=> .ok (Lp c q a b)
   else .ok (Lp c q a [])
def Tc(t:List ClipR)(f:Int):Option (ClipR×Int):=
 if(pS t f).2.2=true then
  if(t.getD (pS t f).1.toNat default).kind=0 then none else some (t.getD (pS t f).1.toNat default,f-(pS t f).2.1)
 else none
def Dx(acc g:List Int):List Int:=List.zipWith (λu v=>IntKind.i64.wrap (u+v)) acc g
def Ng(p:ProjR)(A:List AudioR)(nest:Nat->Int->Ev (List Int))(x:Rat)(f:Int)(acc:List Int)(t:List ClipR):Ev (List Int):=
 match Tc t f with
 |none=> .ok acc
 |some cb=>
  if cH (x-(cb.2:Rat))=false then .error 2
  else match sK p A nest cb.1 (x-(cb.2:Rat))with
   | .error e=> .error e
   | .ok g=> .ok (Dx acc g)
def wZ(p:ProjR)(A:List AudioR)(nest:Nat->Int->Ev (List Int))(x:Rat)(f:Int):List (List ClipR)->List Int->Ev (List Int)
 |[],acc=> .ok acc
 |t::l,acc=>match Ng p A nest x f acc t with
  | .error e=> .error e
  | .ok acc'=>wZ p A nest x f l acc'
def Cc(p:ProjR)(A:List AudioR)(nest:Nat->Int->Ev (List Int))(s:SequenceR)(t:Int):Ev (List Int):=
 match wZ p A nest (tB s.rate t) (tM s.rate t) s.sound (List.replicate s.channels.toNat 0)with
 | .error e=> .error e
 | .ok a=> .ok (a.map vH)
def sM(p:ProjR)(A:List AudioR)(i:Nat)(t:Int):Ev (List Int):=
 Cc p A (λj u=>if _h:eM p (j:Int)<eM p (i:Int)then sM p A j u else .error 2) (p.seqs.getD i default) t
termination_by eM p (i:Int)
def eQ(p:ProjR)(A:List AudioR)(i:Nat):Nat->Int->Ev (List Int):=λj u=>if eM p (j:Int)<eM p (i:Int)then sM p A j u else .error 2
theorem sL(p:ProjR)(A:List AudioR)(i:Nat)(t:Int):sM p A i t=Cc p A (eQ p A i) (p.seqs.getD i default) t:=by
 rw[sM];rfl
structure SrcV (p:ProjR) (i:Nat) (x:SourceR):Prop where
 fit:x.fit
 ok:aT x=true
 kind:x.kind=0\/(x.kind=1/\0<=Fk p x.name)\/(x.kind=2/\0<=gU p x.name/\eM p (gU p x.name)<eM p (i:Int))
structure ClpV (p:ProjR) (i:Nat) (c:ClipR):Prop where
 fit:c.fit
 ok:cG c=true
 kind:c.kind=0\/((c.kind=1\/c.kind=2)/\(c.chan.length:Int)=(p.seqs.getD i default).channels)
 a:SrcV p i c.a
 b:SrcV p i c.b
structure SeqV (p:ProjR) (i:Nat):Prop where
 rate:dA (p.seqs.getD i default).rate=true
 fit:(p.seqs.getD i default).fit
 ch:0<=(p.seqs.getD i default).channels/\(p.seqs.getD i default).channels<=4
 len:(p.seqs.getD i default).sound.length<=8
 trk:∀t∈(p.seqs.getD i default).sound,cL t=true /\∀c∈t,ClpV p i c
structure PrjV (p:ProjR):Prop where
 ml:p.media.length<=16
 sl:p.seqs.length<=16
 nm:(p.media.map MediumR.name).Nodup
 ns:(p.seqs.map SequenceR.name).Nodup
 med:∀m∈p.media,dA m.seq.rate=true/\m.seq.rate.fit
 seq:∀i,i<p.seqs.length->SeqV p i
theorem isZ_k12{x:SourceR}(h:x.isZ=false)(hv:aT x=true):x.kind=1\/x.kind=2:=by
 unfold aT at hv;rw[h,Bool.false_or]at hv;simp only[Bool.and_eq_true,Bool.or_eq_true,beq_iff_eq]at hv;exact hv.1.1.1.1.1.1
theorem Ym{p:ProjR}(hf:p.fit)(h:eN p=0):PrjV p:=by
 have hr:=aH5 p;rw[h]at hr;have h5:dL p=true:=by
  cases e:dL p with
  |true=>rfl
  |false=>have:=hr.s5 e;omega
 have h1:(p.media.all eV&&p.seqs.all cY)=true:=by
  cases e:(p.media.all eV&&p.seqs.all cY)with
  |true=>rfl
  |false=>have:=hr.s1 h5 e;omega
 have hu:yF p=true:=by
  cases e:yF p with
  |true=>rfl
  |false=>
   unfold eN at h;rw[if_neg (by rw[h5];decide),if_neg (by rw[h1];decide),if_pos e]at h;omega
 obtain⟨nm,ns⟩:=(Eb p).1 hu;have hc:p.seqs.all (kT p)=true:=by
  cases e:p.seqs.all (kT p)with
  |true=>rfl
  |false=>have:=hr.s7 h5 h1 (λi hi=>Mz nm hi) (λi hi=>My ns hi) e;omega
 have hd:∀i,i<p.seqs.length->eM p (i:Int)<=p.seqs.length:=λi hi=>by
  rcases Nat.lt_or_ge p.seqs.length (eM p (i:Int))with e|e
  .have:=hr.s16 h5 h1 (λi hi=>Mz nm hi) (λi hi=>My ns hi) hc ⟨i,hi,e⟩;omega
  .exact e
 have h5':=h5;unfold dL at h5';simp only[Bool.and_eq_true,decide_eq_true_eq]at h5';obtain⟨⟨⟨ml,sl⟩,_⟩,ss⟩:=h5';rw[Bool.and_eq_true,List.all_eq_true,List.all_eq_true]at h1;rw[List.all_eq_true]at ss hc;have net:NetOk p:=⟨ns,λs hs x hx hk=>by
  have h2:=hc s hs;unfold kT at h2;have h3:=(List.all_eq_true.1 h2) x hx;unfold sE at h3;rw[hk]at h3;simp at h3;exact h3⟩
 refine⟨by omega,by omega,nm,ns,λm hm=>?_,λi hi=>?_⟩
 .have h2:=h1.1 m hm;unfold eV tH at h2;simp only[Bool.and_eq_true]at h2;exact⟨h2.1.1.1.1.2.1,(hf.media m hm).seq.rate⟩
 have hmem:p.seqs.getD i default∈p.seqs:=aW hi;have h2:=h1.2 _ hmem;have h3:=ss _ hmem;have hcs:=hc _ hmem;have hfs:=hf.seqs _ hmem;obtain⟨k1,k2,k3⟩:=xY net hi;have k4 : ¬Wk p (eM p (i:Int)) (p.seqs.getD i default).name:=by
  rcases k3 with k3|k3
  .exact k3
  .have:=hd i hi;omega
 have hin:=λm=>Ht net hi (m:=m)
 have hdep:∀x∈fZ (p.seqs.getD i default),x.kind=2->eM p (gU p x.name)<eM p (i:Int):=λx hx hk=>by
  obtain⟨k,q1,q2,q3⟩:=mT (net.th _ hmem x hx hk);rw[q2];rcases Nat.lt_or_ge (eM p (k:Int)) (eM p (i:Int))with e|e
  .exact e
  .refine absurd ?_ k4;obtain⟨w1,_,_⟩:=xY net q1;rw[q3]at w1;cases hdi:eM p (i:Int)with
   |zero=>exact trivial
   |succ d=>exact⟨x.name,(hin _).2 ⟨x,hx,hk,rfl⟩,w1 d (by omega)⟩
 have hthere:=hc _ hmem;unfold kT at hthere;rw[List.all_eq_true]at hthere;have hsrc:∀t∈(p.seqs.getD i default).sound,∀c∈t,∀x,(x=c.a\/x=c.b)->x.isZ=false->x∈fZ (p.seqs.getD i default):=λt ht c hct x hx hz=>by
  unfold fZ mQ dK;refine List.mem_filter.2 ⟨List.mem_flatMap.2 ⟨c,List.mem_flatten.2 ⟨t,List.mem_append.2 (.inr ht),hct⟩,by simpa using hx⟩,by rw[hz];rfl⟩
 unfold cY uM tH sJ at h2;simp only[Bool.and_eq_true,decide_eq_true_eq,List.all_eq_true]at h2;unfold dX at h3;simp only[Bool.and_eq_true,decide_eq_true_eq]at h3;refine⟨h2.1.1.1.1.1.1.2.1,hfs,h2.1.1.1.2,by omega,λt ht=>?_⟩;have h4:=h2.2 t ht;unfold rM at h4;rw[Bool.and_eq_true,List.all_eq_true]at h4;refine⟨h4.1,λc hct=>?_⟩;have h5:=h4.2 c hct;have hv:cG c=true:=(nE h4.1).2.1 c hct;have hcf:=hfs.sound t ht c hct;have hvv:=hv;unfold cG nC at hvv;simp only[Bool.and_eq_true]at hvv;have key:∀x,(x=c.a\/x=c.b)->x.fit->aT x=true->SrcV p i x:=λx hx hxf hxv=>by
  refine⟨hxf,hxv,?_⟩;rcases hz:x.isZ with _|_
  .have hm:=hsrc t ht c hct x hx hz;have h6:=hthere x hm;unfold sE at h6;rcases isZ_k12 hz hxv with hk|hk
   .rw[hk]at h6;simp at h6;exact .inr (.inl ⟨hk,h6⟩)
   .exact .inr (.inr ⟨hk,net.th _ hmem x hm hk,hdep x hm hk⟩)
  .exact .inl (zX hz)
 refine⟨hcf,hv,?_,key _ (.inl rfl) hcf.a hvv.1.1.2,key _ (.inr rfl) hcf.b hvv.1.2⟩;unfold uG at h5;simp only[Bool.or_eq_true,Bool.and_eq_true,beq_iff_eq]at h5;rcases h5 with h5|h5
 .exact .inl h5
 .exact .inr ⟨h5.1,h5.2.2⟩
theorem sub_int(y:Rat)(j:Int):(y-(j:Rat)).num=y.num-j*(y.den:Int)/\(y-(j:Rat)).den=y.den:=by
 have h:=addQ y (((-j:Int)):Rat);simp only[Rat.num_intCast,Rat.den_intCast,Nat.gcd_one_right,Nat.div_one]at h;have e:y-(j:Rat)=y+((-j:Int):Rat):=by
  rw[Rat.sub_eq_add_neg,Rat.intCast_neg]
 rw[e,h.1,h.2];refine⟨?_,by omega⟩;rw[Int.natCast_one,Int.ediv_one,Int.mul_one,Int.neg_mul];omega
theorem aJ3{a b c:Rat}(hc:0<c):a<=b/c↔a*c<=b:=by
 have e:b/c*c=b:=Rat.div_mul_cancel (by grind);constructor
 .intro h;have:=Rat.mul_le_mul_of_nonneg_right h (show 0<=c by grind);rwa[e]at this
 .intro h;rw[<-e]at h;exact Rat.le_of_mul_le_mul_right h hc
theorem aJe{a b c:Rat}(hc:0<c):a/c<=b↔a<=b*c:=by
 have e:a/c*c=a:=Rat.div_mul_cancel (by grind);constructor
 .intro h;have:=Rat.mul_le_mul_of_nonneg_right h (show 0<=c by grind);rwa[e]at this
 .intro h;rw[<-e]at h;exact Rat.le_of_mul_le_mul_right h hc
theorem Bv{n:Int}(h:n.natAbs<=9223372036854775807):cH (n:Rat)=true:=by
 refine dJ.2 ⟨?_,?_⟩
 .rw[Rat.num_intCast];exact h
 .rw[Rat.den_intCast];decide
theorem Zk{q:Rat}{N D:Nat}(h:QB q N D)(h1:N<=9223372036854775807)(h2:D<=9223372036854775807):cH q=true:=dJ.2 ⟨Nat.le_trans h.1 h1,Nat.le_trans h.2 h2⟩
theorem Fz{r:RatR}(f:r.fit)(hv:dA r=true):cH (toQ r)=true:=by
 obtain⟨h1,h2⟩:=Xu hv;have hd:=dF hv;have hn:=Mv hv;have fn:=f.num.2;have fd:=f.den.2;refine dJ.2 ⟨?_,?_⟩
 .rw[h1];omega
 .omega
theorem qZ{r:RatR}(h:bG r=true):fR r=true/\dA r=true/\(1<=r.num/\r.num<=1048576)/\(1<=r.den/\r.den<=65536)/\r.num<=240*r.den:=by
 unfold bG at h;simp only[Bool.and_eq_true,decide_eq_true_eq]at h;have h2:=h.1;unfold fR at h2;simp only[Bool.and_eq_true,decide_eq_true_eq]at h2;exact⟨h.1,h2.1.1.1,⟨h2.1.1.2,h2.1.2⟩,⟨dF h2.1.1.1,h2.2⟩,h.2⟩
theorem Ty{r:RatR}(hd:1<=r.den){t:Int}{d:Nat}(e:48000*r.den=d):tB r t=((t*r.num:Int):Rat)/((d:Int):Rat):=by
 rw[<-e,Rat.intCast_mul,Rat.intCast_mul];rfl
theorem aAb{r:RatR}(h:bG r=true){t:Int}(ht:t.natAbs<=1099511627776):cH (tB r t)=true:=by
 obtain⟨_,_,hn,hd,_⟩:=qZ h;obtain⟨d,e⟩:=eF (n:=48000*r.den) (by omega);rw[Ty hd.1 e];have hm:(t*r.num).natAbs<=1099511627776*1048576:=by rw[Int.natAbs_mul];exact Nat.mul_le_mul ht (by omega)
 exact Zk (Ma (t*r.num) d (by omega)) (by omega) (by omega)
theorem aP3{r:RatR}(h:bG r=true)(t:Int):((tM r t-1:Int):Rat)<=tB r t/\tB r t<=((tM r t+1:Int):Rat):=by
 obtain⟨_,_,hn,hd,h240⟩:=qZ h;obtain⟨d,e⟩:=eF (n:=48000*r.den) (by omega);have dp:(0:Rat)<((d:Int):Rat):=aF0 (by omega);have e2:tM r t=((2*t+1)*r.num-1)/(2*(d:Int)):=by
  unfold tM;rw[<-e];congr 1;omega
 have q1:=Int.mul_ediv_add_emod ((2*t+1)*r.num-1) (2*(d:Int));have q2:=Int.emod_nonneg ((2*t+1)*r.num-1) (show 2*(d:Int)≠0 by omega);have q3:=Int.emod_lt_of_pos ((2*t+1)*r.num-1) (show 0<2*(d:Int) by omega);have q4:(2*t+1)*r.num=2*(t*r.num)+r.num:=by rw[Int.add_mul,Int.one_mul,Int.mul_assoc]
 rw[<-e2]at q1;generalize tM r t=f at*;rw[Ty hd.1 e];have q5:2*(d:Int)*f=2*(f*d):=by rw[Int.mul_assoc,Int.mul_comm (d:Int) f]
 constructor
 .rw[aJ3 dp,<-Rat.intCast_mul,Rat.intCast_le_intCast,Int.sub_mul,Int.one_mul];omega
 .rw[aJe dp,<-Rat.intCast_mul,Rat.intCast_le_intCast,Int.add_mul,Int.one_mul];omega
theorem Wa:∀(l:List ClipR) (i:Nat) (n:Int) (j:Nat),(∀c∈l,1<=c.len)->j<l.length->cJ (l.take j)<=n->n<cJ (l.take j)+(l.getD j default).len->rY l i n=(((i+j:Nat):Int),n-cJ (l.take j),true)
 |[],_,_,_,_,h,_,_=>absurd h (by simp)
 |c::l,i,n,0,hp,_,h1,h2=>by
  rw[Dt];have h3:n<c.len:=by simpa[cJ]using h2
  rw[if_pos h3];simp[cJ]
 |c::l,i,n,j+1,hp,h,h1,h2=>by
  rw[Dt];have e:cJ ((c::l).take (j+1))=c.len+cJ (l.take j):=rfl;have e2:(c::l).getD (j+1) default=l.getD j default:=rfl;rw[e]at h1 h2⊢;rw[e2]at h2;have hj:j<l.length:=by simpa using h
  have h0:=pW (t:=l) (λd hd=>hp d (by simp[hd])) j 0 (Nat.zero_le _) (by omega);have t0:cJ (l.take 0)=0:=rfl;rw[if_neg (by omega),Wa l (i+1) (n-c.len) j (λd hd=>hp d (by simp[hd])) hj (by omega) (by omega)];have e3:i+1+j=i+(j+1):=by omega
  have e4:n-c.len-cJ (l.take j)=n-(c.len+cJ (l.take j)):=by omega
  rw[e3,e4]
theorem hit_cases{t:List ClipR}(hv:cL t=true)(f:Int):
  (Tc t f=none/\(f<0\/cJ t<=f)/\(pS t f).2.2=false) \/
  ∃i:Nat,i<t.length/\0<=f/\cJ (t.take i)<=f/\f<cJ (t.take i)+(t.getD i default).len/\pS t f=((i:Int),f-cJ (t.take i),true) /\
   Tc t f=if(t.getD i default).kind=0 then none else some (t.getD i default,cJ (t.take i)):=by
 obtain⟨h64,hvc,hsum⟩:=nE hv;have hp:∀c∈t,1<=c.len/\c.len<=2147483647:=λc hc=>fD (hvc c hc)
 have hp1:∀c∈t,1<=c.len:=λc hc=>(hp c hc).1
 by_cases h0:f<0
 .have e:pS t f=(0,0,false):=by unfold pS;rw[if_neg (by omega)]
  refine .inl ⟨?_,.inl h0,by rw[e]⟩;unfold Tc;rw[e];rfl
 .by_cases h1:cJ t<=f
  .have e:pS t f=(0,0,false):=by unfold pS;rw[if_pos ⟨hv,by omega⟩,Jc t 0 f hp h1]
   refine .inl ⟨?_,.inr h1,by rw[e]⟩;unfold Tc;rw[e];rfl
  .obtain⟨i,x,hi,a,b⟩:=place hp1 (by omega) (show f<cJ t by omega);have hil:i<t.length:=by
    rcases Nat.lt_or_ge i t.length with h2|h2
    .exact h2
    .rw[List.getElem?_eq_none h2]at hi;cases hi
   have hx:t.getD i default=x:=by rw[List.getD_eq_getElem?_getD,hi];rfl
   have e:pS t f=((i:Int),f-cJ (t.take i),true):=by
    unfold pS;rw[if_pos ⟨hv,by omega⟩,Wa t 0 f i hp1 hil a (by rw[hx];exact b),Nat.zero_add]
   refine .inr ⟨i,hil,by omega,a,by rw[hx];exact b,e,?_⟩;unfold Tc;rw[e,if_pos rfl];simp only[Int.toNat_natCast];have e5:f-(f-cJ (t.take i))=cJ (t.take i):=by omega
   rw[e5]
theorem Fw{t:List ClipR}(hv:cL t=true){f:Int}{c:ClipR}{b:Int}(h:Tc t f=some (c,b)):c∈t/\c.kind≠0/\0<=b/\b<=f/\f<b+c.len/\b<=2147483647:=by
 obtain⟨h64,hvc,hsum⟩:=nE hv;have hp1:∀c∈t,1<=c.len:=λc hc=>(fD (hvc c hc)).1
 rcases hit_cases hv f with ⟨h1,_⟩|⟨i,hi,h0,a,b',_,h1⟩
 .rw[h1]at h;cases h
 .rw[h1]at h;split at h
  .cases h
  .rename_i hk;injection h with h;obtain⟨rfl,rfl⟩:=Prod.mk.inj h;have t0:=pW hp1 i 0 (by omega) (by omega);have t1:=pW hp1 t.length i (by omega) (Nat.le_refl _);rw[List.take_length]at t1;have tz:cJ (t.take 0)=0:=rfl;exact⟨aW hi,hk,by omega,a,b',by omega⟩
theorem share01{q:Rat}(h0:0<=q)(h1:q<=1):0<=q.num/\q.num<=(q.den:Int):=by
 refine⟨Rat.num_nonneg.2 h0,?_⟩;have:=(Rat.le_iff _ _).1 h1;simpa using this
theorem aL0{r:RatR}(h:bG r=true){t:Int}{c:ClipR}{b:Int}(hv:cG c=true)(hk:c.kind=2)(hb:b<=tM r t/\tM r t<b+c.len):
  0<=((tB r t-(b:Rat))+((c.off+1:Int):Rat))*inv (c.total+1).toNat/\((tB r t-(b:Rat))+((c.off+1:Int):Rat))*inv (c.total+1).toNat<=1:=by
 obtain⟨w0,w1⟩:=aP3 h t;have hkk:cP c=true:=by
  unfold cG at hv;rw[Bool.and_eq_true]at hv;exact hv.2
 unfold cP at hkk;rw[if_neg (by omega),if_neg (by omega),if_pos hk]at hkk;unfold fS at hkk;simp only[Bool.and_eq_true,decide_eq_true_eq]at hkk;obtain⟨⟨⟨⟨⟨s1,s2⟩,s3⟩,s4⟩,_⟩,_⟩:=hkk;obtain⟨n,hn⟩:=eF (n:=c.total+1) (by omega);have hl:=(fD hv).1;have hn1:1<=n:=by omega
 have np:(0:Rat)<((n:Int):Rat):=aF0 (by omega);rw[hn,Int.toNat_natCast];have e:∀z:Rat,z*inv n=z/((n:Int):Rat):=λz=>by
  unfold inv;rw[Rat.div_def,Rat.div_def];simp
 rw[e,aJ3 np,aJe np];generalize tB r t=x at*;generalize tM r t=f at*;have a1:((f-1-b+(c.off+1):Int):Rat)<=x-(b:Rat)+((c.off+1:Int):Rat):=by
  simp only[Rat.intCast_add,Rat.intCast_sub]at w0 w1 ⊢
  grind
 have a2:x-(b:Rat)+((c.off+1:Int):Rat)<=((f+1-b+(c.off+1):Int):Rat):=by
  simp only[Rat.intCast_add,Rat.intCast_sub]at w0 w1 ⊢
  grind
 have b1:((0:Int):Rat)<=((f-1-b+(c.off+1):Int):Rat):=Rat.intCast_le_intCast.2 (by omega);have b2:((f+1-b+(c.off+1):Int):Rat)<=((n:Int):Rat):=Rat.intCast_le_intCast.2 (by omega);constructor
 .rw[Rat.zero_mul];exact Rat.le_trans b1 a1
 .rw[Rat.one_mul];exact Rat.le_trans a2 b2
def Tp(m:Int)(l:List Int):Prop:=∀u∈l,-m<=u/\u<=m
theorem dZ{x n:Int}{d:Nat}(h0:0<=n)(h1:n<=(d:Int))(hd:1<=d): -(x.natAbs:Int)<=gK x n d/\gK x n d<=(x.natAbs:Int)+1:=by
 have:=eT (x:=x) h0 h1 hd;unfold gK;split<;>omega
theorem vZ{m:Int}{l:List Int}(h:Tp m l)(hm:0<=m)(j:Int): -m<=aZ l j/\aZ l j<=m:=by
 unfold aZ;split
 .rcases Nat.lt_or_ge j.toNat l.length with h1|h1
  .exact h _ (aW h1)
  .rw[List.getD_eq_getElem?_getD,List.getElem?_eq_none h1];exact⟨by simp only[Option.getD_none];omega,by simp only[Option.getD_none];omega⟩
 .omega
def KQ(Q:Exit->St->Prop)(pe:List PanicEntry)(σ:St):Prop:=∀fr,Q (.panic pe) { σ with fr:=fr }
def bF(D:Nat->Prop)(h h':Heap):Prop:=∀q b,D q->h.look q=some b->h'.look q=some b
theorem aM7{D:Nat->Prop}{h h':Heap}(he:Gw h h'):bF D h h':=λq b _ hq=>he q b hq
theorem bK{D:Nat->Prop}{a b c:Heap}(h1:bF D a b)(h2:bF D b c):bF D a c:=λq x hd hq=>h2 q x hd (h1 q x hd hq)
def PCall(P:Program)(D:Nat->Prop)(KP:List PanicEntry->St->Prop)(σ:St)(d:Option Tmp)(f:FuncId)(xs:List V)(K:St->Prop):Prop:=
 P.enters f=true /\∀E w vs,Rel w E σ.h->(∀i,E.U i->i<σ.nx)->RdVs w E xs vs->Calls P f vs.toArray w λe w'=>
  (∃v x h' nx' E',e=.returned v/\Rel w' E' h'/\(∀i,E'.U i->i<nx')/\Ext E w E' w'/\RdV w' E' x v/\bF D σ.h h'/\K (({ σ with h:=h',nx:=nx' }:St).put d x)) \/
  (∃pe h' nx' E',e=.panicked pe/\Rel w' E' h'/\(∀i,E'.U i->i<nx')/\Ext E w E' w'/\KP pe { σ with fr:=[],h:=h',nx:=nx' })
theorem PCall.mono{P:Program}{D:Nat->Prop}{KP KP':List PanicEntry->St->Prop}{σ:St}{d:Option Tmp}{f:FuncId}{xs:List V}{K K':St->Prop}(hk:∀σ,K σ->K' σ)(hp:∀pe σ,KP pe σ->KP' pe σ)(h:PCall P D KP σ d f xs K):PCall P D KP' σ d f xs K':=
 ⟨h.1,λE w vs h1 h2 h3=>(h.2 E w vs h1 h2 h3).mono λe w' hh=>by
  rcases hh with ⟨v,x,h',nx',E',q1,q2,q3,q4,q5,q6,q7⟩|⟨pe,h',nx',E',q1,q2,q3,q4,q5⟩
  .exact .inl ⟨v,x,h',nx',E',q1,q2,q3,q4,q5,q6,hk _ q7⟩
  .exact .inr ⟨pe,h',nx',E',q1,q2,q3,q4,hp _ _ q5⟩⟩
def vW(P:Program)(rs:List ResultVar)(K:V->St->Prop)(KP:List PanicEntry->St->Prop)(e:Exit)(σ:St):Prop:=
 match e with
 | .panic pe=> σ.df=[]/\KP pe σ
 |e=>Hm P rs K e σ
theorem Tj{P:Program}{f:FuncId}{fn:Func}{c:Code}{args:List V}{n n0 nx:Nat}{rs:List ResultVar}{h0:Heap}{K:V->St->Prop}{KP:List PanicEntry->St->Prop}{R:Ending->World->Prop}(hf:P.funcs[f]?=some fn)(hb:fn.body=some c)(hn:fn.ntmps=n)
  (hrs:fn.results.toList=rs) (h:AWP P n0 c (vW P rs K KP) (uB P n args h0 nx)) {E:Env} {w:World} {vs:List Value} (hr:Rel w E h0) (hbd:∀i,E.U i->i<nx) (hU:∀i,E.U i->i<n0) (hargs:RdVs w E args vs)
  (hR:∀v x σ' E' w',Rel w' E' σ'.h->(∀i,E'.U i->i<σ'.nx)->Ext E w E' w'->RdV w' E' x v->K x σ'->R (.returned v) w')
  (hRP:∀pe σ' E' w',Rel w' E' σ'.h->(∀i,E'.U i->i<σ'.nx)->Ext E w E' w'->KP pe σ'->R (.panicked pe) w'):Calls P f vs.toArray w R:=by
 refine(callsIn_wide (n:=0)).1 (callsIn_of_wp_marks hf hb trivial ?_);have hlen:=RdVs.len hargs;have hrel:RelF (E.at0 none) (uB P n args h0 nx) { tmps:=vs.toArray++Array.replicate (fn.ntmps-vs.toArray.size) undef,defers:=[] } w:=by
  refine⟨hr.ro none,hbd,?_,⟨rfl,rfl⟩⟩;have e1:(vs.toArray++Array.replicate (fn.ntmps-vs.toArray.size) undef).toList=vs++List.replicate (n-args.length) undef:=by
   rw[hn,hlen];simp
  show RdVs w (E.at0 none) (args++List.replicate (n-args.length) .dead) _
  rw[e1];exact RdVs.append (hargs.ro none) (Be _)
 refine wpIn_mono (h (E.at0 none) _ w hrel (E.at0 none) w hU (Ext.refl _ _)) ?_;rintro e a' w' ⟨σ',E',h1,h2,h3⟩;have ret:∀e,Hm P rs K e σ'->bodyPostM Fence.wide 0 P fn R e a' w':=λe h3=>by
  obtain⟨he,xs,hxs,hnop,hK⟩:=Nv h3;have key:LeavesInM Fence.wide 0 P fn a'.tmps R a'.defers .returning w':=by
   refine qN σ'.df a'.defers (fr:= σ'.fr) (nx:= σ'.nx) (h:= σ'.h) (E:=E') ⟨h1.rel,h1.bound,h1.fr,h1.defers⟩ hnop λE2 w2 q1 q2 q3 q4=>?_
   have hr2:RelF (E2.at0 none) { fr:= σ'.fr,h:=Dv σ'.df σ'.h,nx:= σ'.nx,df:=[] } { tmps:=a'.tmps,defers:=[] } w2:=⟨q1.ro none,q2,q3.ro none,⟨rfl,rfl⟩⟩
   obtain⟨v,hv,hrv⟩:=uN (fn:=fn) (xs:=xs) hr2 (by rw[hrs];exact hxs);have hx:Ext E w (E2.at0 E.ro) w2:=(h2.trans q4).back;exact⟨v,hv,hR v _ (Tf σ') _ w2 (q1.ro E.ro) q2 hx ((hrv:RdV w2 (E2.at0 none) _ _).ro E.ro) hK⟩
  rcases he with rfl|rfl
  .exact key
  .exact key
 cases e with
 |panic pe=>
  obtain⟨hd,hK⟩:=h3;have hdf:=h1.defers;rw[hd]at hdf;have h0:a'.defers=[]:=hdf.1;show LeavesInM Fence.wide 0 P fn a'.tmps R a'.defers (.panicking pe) w'
  rw[h0];exact hRP pe σ' (E'.at0 E.ro) w' (h1.rel.ro _) h1.bound h2.back hK
 |normal=>exact ret _ h3
 |ret=>exact ret _ h3
 |exit _=>exact h3.elim
 |goto _=>exact h3.elim
 |outgrown=>exact h3.elim
theorem fK{P:Program}{D:Nat->Prop}{KP:List PanicEntry->St->Prop}{σ:St}{d:Option Tmp}{f:FuncId}{fn:Func}{c:Code}{xs:List V}{n:Nat}{rs:List ResultVar}{K:St->Prop}(he:P.enters f=true)(hf:P.funcs[f]?=some fn)(hb:fn.body=some c)(hn:fn.ntmps=n)(hrs:fn.results.toList=rs)
  (h:AWP P σ.nx c (vW P rs (λx σ'=>bF D σ.h σ'.h/\K (({ σ with h:= σ'.h,nx:= σ'.nx }:St).put d x)) (λpe σ'=>KP pe { σ with fr:=[],h:= σ'.h,nx:= σ'.nx })) (uB P n xs σ.h σ.nx)):PCall P D KP σ d f xs K:=
 ⟨he,λE w vs hr hbd hargs=>Tj hf hb hn hrs h hr hbd hbd hargs (λv x σ' E' w' h1 hbd' h2 h3 hK=> .inl ⟨v,x,σ'.h,σ'.nx,E',rfl,h1,hbd',h2,h3,hK.1,hK.2⟩) λpe σ' E' w' h1 hbd' h2 hK=> .inr ⟨pe,σ'.h,σ'.nx,E',rfl,h1,hbd',h2,hK⟩⟩
theorem Zz{P:Program}{D:Nat->Prop}{KP:List PanicEntry->St->Prop}{σ:St}{o:Oper}{f:FuncId}{args:Array Operand}{tys:Array TypeId}{K:St->Prop}(ho:o.op=.call { callee:=.value (.func f),args:=args,argTypes:=tys })
  (h:eE true (args.toList.map σ.ev) λxs=>PCall P D KP σ o.dst f xs K) {E:Env} {a:Act} {w:World} (hr:RelF E σ a w) {next:Act->World->Prop} {Q:Exit->Act->World->Prop}
  (hn:∀a' w' E' σ',RelF E' σ' a' w'->Ext E w E' w'->bF D σ.h σ'.h->K σ'->next a' w') (hp:∀pe w' E' σ',RelF E' σ' a w'->Ext E w E' w'->KP pe { σ' with fr:=[] }->Q (.panic pe) a w'):o.wpIn (Wd E.ro) 0 P a w next Q:=by
 refine fE (.inr λc hc=>by rw[ho]at hc;cases hc) ?_;obtain⟨ys,h1,hys⟩:=mP h;have hvs:=hys w E _ rfl (kL hr args.toList);have h2:=h1.2 E w _ hr.rel hr.bound hvs;have e1:(args.toList.map a.eval).toArray=args.map a.eval:=by apply Array.ext';simp only[Array.toList_map]
 rw[e1]at h2;unfold Oper.wp;rw[mZ ho rfl h1.1];simp only[Oper.upon];refine Calls.mono h2 ?_;rintro e w' (⟨v,x,h',nx',E',rfl,q2,q3,q4,q5,q6,q7⟩|⟨pe,h',nx',E',rfl,q2,q3,q4,q5⟩)
 .have hr':RelF E' { σ with h:=h',nx:=nx' } a w':=⟨q2,q3,q4.rdVs _ hr.fr,q4.defs hr.defers⟩
  exact hn _ w' E' _ (hr'.put o.dst q5) q4 (by rw[nJ];exact q6) q7
 .exact hp pe w' E' { σ with h:=h',nx:=nx' } ⟨q2,q3,q4.rdVs _ hr.fr,q4.defs hr.defers⟩ q4 q5
theorem nV{P:Program}{ops:List Oper}{Q:Exit->St->Prop}{o:Oper}{r:List Oper}{σ:St}{f:FuncId}{args:Array Operand}{tys:Array TypeId}(hg:o.guard=none)(ho:o.op=.call { callee:=.value (.func f),args:=args,argTypes:=tys })
  (h:eE true (args.toList.map σ.ev) λxs=>PCall P (λ_=>False) (KQ Q) σ o.dst f xs (sF P ops Q r)):sF P ops Q (o::r) σ:=by
 intro E a w hr E0 w0 hE;unfold wpListIn;have hw:Region.wanted o (yielded ops.toArray a.tmps)=true:=by simp[Region.wanted,hg]
 rw[if_pos hw];refine Zz ho h hr (λa' w' E' σ' h1 h2 _ h3=>?_) λpe w' E' σ' h1 h2 h3=>⟨σ',E',h1,hE.trans h2,h3 σ'.fr⟩
 have:=h3 E' a' w' h1 E0 w0 (hE.trans h2);rwa[h2.ro]at this
theorem tE{P:Program}{ops:List Oper}{Q:Exit->St->Prop}{o2 o3:Oper}{r:List Oper}{σ:St}(t s:Nat){k:IntKind}{n:Int}{ty:TypeId}{u:TypeDesc}(g2:o2.guard=none)(g3:o3.guard=none)
  (e2:o2.op=.makeInterface ty (.tmp t)) (e3:o3.op=.panic (.tmp s)) (d2:o2.dst=some s) (hu:P.underlying ty=some u) (hi:∀m,u ≠ .interface m) (hs:s<σ.fr.length)
  (hx:σ.ev (.tmp t)=.agg [.t (.lit (.int k n))]) (h:KQ Q [{ v:=.iface ty (.agg #[.int k n]),recovered:=false }] σ):sF P ops Q (o2::o3::r) σ:=by
 intro E a w hr E0 w0 hE;have hv:a.eval (.tmp t)=.agg #[.int k n]:=by
  have h1:=hr.ev (.tmp t);rw[hx]at h1;simp only[RdV]at h1;obtain⟨⟨vs⟩,h1,h2,h3⟩:=h1;rcases vs with _|⟨v,_|⟨v2,l⟩⟩
  .simp only[RdVs]at h2
  .simp only[RdVs,and_true]at h2;rw[h1,(aJ h2).1]
  .simp only[RdVs,and_false]at h2
 have hsz:s<a.tmps.size:=by
  have:=RdVs.len hr.fr;simp only[Array.length_toList]at this;omega
 unfold wpListIn;have w2:Region.wanted o2 (yielded ops.toArray a.tmps)=true:=by simp[Region.wanted,g2]
 rw[if_pos w2];refine fE (.inr λc hc=>by rw[e2]at hc;cases hc) ?_;unfold Oper.wp;have r2:(execOp a.eval o2).run P w=.ok (.value (.iface ty (.agg #[.int k n]))) w:=by
  have hm:(Instr.makeInterface ty (.agg #[.int k n])).run P w=.ok (.iface ty (.agg #[.int k n])) w:=by
   unfold Instr.makeInterface;simp only[Sem.run_bind,run_underlying hu,Result.andThen_ok];cases u with
   |interface m=>exact(hi m rfl).elim
   |_=>rfl
  simp only[execOp,e2,hv,Sem.run_bind,hm,Result.andThen_ok,Sem.run_pure]
 rw[r2];show wpListIn (Wd E.ro) 0 P ops.toArray (sD E0 w0 Q) (o3::r) (a.put o2.dst (.iface ty (.agg #[.int k n]))) w
 rw[d2];unfold wpListIn;have w3:Region.wanted o3 (yielded ops.toArray (a.put (some s) (.iface ty (.agg #[.int k n]))).tmps)=true:=by simp[Region.wanted,g3]
 rw[if_pos w3];refine fE (.inr λc hc=>by rw[e3]at hc;cases hc) ?_;unfold Oper.wp;have ev:(a.put (some s) (.iface ty (.agg #[.int k n]))).eval (.tmp s)=.iface ty (.agg #[.int k n]):=by
  simp[Act.put,Act.eval,hsz]
 have r3:(execOp (a.put (some s) (.iface ty (.agg #[.int k n]))).eval o3).run P w=.halt (.panic (.iface ty (.agg #[.int k n]))) w:=by
  simp only[execOp,e3,ev,Sem.run_bind];rfl
 rw[r3];exact⟨σ.put (some s) .dead,E,hr.put (some s) (by simp only[RdV]),hE,h _⟩
def aU6(D:Nat->Prop)(σ σ':St)(d:Option Tmp):Prop:=bF D σ.h σ'.h/\WFh σ' /\∀y:Operand,(∀t,d=some t->y ≠ .tmp t)->σ'.ev y=σ.ev y
theorem kept_d{D:Nat->Prop}{σ σ':St}{d:Option Tmp}(h:aN8 σ σ' d):aU6 D σ σ' d:=⟨aM7 h.1,h.2⟩
def sY(P:Program)(D:Nat->Prop)(KP:List PanicEntry->St->Prop)(o:Oper)(σ:St)(K:St->Prop):Prop:=
 o.guard=none/\match o.op with
 | .call { callee:=.value (.func f),args,.. }=>eE true (args.toList.map σ.ev) λxs=>PCall P D KP σ o.dst f xs K
 |_=>False
theorem wW{P:Program}{D:Nat->Prop}{KP:List PanicEntry->St->Prop}{o:Oper}{σ:St}{K:St->Prop}(h:sY P D KP o σ K):∃f args tys,o.guard=none/\o.op=.call { callee:=.value (.func f),args:=args,argTypes:=tys }/\eE true (args.toList.map σ.ev) λxs=>PCall P D KP σ o.dst f xs K:=by
 obtain⟨hg,h⟩:=h;split at h
 .rename_i f args tys ho;exact⟨f,args,_,hg,ho,h⟩
 .exact h.elim
theorem Gy{P:Program}{D:Nat->Prop}{KP:List PanicEntry->St->Prop}{o:Oper}{σ:St}{K:St->Prop}{f:FuncId}{args:Array Operand}{tys:Array TypeId}(hg:o.guard=none)(ho:o.op=.call { callee:=.value (.func f),args:=args,argTypes:=tys })(h:eE true (args.toList.map σ.ev) λxs=>PCall P D KP σ o.dst f xs K):sY P D KP o σ K:=by
 refine⟨hg,?_⟩;rw[ho];exact h
theorem yP{P:Program}{D:Nat->Prop}{KP:List PanicEntry->St->Prop}{o:Oper}{σ:St}{K K':St->Prop}(hk:∀σ,K σ->K' σ)(h:sY P D KP o σ K):sY P D KP o σ K':=by
 obtain⟨f,args,tys,hg,ho,hu⟩:=wW h;obtain⟨ys,h1,h2⟩:=jQ hu;exact Gy hg ho (h2 _ (PCall.mono hk (λ_ _ h=>h) h1))
theorem Gx{P:Program}{D:Nat->Prop}{KP:List PanicEntry->St->Prop}{o:Oper}{σ:St}{K:St->Prop}(h:sY P D KP o σ K):sY P D KP o σ λs=>WFh s/\K s:=by
 obtain⟨f,args,tys,hg,ho,hu⟩:=wW h;obtain⟨ys,h1,h2⟩:=jQ hu;refine Gy hg ho (h2 _ ⟨h1.1,λE w vs q1 q2 q3=>(h1.2 E w vs q1 q2 q3).mono ?_⟩);rintro e w' (⟨v,y,h',nx',E',q1,q2,q3,q4,q5,q6,q7⟩|hp)
 .refine .inl ⟨v,y,h',nx',E',q1,q2,q3,q4,q5,q6,λq hq=>?_,q7⟩;rw[kM]at hq;rw[nJ];cases hl:Heap.look h' q with
  |none=>rfl
  |some blk=>
   have:=q3 q (q2.uses hl);have:nx'<=q:=hq;omega
 .exact .inr hp
theorem Zy{P:Program}{D:Nat->Prop}{KP:List PanicEntry->St->Prop}{σ:St}{o:Oper}{d:Option Tmp}{x:V}{K:St->Prop}(hop:∀t,d=some t -> .tmp t ∉ o.op.operands.toList)(hd:∀t,d=some t->o.dst≠some t)(h0:sY P D KP o (σ.put d x) K):
  sY P D KP o σ λσ'=>K (σ'.put d x)/\aU6 D σ σ' o.dst:=by
 obtain⟨f,args,tys,hg,ho,hu⟩:=wW (Gx h0);refine Gy hg ho ?_;have hargs:args.toList.map (σ.put d x).ev=args.toList.map σ.ev:=Fh _ λy hy=>Du λt ht e=>hop t ht (by rw[<-e,ho];simp[Op.operands,Call.operands];exact .inr (by simpa using hy))
 rw[hargs]at hu;obtain⟨ys,h1,h2⟩:=jQ hu;refine h2 _ ⟨h1.1,λE w vs hr hb hv=>?_⟩;refine(h1.2 E w vs (by rw[nJ];exact hr) (by rw[kM];exact hb) hv).mono ?_;rintro e w' (⟨v,y,h',nx',E',q1,q2,q3,q4,q5,q6,r2,q7⟩|⟨pe,h',nx',E',q1,q2,q3,q4,q5⟩)
 .have e1:(({ σ.put d x with h:=h',nx:=nx' }:St).put o.dst y)=(({ σ with h:=h',nx:=nx' }:St).put o.dst y).put d x:=by
   refine Eq.trans ?_ (tK hd);cases d<;>rfl
  rw[nJ]at q6;have r2':WFh (({ σ with h:=h',nx:=nx' }:St).put o.dst y):=λq hq=>by
   have:=r2 q (by rw[kM];rw[kM]at hq;exact hq);rw[nJ]at this⊢;exact this
  refine .inl ⟨v,y,h',nx',E',q1,q2,q3,q4,q5,q6,?_,by rw[nJ];exact q6,r2',λz hz=>?_⟩
  .rw[<-e1];exact q7
  .rw[Du hz];cases z<;>rfl
 .refine .inr ⟨pe,h',nx',E',q1,q2,q3,q4,?_⟩;have e2:({ σ.put d x with fr:=[],h:=h',nx:=nx' }:St)={ σ with fr:=[],h:=h',nx:=nx' }:=by cases d<;>rfl
  rw[<-e2];exact q5
def yV(P:Program)(D:Nat->Prop)(KP:List PanicEntry->St->Prop)(ops:Array Oper)(b:Bool)(o:Oper)(σ:St)(K:St->Prop):Prop:=
 match b with
 |true=>sY P D KP o σ K
 |false=>dH P ops.toList σ o.dst o.op o.guard K
theorem nF{P:Program}{D:Nat->Prop}{KP:List PanicEntry->St->Prop}{ops:Array Oper}{b:Bool}{o:Oper}{σ:St}{K K':St->Prop}(hk:∀σ,K σ->K' σ)(h:yV P D KP ops b o σ K):yV P D KP ops b o σ K':=by
 cases b with
 |true=>exact yP hk h
 |false=>exact qJ hk h
def Rp(P:Program)(D:Nat->Prop)(KP:List PanicEntry->St->Prop)(ops:Array Oper)(xs:List Nat)(K:St->Prop):Nat->Array Bool->St->Prop
 |0,listed,σ=>Region.ready .any ops listed=[]/\K σ
 |f+1,listed,σ=>(Region.ready .any ops listed=[]->K σ) /\∀i∈Region.ready .any ops listed,∃o,ops[i]?=some o/\yV P D KP ops (xs.contains i) o σ (Rp P D KP ops xs K f (listed.setIfInBounds i true))
theorem Gg{P:Program}{D:Nat->Prop}{ops:Array Oper}{xs:List Nat}{Q:Exit->St->Prop}:∀(f:Nat) (listed:Array Bool) (σ:St),Rp P D (KQ Q) ops xs (Q .normal) f listed σ ->∀E a w,RelF E σ a w ->∀E0 w0,Ext E0 w0 E w->wpAnyIn (Wd E.ro) 0 P .any ops (sD E0 w0 Q) f listed a w
 |0,listed,σ,h,E,a,w,hr,E0,w0,hE=>⟨h.1,σ,E,hr,hE,h.2⟩
 |f+1,listed,σ,h,E,a,w,hr,E0,w0,hE=>by
  refine⟨λh0=>⟨σ,E,hr,hE,h.1 h0⟩,λi hi=>?_⟩;obtain⟨o,ho,hs⟩:=h.2 i hi;unfold wpOpIn;rw[ho];dsimp only;cases hb:xs.contains i with
  |false=>
   rw[hb]at hs;have:=aBy (Q:=sD E0 w0 Q) (next:=wpAnyIn (Wd E.ro) 0 P .any ops (sD E0 w0 Q) f (listed.setIfInBounds i true)) hs hr (λa' w' E' σ' h1 h2 h3=>by
    have:=Gg f _ σ' h3 E' a' w' h1 E0 w0 (hE.trans h2);rwa[h2.ro]at this)
   simpa using this
  |true=>
   rw[hb]at hs;obtain⟨g,args,tys,hg,hop,hu⟩:=wW hs;have hw:Region.wanted o (yielded ops a.tmps)=true:=by simp[Region.wanted,hg]
   rw[if_pos hw];refine Zz hop hu hr (λa' w' E' σ' h1 h2 _ h3=>?_) λpe w' E' σ' h1 h2 h3=>⟨σ',E',h1,hE.trans h2,h3 σ'.fr⟩
   have:=Gg f _ σ' h3 E' a' w' h1 E0 w0 (hE.trans h2);rwa[h2.ro]at this
theorem Ky{P:Program}{D:Nat->Prop}{KP:List PanicEntry->St->Prop}{ops:Array Oper}{xs:List Nat}{K:St->Prop}{i:Nat}{oi:Oper}{y:V}(hi:ops[i]?=some oi)(hix:xs.contains i=false)
  (hhv:∀(j:Nat) oj,ops[j]?=some oj->yK P oj.op=true->xs.contains j=true\/zN .any ops 16 j i=true) :
  ∀(fuel:Nat) (listed:Array Bool) (σ:St),HeadInv .any ops ops.size listed ->
   (∀j oj,ops[j]?=some oj->j≠i->listed.getD j true=false->(∀e∈oj.after,Region.binds .any e=true->e.on≠i)->oi.apart ops oj=true) ->
   i∈Region.ready .any ops listed->WFh σ ->
   (∀σ',mN σ σ' oi.op.operands.toList->bF D σ.h σ'.h->(∀j w,oi.guard=some (j,w) ->∀t,eP ops.toList j=some t->σ'.ev (.tmp t)=σ.ev (.tmp t)) ->∀K':St->Prop,K' (σ'.put oi.dst y)->dH P ops.toList σ' oi.dst oi.op oi.guard K') ->
   Rp P D KP ops xs K fuel (listed.setIfInBounds i true) (σ.put oi.dst y)->Rp P D KP ops xs K (fuel+1) listed σ:=by
 have first:∀σ K',dH P ops.toList σ oi.dst oi.op oi.guard K'->yV P D KP ops (xs.contains i) oi σ K':=λσ K' h=>by rw[hix];exact h
 intro fuel
 induction fuel with
 |zero=>
  intro listed σ inv hfree hr hw hst H;refine⟨λh=>(by rw[h]at hr;cases hr),λj hj=>?_⟩
  by_cases hji:j=i
  .subst hji;exact⟨oi,hi,first _ _ (hst σ (λ_ _=>rfl) (λ_ _ _ h=>h) (λ_ _ _ _ _=>rfl) _ H)⟩
  .have:=ready_mono hj hji;rw[H.1]at this;cases this
 |succ fuel ih=>
  intro listed σ inv hfree hr hw hst H;refine⟨λh=>(by rw[h]at hr;cases hr),λj hj=>?_⟩
  by_cases hji:j=i
  .subst hji;exact⟨oi,hi,first _ _ (hst σ (λ_ _=>rfl) (λ_ _ _ h=>h) (λ_ _ _ _ _=>rfl) _ H)⟩
  .obtain⟨oj,hoj,hs⟩:=H.2 j (ready_mono hj hji);refine⟨oj,hoj,?_⟩;obtain⟨hjun,oj',hoj',hall⟩:=mem_ready.1 hj;rw[hoj]at hoj';injection hoj' with hoj';subst hoj';have hiu:=(mem_ready.1 hr).1;have hil:listed.getD i false=false:=getD_both hiu;have hnot:∀e∈oj.after,Region.binds .any e=true->e.on≠i:=λe he hb heq=>by
    have h1:=hall e he hb;rw[heq,hil]at h1;cases h1
   have hap:=hfree j oj hoj hji hjun hnot;obtain⟨p1,p2,p3⟩:=Oper.apart_spec hap;have hjs:j<ops.size:=(Array.getElem?_eq_some_iff.1 hoj).1;have inv':=inv.set hj hjs;have hr':=ready_mono hr (Ne.symm hji);have hc:yV P D KP ops (xs.contains j) oj σ (λσ'=>Rp P D KP ops xs K fuel ((listed.setIfInBounds i true).setIfInBounds j true) (σ'.put oi.dst y)/\aU6 D σ σ' oj.dst):=by
    cases hxj:xs.contains j with
    |true=>
     rw[hxj]at hs;exact Zy (λt ht=>tS (p1 t ht)) (λt ht=>p2 t ht) hs
    |false=>
     rw[hxj]at hs;have hnh:yK P oj.op=false:=by
      cases hh:yK P oj.op with
      |false=>rfl
      |true=>
       have h3:=(hhv j oj hoj hh).resolve_left (by rw[hxj];simp);have:=nZ inv 16 j h3 (λok hk e he hb=>by
        rw[hoj]at hk;injection hk with hk;subst hk;exact hall e he hb)
       rw[hil]at this;cases this
     exact qJ (λσ' hk=>⟨hk.1,kept_d hk.2⟩) (Ds (λt ht=>tS (p1 t ht)) (λt j' w' ht hg=>rC (p1 t ht) hg) (λt ht=>p2 t ht) hnh hw hs)
   refine nF (λσ' hk=>?_) hc;obtain⟨hk1,hk2,hk3,hk4⟩:=hk;refine ih (listed.setIfInBounds j true) σ' inv' ?_ hr' hk3 ?_ ?_
   .intro k ok hk hki hun hno;refine hfree k ok hk hki ?_ hno
    by_cases hjk:j=k
    .subst hjk;exact hjun
    .rw[getD_set_ne true hjk]at hun;exact hun
   .intro σ'' he hh hg K' hK';refine hst σ'' (λz hz=>?_) (bK hk2 hh) (λj' w' hgd t ht=>?_) K' hK'
    .rw[he z hz];exact hk4 z λt ht e=>tS (p3 t ht) (e ▸ hz)
    .rw[hg j' w' hgd t ht];refine hk4 _ λt' ht' e=>?_
     injection e with e;subst e;exact rC (p3 _ ht') hgd ht
   .rw[Array.setIfInBounds_comm _ _ hji];exact hk1
def allD(D:Nat->Prop):List Nat->Prop
 |[]=>True
 |q::r=>D q/\allD D r
def aQp(D:Nat->Prop)(σ:St):List Operand->Prop
 |[]=>True
 |y::r=>allD D (σ.ev y).ment/\aQp D σ r
theorem aK5{D:Nat->Prop}:∀{l:List Nat},allD D l ->∀q∈l,D q
 |[],_,q,h=>by cases h
 |a::l,hl,q,h=>by
  rcases List.mem_cons.1 h with rfl|h
  .exact hl.1
  .exact aK5 hl.2 q h
theorem Yq{D:Nat->Prop}{σ:St}:∀{l:List Operand},aQp D σ l ->∀y∈l,∀q∈(σ.ev y).ment,D q
 |[],_,q,h=>by cases h
 |a::l,hl,y,h=>by
  rcases List.mem_cons.1 h with rfl|h
  .exact aK5 hl.1
  .exact Yq hl.2 y h
def Qb(P:Program)(l:List Oper)(D:Nat->Prop)(o:Option Oper)(σ:St)(K:St->Prop):Prop:=
 match o with
 |some o=>aQp D σ o.op.operands.toList/\dH P l σ o.dst o.op o.guard K
 |none=>False
def vS(P:Program)(l:List Oper)(D:Nat->Prop)(KP:List PanicEntry->St->Prop)(b:Bool)(o:Option Oper)(σ:St)(K:St->Prop):Prop:=
 match o with
 |some o=>yV P D KP l.toArray b o σ K
 |none=>False
def nW(P:Program)(l:List Oper)(D:Nat->Prop)(KP:List PanicEntry->St->Prop)(xs:List Nat)(K:St->Prop):PT->St->Prop
 | .done,σ=>K σ
 | .look i t,σ=>Qb P l D (l[i]?) σ (nW P l D KP xs K t)
 | .step i t,σ=>vS P l D KP (xs.contains i) (l[i]?) σ (nW P l D KP xs K t)
theorem aHc{P:Program}{D:Nat->Prop}{KP:List PanicEntry->St->Prop}{l:List Oper}{xs:List Nat}{K:St->Prop}:∀(f:Nat) (t:PT) (listed:Array Bool) (w:Bool) (σ:St),ptB P l.toArray xs f listed w t=true->HeadInv .any l.toArray l.toArray.size listed->(w=true->WFh σ) ->
  nW P l D KP xs K t σ->Rp P D KP l.toArray xs K f listed σ
 |0,.done,listed,w,σ,hB,inv,hw,h=>by
  unfold ptB at hB;exact⟨by simpa using hB,h⟩
 |0,.look _ _,listed,w,σ,hB,_,_,_=>by cases hB
 |0,.step _ _,listed,w,σ,hB,_,_,_=>by cases hB
 |f+1,.done,listed,w,σ,hB,inv,hw,h=>by
  unfold ptB at hB;have h0:Region.ready .any l.toArray listed=[]:=by simpa using hB
  exact⟨λ_=>h,λi hi=>by rw[h0]at hi;cases hi⟩
 |f+1,.look i t,listed,w,σ,hB,inv,hw,h=>by
  unfold ptB aHy at hB;simp only[Bool.and_eq_true]at hB;obtain⟨⟨bw,⟨⟨⟨b1,b2⟩,b3⟩,b3x⟩,b4⟩,b5⟩:=hB;have hr:i∈Region.ready .any l.toArray listed:=by simpa using b1
  obtain⟨oi,ho,hm⟩:∃oi,l.toArray[i]?=some oi/\fM P oi.op=true:=by
   cases hq:l.toArray[i]? with
   |none=>rw[hq]at b3;cases b3
   |some oi=>rw[hq]at b3;exact⟨oi,rfl,by simpa using b3⟩
  have ho':l[i]?=some oi:=by simpa using ho
  simp only[nW,ho',Qb]at h;obtain⟨hD,h⟩:=h;obtain⟨y,hk,hst0⟩:=sQ hm h;have hst:∀σ',mN σ σ' oi.op.operands.toList->bF D σ.h σ'.h->(∀j w,oi.guard=some (j,w) ->∀t,eP l j=some t->σ'.ev (.tmp t)=σ.ev (.tmp t)) ->∀K':St->Prop,K' (σ'.put oi.dst y)->dH P l σ' oi.dst oi.op oi.guard K':=
   λσ' he hh hg K' hk'=>hst0 σ' he (λy hy q b hm hq=>hh q b (Yq hD y hy q hm) hq) hg K' hk'
  have his:i<l.toArray.size:=(Array.getElem?_eq_some_iff.1 ho).1;refine Ky (y:=y) ho (by simpa using b3x) (λj oj hoj hh=>?_) f listed σ inv (Region.free_spec ho b2) hr (hw bw) hst ?_
  .have hj:=(List.all_eq_true.1 b4) j (List.mem_range.2 (Array.getElem?_eq_some_iff.1 hoj).1);simp only[hoj,Option.any_some,hh,Bool.not_true,Bool.false_or,Bool.or_eq_true]at hj;exact hj
  .exact aHc f t _ w _ b5 (inv.set hr his) (λq=>(wK (hw q)).2.1) hk
 |f+1,.step i t,listed,w,σ,hB,inv,hw,h=>by
  unfold ptB at hB;simp only[Bool.and_eq_true,beq_iff_eq]at hB;obtain⟨⟨h1,h2⟩,h3⟩:=hB;obtain⟨o,ho⟩:=Option.isSome_iff_exists.1 h2;have ho':l[i]?=some o:=by simpa using ho
  have hi:i∈Region.ready .any l.toArray listed:=by rw[h1];simp
  have his:i<l.toArray.size:=(Array.getElem?_eq_some_iff.1 ho).1;refine⟨λh0=>(by rw[h1]at h0;cases h0),λj hj=>?_⟩;rw[h1]at hj;simp only[List.mem_singleton]at hj;subst hj;refine⟨o,ho,?_⟩;simp only[nW,ho',vS]at h;cases hx:xs.contains j with
  |true=>
   rw[hx]at h h3;exact yP (λσ' hk=>aHc f t _ _ σ' h3 (inv.set hi his) (λ_=>hk.1) hk.2) (Gx h)
  |false=>
   rw[hx,Bool.and_false]at h3;rw[hx]at h;exact nF (b:=false) (λσ' hk=>aHc f t _ _ σ' h3 (inv.set hi his) (λq=>by cases q) hk) h
theorem aD7{P:Program}{n0:Nat}{id:Nat}{l:List Oper}{Q:Exit->St->Prop}{σ:St}(D:Nat->Prop)(xs:List Nat)(t:PT)(hm:P.follows .mixedOrders=true)
  (hT:ptB P l.toArray xs l.length (Array.replicate l.length false) true t=true) (h:nW P l D (KQ Q) xs (Q .normal) t σ):Xe P n0 id l.toArray Q σ:=by
 intro E a w hr E0 w0 hU hE;refine wpIn_region_any hm ?_;have inv:HeadInv .any l.toArray l.toArray.size (Array.replicate l.length false):=by
  have:=rE (ops:=l.toArray) (md:=.any);simpa using this
 have hd:=aHc _ t _ true σ hT inv (λ_=>hr.wfh) h;have hdr:RelF E σ a { w with drawn:=w.drawn+1 }/\Ext E0 w0 E { w with drawn:=w.drawn+1 }:=by
  have hb:Below w.heap.size w { w with drawn:=w.drawn+1 }:=⟨rfl,rfl,rfl,Nat.le_refl _,λ_ _=>rfl⟩
  obtain⟨k1,k2⟩:=hr.later hb (λ_ h=>h) (λb hb=> .inl hb) (λb hb'=>hr.rel.slt b hb');exact⟨k1,hE.trans k2⟩
 have:=Gg _ _ σ hd E a _ hdr.1 E0 w0 hdr.2;simpa using this
section
variable {P:Program} {l:List Oper} {D:Nat->Prop} {KP:List PanicEntry->St->Prop} {xs:List Nat} {K:St->Prop} {σ:St} {o:Oper}
@[go_sem] theorem pzsteps_done:nW P l D KP xs K .done σ=K σ:=rfl
@[go_sem] theorem pzsteps_look{i:Nat}{t:PT}:nW P l D KP xs K (.look i t) σ=Qb P l D (l[i]?) σ (nW P l D KP xs K t):=rfl
@[go_sem] theorem pzsteps_step{i:Nat}{t:PT}:nW P l D KP xs K (.step i t) σ=vS P l D KP (xs.contains i) (l[i]?) σ (nW P l D KP xs K t):=rfl
@[go_sem] theorem lookZ_some:Qb P l D (some o) σ K=(aQp D σ o.op.operands.toList/\dH P l σ o.dst o.op o.guard K):=rfl
@[go_sem] theorem stepZ_false:vS P l D KP false (some o) σ K=dH P l σ o.dst o.op o.guard K:=rfl
@[go_sem] theorem stepZ_true:vS P l D KP true (some o) σ K=sY P D KP o σ K:=rfl
end
attribute [go_sem] sY allD aQp Op.operands Call.operands
theorem Uq{w:World}{E:Env}{A B:List V}(h:∀vs,RdVs w E A vs->RdVs w E B vs):∀(x0:List V) {vs:List Value},RdVs w E (x0++A) vs->RdVs w E (x0++B) vs
 |[],vs,hv=>h vs hv
 |x::x0,[],hv=>by simp only[List.cons_append,RdVs]at hv
 |x::x0,v::vs,hv=>by
  simp only[List.cons_append,RdVs]at hv⊢;exact⟨hv.1,Uq h x0 hv.2⟩
theorem Ur{w:World}{E:Env}{x y:V}(hy:∀v,RdV w E x v->RdV w E y v):∀{xs:List (List V)} (i:Nat) {vs:List Value},RdVs w E xs.flatten vs->xs[i]?=some [x]->RdVs w E (xs.set i [y]).flatten vs
 |[],i,vs,_,hx=>by simp at hx
 |x0::xs,0,vs,h,hx=>by
  simp at hx;subst hx;simp only[List.flatten_cons,List.set_cons_zero,List.cons_append,List.nil_append]at h⊢;cases vs with
  |nil=>simp only[RdVs]at h
  |cons v vs=>
   simp only[RdVs]at h⊢;exact⟨hy _ h.1,h.2⟩
 |x0::xs,i+1,vs,h,hx=>by
  simp only[List.flatten_cons,List.set_cons_succ]at h⊢;exact Uq (λus hus=>Ur hy i hus (by simpa using hx)) x0 h
theorem Rel.recellR{w:World}{E:Env}{h:Heap}{b e k:Nat}{d:List T}{xs xs':List (List V)}(hr:Rel w E h)(hl:h.look b=some (.row e k d xs))(hlen:xs'.length=xs.length)(hk:(∀x∈xs,x.length=k) ->∀x∈xs',x.length=k)
  (hc:∀vs,RdVs w E xs.flatten vs->RdVs w E xs'.flatten vs):Rel w E (h.set b (.row e k d xs')):=by
 refine⟨λi blk hi=>?_,λi hv hB=>?_,hr.domF,hr.own,hr.apart,hr.slt,hr.dlt⟩
 .rw[Heap.look_set _ _ _ hl]at hi;split at hi
  .rename_i hib;subst hib;injection hi with hi;subst hi;obtain⟨hv,h1,cells,h2,h3,h4,h5⟩:=hr.has _ _ hl;exact⟨hv,h1,cells,by rw[hlen];exact h2,hc _ h3,hk h4,h5⟩
  .exact hr.has i blk hi
 .obtain⟨q1,q2⟩:=hr.dom i hv hB;refine⟨q1,?_⟩;rw[Heap.look_set _ _ _ hl];split
  .exact⟨_,rfl⟩
  .exact q2
def aHs(b i e k e0 k0:Nat)(d d0:List T)(xs:List (List V))(σ:St):St:={ σ with h:=(σ.nx,.row e k d [])::σ.h.set b (.row e0 k0 d0 (xs.set i [.own σ.nx])),nx:= σ.nx+1 }
theorem jP{n0:Nat}{σ:St}(b i e k e0 k0:Nat)(d d0:List T)(xs:List (List V))(hn:n0<=σ.nx)(hl:σ.h.look b=some (.row e0 k0 d0 xs))(hi:xs[i]?=some [.t (.lit (.slice none 0 0))]):Cd n0 σ (aHs b i e k e0 k0 d d0 xs σ):=by
 intro E a w hr E0 w0 hU hE;have hb:Below w.heap.size w w:=⟨rfl,rfl,rfl,Nat.le_refl _,λ_ _=>rfl⟩
 have hbn:b≠σ.nx:=λe=>by
  have:=hr.bound b (hr.rel.uses hl);omega
 obtain⟨k1,k2,k3⟩:=hr.add (hv:=.slice none 0 0) (blk:=.row e k d []) (S':=E.S) hb (λ_ h=>h) (λb hb=> .inl hb) hr.rel.slt
  (λ_=>⟨[],World.ownsRow_nil w 0 e k,by simp only[List.flatten_nil,RdVs],by simp,rfl⟩) (λb hb'=>by simp[aV]at hb') rfl rfl
 have h1:Heap.look ((σ.nx,.row e k d [])::σ.h) b=some (.row e0 k0 d0 xs):=by rw[Heap.look,if_neg hbn];exact hl
 have h2:=k1.rel.recellR (xs':=xs.set i [.own σ.nx]) h1 (by simp) (λhk x hx=>by
   rcases List.mem_or_eq_of_mem_set hx with hx|hx
   .exact hk x hx
   .rw[hx];have:=hk _ (List.mem_of_getElem? hi);simpa using this) λvs hvs=>Ur (λv hv=>by rw[(aJ hv).1];exact k3) i hvs hi
 rw[Heap.set,if_neg hbn]at h2;exact⟨_,⟨h2,k1.bound,k1.fr,k1.defers⟩,hE.trans k2⟩
attribute [go_sem] aHs
theorem aPs{P:Program}{ops:List Oper}{Q:Exit->St->Prop}{o:Oper}{r:List Oper}{σ:St}{x:V}{v:Value}(hg:o.guard=none)(hc:∀c,o.op ≠ .defer c)(hx:∀w E,RdV w E x v)
  (hrun:∀E a w,RelF E σ a w->(execOp a.eval o).run P w=.ok (.value v) w) (h:sF P ops Q r (σ.put o.dst x)):sF P ops Q (o::r) σ:=by
 intro E a w hr E0 w0 hE;unfold wpListIn;have hw:Region.wanted o (yielded ops.toArray a.tmps)=true:=by simp[Region.wanted,hg]
 rw[if_pos hw];refine fE (.inr λc h=>(hc c h).elim) ?_;unfold Oper.wp;rw[hrun E a w hr];exact h E _ w (hr.put o.dst (hx w E)) E0 w0 hE
theorem aEv{P:Program}{ops:List Oper}{Q:Exit->St->Prop}{o:Oper}{r:List Oper}{σ:St}{t:Tmp}{g:FuncId}{cs:List V}(hg:o.guard=none)(ho:o.op=.defer { callee:=.value (.tmp t),args:=#[],argTypes:=#[] })
  (hx:σ.ev (.tmp t)=.clo g cs) (hd:o.dst=none) (hro:xU σ.df=false) (h:sF P ops Q r { σ with df:=.fnc g cs::σ.df }):sF P ops Q (o::r) σ:=by
 intro E a w hr E0 w0 hE;have hv:=hr.ev (.tmp t);rw[hx]at hv;simp only[RdV]at hv;obtain⟨caps,he,hcs⟩:=hv;unfold wpListIn;have hw:Region.wanted o (yielded ops.toArray a.tmps)=true:=by simp[Region.wanted,hg]
 rw[if_pos hw];refine fE (.inl (hr.defers.ro hro)) ?_;unfold Oper.wp;have hrun:(execOp a.eval o).run P w=.ok (.defer { target:=.fn (.func g) caps,args:=#[] }) w:=by
  simp[execOp,ho,resolve,he,Deferred.ofValue]
 rw[hrun];simp only[Oper.upon];have hput:({ a with defers:={ target:=.fn (.func g) caps,args:=#[] }::a.defers }:Act).put o.dst undef={ a with defers:={ target:=.fn (.func g) caps,args:=#[] }::a.defers }:=by rw[hd];rfl
 rw[hput];have hdf:DefRel w E (.fnc g cs::σ.df) ({ target:=.fn (.func g) caps,args:=#[] }::a.defers):=⟨⟨caps,rfl,hcs⟩,hr.defers⟩
 exact h E { a with defers:={ target:=.fn (.func g) caps,args:=#[] }::a.defers } w ⟨hr.rel,hr.bound,hr.fr,hdf⟩ E0 w0 hE
def RecD(P:Program)(g:FuncId)(pe:List PanicEntry)(cs:List V)(h:Heap)(nx:Nat)(K:Heap->Nat->Prop):Prop:=
 P.enters g=true /\∀E w (cap:Array Value),Rel w E h->(∀i,E.U i->i<nx)->RdVs w E cs cap.toList->CallsDIn Fence.wide 0 P g cap (.panicking pe) w λe u' w'=>
  (∃v,e=.returned v)/\settle u'=.returning /\∃E' h' nx',Rel w' E' h'/\(∀i,E'.U i->i<nx')/\Ext E w E' w'/\K h' nx'
def Lm(P:Program)(rs:List ResultVar)(K:V->St->Prop)(e:Exit)(σ:St):Prop:=
 match e with
 | .panic pe=>∃g cs,σ.df=[.fnc g cs]/\RecD P g pe cs σ.h σ.nx λh' nx'=>∃xs,Ck P { fr:= σ.fr,h:=h',nx:=nx' } rs=some xs/\K (aA5 xs) { fr:= σ.fr,h:=h',nx:=nx' }
 |e=>Hm P rs K e σ
theorem Th{P:Program}{f:FuncId}{fn:Func}{c:Code}{args:List V}{n n0 nx:Nat}{rs:List ResultVar}{h0:Heap}{K:V->St->Prop}{R:Ending->World->Prop}(hf:P.funcs[f]?=some fn)(hb:fn.body=some c)(hn:fn.ntmps=n)
  (hrs:fn.results.toList=rs) (h:AWP P n0 c (Lm P rs K) (uB P n args h0 nx)) {E:Env} {w:World} {vs:List Value} (hr:Rel w E h0) (hbd:∀i,E.U i->i<nx) (hU:∀i,E.U i->i<n0) (hargs:RdVs w E args vs)
  (hR:∀v x σ' E' w',Rel w' E' σ'.h->(∀i,E'.U i->i<σ'.nx)->Ext E w E' w'->RdV w' E' x v->K x σ'->R (.returned v) w'):Calls P f vs.toArray w R:=by
 refine(callsIn_wide (n:=0)).1 (callsIn_of_wp_marks hf hb trivial ?_);have hlen:=RdVs.len hargs;have hrel:RelF (E.at0 none) (uB P n args h0 nx) { tmps:=vs.toArray++Array.replicate (fn.ntmps-vs.toArray.size) undef,defers:=[] } w:=by
  refine⟨hr.ro none,hbd,?_,⟨rfl,rfl⟩⟩;have e1:(vs.toArray++Array.replicate (fn.ntmps-vs.toArray.size) undef).toList=vs++List.replicate (n-args.length) undef:=by
   rw[hn,hlen];simp
  show RdVs w (E.at0 none) (args++List.replicate (n-args.length) .dead) _
  rw[e1];exact RdVs.append (hargs.ro none) (Be _)
 refine wpIn_mono (h (E.at0 none) _ w hrel (E.at0 none) w hU (Ext.refl _ _)) ?_;rintro e a' w' ⟨σ',E',h1,h2,h3⟩;have ret:∀e,Hm P rs K e σ'->bodyPostM Fence.wide 0 P fn R e a' w':=λe h3=>by
  obtain⟨he,xs,hxs,hnop,hK⟩:=Nv h3;have key:LeavesInM Fence.wide 0 P fn a'.tmps R a'.defers .returning w':=by
   refine qN σ'.df a'.defers (fr:= σ'.fr) (nx:= σ'.nx) (h:= σ'.h) (E:=E') ⟨h1.rel,h1.bound,h1.fr,h1.defers⟩ hnop λE2 w2 q1 q2 q3 q4=>?_
   have hr2:RelF (E2.at0 none) { fr:= σ'.fr,h:=Dv σ'.df σ'.h,nx:= σ'.nx,df:=[] } { tmps:=a'.tmps,defers:=[] } w2:=⟨q1.ro none,q2,q3.ro none,⟨rfl,rfl⟩⟩
   obtain⟨v,hv,hrv⟩:=uN (fn:=fn) (xs:=xs) hr2 (by rw[hrs];exact hxs);have hx:Ext E w (E2.at0 E.ro) w2:=(h2.trans q4).back;exact⟨v,hv,hR v _ (Tf σ') _ w2 (q1.ro E.ro) q2 hx ((hrv:RdV w2 (E2.at0 none) _ _).ro E.ro) hK⟩
  rcases he with rfl|rfl
  .exact key
  .exact key
 cases e with
 |panic pe=>
  obtain⟨g,cs,hd,hen,hrec⟩:=h3;have hdf:=h1.defers;rw[hd]at hdf;cases hds:a'.defers with
  |nil=>rw[hds]at hdf;exact hdf.elim
  |cons d ds=>
   rw[hds]at hdf;obtain⟨⟨cap,rfl,hcs⟩,hd0⟩:=hdf;show LeavesInM Fence.wide 0 P fn a'.tmps R a'.defers (.panicking pe) w'
   rw[hds];refine⟨by simp,.inr ⟨λhq=>by simp[Fence.wide]at hq,.func g,cap,g,cap,rfl,Db hen cap w',λ_ _=>trivial,?_⟩⟩;refine(hrec E' w' cap h1.rel h1.bound hcs).mono ?_;rintro e u' w2 ⟨⟨v,rfl⟩,hu,E2,h',nx',q1,q2,q3,xs,hxs,hK⟩;show LeavesInM Fence.wide 0 P fn a'.tmps R ds (settle u') w2
   rw[hu];have hds0:ds=[]:=hd0.1;subst hds0;have hr2:RelF (E2.at0 none) { fr:= σ'.fr,h:=h',nx:=nx',df:=[] } { tmps:=a'.tmps,defers:=[] } w2:=⟨q1.ro none,q2,(q3.rdVs _ h1.fr).ro none,⟨rfl,rfl⟩⟩
   obtain⟨v2,hv,hrv⟩:=uN (fn:=fn) (xs:=xs) hr2 (by rw[hrs];exact hxs);have hx:Ext E w (E2.at0 E.ro) w2:=(h2.trans q3).back;exact⟨v2,hv,hR v2 _ { fr:= σ'.fr,h:=h',nx:=nx' } _ w2 (q1.ro E.ro) q2 hx ((hrv:RdV w2 (E2.at0 none) _ _).ro E.ro) hK⟩
 |normal=>exact ret _ h3
 |ret=>exact ret _ h3
 |exit _=>exact h3.elim
 |goto _=>exact h3.elim
 |outgrown=>exact h3.elim
theorem xG{P:Program}{D:Nat->Prop}{KP:List PanicEntry->St->Prop}{σ:St}{d:Option Tmp}{f:FuncId}{xs ys:List V}{r:V}{K:St->Prop}(hC:aL P f ys r)(hp:V.pures ys=true)(hy:∀w E vs,RdVs w E xs vs->RdVs w E ys vs)(hK:K (σ.put d r)):PCall P D KP σ d f xs K:=by
 refine⟨hC.1,λE w vs hr hbd hvs=>?_⟩;refine(hC.2 w E.S vs hr.slt (RdVs.bare _ hp (hy _ _ _ hvs))).mono ?_;rintro e w' ⟨v,S',rfl,q1,q2,q3,q4,q5⟩;have hrF:RelF E { σ with fr:=[],df:=aL6 E } { tmps:=#[],defers:=[] } w:=⟨hr,hbd,by show RdVs w E [] [];simp only[RdVs],Lx⟩
 obtain⟨k1,k2⟩:=hrF.later q5 q1 q2 q3;exact .inl ⟨v,r,σ.h,σ.nx,_,rfl,k1.rel,k1.bound,k2,RdV.unbare (E:={ E with S:=S' }) r q4,λq b _ h=>h,hK⟩
theorem rdV_opq{w:World}{E:Env}{i:Nat}{v:Value}(h:RdV w E (.own i) v):RdV w E (.t .opq) v:=by
 simp only[RdV]at h⊢;exact .opq _ h.1
theorem aQ3{w:World}{E:Env}{i:Nat}{xs:List V}{vs:List Value}(h:RdVs w E (.own i::xs) vs):RdVs w E (.t .opq::xs) vs:=by
 cases vs with
 |nil=>simp only[RdVs]at h
 |cons v vs=>
  simp only[RdVs]at h⊢;exact⟨rdV_opq h.1,h.2⟩
theorem aLc{P:Program}{D:Nat->Prop}{KP:List PanicEntry->St->Prop}{σ:St}{d:Option Tmp}{f:FuncId}{i:Nat}{xs:List V}{r:V}{K:St->Prop}(hC:aL P f (.t .opq::xs) r)(hp:V.pures (.t .opq::xs)=true)(hK:K (σ.put d r)):PCall P D KP σ d f (.own i::xs) K:=
 xG hC hp (λw E vs h=>aQ3 h) hK
structure AudF (A:List AudioR):Prop where
 len:A.length<=9223372036854775807
 chs:∀a∈A,a.chs.length<=9223372036854775807
 pcm:∀a∈A,∀p∈a.chs,p.length<=9223372036854775807/\aN9 p
def aG4(L:List (List Int))(p:List Int):Bool:=(p.length==(L.getD 0 []).length)&&decide (p.length<=1048576)
def nK(a:AudioR):Bool:=a.chs.all (aG4 a.chs)&&decide (a.chs.length<=4)
theorem aDk(L:List (List Int))(p:List Int):(((p.length:Int) != ((L.getD 0 []).length:Int))||decide ((p.length:Int)>1048576))=!aG4 L p:=by
 unfold aG4;rw[Bool.eq_iff_iff];simp only[Bool.or_eq_true,Bool.not_eq_true',Bool.and_eq_false_iff,decide_eq_true_eq,decide_eq_false_iff_not,beq_eq_false_iff_ne,bne_iff_ne,ne_eq];omega
theorem Gt{α:Type}{d:α}{q:α->Bool}{l:List α}(h:∀i,i<l.length->q (l.getD i d)=true):l.all q=true:=by
 rw[List.all_eq_true];intro x hx;obtain⟨i,hi,rfl⟩:=List.getElem_of_mem hx;have:=h i hi;rwa[List.getD_eq_getElem?_getD,List.getElem?_eq_getElem hi]at this
theorem aSr(a:AudioR)(hl:a.chs.length<=9223372036854775807):aL Tryz.prog 28 [.agg [cF a.name,.t (pY a.chs)]] (aR (nK a)):=by
 obtain⟨nm,L⟩:=a;simp only at hl⊢;refine aF Tryz.X28 Tryz.func28 rfl Tryz.ntmps28 (by rw[Tryz.results28]) (aB _ ?_);simp only[go_sem,seval,pY,t16];refine aE (λ(k:Nat) σ=>bP 3 (aA k) (aY [4,5,6,7,8,9,10,11,12,13,14,15,16,17,18,19,20,21,22,23,24,25,26,27,28,29,30,31,32,33,34,35] (bE σ))) (λk=>k<=L.length /\∀i,i<k->aG4 L (L.getD i [])=true) (λk=>L.length-k) 0 (aC ?_) ⟨Nat.zero_le _,λi hi=>absurd hi (by omega)⟩ ?_
 .simp only[go_sem,seval]<;>simp
 .rintro k ⟨hk,hi⟩;refine aB _ ?_;simp only[go_sem,seval];refine⟨λhlt=>?_,λhge=>?_⟩
  .simp only[bxx]at hlt;have hkl:k<L.length:=by omega
   have h0l:0<L.length:=by omega
   have hwk:IntKind.i64.wrap ((k:Int)+1)=((k+1:Nat):Int):=by rw[bJ (by omega)];omega
   unfold awS;simp only[go_sem,seval];refine bL [0,1,2,3,4,5,6,7,8,9,10,11,12,13,14,15,16,17,18,19,20] .done (h:=?_);simp only[go_sem,seval,Aj hkl,Aj h0l];rw[aDk];refine⟨⟨by omega,by omega⟩,by omega,λ_=>⟨by omega,by omega⟩,λh5=>?_,λh5=>?_⟩
   .have:nK ⟨nm,L⟩=false:=by
     unfold nK;rw[cK hkl (by simpa using h5)];rfl
    rw[this];unfold awS;simp only[go_sem,seval]
   .unfold awS;simp only[go_sem,seval];refine⟨k+1,aC ?_,⟨by omega,upto hi (by simpa using h5)⟩,by omega⟩;simp only[go_sem,seval,hwk];simp
  .simp only[bxx]at hge;have hkl:k=L.length:=by omega
   unfold awS;simp only[go_sem,seval];have h6:nK ⟨nm,L⟩=decide ((L.length:Int)<=4):=by
    unfold nK;rw[Gt (d:=[]) (by rw[<-hkl];exact hi),Bool.true_and];exact decide_eq_decide.2 (by show L.length<=4↔_;omega)
   rw[h6]
theorem Gs{A:List AudioR}{k:Nat}(h:k<A.length)(d:List T):nth d (A.map AudioR.c) k=[mW (A.getD k default).name,pY (A.getD k default).chs]:=Zv h d
theorem aSw(A:List AudioR)(hl:A.length<=9223372036854775807)(n:ByteArray):aL Tryz.prog 157 [.t (uJ A),cF n] (aA (nB (λa:AudioR=>a.name.toList==n.toList) A)):=by
 refine aF Tryz.X157 Tryz.func157 rfl Tryz.ntmps157 (by rw[Tryz.results157]) (aB _ ?_);simp only[go_sem,seval];refine aE (λ(k:Nat) σ=>bP 5 (aA k) (aY [6,7,8,9,10,11,12,13,14,15,16,17,18,19] (bE σ))) (λk=>k<=A.length /\∀i,i<k->((A.getD i default).name.toList==n.toList)=false) (λk=>A.length-k) 0 (aC ?_) ⟨Nat.zero_le _,λi hi=>absurd hi (by omega)⟩ ?_
 .simp only[go_sem,seval]<;>simp
 .rintro k ⟨hk,hi⟩;refine aB _ ?_;simp only[go_sem,seval];refine⟨λhlt=>?_,λhge=>?_⟩
  .simp only[bxx]at hlt;have hkl:k<A.length:=by omega
   have hwk:IntKind.i64.wrap ((k:Int)+1)=((k+1:Nat):Int):=by rw[bJ (by omega)];omega
   unfold awS;simp only[go_sem,seval,Gs hkl];refine⟨⟨by omega,by omega⟩,λhc=>?_,λhc=>?_⟩
   .unfold awS;simp only[go_sem,seval];rw[Ga (k:=k) (by omega) hi hc]
   .unfold awS;simp only[go_sem,seval];refine⟨k+1,aC ?_,⟨by omega,upto hi hc⟩,by omega⟩;simp only[go_sem,seval,hwk]
  .simp only[bxx]at hge;have hkl:k=A.length:=by omega
   unfold awS;simp only[go_sem,seval];rw[Jd (λi hi2=>hi i (by omega))]
theorem aPc{A:List AudioR}{n:ByteArray}(h:nB (λa:AudioR=>a.name.toList==n.toList) A<0):rN A n=none:=by
 unfold rN;unfold nB at h;split at h
 .omega
 .rename_i h1;rw[List.find?_eq_none];intro a ha hq;exact h1 (List.any_eq_true.2 ⟨a,ha,hq⟩)
theorem aPb{A:List AudioR}{n:ByteArray}(h:0<=nB (λa:AudioR=>a.name.toList==n.toList) A):∃k,k<A.length/\nB (λa:AudioR=>a.name.toList==n.toList) A=(k:Int)/\rN A n=some (A.getD k default):=by
 unfold nB at h⊢;split at h
 .rename_i h1;rw[if_pos h1];obtain⟨x,hx,hq⟩:=List.any_eq_true.1 h1;have hlt:A.findIdx (λa:AudioR=>a.name.toList==n.toList)<A.length:=List.findIdx_lt_length_of_exists ⟨x,hx,hq⟩;refine⟨_,hlt,rfl,?_⟩;unfold rN;rw[bB hlt,<-List.getElem?_eq_getElem hlt,List.find?_eq_getElem?_findIdx]
 .omega
def dQ(f:Nat->Int)(n i:Nat):List Int:=(List.range n).map λj=>if j<i then f j else 0
theorem eD(f:Nat->Int)(n i:Nat):(dQ f n i).length=n:=by unfold dQ;simp
theorem xW(f:Nat->Int)(n:Nat):(dQ f n 0).map c16=List.replicate n (c16 0):=by
 unfold dQ;rw[List.map_map];refine List.ext_getElem (by simp) λi h1 h2=>?_
 simp
theorem Bw(f:Nat->Int){n i:Nat}(h:i<n):((dQ f n i).map c16).set i (c16 (f i))=(dQ f n (i+1)).map c16:=by
 unfold dQ;refine List.ext_getElem (by simp) λj h1 h2=>?_
 rw[List.getElem_set]
 by_cases hj:i=j
 .subst hj;simp
 .rw[if_neg hj];simp only[List.getElem_map,List.getElem_range];congr 1
  by_cases h3:j<i
  .rw[if_pos h3,if_pos (by omega)]
  .rw[if_neg h3,if_neg (by omega)]
theorem qU(f:Nat->Int)(n:Nat):dQ f n n=(List.range n).map f:=by
 unfold dQ;refine List.map_congr_left λj hj=>?_
 rw[if_pos (List.mem_range.1 hj)]
def aPe(L:List Int)(k:Nat)(i:Nat):Int:=(aD L k 9000+i*(1+aD L (k+1) 700)).tmod 20000
def aPd(L:List Int)(k:Nat)(i:Nat):Int:=(-(aD L k 9000*3+((i*i:Nat):Int).tmod 977*(1+aD L (k+1) 700))).tmod 20000
def aAx(f:Nat->Int)(n:Nat):List Int:=(List.range n).map f
theorem Xh{x:Int}(h1 : -32768<=x)(h2:x<=32767):IntKind.i16.wrap x=x:=by
 have e1:(2:Int) ^ IntKind.i16.bits=65536:=by decide
 have e2:(2:Int) ^ (IntKind.i16.bits-1)=32768:=by decide
 unfold IntKind.wrap;simp only[IntKind.signed,e1,e2,Bool.true_and,decide_eq_true_eq];split<;>omega
theorem Pv{i t:Int}{M N:Nat}(hi:i.natAbs<=M)(ht:t.natAbs<=N):(i*t).natAbs<=M*N:=by
 rw[Int.natAbs_mul];exact Nat.mul_le_mul hi ht
theorem aAv(L:List Int)(k k1:Nat)(hk:k1=k+1)(i:Nat)(hi:i<10000):[T.lit (.int .i16 (IntKind.i16.wrap ((IntKind.i64.wrap (aD L k 9000+IntKind.i64.wrap ((i:Int)*(1+aD L k1 700)))).tmod 20000)))]=c16 (aPe L k i):=by
 subst hk;have p0:=aG (L:=L) (k:=k) (n:=9000);have q0:=aG (L:=L) (k:=k+1) (n:=700);have hb:=Pv (i:=i) (t:=1+aD L (k+1) 700) (M:=10000) (N:=700) (by omega) (by omega);have hm:=vQ (aD L k 9000+(i:Int)*(1+aD L (k+1) 700)) (n:=20000) (by decide);rw[wrap64 (x:=(i:Int)*(1+aD L (k+1) 700)),wrap64 (x:=aD L k 9000+(i:Int)*(1+aD L (k+1) 700)),Xh (by omega) (by omega)];rfl
theorem aAu(L:List Int)(k k1:Nat)(hk:k1=k+1)(i:Nat)(hi:i<10000):[T.lit (.int .i16 (IntKind.i16.wrap ((IntKind.i64.wrap (0-IntKind.i64.wrap (IntKind.i64.wrap (aD L k 9000*3)+IntKind.i64.wrap ((IntKind.i64.wrap ((i:Int)*(i:Int))).tmod 977*(1+aD L k1 700))))).tmod 20000)))]=c16 (aPd L k i):=by
 subst hk;have p0:=aG (L:=L) (k:=k) (n:=9000);have q0:=aG (L:=L) (k:=k+1) (n:=700);have hb:=Pv (i:=i) (t:=i) (M:=10000) (N:=10000) (by omega) (by omega);have h9:=vQ ((i:Int)*(i:Int)) (n:=977) (by decide);have hc:=Pv (i:=((i:Int)*(i:Int)).tmod 977) (t:=1+aD L (k+1) 700) (M:=977) (N:=700) (by omega) (by omega);have hm:=vQ (-(aD L k 9000*3+((i:Int)*(i:Int)).tmod 977*(1+aD L (k+1) 700))) (n:=20000) (by decide);rw[wrap64 (x:=(i:Int)*(i:Int)),wrap64 (x:=((i:Int)*(i:Int)).tmod 977*(1+aD L (k+1) 700)),wrap64 (x:=aD L k 9000*3),
  wrap64 (x:=aD L k 9000*3+((i:Int)*(i:Int)).tmod 977*(1+aD L (k+1) 700)),Int.zero_sub,wrap64 (x:= -(aD L k 9000*3+((i:Int)*(i:Int)).tmod 977*(1+aD L (k+1) 700))),Xh (by omega) (by omega)]
 rfl
def Ej(L:List Int)(n:Nat):List AudioR:=[⟨⟨#[97]⟩,[aAx (aPe L 0) n,aAx (aPd L 0) n]⟩,⟨⟨#[98]⟩,[aAx (aPe L 2) n,aAx (aPd L 2) n]⟩]
set_option maxHeartbeats 4000000 in
theorem cSounds(L:List Int)(n:Nat)(hn:n<=10000):aL Tryz.prog 8 [.t (cM L),aA n] (.t (uJ (Ej L n))):=by
 have ww1:IntKind.i64.wrap 1=1:=by decide
 have ww2:IntKind.i64.wrap 2=2:=by decide
 have w01:IntKind.i64.wrap (0+1)=1:=by decide
 have w11:IntKind.i64.wrap (1+1)=2:=by decide
 have nvA:∀(d:List T) (x:List V) (l:List (List V)),pL d (x::l) 0=x:=λ_ _ _=>rfl
 have nvB:∀(d:List T) (x y:List V) (l:List (List V)),pL d (x::y::l) 1=y:=λ_ _ _ _=>rfl
 refine aF Tryz.X8 Tryz.func8 rfl Tryz.ntmps8 (by rw[Tryz.results8]) (aB _ ?_);simp only[go_sem,seval];refine bC ?_;refine aK (aB _ ?_);simp only[go_sem,dtf,seval];refine aQ 9 .done (h:=?_);simp only[go_sem,seval];refine⟨⟨by omega,by unfold maxLen;omega,by omega⟩,⟨by omega,by unfold maxLen;omega,by omega⟩,by kernel_rfl,?_⟩;refine aP (bR L 0 9000) rfl rfl rfl ?_;have p0:=aG (L:=L) (k:=0) (n:=9000);have q0:=aG (L:=L) (k:=1) (n:=700);simp only[go_sem,seval];refine aP (bR L 1 700) rfl rfl rfl ?_;simp only[go_sem,seval,wrap64 (x:=1+aD L 1 700)];refine aE (λ(i:Nat) σ=>mY 4 (.row 76 1 (c16 0) (aS ((dQ (aPe L 0) n i).map c16))) (mY 6 (.row 76 1 (c16 0) (aS ((dQ (aPd L 0) n i).map c16))) (bP 12 (aA i) (aY [34,35,36,37,38,39,40,41,42,43,44,45,46,47,48,49,50,51,52,53,54,55,56,57,58,59,60,61,62,63,64,65,66,67,68,69,70,71,72,73,74] (bE σ))))) (λi=>i<=n) (λi=>n-i) 0 (aC ?_) (Nat.zero_le _) ?_
 .simp only[go_sem,seval];refine⟨by simp,by simp,by simp,(xW _ n).symm,by simp,(xW _ n).symm,by simp⟩
 .intro i hi;refine aB _ ?_;simp only[go_sem,seval];refine⟨λhlt=>?_,λhge=>?_⟩
  .simp only[bxx]at hlt;have hil:i<n:=by omega
   have hwi:IntKind.i64.wrap ((i:Int)+1)=((i+1:Nat):Int):=by rw[bJ (by omega)];omega
   unfold awS;simp only[go_sem,seval,nvA,nvB];refine⟨⟨by omega,by rw[eD];omega⟩,by rw[eD];omega,⟨by omega,by rw[eD];omega⟩,by rw[eD];omega,i+1,aC ?_,by omega,by omega⟩;simp only[go_sem,seval,hwi];refine⟨by simp,by simp,by simp,?_,by simp,?_,by simp,by simp⟩
   .rw[aAu L 0 1 rfl i (by omega)];exact Bw _ hil
   .rw[aAv L 0 1 rfl i (by omega)];exact Bw _ hil
  .simp only[bxx]at hge;have:n=i:=by omega
   subst this;unfold awS;simp only[go_sem,seval,ww1];refine⟨by decide,?_⟩;refine aK (aB _ ?_);simp only[go_sem,dtf,seval];refine aQ 9 .done (h:=?_);simp only[go_sem,seval];refine⟨⟨by omega,by unfold maxLen;omega,by omega⟩,⟨by omega,by unfold maxLen;omega,by omega⟩,by kernel_rfl,?_⟩;refine aP (bR L 2 9000) rfl rfl rfl ?_;have p2:=aG (L:=L) (k:=2) (n:=9000);have q2:=aG (L:=L) (k:=3) (n:=700);simp only[go_sem,seval];refine aP (bR L 3 700) rfl rfl rfl ?_;simp only[go_sem,seval,wrap64 (x:=1+aD L 3 700)];refine aE (λ(i:Nat) σ=>mY 15 (.row 76 1 (c16 0) (aS ((dQ (aPe L 2) n i).map c16))) (mY 17 (.row 76 1 (c16 0) (aS ((dQ (aPd L 2) n i).map c16))) (bP 12 (aA i) (aY [34,35,36,37,38,39,40,41,42,43,44,45,46,47,48,49,50,51,52,53,54,55,56,57,58,59,60,61,62,63,64,65,66,67,68,69,70,71,72,73,74] (bE σ))))) (λi=>i<=n) (λi=>n-i) 0 (aC ?_) (Nat.zero_le _) ?_
   .simp only[go_sem,seval];refine⟨by simp,by simp,by simp,(xW _ n).symm,by simp,(xW _ n).symm,?_⟩;simp
   .intro i hi;refine aB _ ?_;simp only[go_sem,seval];refine⟨λhlt=>?_,λhge=>?_⟩
    .simp only[bxx]at hlt;have hil:i<n:=by omega
     have hwi:IntKind.i64.wrap ((i:Int)+1)=((i+1:Nat):Int):=by rw[bJ (by omega)];omega
     unfold awS;simp only[go_sem,seval,nvA,nvB];refine⟨⟨by omega,by rw[eD];omega⟩,by rw[eD];omega,⟨by omega,by rw[eD];omega⟩,by rw[eD];omega,i+1,aC ?_,by omega,by omega⟩;simp only[go_sem,seval,hwi];refine⟨by simp,by simp,by simp,?_,by simp,?_,?_⟩
     .rw[aAu L 2 3 rfl i (by omega)];exact Bw _ hil
     .rw[aAv L 2 3 rfl i (by omega)];exact Bw _ hil
     .simp
    .simp only[bxx]at hge;have:n=i:=by omega
     subst this;unfold awS;simp only[go_sem,seval,ww2];refine⟨by decide,?_⟩;refine aK (aB _ ?_);simp only[go_sem,dtf,seval];simp only[qU];rfl
