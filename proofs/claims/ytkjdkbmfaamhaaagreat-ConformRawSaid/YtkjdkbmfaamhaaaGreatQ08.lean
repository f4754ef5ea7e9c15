/- Proved here: Contracts of the reference's rational numbers, with their errors. -/
import Derived.Test.YtkjdkbmfaamhaaaGreatQ07
set_option linter.unusedSimpArgs false
set_option linter.unusedVariables false
set_option linter.unusedSectionVars false
set_option linter.unnecessarySimpa false
namespace Go.Proofs.YtkjdkbmfaamhaaaGreat
open Go.RowKit
set_option maxRecDepth 4000
theorem aL2 (x y:Int) (hz:x*y=0→True):(bif (decide (0<(x*y).natAbs)&&(!(decide (x<0)==decide (y<0)))) then -((x*y).natAbs:Int) else ((x*y).natAbs:Int))=x*y:=by
 have h:=aDp x y;have e:decide (0<(x*y).natAbs)=decide (x*y≠0):=decide_eq_decide.2 (by omega);rw [e,Bool.and_comm,h]
 by_cases h0:x*y<0
 ·rw [decide_eq_true h0,cond_true];omega
 ·rw [decide_eq_false h0,cond_false];omega
theorem vW {n:Int} {g:Nat} (h:g ∣ n.natAbs):n.natAbs / g=(n / (g:Int)).natAbs:=by
 rw [Int.natAbs_ediv_of_dvd (Int.ofNat_dvd_left.2 h),Int.natAbs_natCast]
theorem Dv {n:Int} {g:Nat} (hg : 0<g) (h:g ∣ n.natAbs):decide (n / (g:Int)<0)=decide (n<0):=by
 apply decide_eq_decide.2;obtain ⟨k,hk⟩:=Int.ofNat_dvd_left.2 h;rw [hk,Int.mul_ediv_cancel_left _ (by omega)];constructor
 ·intro h;exact Int.mul_neg_of_pos_of_neg (by omega) h
 ·intro h;rcases Int.lt_or_le k 0 with h2 | h2
  ·exact h2
  ·have:=Int.mul_nonneg (show (0:Int)≤g by omega) h2;omega
theorem aL1 {a b:Int} (h:(!(decide (a<0)==decide (b<0)))=false):(a<0 ↔ b<0):=by
 by_cases h1:a<0<;>by_cases h2:b<0<;>simp [h1,h2] at h ⊢
theorem aL3 {a b:Int} (h:(!(decide (a<0)==decide (b<0)))=true) : ¬ (a<0 ↔ b<0):=by
 by_cases h1:a<0<;>by_cases h2:b<0<;>simp [h1,h2] at h ⊢
theorem aNf (a b:Int):EqV Tryz.prog 179 [aU a,aU b] [aU 0,aU 0] (a==0&&b==0):=by
 intro w E vs us h1 h2;obtain ⟨x1,x2,rfl,h1,h2'⟩:=Qt h1;obtain ⟨y1,y2,rfl,k1,k2⟩:=Qt h2;rw [(aG h1).1,(aG h2').1,(aG k1).1,(aG k2).1];constructor
 ·unfold Op.equal;simp [go_sem,Op.maxDepth]
  repeat' split
  all_goals simp_all
 ·intro p q;unfold eqGuard;simp [Tryz.eqGuardType179]
theorem aDc (z:Nat):((((z / 18446744073709551616:Nat):Int)==0)&&(((z % 18446744073709551616:Nat):Int)==0))=decide (z=0):=by
 rw [Bool.eq_iff_iff];simp only [Bool.and_eq_true,decide_eq_true_eq,beq_iff_eq];omega
theorem Zb {n:Int} {k:Nat} (hk : 1≤k):decide (n*(k:Int)<0)=decide (n<0):=by
 apply decide_eq_decide.2;constructor
 ·intro h;rcases Int.lt_or_le n 0 with h2 | h2
  ·exact h2
  ·have:=Int.mul_nonneg h2 (show (0:Int)≤k by omega);omega
 ·intro h;exact Int.mul_neg_of_neg_of_pos h (by omega)
theorem aAs {p q:Rat} (hp':bV p=true) (hq':bV q=true):aJ Tryz.prog 62 [bK (ofQ p),bK (ofQ q)] (jP (p*q)):=by
 obtain ⟨fa,ha⟩:=dN hp';obtain ⟨fb,hb⟩:=dN hq';obtain ⟨pn,pd⟩:=cX.1 hp';obtain ⟨qn,qd⟩:=cX.1 hq';obtain ⟨mn,md⟩:=mulQ p q;have p0:=p.den_pos;have q0:=q.den_pos;have cpa:=tL _ fa;have cpb:=tL _ fb;rw [ha] at cpa;rw [hb] at cpb;have cma:=Dz p.num ⟨by omega,by omega⟩;have cmb:=Dz q.num ⟨by omega,by omega⟩;unfold ofQ at cpa cpb ⊢;have hg1 : 0<Nat.gcd p.num.natAbs q.den:=Nat.gcd_pos_of_pos_right _ (by omega);have hg2 : 0<Nat.gcd q.num.natAbs p.den:=Nat.gcd_pos_of_pos_right _ (by omega);have hg1q:Nat.gcd p.num.natAbs q.den≤q.den:=Nat.gcd_le_right _ (by omega);have hg2p:Nat.gcd q.num.natAbs p.den≤p.den:=Nat.gcd_le_right _ (by omega);have x1:=vW (n:=p.num) (Nat.gcd_dvd_left p.num.natAbs q.den);have y1:=vW (n:=q.num) (Nat.gcd_dvd_left q.num.natAbs p.den);have sx:=Dv hg1 (Nat.gcd_dvd_left p.num.natAbs q.den);have sy:=Dv hg2 (Nat.gcd_dvd_left q.num.natAbs p.den);have x2:p.num.natAbs / Nat.gcd p.num.natAbs q.den≤p.num.natAbs:=Nat.div_le_self _ _;have y2:q.num.natAbs / Nat.gcd q.num.natAbs p.den≤q.num.natAbs:=Nat.div_le_self _ _;have d1:p.den / Nat.gcd q.num.natAbs p.den≤p.den:=Nat.div_le_self _ _;have d2:q.den / Nat.gcd p.num.natAbs q.den≤q.den:=Nat.div_le_self _ _;have cg1:=Gb p.num.natAbs q.den;have cg2:=Gb q.num.natAbs p.den;have hr:=Cq mn md;rw [← hr];clear hr mn md;generalize p.num=an at *;generalize q.num=bn at *;generalize p.den=ad at *;generalize q.den=bd at *;generalize Nat.gcd an.natAbs bd=g1 at *;generalize Nat.gcd bn.natAbs ad=g2 at *;generalize hX:an / (g1:Int)=x at *;generalize hY:bn / (g2:Int)=y at *;generalize hP:ad / g2=p' at *;generalize hQ:bd / g1=q' at *;refine aD Tryz.X62 Tryz.func62 rfl Tryz.ntmps62 (by rw [Tryz.results62]) (aB _ ?_);simp only [go_sem,simprocAttr];refine ⟨_,cpa,?_⟩;simp only [go_sem,simprocAttr];refine ⟨_,cpb,?_⟩;simp only [go_sem,simprocAttr];refine bL [0,1,2,3,4,5,6,7,8,9,10,11,12,13,14,15] .done rfl (by kernel_rfl) (by kernel_rfl) (by decide) ?_;simp only [go_sem,simprocAttr];refine ⟨_,cma,?_⟩;simp only [go_sem,simprocAttr,bN (n:=bd) (by omega)];refine ⟨_,cg1,?_⟩;simp only [go_sem,simprocAttr];refine ⟨_,cmb,?_⟩;simp only [go_sem,simprocAttr,bN (n:=ad) (by omega)];refine ⟨_,cg2,?_⟩;simp only [go_sem,simprocAttr];rw [x1] at x2;rw [y1] at y2;have ct:=Ga x.natAbs y.natAbs (by omega) (by omega);rw [← Int.natAbs_mul] at ct;have cu:=Ga p' q' (by omega) (by omega);have sz:=aL2 x y (fun _=>trivial);rw [sx,sy] at sz;have hz:(x*y).natAbs<18446744073709551616*18446744073709551616:=by rw [Int.natAbs_mul];exact Nat.mul_lt_mul'' (by omega) (by omega)
 have hw:p'*q'<18446744073709551616*18446744073709551616:=Nat.mul_lt_mul'' (by omega) (by omega);refine aQ 13 .done rfl (by kernel_rfl) (by kernel_rfl) (by decide) ?_;simp only [go_sem,simprocAttr];refine ⟨_,cma,?_⟩;simp only [go_sem,simprocAttr,cN,x1,wNU (n:=x.natAbs) (by omega)];refine ⟨by omega,_,cmb,?_⟩;simp only [go_sem,simprocAttr,cN,y1,wNU (n:=y.natAbs) (by omega)];refine ⟨by omega,_,ct,?_⟩;generalize x*y=z at *;simp only [go_sem,simprocAttr];refine ⟨by kernel_rfl,?_⟩;refine aQ 13 .done rfl (by kernel_rfl) (by kernel_rfl) (by decide) ?_;simp only [go_sem,simprocAttr,cN,hP,hQ,bN (n:=ad) (by omega),bN (n:=bd) (by omega),wNU (n:=p') (by omega),wNU (n:=q') (by omega)];refine ⟨by omega,by omega,_,cu,?_⟩;generalize p'*q'=w at *;simp only [go_sem,simprocAttr];refine ⟨by kernel_rfl,?_⟩;have zd:=Nat.div_add_mod z.natAbs 18446744073709551616;have wd:=Nat.div_add_mod w 18446744073709551616;have zm:=Nat.mod_lt z.natAbs (show 0<18446744073709551616 by decide);have wm:=Nat.mod_lt w (show 0<18446744073709551616 by decide);refine ⟨fun h1=>?_,fun h1=>?_⟩
 ·have:vqN z w = .tup [bK ⟨0,0⟩,aA 2]:=by
   unfold vqN;have:(decide (z.natAbs≤9223372036854775807)&&decide (w≤9223372036854775807))=false:=by
    rw [Bool.and_eq_false_iff,decide_eq_false_iff_not,decide_eq_false_iff_not];simp only [Bool.or_eq_true,decide_eq_true_eq] at h1;omega
   rw [this];rfl
  rw [this];unfold awS;simp only [go_sem,simprocAttr]
 ·have h2:z.natAbs / 18446744073709551616=0∧w / 18446744073709551616=0:=by
   simp only [Bool.or_eq_false_iff,decide_eq_false_iff_not] at h1;omega
  rw [h2.1] at zd;rw [h2.2] at wd;have zl:z.natAbs % 18446744073709551616=z.natAbs:=by omega
  have wl:w % 18446744073709551616=w:=by omega
  have cm:=fun s=>aPs s z.natAbs w (by omega) (by omega)
  unfold awS;simp only [go_sem,simprocAttr,zl,wl];refine ⟨_,cm _,?_⟩;have e0:(decide ((z.natAbs:Int) > 0))=decide (0<z.natAbs):=decide_eq_decide.2 (by omega);rw [e0,sz];unfold vqN
  by_cases hv:(decide (z.natAbs≤9223372036854775807)&&decide (w≤9223372036854775807))=true
  ·rw [hv,cond_true];simp only [go_sem,simprocAttr]
  ·rw [Bool.not_eq_true] at hv;rw [hv,cond_false];simp only [go_sem,simprocAttr]
set_option maxHeartbeats 4000000 in
theorem aPc {p q:Rat} (hp':bV p=true) (hq':bV q=true):aJ Tryz.prog 107 [bK (ofQ p),bK (ofQ q)] (jP (p+q)):=by
 obtain ⟨fa,ha⟩:=dN hp';obtain ⟨fb,hb⟩:=dN hq';obtain ⟨pn,pd⟩:=cX.1 hp';obtain ⟨qn,qd⟩:=cX.1 hq';obtain ⟨mn,md⟩:=addQ p q;have p0:=p.den_pos;have q0:=q.den_pos;have cpa:=tL _ fa;have cpb:=tL _ fb;rw [ha] at cpa;rw [hb] at cpb;have cma:=Dz p.num ⟨by omega,by omega⟩;have cmb:=Dz q.num ⟨by omega,by omega⟩;unfold ofQ at cpa cpb ⊢;have hg : 0<Nat.gcd p.den q.den:=Nat.gcd_pos_of_pos_right _ (by omega);have hgp:Nat.gcd p.den q.den≤p.den:=Nat.gcd_le_left _ (by omega);have hgq:Nat.gcd p.den q.den≤q.den:=Nat.gcd_le_right _ (by omega);have d1:p.den / Nat.gcd p.den q.den≤p.den:=Nat.div_le_self _ _;have d2:q.den / Nat.gcd p.den q.den≤q.den:=Nat.div_le_self _ _;have d3 : 1≤p.den / Nat.gcd p.den q.den:=Nat.div_pos hgp hg;have d4 : 1≤q.den / Nat.gcd p.den q.den:=Nat.div_pos hgq hg;have cg1:=Gb p.den q.den;have hz0:(p+q).num=0→(p+q).den=1:=fun h=>by
  have:=Rat.num_eq_zero.1 h;rw [this];rfl
 rw [mn,md] at hz0;have hr:=Cq mn md;rw [← hr];clear hr mn md;generalize p.num=an at *;generalize q.num=bn at *;generalize p.den=ad at *;generalize q.den=bd at *;generalize Nat.gcd ad bd=g at *;generalize hP:ad / g=p' at *;generalize hQ:bd / g=q' at *;refine aD Tryz.X107 Tryz.func107 rfl Tryz.ntmps107 (by rw [Tryz.results107]) (aB _ ?_);simp only [go_sem,simprocAttr];refine ⟨_,cpa,?_⟩;simp only [go_sem,simprocAttr];refine ⟨_,cpb,?_⟩;simp only [go_sem,simprocAttr,bN (n:=ad) (by omega),bN (n:=bd) (by omega)];refine ⟨_,cg1,?_⟩;simp only [go_sem,simprocAttr];have b1:an.natAbs*q'≤9223372036854775807*9223372036854775807:=Nat.mul_le_mul pn (by omega);have b2:bn.natAbs*p'≤9223372036854775807*9223372036854775807:=Nat.mul_le_mul qn (by omega);have ct1:=Ga an.natAbs q' (by omega) (by omega);have ct2:=Ga bn.natAbs p' (by omega) (by omega);have e1:(an*(q':Int)).natAbs=an.natAbs*q':=by rw [Int.natAbs_mul,Int.natAbs_natCast]
 have e2:(bn*(p':Int)).natAbs=bn.natAbs*p':=by rw [Int.natAbs_mul,Int.natAbs_natCast]
 have s1:decide (an*(q':Int)<0)=decide (an<0):=Zb d4;have s2:decide (bn*(p':Int)<0)=decide (bn<0):=Zb d3;rw [← e1] at b1 ct1;rw [← e2] at b2 ct2;clear e1 e2;refine aQ 22 .done rfl (by kernel_rfl) (by kernel_rfl) (by decide) ?_;simp only [go_sem,simprocAttr];refine ⟨_,cma,?_⟩;simp only [go_sem,simprocAttr,cN,hQ,bN (n:=bd) (by omega),wNU (n:=q') (by omega)];refine ⟨by omega,_,ct1,?_⟩;simp only [go_sem,simprocAttr];refine ⟨_,cmb,?_⟩;simp only [go_sem,simprocAttr,cN,hP,bN (n:=ad) (by omega),wNU (n:=p') (by omega)];refine ⟨by omega,_,ct2,?_⟩;generalize an*(q':Int)=X at *;generalize bn*(p':Int)=Y at *;simp only [go_sem,simprocAttr];refine ⟨by kernel_rfl,?_⟩;have bS:X.natAbs+Y.natAbs<18446744073709551616*18446744073709551616:=by omega
 refine aQ 9 .done rfl (by kernel_rfl) (by kernel_rfl) (by decide) ?_;simp only [go_sem,simprocAttr];refine ⟨_,cRPlus X.natAbs Y.natAbs bS,?_⟩;simp only [go_sem,simprocAttr];refine ⟨by kernel_rfl,?_⟩;have bT:(X+Y).natAbs<18446744073709551616*18446744073709551616:=by omega
 have t1:=decide_eq_decide.1 s1;have t2:=decide_eq_decide.1 s2;have cr:=cRRest (X+Y).natAbs g bT ⟨hg,by omega⟩;have hmod:Nat.gcd ((X+Y).natAbs % g) g=Nat.gcd (X+Y).natAbs g:=by rw [← Nat.gcd_rec,Nat.gcd_comm]
 have cg:=Gb ((X+Y).natAbs % g) g;rw [hmod] at cg;have hh : 0<Nat.gcd (X+Y).natAbs g:=Nat.gcd_pos_of_pos_right _ hg;have hhg:Nat.gcd (X+Y).natAbs g≤g:=Nat.gcd_le_right _ hg;have hhS:Nat.gcd (X+Y).natAbs g ∣ (X+Y).natAbs:=Nat.gcd_dvd_left _ _;have d5:bd / Nat.gcd (X+Y).natAbs g≤bd:=Nat.div_le_self _ _;clear hmod;generalize Nat.gcd (X+Y).natAbs g=h at *;have co:=aP5 (X+Y).natAbs h bT ⟨hh,by omega⟩;have sq:=Dv hh hhS;have sz:=vW hhS;have szz:(X+Y).natAbs=0 ↔ (X+Y) / (h:Int)=0:=by
  obtain ⟨k,hk⟩:=Int.ofNat_dvd_left.2 hhS;rw [hk,Int.mul_ediv_cancel_left _ (by omega),Int.natAbs_mul,Int.natAbs_natCast,Nat.mul_eq_zero];omega
 generalize hQ2:bd / h=q2 at *;have cw:=Ga p' q2 (by omega) (by omega);have hw:p'*q2<18446744073709551616*18446744073709551616:=Nat.mul_lt_mul'' (by omega) (by omega);generalize p'*q2=w at *;refine ⟨fun h1 => ?ca,fun h1 => ?cb⟩
 case' cb =>
  have h1':=aL1 h1;unfold awS;simp only [go_sem,simprocAttr];have hM:X.natAbs+Y.natAbs=(X+Y).natAbs:=by omega
  have hfl:(X+Y).natAbs≠0→decide (an<0)=decide (X+Y<0):=fun _=>decide_eq_decide.2 (by omega)
  rw [hM];generalize decide (an<0)=fl at *;clear h1
 case' ca =>
  have h1':=aL3 h1;unfold awS;simp only [go_sem,simprocAttr];refine ⟨_,cRLess X.natAbs Y.natAbs,?_⟩;simp only [go_sem,simprocAttr];refine ⟨fun h2 => ?cc,fun h2 => ?cd⟩
  case' cd =>
   simp only [bxx] at h2;unfold awS;simp only [go_sem,simprocAttr];refine ⟨_,aFp X.natAbs Y.natAbs (by omega) (by omega),?_⟩;simp only [go_sem,simprocAttr];have hM:X.natAbs - Y.natAbs=(X+Y).natAbs:=by omega
   have hfl:(X+Y).natAbs≠0→decide (an<0)=decide (X+Y<0):=fun _=>decide_eq_decide.2 (by omega)
   rw [hM];generalize decide (an<0)=fl at *;clear h1 h2
  case' cc =>
   simp only [bxx] at h2;unfold awS;simp only [go_sem,simprocAttr];refine aQ 8 .done rfl (by kernel_rfl) (by kernel_rfl) (by decide) ?_;simp only [go_sem,simprocAttr];refine ⟨_,aFp Y.natAbs X.natAbs (by omega) (by omega),?_⟩;simp only [go_sem,simprocAttr];refine ⟨by kernel_rfl,?_⟩;have hM:Y.natAbs - X.natAbs=(X+Y).natAbs:=by omega
   have hfl:(X+Y).natAbs≠0→decide (bn<0)=decide (X+Y<0):=fun _=>decide_eq_decide.2 (by omega)
   rw [hM];generalize decide (bn<0)=fl at *;clear h1 h2
 all_goals
  refine ⟨_,cr,?_⟩;simp only [go_sem,simprocAttr];refine ⟨_,cg,?_⟩;simp only [go_sem,simprocAttr];refine ⟨_,co,?_⟩
  by_cases ho:(X+Y).natAbs / h<18446744073709551616
  ·rw [aKa ho];simp only [go_sem,simprocAttr];refine aQ 13 .done rfl (by kernel_rfl) (by kernel_rfl) (by decide) ?_;simp only [go_sem,simprocAttr,cN,hP,hQ2,bN (n:=ad) (by omega),bN (n:=bd) (by omega),wNU (n:=p') (by omega),wNU (n:=q2) (by omega)];refine ⟨by omega,by omega,_,cw,?_⟩;simp only [go_sem,simprocAttr];refine ⟨by kernel_rfl,?_⟩;have eq:=aNf (((X+Y).natAbs / 18446744073709551616:Nat):Int) (((X+Y).natAbs % 18446744073709551616:Nat):Int);rw [aDc] at eq;refine ⟨_,eq,fun h3=>?_,fun h3=>?_⟩
   ·simp only [bxx] at h3;have h01:vqN 0 1 = .tup [bK ⟨0,1⟩,aA 0]:=by kernel_rfl
    rw [szz.1 h3,hz0 (szz.1 h3),h01];unfold awS;simp only [go_sem,simprocAttr]
   ·simp only [bxx] at h3;have wd:=Nat.div_add_mod w 18446744073709551616;have wm:=Nat.mod_lt w (show 0<18446744073709551616 by decide);rw [hfl h3, ← sq,sz];rw [sz] at ho;unfold awS;simp only [go_sem,simprocAttr];refine ⟨fun h4=>?_,fun h4=>?_⟩
    ·simp only [bxx] at h4;have:vqN ((X+Y) / (h:Int)) w = .tup [bK ⟨0,0⟩,aA 2]:=by
      unfold vqN;rw [decide_eq_false (show ¬ w≤9223372036854775807 by omega),Bool.and_false];rfl
     rw [this];unfold awS;simp only [go_sem,simprocAttr]
    ·simp only [bxx] at h4;have wl:w % 18446744073709551616=w:=by omega
     have cm:=aPs (decide ((X+Y) / (h:Int)<0)) ((X+Y) / (h:Int)).natAbs w (by omega) (by omega);have e3:(bif decide ((X+Y) / (h:Int)<0) then -((((X+Y) / (h:Int)).natAbs:Nat):Int) else ((((X+Y) / (h:Int)).natAbs:Nat):Int))=(X+Y) / (h:Int):=by
      by_cases h0:(X+Y) / (h:Int)<0
      ·rw [decide_eq_true h0,cond_true];omega
      ·rw [decide_eq_false h0,cond_false];omega
     rw [e3] at cm;clear hfl hz0 sq sz szz cw cr co cg cma cmb cpa cpb cg1 e3;unfold awS;simp only [go_sem,simprocAttr,wl];refine ⟨_,cm,?_⟩;unfold vqN
     by_cases hv:(decide (((X+Y) / (h:Int)).natAbs≤9223372036854775807)&&decide (w≤9223372036854775807))=true
     ·rw [hv,cond_true];simp only [go_sem,simprocAttr]
     ·rw [Bool.not_eq_true] at hv;rw [hv,cond_false];simp only [go_sem,simprocAttr]
  ·rw [vov_f ho];simp only [go_sem,simprocAttr];refine aQ 13 .done rfl (by kernel_rfl) (by kernel_rfl) (by decide) ?_;simp only [go_sem,simprocAttr,cN,hP,hQ2,bN (n:=ad) (by omega),bN (n:=bd) (by omega),wNU (n:=p') (by omega),wNU (n:=q2) (by omega)];refine ⟨by omega,by omega,_,cw,?_⟩;simp only [go_sem,simprocAttr];refine ⟨by kernel_rfl,?_⟩;have eq:=aNf (((X+Y).natAbs / 18446744073709551616:Nat):Int) (((X+Y).natAbs % 18446744073709551616:Nat):Int);rw [aDc] at eq;refine ⟨_,eq,fun h3=>?_,fun h3=>?_⟩
   ·simp only [bxx] at h3;rw [h3,Nat.zero_div] at ho;exact absurd (by decide) ho
   ·simp only [bxx] at h3;rw [sz] at ho;have:vqN ((X+Y) / (h:Int)) w = .tup [bK ⟨0,0⟩,aA 2]:=by
     unfold vqN;rw [decide_eq_false (show ¬ ((X+Y) / (h:Int)).natAbs≤9223372036854775807 by omega)];rfl
    rw [this];unfold awS;simp only [go_sem,simprocAttr]
theorem cRNeg (n d:Int) (hn : -9223372036854775808<n∧n≤9223372036854775807):aJ Tryz.prog 108 [bK ⟨n,d⟩] (bK ⟨-n,d⟩):=by
 refine aD Tryz.X108 Tryz.func108 rfl Tryz.ntmps108 (by rw [Tryz.results108]) (aB _ ?_);simp only [go_sem,simprocAttr,Int.zero_sub,wrap64 (x := -n) (by omega) (by omega)]
theorem cRSub {p q:Rat} (hp:bV p=true) (hq:bV q=true):aJ Tryz.prog 64 [bK (ofQ p),bK (ofQ q)] (jP (p - q)):=by
 obtain ⟨fb,hb⟩:=dN hq;obtain ⟨qn,qd⟩:=cX.1 hq;have cpb:=tL _ fb;rw [hb] at cpb;have h:=aPc hp (q := -q) (by rw [aA2];exact hq);rw [aEa, ← Rat.sub_eq_add_neg] at h;have hn:=cRNeg q.num q.den (by omega);unfold ofQ at cpb h ⊢;refine aD Tryz.X64 Tryz.func64 rfl Tryz.ntmps64 (by rw [Tryz.results64]) (aB _ ?_);simp only [go_sem,simprocAttr];refine ⟨_,cpb,?_⟩;simp only [go_sem,simprocAttr];refine aQ 8 .done rfl (by kernel_rfl) (by kernel_rfl) (by decide) ?_;simp only [go_sem,simprocAttr];refine ⟨_,hn,?_⟩;simp only [go_sem,simprocAttr];refine ⟨_,h,?_⟩
 by_cases hf:bV (p - q)=true
 ·rw [kD hf];simp only [go_sem,simprocAttr]
  kernel_rfl
 ·rw [Bool.not_eq_true] at hf;rw [nP hf];simp only [go_sem,simprocAttr]
  kernel_rfl
theorem cRDiv {p:Rat} (hp:bV p=true) (n:Nat) (hn : 1≤n) (hn2:n<9223372036854775808) :
  aJ Tryz.prog 109 [bK (ofQ p),bK ⟨n,1⟩] (jP (p*inv n)):=by
 obtain ⟨fa,ha⟩:=dN hp;have cpa:=tL _ fa;rw [ha] at cpa;have hv:cU ⟨(n:Int),1⟩=true:=Wp (by omega);have cpb:=tL ⟨(n:Int),1⟩ ⟨⟨by simp only;omega,by simp only;omega⟩,⟨by simp only;omega,by simp only;omega⟩⟩;rw [hv] at cpb;have hm:=aAs hp (aEz hn hn2);rw [Vj hn] at hm;have d1:((n:Int)==0)=false:=by rw [beq_eq_false_iff_ne];omega
 have d2:decide ((n:Int)<0)=false:=decide_eq_false (by omega);refine aD Tryz.X109 Tryz.func109 rfl Tryz.ntmps109 (by rw [Tryz.results109]) (aB _ ?_);simp only [go_sem,simprocAttr];refine ⟨_,cpa,?_⟩;simp only [go_sem,simprocAttr];refine ⟨_,cpb,?_⟩;simp only [go_sem,simprocAttr,d1,d2];refine ⟨_,hm,?_⟩
 by_cases hf:bV (p*inv n)=true
 ·rw [kD hf];simp only [go_sem,simprocAttr]
 ·rw [Bool.not_eq_true] at hf;rw [nP hf];simp only [go_sem,simprocAttr]
theorem aN5 (n:Int) (d:Nat) (hd : 1≤d):ofQ ((n:Rat) / ((d:Int):Rat))=⟨bif decide (n≠0)&&decide (n<0) then -((n.natAbs / Nat.gcd n.natAbs d:Nat):Int) else ((n.natAbs / Nat.gcd n.natAbs d:Nat):Int),(d / Nat.gcd n.natAbs d:Nat)⟩:=by
 rw [xS n d hd];congr 1;have hg : 0<Nat.gcd n.natAbs d:=Nat.gcd_pos_of_pos_right _ hd;have h1:=vW (Nat.gcd_dvd_left n.natAbs d);have h2:=decide_eq_decide.1 (Dv hg (Nat.gcd_dvd_left n.natAbs d));rw [h1];generalize n / ((Nat.gcd n.natAbs d:Nat):Int)=q at *
 by_cases h:n<0
 ·rw [decide_eq_true h,decide_eq_true (show n≠0 by omega)];show q = -(q.natAbs:Int)
  omega
 ·rw [decide_eq_false h,Bool.and_false];show q=(q.natAbs:Int)
  omega
theorem cROf (n:Int) (d:Nat) (hd : 1≤d) (hn:n.natAbs≤9223372036854775807) (hd2:d≤9223372036854775807):aJ Tryz.prog 61 [aA n,aA d] (.tup [bK (ofQ ((n:Rat) / ((d:Int):Rat))),aA 0]):=by
 have hg : 0<Nat.gcd n.natAbs d:=Nat.gcd_pos_of_pos_right _ hd;have hgd:Nat.gcd n.natAbs d≤d:=Nat.gcd_le_right _ hd;have cmn:=Dz n ⟨by omega,by omega⟩;have cmd:=Dz d ⟨by omega,by omega⟩;rw [Int.natAbs_natCast] at cmd;have q1:n.natAbs / Nat.gcd n.natAbs d≤n.natAbs:=Nat.div_le_self _ _;have q2:d / Nat.gcd n.natAbs d≤d:=Nat.div_le_self _ _;have cg:=Gb n.natAbs d;rw [aN5 n d hd];have d2:decide ((d:Int)<0)=false:=decide_eq_false (by omega);have d1:((d:Int)==0)=false:=by rw [beq_eq_false_iff_ne];omega
 generalize Nat.gcd n.natAbs d=g at *;have cm:=fun s=>aPs s (n.natAbs / g) (d / g) (by omega) (by omega)
 generalize hM:n.natAbs / g=m at *;generalize hD:d / g=e at *;have e1:(!(n==0) && !(decide (n<0)==false))=(decide (n≠0)&&decide (n<0)):=by
  rw [Bool.eq_iff_iff];simp
 have hr:=fun s=>(show vqN (bif s then -(m:Int) else m) e = .tup [bK ⟨bif s then -(m:Int) else m,e⟩,aA 0] by
  have hna:(bif s then -(m:Int) else (m:Int)).natAbs=m:=by
   cases s
   ·exact Int.natAbs_natCast m
   ·show (-(m:Int)).natAbs=m
    rw [Int.natAbs_neg,Int.natAbs_natCast]
  unfold vqN;rw [hna,decide_eq_true (show m≤9223372036854775807 by omega),decide_eq_true (show e≤9223372036854775807 by omega)];rfl)
 refine aD Tryz.X61 Tryz.func61 rfl Tryz.ntmps61 (by rw [Tryz.results61]) (aB _ ?_);simp only [go_sem,simprocAttr,d1];refine ⟨_,cmn,?_⟩;simp only [go_sem,simprocAttr];refine ⟨_,cmd,?_⟩;simp only [go_sem,simprocAttr];refine ⟨_,cg,?_⟩;simp only [go_sem,simprocAttr];refine aQ 22 .done rfl (by kernel_rfl) (by kernel_rfl) (by decide) ?_;simp only [go_sem,simprocAttr];refine ⟨_,cmn,?_⟩;simp only [go_sem,simprocAttr,cN,hM,wNU (n:=m) (by omega)];refine ⟨by omega,_,cmd,?_⟩;simp only [go_sem,simprocAttr,cN,hD,wNU (n:=e) (by omega),d2];refine ⟨by omega,_,cm _,?_⟩;rw [hr];simp only [go_sem,simprocAttr];refine ⟨by kernel_rfl,?_⟩;rw [show (n != 0 && !!decide (n<0))=(decide (¬ n=0)&&decide (n<0)) by
  rw [Bool.eq_iff_iff];simp]
theorem cRFloor (r:RatR) (f:r.fit) (hv:cU r=true):aJ Tryz.prog 138 [bK r] (aA (toQ r).floor):=by
 have hd:=dX hv;have fn:=f.num;have fd:=f.den.2;have fn2:=Kb hv;have fn3:=fn.2;rw [Sn hv,Kh (show 0<r.den by omega)];have q0:(r.num.tdiv r.den).natAbs≤r.num.natAbs:=by rw [Int.natAbs_tdiv];exact Nat.div_le_self _ _
 have q1:(r.num.tmod r.den).natAbs≤r.num.natAbs:=by rw [Int.natAbs_tmod];exact Nat.mod_le _ _
 refine aD Tryz.X138 Tryz.func138 rfl Tryz.ntmps138 (by rw [Tryz.results138]) (aB _ ?_);simp only [go_sem,simprocAttr];refine ⟨_,tL r f,?_⟩;simp only [go_sem,simprocAttr,hv];refine ⟨by omega,?_⟩;generalize r.num.tdiv r.den=q at *;generalize r.num.tmod r.den=m at *;simp only [go_sem,simprocAttr,wrap64 (x:=q) (by omega) (by omega)];refine ⟨by omega,fun h=>?_,fun h=>?_⟩
 ·simp only [bxx] at h;unfold awS;simp only [go_sem,simprocAttr,wrap64 (x:=q - 1) (by omega) (by omega)];rw [if_pos (by omega)]
 ·simp only [bxx] at h;unfold awS;simp only [go_sem,simprocAttr];rw [if_neg (by omega)]
theorem aFk (s:Bool) (q:Nat) (h:q≤9223372036854775807∨(s=true∧q=9223372036854775808)):aJ Tryz.prog 140 [aL s,aU q] (.tup [aA (bif s then -(q:Int) else q),aL true]):=by
 refine aD Tryz.X140 Tryz.func140 rfl Tryz.ntmps140 (by rw [Tryz.results140]) (aB _ ?_);cases s
 ·have h':q≤9223372036854775807:=by simpa using h
  simp only [go_sem,simprocAttr,fD (n:=q) (by omega),show decide ((q:Int)≤9223372036854775807)=true from decide_eq_true (by omega)]
 ·simp only [go_sem,simprocAttr];refine ⟨fun h1=>?_,fun h1=>?_⟩
  ·simp only [bxx] at h1;have:q=9223372036854775808:=by omega
   subst this;unfold awS;simp only [go_sem,simprocAttr]
  ·simp only [bxx] at h1;have h':q≤9223372036854775807:=by simp at h;omega
   have w1:IntKind.i64.wrap (0 - (q:Int)) = -(q:Int):=by rw [wrap64 (by omega) (by omega)];omega
   unfold awS;simp only [go_sem,simprocAttr,fD (n:=q) (by omega),w1,show decide ((q:Int)≤9223372036854775807)=true from decide_eq_true (by omega)]
theorem or63 {k:Nat} (h:k≤9223372036854775808):k≤9223372036854775807∨(true=true∧k=9223372036854775808):=by
 by_cases h1:k≤9223372036854775807
 ·exact Or.inl h1
 ·exact Or.inr ⟨rfl,by omega⟩
theorem aAr (x n:Int) (d:Nat) (hx:I64 x) (hn:I64 n) (hd : 1≤d) (hd2:d<9223372036854775808) (hf:jV (x*n / (d:Int))=true) :
  aJ Tryz.prog 112 [aA x,aA n,aA d] (.tup [aA (x*n / (d:Int)),aA (x*n % (d:Int)),aA 0]):=by
 have hz:=Lj hx hn;obtain ⟨x1,x2⟩:=hx;obtain ⟨n1,n2⟩:=hn;have r0:=Int.emod_nonneg (x*n) (show (d:Int)≠0 by omega);have r1:=Int.emod_lt_of_pos (x*n) (show (0:Int)<d by omega);have hpos:=fun h=>aDx (z:=x*n) (d:=d) h
 have hneg:=fun h=>aDy (z:=x*n) (d:=d) h hd
 have ct:=Ga x.natAbs n.natAbs (by omega) (by omega);rw [← Int.natAbs_mul] at ct;have co:=aP5 (x*n).natAbs d hz ⟨hd,by omega⟩;have hrd:=Nat.mod_lt (x*n).natAbs (show 0<d by omega);have hz0:x*n<0→(decide (x<0)==decide (n<0))=false:=fun h=>by
  by_cases h1:x<0<;>by_cases h2:n<0
  ·have : 0≤x*n:=Int.mul_nonneg_of_nonpos_of_nonpos (by omega) (by omega);omega
  ·simp [h1,h2]
  ·simp [h1,h2]
  ·have : 0≤x*n:=Int.mul_nonneg (by omega) (by omega);omega
 have hz1 : 0<x*n→(decide (x<0)==decide (n<0))=true:=fun h=>by
  by_cases h1:x<0<;>by_cases h2:n<0
  ·simp [h1,h2]
  ·have:x*n≤0:=Int.mul_nonpos_of_nonpos_of_nonneg (by omega) (by omega);omega
  ·have:x*n≤0:=Int.mul_nonpos_of_nonneg_of_nonpos (by omega) (by omega);omega
  ·simp [h1,h2]
 unfold jV at hf;rw [Bool.and_eq_true,decide_eq_true_eq,decide_eq_true_eq] at hf;generalize x*n=z at *;generalize hs:(decide (x<0)==decide (n<0))=s at *;have hk:z.natAbs / d≤9223372036854775808:=by
  rcases Int.lt_or_le z 0 with h0 | h0
  ·rcases Nat.eq_zero_or_pos (z.natAbs % d) with h1 | h1
   ·have:=((hneg h0).1 h1).1;omega
   ·have:=((hneg h0).2 h1).1;omega
  ·have:=(hpos h0).1;omega
 rw [aKa (by omega)] at co;have cmx:=Dz x ⟨x1,x2⟩;have cmn:=Dz n ⟨n1,n2⟩;refine aD Tryz.X112 Tryz.func112 rfl Tryz.ntmps112 (by rw [Tryz.results112]) (aB _ ?_);simp only [go_sem,simprocAttr];refine ⟨fun h2=>?_,fun h2=>?_⟩
 ·simp only [bxx] at h2;omega
 unfold awS;simp only [go_sem,simprocAttr];refine ⟨_,cmx,?_⟩;simp only [go_sem,simprocAttr];refine ⟨_,cmn,?_⟩;simp only [go_sem,simprocAttr];refine ⟨_,ct,?_⟩;simp only [go_sem,simprocAttr,bN (n:=d) (by omega)];refine ⟨_,co,?_⟩;simp only [go_sem,simprocAttr,hs,show decide (((z.natAbs / d:Nat):Int) > 9223372036854775808)=false from decide_eq_false (by omega)];have hk0:=hneg;have hrz:z=0→z.natAbs / d=0∧z.natAbs % d=0:=fun h=>by subst h;exact ⟨Nat.zero_div d,Nat.zero_mod d⟩
 generalize z.natAbs / d=k at *;generalize z.natAbs % d=r at *;generalize z / (d:Int)=q at *;generalize z % (d:Int)=m at *;refine ⟨fun h3=>?_,fun h3=>?_⟩
 ·simp only [Bool.and_eq_true,decide_eq_true_eq,Bool.not_eq_true'] at h3;obtain ⟨h3,h4⟩:=h3;subst h3;have hneg0:z<0:=by
   rcases Int.lt_trichotomy z 0 with h | h | h
   ·exact h
   ·have:=hrz h;omega
   ·exact absurd (hz1 h) (by decide)
  obtain ⟨e1,e2⟩:=(hneg hneg0).2 (by omega);have w1:IntKind.u64.wrap ((k:Int)+1)=((k+1:Nat):Int):=by rw [cM (by omega) (by omega)];omega
  have w2:IntKind.u64.wrap ((d:Int) - (r:Int))=(d:Int) - r:=cM (by omega) (by omega);have w3:IntKind.i64.wrap ((d:Int) - (r:Int))=(d:Int) - r:=wrap64 (by omega) (by omega);have cs:=aFk true (k+1) (or63 (by omega));have e3:(bif true then -((k+1:Nat):Int) else ((k+1:Nat):Int))=q:=by rw [cond_true];omega
  rw [e3] at cs;rw [e2];unfold awS;simp only [go_sem,simprocAttr,w1,w2,bN (n:=d) (by omega)];refine ⟨_,cs,?_⟩;simp only [go_sem,simprocAttr,w3]
 ·have hq:(bif !s then -(k:Int) else (k:Int))=q∧(r:Int)=m∧(k≤9223372036854775807∨((!s)=true∧k=9223372036854775808)):=by
   cases s
   ·have h4:r=0:=by simp at h3;omega
    simp only [Bool.not_false,cond_true];rcases Int.lt_trichotomy z 0 with h | h | h
    ·obtain ⟨e1,e2⟩:=(hneg h).1 h4;exact ⟨by omega,by omega,by simpa using or63 (k:=k) (by omega)⟩
    ·have:=hrz h;have:=hpos (by omega);exact ⟨by omega,by omega,by simpa using or63 (k:=k) (by omega)⟩
    ·exact absurd (hz1 h) (by decide)
   ·simp only [Bool.not_true,cond_false];rcases Int.lt_trichotomy z 0 with h | h | h
    ·exact absurd (hz0 h) (by decide)
    ·have:=hpos (by omega);exact ⟨by omega,by omega,Or.inl (by omega)⟩
    ·have:=hpos (by omega);exact ⟨by omega,by omega,Or.inl (by omega)⟩
  obtain ⟨e1,e2,e3⟩:=hq;have cs:=aFk (!s) k e3;rw [e1] at cs;unfold awS;simp only [go_sem,simprocAttr];refine ⟨_,cs,?_⟩;simp only [go_sem,simprocAttr,fD (n:=r) (by omega)];rw [e2]
theorem aAu (x n:Int) (d:Nat) (hx:I64 x) (hn:I64 n) (hd : 1≤d) (hd2:d<9223372036854775808) (hq : -9223372036854775808≤x*n / (d:Int)∧x*n / (d:Int)<9223372036854775807) :
  aJ Tryz.prog 111 [aA x,bK ⟨n,d⟩] (aA (fM x n d)):=by
 have r0:=Int.emod_nonneg (x*n) (show (d:Int)≠0 by omega);have r1:=Int.emod_lt_of_pos (x*n) (show (0:Int)<d by omega);have hf:jV (x*n / (d:Int))=true:=by
  unfold jV;rw [decide_eq_true (by omega),decide_eq_true (by omega)];rfl
 have hm:=aAr x n d hx hn hd hd2 hf;unfold fM;generalize x*n / (d:Int)=q at *;generalize x*n % (d:Int)=r at *;refine aD Tryz.X111 Tryz.func111 rfl Tryz.ntmps111 (by rw [Tryz.results111]) (aB _ ?_);simp only [go_sem,simprocAttr];refine ⟨_,hm,?_⟩;simp only [go_sem,simprocAttr,wrap64 (x:=(d:Int) - r) (by omega) (by omega)];refine ⟨fun h=>?_,fun h=>?_⟩
 ·simp only [bxx] at h;unfold awS;simp only [go_sem,simprocAttr,wrap64 (x:=q+1) (by omega) (by omega)];rw [if_pos (by omega)]
 ·simp only [bxx] at h;unfold awS;simp only [go_sem,simprocAttr];rw [if_neg (by omega)]
theorem Ty (r:RatR) (f:r.fit):fB r=(!(decide (r.num<1)||decide (r.num > 1048576)||decide (r.den<1)||decide (r.den > 65536))&&decide (Nat.gcd r.num.natAbs r.den.natAbs=1)):=by
 unfold fB cU;rw [Bool.eq_iff_iff];simp only [Bool.and_eq_true,Bool.not_eq_true',Bool.or_eq_false_iff,decide_eq_true_eq,decide_eq_false_iff_not];omega
theorem aAp (r:RatR) (f:r.fit):aJ Tryz.prog 59 [bK r] (aL (fB r)):=by
 rw [Ty r f];refine aD Tryz.X59 Tryz.func59 rfl Tryz.ntmps59 (by rw [Tryz.results59]) (aB _ ?_);simp only [go_sem,simprocAttr];refine ⟨fun h=>?_,fun h=>?_⟩
 ·rw [h];unfold awS;simp only [go_sem,simprocAttr]
 ·rw [h];simp only [Bool.or_eq_false_iff,decide_eq_false_iff_not] at h;obtain ⟨n,hn⟩:=eW (n:=r.num) (by omega);obtain ⟨d,hd⟩:=eW (n:=r.den) (by omega);rw [hn,hd];unfold awS;simp only [go_sem,simprocAttr,Int.natAbs_natCast];refine bL [0,1,2,3,4,5] .done rfl (by kernel_rfl) (by kernel_rfl) (by decide) ?_;simp only [go_sem,simprocAttr];refine aE (fun (x:Nat×Nat) σ => bM 3 (aA x.1) (bM 4 (aA x.2) σ)) (fun x=>Nat.gcd x.1 x.2=Nat.gcd n d∧x.1≤1048576∧x.2≤1048576) (fun x=>x.2) (n,d) (aC ?_) ⟨rfl,by omega,by omega⟩ ?_
  ·simp only [go_sem,simprocAttr];exact fun p hp=>absurd hp (by simp)
  ·rintro ⟨x,y⟩ ⟨hg,hx1,hy1⟩;simp only at hg hx1 hy1;refine aB _ ?_;simp only [go_sem,simprocAttr];refine brW (b := !decide (y=0)) ?_ ⟨fun hb=>?_,fun hb=>?_⟩
   ·rw [Bool.eq_iff_iff];simp only [bxx];omega
   ·unfold awS;simp only [go_sem,simprocAttr];have hy:y≠0:=by simpa using hb
    refine bL [0,1,2,3,4,5] .done rfl (by kernel_rfl) (by kernel_rfl) (by decide) ?_;simp only [go_sem,simprocAttr];have:=Nat.mod_lt x (show 0<y by omega);refine ⟨by omega,(y,x % y),aC ?_,⟨?_,by simp only;omega,by simp only;omega⟩,Nat.mod_lt _ (by omega)⟩
    ·simp only [go_sem,simprocAttr,kL];exact fun p hp=>absurd hp (by simp)
    ·simp only;rw [← hg,Nat.gcd_comm x y,Nat.gcd_rec y x,Nat.gcd_comm]
   ·unfold awS;simp only [go_sem,simprocAttr];have hy:y=0:=by simpa using hb
    subst hy;rw [Nat.gcd_zero_right] at hg;exact congrArg (fun b=>V.t (T.lit (.bool b))) (by rw [Bool.eq_iff_iff,beq_iff_eq,decide_eq_true_eq];omega)
theorem pH (r:RatR) (f:r.fit):aJ Tryz.prog 24 [bK r] (aL (aZ r)):=by
 have e:(fB r&&decide (r.num≤IntKind.i64.wrap (240*r.den)))=aZ r:=by
  unfold aZ
  by_cases h:fB r=true
  ·have h2:=h;unfold fB at h2;simp only [Bool.and_eq_true,decide_eq_true_eq] at h2;have:=dX h2.1.1.1;rw [wrap64 (x:=240*r.den) (by omega) (by omega)]
  ·rw [Bool.not_eq_true] at h;rw [h,Bool.false_and,Bool.false_and]
 refine aD Tryz.X24 Tryz.func24 rfl Tryz.ntmps24 (by rw [Tryz.results24]) (aB _ ?_);simp only [go_sem,simprocAttr];refine ⟨_,aFh r f,?_⟩;simp only [go_sem,simprocAttr,e]
theorem Te (r:RatR) (f:r.fit):aJ Tryz.prog 29 [bK r] (aL (aZ r)):=by
 have e:(fB r&&decide (r.num≤IntKind.i64.wrap (240*r.den)))=aZ r:=by
  unfold aZ
  by_cases h:fB r=true
  ·have h2:=h;unfold fB at h2;simp only [Bool.and_eq_true,decide_eq_true_eq] at h2;have:=dX h2.1.1.1;rw [wrap64 (x:=240*r.den) (by omega) (by omega)]
  ·rw [Bool.not_eq_true] at h;rw [h,Bool.false_and,Bool.false_and]
 refine aD Tryz.X29 Tryz.func29 rfl Tryz.ntmps29 (by rw [Tryz.results29]) (aB _ ?_);simp only [go_sem,simprocAttr];refine ⟨_,aAp r f,?_⟩;simp only [go_sem,simprocAttr,e]
theorem aM0 {n d q:Int} (hd : 1≤d) (h1:q*d<n) (h2:n≤(q+1)*d):(n - 1) / d=q:=by
 have e:=Int.mul_ediv_add_emod (n - 1) d;have m0:=Int.emod_nonneg (n - 1) (show d≠0 by omega);have m1:=Int.emod_lt_of_pos (n - 1) (show 0<d by omega);generalize (n - 1) / d=u at *;generalize (n - 1) % d=v at *;rw [Int.add_mul,Int.one_mul] at h2;rw [Int.mul_comm] at e;have h3:(q - u)*d<d:=by rw [Int.sub_mul];omega
 have h4 : -d<(q - u)*d:=by rw [Int.sub_mul];omega
 have h5:q - u<1:=by
  refine Int.lt_of_mul_lt_mul_right (a:=d) ?_ (by omega);omega
 have h6 : -1<q - u:=by
  refine Int.lt_of_mul_lt_mul_right (a:=d) ?_ (by omega);omega
 omega
theorem cROwner (s:Int) (r:RatR) (f:r.fit) (hu:fB r=true) (hs : -1099511627776≤s∧s≤1099511627776) :
  aJ Tryz.prog 60 [aA s,bK r] (.tup [aA (qL r s),aA 0]):=by
 have hu2:=hu;unfold fB at hu2;simp only [Bool.and_eq_true,decide_eq_true_eq] at hu2;obtain ⟨⟨⟨hv,h1⟩,h2⟩,h3⟩:=hu2;have hd:=dX hv;have cu:=aAp r f;rw [hu] at cu;have hm : -2305843009213693953*2≤(2*s+1)*r.num∧(2*s+1)*r.num≤2305843009213693953*2:=by
  have a1:(2*s+1).natAbs≤2199023255553:=by omega
  have a2:r.num.natAbs≤1048576:=by omega
  have a3:((2*s+1)*r.num).natAbs≤2199023255553*1048576:=by rw [Int.natAbs_mul];exact Nat.mul_le_mul a1 a2
  omega
 unfold qL;refine aD Tryz.X60 Tryz.func60 rfl Tryz.ntmps60 (by rw [Tryz.results60]) (aB _ ?_);simp only [go_sem,simprocAttr];refine ⟨_,cu,?_⟩;simp only [go_sem,simprocAttr];refine ⟨fun h=>?_,fun h=>?_⟩
 ·simp only [bxx] at h;omega
 unfold awS;simp only [go_sem,simprocAttr];refine bL [0,1,2,3,4,5,6,7,8,9,10] .done rfl (by kernel_rfl) (by kernel_rfl) (by decide) ?_;simp only [go_sem,simprocAttr,wrap64 (x:=2*s) (by omega) (by omega),wrap64 (x:=2*s+1) (by omega) (by omega),wrap64 (x:=(2*s+1)*r.num) (by omega) (by omega),wrap64 (x:=96000*r.den) (by omega) (by omega)];have hd1 : 1≤96000*r.den:=by omega
 have hd2 : 96000*r.den≤6291456000:=by omega
 generalize 96000*r.den=d at *;generalize (2*s+1)*r.num=n at *;have q1:(n.tdiv d).natAbs≤n.natAbs:=by rw [Int.natAbs_tdiv];exact Nat.div_le_self _ _
 have eq1:=Int.mul_tdiv_add_tmod n d;have t1:(n.tmod d).natAbs<d.natAbs:=by rw [Int.natAbs_tmod];exact Nat.mod_lt _ (by omega)
 rw [Int.mul_comm] at eq1;generalize n.tdiv d=q0 at *;generalize n.tmod d=r0 at *;rw [wrap64 (x:=q0) (by omega) (by omega)];refine ⟨by omega,?_⟩;refine aE (fun (x:Int) σ => bM 8 (aA x) σ) (fun x=>x.natAbs≤n.natAbs+1∧x*d<n+d∧n - d≤x*d) (fun x=>(n - x*d).toNat) q0 (aC ?_) ⟨by omega,by omega,by omega⟩ ?_
 ·simp only [go_sem,simprocAttr];exact fun p hp=>absurd hp (by simp)
 ·rintro x ⟨x1,x2,x3⟩;refine aB _ ?_;simp only [go_sem,simprocAttr,wrap64 (x:=x*d) (by omega) (by omega)];refine brW (b:=decide (x*d<n)) ?_ ⟨fun hb=>?_,fun hb=>?_⟩
  ·rfl
  ·simp only [bxx] at hb;unfold awS;simp only [go_sem,simprocAttr,wrap64 (x:=x+1) (by omega) (by omega)];have e1:(x+1)*d=x*d+d:=by rw [Int.add_mul,Int.one_mul]
   have hx3:(x+1).natAbs≤n.natAbs+1:=by
    rcases Int.lt_or_le x 0 with h | h
    ·omega
    ·have:x*1≤x*d:=Int.mul_le_mul_of_nonneg_left hd1 h;omega
   refine ⟨x+1,aC ?_,⟨hx3,by omega,by omega⟩,by omega⟩;simp only [go_sem,simprocAttr];exact fun p hp=>absurd hp (by simp)
  ·simp only [bxx] at hb;unfold awS;simp only [go_sem,simprocAttr];refine aE (fun (y:Int) σ => bM 8 (aA y) σ) (fun y=>y*d<n+d∧n - d≤y*d) (fun y=>(y*d - n+d).toNat) x (aC ?_) ⟨by omega,by omega⟩ ?_
   ·simp only [go_sem,simprocAttr];exact fun p hp=>absurd hp (by simp)
   ·rintro y ⟨y2,y3⟩;have yb:y.natAbs≤(y*d).natAbs:=by
     rw [Int.natAbs_mul];exact Nat.le_mul_of_pos_right _ (by omega)
    refine aB _ ?_;simp only [go_sem,simprocAttr,wrap64 (x:=y*d) (by omega) (by omega)];refine brW (b:=decide (y*d ≥ n)) ?_ ⟨fun hb=>?_,fun hb=>?_⟩
    ·rfl
    ·simp only [bxx] at hb;unfold awS;simp only [go_sem,simprocAttr,wrap64 (x:=y - 1) (by omega) (by omega)];have e1:(y - 1)*d=y*d - d:=by rw [Int.sub_mul,Int.one_mul]
     refine ⟨y - 1,aC ?_,⟨by omega,by omega⟩,by omega⟩;simp only [go_sem,simprocAttr];exact fun p hp=>absurd hp (by simp)
    ·simp only [bxx] at hb;unfold awS;simp only [go_sem,simprocAttr];have e1:(y+1)*d=y*d+d:=by rw [Int.add_mul,Int.one_mul]
     rw [aM0 (q:=y) hd1 (by omega) (by omega)]
def tM (t:List ClipR):List Int:=(List.range t.length).map fun i=>bZ (t.take i)
def Kg (t:List ClipR):List T:=[gB t,qR (tM t),ti (bZ t)]
abbrev aK8 (t:List ClipR):V := .agg [.t (gB t), .t (qR (tM t)),aA (bZ t)]
theorem Ec (t:List ClipR):(tM t).length=t.length:=by unfold tM;simp
theorem aAx {t:List ClipR} {x:Nat} (h:x<t.length) (d:List T):nth d ((tM t).map dU) x = [ti (bZ (t.take x))]:=by
 unfold nth tM;rw [List.getElem?_map,List.getElem?_map,List.getElem?_range h];rfl
theorem aJm {t:List ClipR} {k:Nat} (h:k<t.length):tM (t.take (k+1))=tM (t.take k) ++ [bZ (t.take k)]:=by
 unfold tM;rw [List.length_take,List.length_take,Nat.min_eq_left (by omega),Nat.min_eq_left (by omega),List.range_succ,List.map_append];congr 1
 ·refine List.map_congr_left fun i hi=>?_
  rw [List.mem_range] at hi;rw [List.take_take,List.take_take,Nat.min_eq_left (by omega),Nat.min_eq_left (by omega)]
 ·simp [List.take_take]
theorem aJf (t : List ClipR) (hv : cG t = true) : aJ Tryz.prog 44 [.t (gB t)] (aK8 t) := by
  have hv' := hv;unfold cG at hv';simp only [Bool.and_eq_true, decide_eq_true_eq, List.all_eq_true] at hv';obtain ⟨⟨h64, hvc⟩, hsum⟩ := hv';have hpos : ∀ c ∈ t, 1 ≤ c.len ∧ c.len ≤ 2147483647 := fun c hc => eS (hvc c hc)
  refine aD Tryz.X44 Tryz.func44 rfl Tryz.ntmps44 (by rw [Tryz.results44]) (aB _ ?_);simp only [go_sem, simprocAttr];refine aE (fun (k : Nat) σ => { fr := (aW [5, 11, 12, 13, 14, 15, 16, 17, 18, 19, 20, 21, 22, 23, 24, 25, 26, 27] (bM 10 (aA k) σ)).fr, h := [(2, .row 2 1 (dU 0) (aS ((tM (t.take k)).map dU))), (1, .box [.t (gB t), .own 2, aA (bZ (t.take k))]), (0, .box [.t (.lit (.slice none 0 0)), .t (.lit (.slice none 0 0)), aA 0])], nx := 3 })
    (fun k => k ≤ t.length) (fun k => t.length - k) 0 (fA [(2, none), (1, some 1), (0, some 0)] ?_) (Nat.zero_le _) ?_
  · simp only [go_sem, simprocAttr] <;> simp [aS, tM, Wu]
  · intro k hk
    refine aB _ ?_;simp only [go_sem, simprocAttr];refine ⟨fun hlt => ?_, fun hge => ?_⟩
    · simp only [bxx] at hlt
      have hkl : k < t.length := by omega
      have tk := nF t k hkl;have b0 := rN (t.take k) fun c hc => hpos c (List.mem_of_mem_take hc)
      have b1 := rN (t.take (k + 1)) fun c hc => hpos c (List.mem_of_mem_take hc)
      have hlt' : (t.take k).length = k := by rw [List.length_take]; omega
      have hw : IntKind.i64.wrap (bZ (t.take k) + (t.getD k default).len) = bZ (t.take (k + 1)) := by
        rw [← tk, wrap64 (by omega) (by have : (t.take (k + 1)).length ≤ 64 := by rw [List.length_take]; omega
                                        omega)]
      have hel : (tM (t.take k)).length = k := by rw [Ec, hlt']
      have hwk : IntKind.i64.wrap ((k : Int) + 1) = ((k + 1 : Nat) : Int) := by rw [bF (by omega)]; omega
      unfold awS;simp only [go_sem, simprocAttr, hw];refine ⟨⟨by omega, by omega⟩, ⟨by unfold maxLen; omega, by omega⟩, k + 1, fA [(2, some 5), (1, some 1), (0, some 0)] ?_, by omega, by omega⟩;simp only [go_sem, simprocAttr, hwk];rw [aJm hkl, List.map_append];exact ⟨by simp, rfl, by simp⟩
    · simp only [bxx] at hge
      have : k = t.length := by omega
      subst this;unfold awS;simp only [go_sem, simprocAttr, List.take_length]
abbrev capT (t:List ClipR):V := .elem 3 (Kg t) [Kg t] 0 0
theorem cLessB (t:List ClipR) (n:Int) {x:Nat} (hx:x<t.length):aJ Tryz.prog 88 [aA x,capT t,capN n] (aL (decide (n<bZ (t.take x)))):=by
 refine aD Tryz.X88 Tryz.func88 rfl Tryz.ntmps88 (by rw [Tryz.results88]) (aB _ ?_);simp only [go_sem,simprocAttr];refine bL [0,1,2,3,4,5,6,7] .done rfl (by kernel_rfl) (by kernel_rfl) (by decide) ?_;simp only [go_sem,simprocAttr,Jj,Kg,aAx hx,Ec];omega
theorem aNy (t:List ClipR) (n:Int) (r:Nat) (h64:t.length≤64) (hr:r≤t.length) (h1:∀ x,x<r→bZ (t.take x)≤n) (h2:∀ x,r≤x→x<t.length→n<bZ (t.take x)) :
  aJ Tryz.prog 87 [aA t.length, .clo 88 [capT t,capN n]] (aA r):=by
 refine aD Tryz.X87 Tryz.func87 rfl Tryz.ntmps87 (by rw [Tryz.results87]) (aB _ ?_);simp only [go_sem,simprocAttr];refine aE (fun (x:Nat×Nat) σ => bM 5 (aA x.1) (bM 6 (aA x.2) (aW [7,9,10,11,12,13,14,15,16,17,18,19,20,21,22,23,24] σ))) (fun x=>x.1≤r∧r≤x.2∧x.2≤t.length) (fun x=>x.2 - x.1) (0,t.length) (aC ?_) ⟨Nat.zero_le _,hr,Nat.le_refl _⟩ ?_
 ·simp only [go_sem,simprocAttr]<;>simp
 ·rintro ⟨i,j⟩ ⟨hi,hj,hjl⟩;simp only at hi hj hjl;refine aB _ ?_;simp only [go_sem,simprocAttr];refine ⟨fun hlt=>?_,fun hge=>?_⟩
  ·simp only [bxx] at hlt;have w1:IntKind.i64.wrap ((i:Int)+(j:Int))=((i+j:Nat):Int):=by rw [wrap64 (by omega) (by omega)];omega
   have w2:IntKind.u64.wrap ((i+j:Nat):Int)=((i+j:Nat):Int):=wNU (by omega);have p2:(2:Int) ^ min (Int.toNat 1) 64=2:=by decide
   have p3:(2:Int) ^ min 1 64=2:=by decide
   have d2:((i+j:Nat):Int) / 2=(((i+j) / 2:Nat):Int):=rfl;have w3:IntKind.i64.wrap (((i+j) / 2:Nat):Int)=(((i+j) / 2:Nat):Int):=fD (by omega);have hh1:i≤(i+j) / 2:=by omega
   have hh2:(i+j) / 2<j:=by omega
   unfold awS;simp only [go_sem,simprocAttr,w1,w2,p3,d2,w3];obtain ⟨x,hx⟩:∃ x,x=(i+j) / 2:=⟨_,rfl⟩
   rw [← hx] at hh1 hh2 ⊢;refine nZ (cLessB t n (x:=x) (by omega)) rfl ?_;simp only [go_sem,simprocAttr];refine ⟨fun h3=>?_,fun h3=>?_⟩
   ·simp only [bxx] at h3;have hxr:x<r:=by
     rcases Nat.lt_or_ge x r with h4 | h4
     ·exact h4
     ·exact absurd (h2 x h4 (by omega)) h3
    unfold awS;simp only [go_sem,simprocAttr];refine ⟨(x+1,j),aC ?_,⟨by simp only;omega,hj,hjl⟩,by simp only;omega⟩;simp only [go_sem,simprocAttr]<;>simp [bF (show x<9223372036854775807 by omega)]
   ·have h3':n<bZ (t.take x):=by simpa using h3
    have hxr:r≤x:=by
     rcases Nat.lt_or_ge x r with h4 | h4
     ·have:=h1 x h4;omega
     ·exact h4
    unfold awS;simp only [go_sem,simprocAttr];refine ⟨(i,x),aC ?_,⟨hi,hxr,by simp only;omega⟩,by simp only;omega⟩;simp only [go_sem,simprocAttr]
  ·simp only [bxx] at hge;have:i=r:=by omega
   subst this;unfold awS;simp only [go_sem,simprocAttr]
open Go.RowKit
set_option maxRecDepth 4000
abbrev aC5:V := .tup [.agg zVs,aA 0,aL false]
theorem cAtOut (t:List ClipR) (f:Int) (h:f<0∨bZ t≤f):aJ Tryz.prog 50 [aK8 t,aA f] aC5:=by
 refine aD Tryz.X50 Tryz.func50 rfl Tryz.ntmps50 (by rw [Tryz.results50]) (aB _ ?_);simp only [go_sem,simprocAttr];refine ⟨fun h2=>?_,fun h2=>?_⟩
 ·unfold awS;simp only [go_sem,simprocAttr];exact ⟨rfl,rfl⟩
 ·exfalso;simp only [bxx] at h2;omega
theorem nG {t:List ClipR} (hp:∀ c∈t,1≤c.len):∀ (j i:Nat),i≤j→j≤t.length→bZ (t.take i)≤bZ (t.take j)
 | 0,i,h,_=>by
  have:i=0:=by omega
  subst this;exact Int.le_refl _
 | j+1,i,h,hj=>by
  rcases Nat.lt_or_ge i (j+1) with h1 | h1
  ·have h2:=nG hp j i (by omega) (by omega);have h3:=nF t j (by omega);have h4:=hp _ (aR (d:=default) (show j<t.length by omega));omega
  ·have:i=j+1:=by omega
   subst this;exact Int.le_refl _
theorem cAtIn (t:List ClipR) (f:Int) (h64:t.length≤64) (hp:∀ c∈t,1≤c.len) (ht:bZ t≤2147483647) {i:Nat} (hi:i<t.length) (h0:bZ (t.take i)≤f) (h1:f<bZ (t.take i)+(t.getD i default).len) (hz : 0≤f) :
  aJ Tryz.prog 50 [aK8 t,aA f] (if (t.getD i default).kind=0 then aC5 else .tup [kZ (t.getD i default),aA (bZ (t.take i)),aL true]):=by
 have htk:=nF t i hi;have hm:=nG hp t.length (i+1) (by omega) (Nat.le_refl _);rw [List.take_length] at hm;refine aD Tryz.X50 Tryz.func50 rfl Tryz.ntmps50 (by rw [Tryz.results50]) (aB _ ?_);simp only [go_sem,simprocAttr];refine ⟨fun h2=>?_,fun h2=>?_⟩
 ·exfalso;simp only [bxx] at h2;omega
 ·unfold awS;simp only [go_sem,simprocAttr,Ec];have hsr:=aNy t f (i+1) h64 (by omega) (fun x hx=>by have:=nG hp i x (by omega) (by omega);omega) (fun x hx hx2=>by have:=nG hp x (i+1) (by omega) (by omega);omega);have w1:IntKind.i64.wrap (((i+1:Nat):Int) - 1)=(i:Int):=by rw [wrap64 (by omega) (by omega)];omega
  refine vZ ?_;simp only [go_sem,simprocAttr];refine ⟨_,hsr,rfl,?_⟩;simp only [go_sem,simprocAttr,w1];refine ⟨by omega,fun h3=>?_,fun h3=>?_⟩
  ·simp only [bxx] at h3;unfold awS;simp only [go_sem,simprocAttr];rw [if_pos (by omega)];exact ⟨rfl,rfl⟩
  ·simp only [bxx] at h3;unfold awS;simp only [go_sem,simprocAttr];refine aQ 13 .done rfl (by kernel_rfl) (by kernel_rfl) (by decide) ?_;simp only [go_sem,simprocAttr,aAx hi,Ec];have hk : ¬ (t.getD i default).kind=0:=by omega
   rw [if_neg hk];exact ⟨by omega,by omega,by kernel_rfl,rfl,rfl⟩
open Go.RowKit
set_option maxRecDepth 4000
abbrev jY (n:Int) (a b c d:Int):V := .agg [aA n,aA a,aA b,aA c,aA d]
theorem aJh (n a b c d i:Int) (h:i<0∨n≤i):aJ Tryz.prog 92 [jY n a b c d,aA i] (aA 0):=by
 refine aD Tryz.X92 Tryz.func92 rfl Tryz.ntmps92 (by rw [Tryz.results92]) (aB _ ?_);simp only [go_sem,simprocAttr];refine ⟨fun h2=>?_,fun h2=>?_⟩
 ·unfold awS;simp only [go_sem,simprocAttr]
 ·exfalso;simp only [bxx] at h2;omega
theorem aJg (n a b c d:Int) (i:Nat) (h:i<4) (hn:(i:Int)<n):aJ Tryz.prog 92 [jY n a b c d,aA i] (aA ([a,b,c,d].getD i 0)):=by
 refine aD Tryz.X92 Tryz.func92 rfl Tryz.ntmps92 (by rw [Tryz.results92]) (aB _ ?_);simp only [go_sem,simprocAttr];refine ⟨fun h2=>?_,fun h2=>?_⟩
 ·exfalso;simp only [bxx] at h2;omega
 ·unfold awS;rcases i with _ | _ | _ | _ | i
  ·simp only [go_sem,simprocAttr]
  ·simp only [go_sem,simprocAttr]
  ·simp only [go_sem,simprocAttr]
  ·simp only [go_sem,simprocAttr]
  ·omega
open Go.RowKit
set_option maxRecDepth 4000
theorem aJj (m:V) (d:Int) (n a b c e n2 a2 b2 c2 e2:Int):aJ Tryz.prog 127 [m,jY n a b c e,jY n2 a2 b2 c2 e2,aA 0,aA d] (jY n a b c e):=by
 refine aD Tryz.X127 Tryz.func127 rfl Tryz.ntmps127 (by rw [Tryz.results127]) (aB _ ?_);simp only [go_sem,simprocAttr]
open Go.RowKit
set_option maxRecDepth 4000
abbrev Ja:=List (Value×Bool×List T)
abbrev vmix (R A Q:Ja):V := .elem 3 [.map R, .map A, .map Q] [[.map R, .map A, .map Q]] 0 0
open Go.RowKit
set_option maxRecDepth 4000
def I16 (x:Int):Prop := -32768≤x∧x≤32767
open Go.RowKit
set_option maxRecDepth 4000
def c16 (x:Int):List T:=[.lit (.int .i16 x)]
def t16 (l:List Int):T := .list 1 (c16 0) (l.map c16)
def kT (L:List (List Int)):T := .list 1 [.lit (.slice none 0 0)] (L.map fun p=>[t16 p])
@[go_sem] theorem c16_t (n:Int):(c16 n).map V.t = [.t (.lit (.int .i16 n))]:=rfl
@[go_sem] theorem c16_l (n:Int):(c16 n).length=1:=rfl
def tchan (n a b c d i:Int):Int:=if i<0∨n≤i then 0 else [a,b,c,d].getD i.toNat 0
theorem Vx {p:List Int} {k:Nat} (h:k<p.length) (d:List T):nth d (p.map c16) k=c16 (p.getD k 0):=by
 unfold nth;rw [List.getElem?_map,List.getElem?_eq_getElem h,List.getD_eq_getElem?_getD,List.getElem?_eq_getElem h];rfl
theorem jS {p:List Int} {j:Int} (h0 : 0≤j) (h1:j<p.length) (d:List T):nth d (p.map c16) j.toNat=c16 (aT p j):=by
 unfold aT;rw [if_pos h0,Vx (by omega)]
theorem fQ {p:List Int} {j:Int} (h:j<0∨(p.length:Int)≤j):aT p j=0:=by
 unfold aT;split
 ·rw [List.getD_eq_getElem?_getD,List.getElem?_eq_none (by omega)];rfl
 ·rfl
theorem jR (d x:List T) (l:List (List T)):nth d (x::l) 0=x:=rfl
theorem sB (d x y:List T) (l:List (List T)):nth d (x::y::l) 1=y:=rfl
open Go.RowKit
set_option maxRecDepth 4000
theorem toQ_div {r:RatR} (hv:cU r=true):toQ r=(r.num:Rat) / (r.den:Rat):=by
 have hd:=dX hv;unfold toQ;rw [Rat.mkRat_eq_div];congr 1;have:((r.den.toNat:Nat):Int)=r.den:=by omega
 rw [← this];rfl
structure RateS (r:RatR):Prop where
 fit:r.fit
 aud:aZ r=true
 b1:QB (48000 / toQ r) 8192 8
 b2:QB (toQ r / 48000) 8 8192
 n : 0<r.num
 d : 0<r.den
 m30:r.num≤30*r.den
def toneL (L:List (List Int)) (y:Rat):V:=jY L.length (aMk (L.getD 0 []) y) (aMk (L.getD 1 []) y) 0 0
structure SrcM (R A:Ja) (s:SourceR) (r:RatR) (L:List (List Int)) (k:Rat):Prop where
 kind:s.kind=1
 hR:dL .string R=true
 lR:eP (.string s.name) R=some (bK r)
 hA:dL .string A=true
 lA:eP (.string s.name) A=some (.agg [cA s.name, .t (kT L)])
 hL:L.length=1∨L.length=2
 i16:∀ p∈L,Gg p
 len:∀ p∈L,p.length≤1048576
 same:∀ p∈L,p.length=(L.getD 0 []).length
 rate:RateS r
 kb:QB k 134217728 16384
 vp:cU s.pos=true
 vs:cU s.speed=true
 pb:QB (toQ s.pos) 256 1024
 sb:QB (toQ s.speed) 4096 2048
 y0 : -((549755813888:Int):Rat)≤posQ s k*(48000 / toQ r)
 y1:posQ s k*(48000 / toQ r)≤((549755813888:Int):Rat)
theorem pcm_nil (j:Int):aT [] j=0:=fQ (by simp;omega)
theorem sW (y:Rat) : 0≤y.num - y.floor*(y.den:Int)∧y.num - y.floor*(y.den:Int)<(y.den:Int):=by
 have dp:=y.den_pos;have e:y.floor=y.num / (y.den:Int):=by
  rw [← Nb y.num (d:=(y.den:Int)) (by omega)];have h:=Rat.num_divInt_den y;rw [Rat.divInt_eq_div] at h;exact congrArg Rat.floor h.symm
 rw [e];have h1:=Int.mul_ediv_add_emod y.num (y.den:Int);have h2:=Int.emod_nonneg y.num (show (y.den:Int)≠0 by omega);have h3:=Int.emod_lt_of_pos y.num (show (0:Int)<(y.den:Int) by omega);rw [Int.mul_comm] at h1;omega
open Go.RowKit
set_option maxRecDepth 4000
abbrev sumB (a b c d:Int):Blk := .box [aA a,aA b,aA c,aA d]
def Sm (x:Int):Prop := -16777216≤x∧x≤16777216
open Go.RowKit
set_option maxRecDepth 4000
def aB1:List T:=[.lit (.slice none 0 0), .lit (.slice none 0 0),ti 0]
structure AudioR where
 name:ByteArray
 chs:List (List Int)
 deriving Inhabited
def AudioR.c (a:AudioR):List T:=[uB a.name,kT a.chs]
@[go_sem] theorem AudioR.ct (a:AudioR):(AudioR.c a).map V.t = [cA a.name, .t (kT a.chs)]:=rfl
@[go_sem] theorem AudioR.cl (a:AudioR):(AudioR.c a).length=2:=rfl
abbrev gC (A:List AudioR):T := .list 2 [uB ⟨#[]⟩, .lit (.slice none 0 0)] (A.map AudioR.c)
theorem yR {L:List (List Int)} {k:Nat} (h:k<L.length) (d:List T):nth d (L.map fun p=>[T.list 1 (c16 0) (p.map c16)]) k = [T.list 1 (c16 0) ((L.getD k []).map c16)]:=by
 unfold nth;rw [List.getElem?_map,List.getElem?_eq_getElem h,List.getD_eq_getElem?_getD,List.getElem?_eq_getElem h];rfl
theorem aFw {A:List AudioR} {k:Nat} (h:k<A.length) (d:List T):nth d (A.map AudioR.c) k=AudioR.c (A.getD k default):=by
 unfold nth;rw [List.getElem?_map,List.getElem?_eq_getElem h,bD h];rfl
theorem Jt (L:List (List Int)) (hl:L.length≤1000000) (hp:∀ p∈L,p.length≤1048576):aJ Tryz.prog 12 [.t (kT L), .t (kT L)] (aL true):=by
 refine aD Tryz.X12 Tryz.func12 rfl Tryz.ntmps12 (by rw [Tryz.results12]) (aB _ ?_);simp only [go_sem,simprocAttr,kT,t16];refine aE (fun (k:Nat) σ => bM 5 (aA k) (aW [6,12,13,14,15,16,17,18,19,20,21,22,23,24,25,26,27,28,29,30,31,32,33,34,35,36,37,38,39,40,41,42,43,44,45,46,47,48,49,50,51,52] (bE σ))) (fun k=>k≤L.length) (fun k=>L.length - k) 0 (aC ?_) (Nat.zero_le _) ?_
 ·simp only [go_sem,simprocAttr]<;>simp
 ·intro k hk;refine aB _ ?_;simp only [go_sem,simprocAttr];refine ⟨fun hlt=>?_,fun hge=>?_⟩
  ·simp only [bxx] at hlt;have hkl:k<L.length:=by omega
   have hwk:IntKind.i64.wrap ((k:Int)+1)=((k+1:Nat):Int):=by rw [bF (by omega)];omega
   have hpl:=hp _ (aR (d:=[]) hkl);unfold awS;simp only [go_sem,simprocAttr];refine bL [0,1,2,3,4,5,6,7,8,9,10] .done rfl (by kernel_rfl) (by kernel_rfl) (by decide) ?_;simp only [go_sem,simprocAttr,yR hkl];generalize hP:L.getD k []=P at hpl ⊢;have hcn:∀ d,nth d (L.map fun p=>[T.list 1 (c16 0) (p.map c16)]) k = [T.list 1 (c16 0) (P.map c16)]:=fun d=>by rw [yR hkl,hP]
   refine ⟨⟨by omega,by omega⟩,⟨by omega,by omega⟩,?_⟩;refine aE (fun (j:Nat) σ => bM 6 (aA j) (aW [29,30,31,32,33,34,35,36,37,38,39,40,41,42,43,44,45,46,47,48,49,50,51,52] (bE σ))) (fun j=>j≤P.length) (fun j=>P.length - j) 0 (aC ?_) (Nat.zero_le _) ?_
   ·simp only [go_sem,simprocAttr]<;>simp
   ·intro j hj;refine aB _ ?_;simp only [go_sem,simprocAttr,hcn];refine ⟨⟨by omega,by omega⟩,fun hlt2=>?_,fun hge2=>?_⟩
    ·simp only [bxx] at hlt2;have hjl:j<P.length:=by omega
     have hwj:IntKind.i64.wrap ((j:Int)+1)=((j+1:Nat):Int):=by rw [bF (by omega)];omega
     unfold awS;simp only [go_sem,simprocAttr];refine bL [0,1,2,3,4,5,6,7,8,9,10,11,12,13,14] .done rfl (by kernel_rfl) (by kernel_rfl) (by decide) ?_;simp only [go_sem,simprocAttr,hcn,Vx hjl];refine ⟨⟨by omega,by omega⟩,⟨by omega,by omega⟩,⟨by omega,by omega⟩,⟨by omega,by omega⟩,j+1,aC ?_,by omega,by omega⟩;simp only [go_sem,simprocAttr,hwj]
    ·simp only [bxx] at hge2;unfold awS;simp only [go_sem,simprocAttr];refine ⟨k+1,aC ?_,by omega,by omega⟩;simp only [go_sem,simprocAttr,hwk]
  ·unfold awS;simp only [go_sem,simprocAttr]
open Go.RowKit
set_option maxRecDepth 4000
def chV (E:SndE) (m:Nat) (c:ClipR) (k:Rat) (i:Nat):Int:=if i<m then clipV E c k i else 0
def chB (E:SndE) (m:Nat) (c:ClipR) (k:Rat):Prop := ∀ i, -1048576≤chV E m c k i∧chV E m c k i≤1048577
def AddOk (R A Q:Ja) (E:SndE) (m:Nat) (c:ClipR) (k:Rat):Prop:=chB E m c k ∧ ∀ s0 s1 s2 s3:Int,Sm s0→Sm s1→Sm s2→Sm s3 →
 CIO Tryz.prog 52 1 [(0,sumB s0 s1 s2 s3)] [vmix R A Q, .own 0,kZ c,bK (ofQ k)] (.tup []) [(0,sumB (s0+chV E m c k 0) (s1+chV E m c k 1) (s2+chV E m c k 2) (s3+chV E m c k 3))] 1
def frmM (E:SndE) (m:Nat) (t:List ClipR) (r:RatR) (s:Int) (i:Nat):Int:=if i<m then frmV E (fr t) r s i else 0
def parS (E:SndE) (m:Nat) (ts:List (List ClipR)) (r:RatR) (s:Int) (i:Nat):Int:=(ts.map fun t=>frmM E m t r s i).sum
def outV (E:SndE) (m:Nat) (ts:List (List ClipR)) (r:RatR) (s:Int) (i:Nat):Int:=if i<m then smpV E ts r s i else 0
structure CmpOk (R A Q:Ja) (E:SndE) (m:Nat) (ts:List (List ClipR)) (r:RatR) (s:Int):Prop where
 len:ts.length≤8
 trk:∀ t∈ts,cG t=true
 add:∀ t∈ts, ∀ (i:Nat) (x:ClipR),t[i]? = some x→x.kind≠0→bZ (t.take i)≤qL r s→qL r s<bZ (t.take i)+x.len→AddOk R A Q E m x (qS r s - (bZ (t.take i):Int))
abbrev vsq (r:RatR) (m:Nat) (ts:List (List ClipR)):V := .elem 5 [ti r.num,ti r.den,ti m, .list 3 aB1 (ts.map Kg), .map []] [[ti r.num,ti r.den,ti m, .list 3 aB1 (ts.map Kg), .map []]] 0 0
abbrev Ev (α : Type):=Except Int α
def pR (A:List AudioR) (n:ByteArray):Option AudioR:=A.find? fun a=>a.name.toList==n.toList
def pU (p:ProjR) (A:List AudioR) (nest:Nat→Int→Ev (List Int)) (s:SourceR) (j:Int):Ev (List Int) :=
 if s.kind=2 then nest (fR p s.name).toNat j
 else match pR A s.name with
  | none => .error 7
  | some a => .ok (a.chs.map fun l=>aT l j)
def cF (p:ProjR) (s:SourceR):RatR:=if s.kind=1 then (p.media.getD (Db p s.name).toNat default).seq.rate else (p.seqs.getD (fR p s.name).toNat default).rate
def kC (u v n:Int) (d:Nat):Int:=u+fM (v - u) n d
def fC (r:RatR):Rat:=((48000*r.den:Int):Rat) / ((r.num:Int):Rat)
def Ge (y:Rat) (a b:List Int):List Int:=List.zipWith (fun u v=>kC u v (y.num - y.floor*(y.den:Int)) y.den) a b
def aGb (p:ProjR) (A:List AudioR) (nest:Nat→Int→Ev (List Int)) (s:SourceR) (y:Rat):Ev (List Int) :=
 match pU p A nest s y.floor with
 | .error e => .error e
 | .ok a=>match pU p A nest s (y.floor+1) with
  | .error e => .error e
  | .ok b => .ok (Ge y a b)
def uF (p:ProjR) (A:List AudioR) (nest:Nat→Int→Ev (List Int)) (s:SourceR) (k:Rat):Ev (List Int) :=
 if s.kind=0 then .ok []
 else if aZ (cF p s)=false then .error 2
 else if bV (k*toQ s.speed)=false then .error 2
 else if bV (toQ s.pos+k*toQ s.speed)=false then .error 2
 else if bV ((toQ s.pos+k*toQ s.speed)*fC (cF p s))=false then .error 2
 else if ((toQ s.pos+k*toQ s.speed)*fC (cF p s)).floor < -1099511627776∨1099511627776≤((toQ s.pos+k*toQ s.speed)*fC (cF p s)).floor then .error 2
 else aGb p A nest s ((toQ s.pos+k*toQ s.speed)*fC (cF p s))
def Cf (c:ClipR) (k:Rat):Ev Rat :=
 if c.kind=2 then
  if bV (k+((c.off+1:Int):Rat))=false then .error 2
  else if bV ((k+((c.off+1:Int):Rat))*inv (c.total+1).toNat)=false then .error 2
  else .ok ((k+((c.off+1:Int):Rat))*inv (c.total+1).toNat)
 else .ok 0
def tH (z g:Int):Int:=IntKind.i64.wrap (IntKind.i64.wrap (z*g)+2048) / 4096
def aHb (c:ClipR) (q:Rat) (a b:List Int) (ch:Int):Int:=if c.kind=2 then aT a ch+fM (aT b ch - aT a ch) q.num q.den else aT a ch
def Hu (c:ClipR) (q:Rat) (a b:List Int):List Int:=c.chan.map fun ch=>tH (aHb c q a b ch) c.gain
def qU (p:ProjR) (A:List AudioR) (nest:Nat→Int→Ev (List Int)) (c:ClipR) (k:Rat):Ev (List Int) :=
 match Cf c k with
 | .error e => .error e
 | .ok q=>match uF p A nest c.a k with
  | .error e => .error e
  | .ok a =>
   if c.kind=2 then match uF p A nest c.b k with
    | .error e => .error e
    | .ok b => .ok (Hu c q a b)
   else .ok (Hu c q a [])
def Qb (t:List ClipR) (f:Int):Option (ClipR×Int) :=
 if (nB t f).2.2=true then
  if (t.getD (nB t f).1.toNat default).kind=0 then none else some (t.getD (nB t f).1.toNat default,f - (nB t f).2.1)
 else none
def Bu (acc g:List Int):List Int:=List.zipWith (fun u v=>IntKind.i64.wrap (u+v)) acc g
def Km (p:ProjR) (A:List AudioR) (nest:Nat→Int→Ev (List Int)) (x:Rat) (f:Int) (acc:List Int) (t:List ClipR):Ev (List Int) :=
 match Qb t f with
 | none => .ok acc
 | some cb =>
  if bV (x - (cb.2:Rat))=false then .error 2
  else match qU p A nest cb.1 (x - (cb.2:Rat)) with
   | .error e => .error e
   | .ok g => .ok (Bu acc g)
def vJ (p:ProjR) (A:List AudioR) (nest:Nat→Int→Ev (List Int)) (x:Rat) (f:Int):List (List ClipR)→List Int→Ev (List Int)
 | [],acc => .ok acc
 | t::l,acc=>match Km p A nest x f acc t with
  | .error e => .error e
  | .ok acc'=>vJ p A nest x f l acc'
def Ad (p:ProjR) (A:List AudioR) (nest:Nat→Int→Ev (List Int)) (s:SequenceR) (t:Int):Ev (List Int) :=
 match vJ p A nest (qS s.rate t) (qL s.rate t) s.sound (List.replicate s.channels.toNat 0) with
 | .error e => .error e
 | .ok a => .ok (a.map tU)
def qW (p:ProjR) (A:List AudioR) (i:Nat) (t:Int):Ev (List Int) :=
 Ad p A (fun j u=>if _h:dV p (j:Int)<dV p (i:Int) then qW p A j u else .error 2) (p.seqs.getD i default) t
termination_by dV p (i:Int)
def eA (p:ProjR) (A:List AudioR) (i:Nat):Nat→Int→Ev (List Int):=fun j u=>if dV p (j:Int)<dV p (i:Int) then qW p A j u else .error 2
theorem qV (p:ProjR) (A:List AudioR) (i:Nat) (t:Int):qW p A i t=Ad p A (eA p A i) (p.seqs.getD i default) t:=by
 rw [qW];rfl
structure SrcV (p:ProjR) (i:Nat) (x:SourceR):Prop where
 fit:x.fit
 ok:aX x=true
 kind:x.kind=0∨(x.kind=1∧0≤Db p x.name)∨(x.kind=2∧0≤fR p x.name∧dV p (fR p x.name)<dV p (i:Int))
structure ClpV (p:ProjR) (i:Nat) (c:ClipR):Prop where
 fit:c.fit
 ok:cZ c=true
 kind:c.kind=0∨((c.kind=1∨c.kind=2)∧(c.chan.length:Int)=(p.seqs.getD i default).channels)
 a:SrcV p i c.a
 b:SrcV p i c.b
structure SeqV (p:ProjR) (i:Nat):Prop where
 rate:cU (p.seqs.getD i default).rate=true
 fit:(p.seqs.getD i default).fit
 ch : 0≤(p.seqs.getD i default).channels∧(p.seqs.getD i default).channels≤4
 len:(p.seqs.getD i default).sound.length≤8
 trk:∀ t∈(p.seqs.getD i default).sound,cG t=true ∧ ∀ c∈t,ClpV p i c
structure PrjV (p:ProjR):Prop where
 ml:p.media.length≤16
 sl:p.seqs.length≤16
 nm:(p.media.map MediumR.name).Nodup
 ns:(p.seqs.map SequenceR.name).Nodup
 med:∀ m∈p.media,cU m.seq.rate=true∧m.seq.rate.fit
 seq:∀ i,i<p.seqs.length→SeqV p i
theorem isZ_k12 {x:SourceR} (h:x.isZ=false) (hv:aX x=true):x.kind=1∨x.kind=2:=by
 unfold aX at hv;rw [h,Bool.false_or] at hv;simp only [Bool.and_eq_true,Bool.or_eq_true,beq_iff_eq] at hv;exact hv.1.1.1.1.1.1
theorem Uq {p:ProjR} (hf:p.fit) (h:dR p=0):PrjV p:=by
 have hr:=aDs p;rw [h] at hr;have h5:dA p=true:=by
  cases e:dA p with
  | true=>rfl
  | false=>have:=hr.s5 e;omega
 have h1:(p.media.all eN&&p.seqs.all cS)=true:=by
  cases e:(p.media.all eN&&p.seqs.all cS) with
  | true=>rfl
  | false=>have:=hr.s1 h5 e;omega
 have hu:wS p=true:=by
  cases e:wS p with
  | true=>rfl
  | false =>
   unfold dR at h;rw [if_neg (by rw [h5];decide),if_neg (by rw [h1];decide),if_pos e] at h;omega
 obtain ⟨nm,ns⟩:=(Bx p).1 hu;have hc:p.seqs.all (jK p)=true:=by
  cases e:p.seqs.all (jK p) with
  | true=>rfl
  | false=>have:=hr.s7 h5 h1 (fun i hi=>Kf nm hi) (fun i hi=>Ke ns hi) e;omega
 have hd:∀ i,i<p.seqs.length→dV p (i:Int)≤p.seqs.length:=fun i hi=>by
  rcases Nat.lt_or_ge p.seqs.length (dV p (i:Int)) with e | e
  ·have:=hr.s16 h5 h1 (fun i hi=>Kf nm hi) (fun i hi=>Ke ns hi) hc ⟨i,hi,e⟩;omega
  ·exact e
 have h5':=h5;unfold dA at h5';simp only [Bool.and_eq_true,decide_eq_true_eq] at h5';obtain ⟨⟨⟨ml,sl⟩,_⟩,ss⟩:=h5';rw [Bool.and_eq_true,List.all_eq_true,List.all_eq_true] at h1;rw [List.all_eq_true] at ss hc;have net:NetOk p:=⟨ns,fun s hs x hx hk=>by
  have h2:=hc s hs;unfold jK at h2;have h3:=(List.all_eq_true.1 h2) x hx;unfold qE at h3;rw [hk] at h3;simp at h3;exact h3⟩
 refine ⟨by omega,by omega,nm,ns,fun m hm=>?_,fun i hi=>?_⟩
 ·have h2:=h1.1 m hm;unfold eN tQ at h2;simp only [Bool.and_eq_true] at h2;exact ⟨h2.1.1.1.1.2.1,(hf.media m hm).seq.rate⟩
 have hmem:p.seqs.getD i default∈p.seqs:=aR hi;have h2:=h1.2 _ hmem;have h3:=ss _ hmem;have hcs:=hc _ hmem;have hfs:=hf.seqs _ hmem;obtain ⟨k1,k2,k3⟩:=wJ net hi;have k4 : ¬ Wk p (dV p (i:Int)) (p.seqs.getD i default).name:=by
  rcases k3 with k3 | k3
  ·exact k3
  ·have:=hd i hi;omega
 have hin:=fun m=>Fg net hi (m:=m)
 have hdep:∀ x∈fF (p.seqs.getD i default),x.kind=2→dV p (fR p x.name)<dV p (i:Int):=fun x hx hk=>by
  obtain ⟨k,q1,q2,q3⟩:=kQ (net.th _ hmem x hx hk);rw [q2];rcases Nat.lt_or_ge (dV p (k:Int)) (dV p (i:Int)) with e | e
  ·exact e
  ·refine absurd ?_ k4;obtain ⟨w1,_,_⟩:=wJ net q1;rw [q3] at w1;cases hdi:dV p (i:Int) with
   | zero=>exact trivial
   | succ d=>exact ⟨x.name,(hin _).2 ⟨x,hx,hk,rfl⟩,w1 d (by omega)⟩
 have hthere:=hc _ hmem;unfold jK at hthere;rw [List.all_eq_true] at hthere;have hsrc:∀ t∈(p.seqs.getD i default).sound, ∀ c∈t, ∀ x,(x=c.a∨x=c.b)→x.isZ=false→x∈fF (p.seqs.getD i default):=fun t ht c hct x hx hz=>by
  unfold fF kM cY;refine List.mem_filter.2 ⟨List.mem_flatMap.2 ⟨c,List.mem_flatten.2 ⟨t,List.mem_append.2 (.inr ht),hct⟩,by simpa using hx⟩,by rw [hz];rfl⟩
 unfold cS vN tQ wL at h2;simp only [Bool.and_eq_true,decide_eq_true_eq,List.all_eq_true] at h2;unfold eG at h3;simp only [Bool.and_eq_true,decide_eq_true_eq] at h3;refine ⟨h2.1.1.1.1.1.1.2.1,hfs,h2.1.1.1.2,by omega,fun t ht=>?_⟩;have h4:=h2.2 t ht;unfold rR at h4;rw [Bool.and_eq_true,List.all_eq_true] at h4;refine ⟨h4.1,fun c hct=>?_⟩;have h5:=h4.2 c hct;have hv:cZ c=true:=(mA h4.1).2.1 c hct;have hcf:=hfs.sound t ht c hct;have hvv:=hv;unfold cZ wR at hvv;simp only [Bool.and_eq_true] at hvv;have key:∀ x,(x=c.a∨x=c.b)→x.fit→aX x=true→SrcV p i x:=fun x hx hxf hxv=>by
  refine ⟨hxf,hxv,?_⟩;rcases hz:x.isZ with _ | _
  ·have hm:=hsrc t ht c hct x hx hz;have h6:=hthere x hm;unfold qE at h6;rcases isZ_k12 hz hxv with hk | hk
   ·rw [hk] at h6;simp at h6;exact .inr (.inl ⟨hk,h6⟩)
   ·exact .inr (.inr ⟨hk,net.th _ hmem x hm hk,hdep x hm hk⟩)
  ·exact .inl (yF hz)
 refine ⟨hcf,hv,?_,key _ (.inl rfl) hcf.a hvv.1.1.2,key _ (.inr rfl) hcf.b hvv.1.2⟩;unfold vC at h5;simp only [Bool.or_eq_true,Bool.and_eq_true,beq_iff_eq] at h5;rcases h5 with h5 | h5
 ·exact .inl h5
 ·exact .inr ⟨h5.1,h5.2.2⟩
open Go.RowKit
set_option maxRecDepth 4000
theorem sub_int (y:Rat) (j:Int):(y - (j:Rat)).num=y.num - j*(y.den:Int)∧(y - (j:Rat)).den=y.den:=by
 have h:=addQ y (((-j:Int)):Rat);simp only [Rat.num_intCast,Rat.den_intCast,Nat.gcd_one_right,Nat.div_one] at h;have e:y - (j:Rat)=y+((-j:Int):Rat):=by
  rw [Rat.sub_eq_add_neg,Rat.intCast_neg]
 rw [e,h.1,h.2];refine ⟨?_,by omega⟩;rw [Int.natCast_one,Int.ediv_one,Int.mul_one,Int.neg_mul];omega
theorem aEt {a b c:Rat} (hc : 0<c):a≤b / c ↔ a*c≤b:=by
 have e:b / c*c=b:=Rat.div_mul_cancel (by grind);constructor
 ·intro h;have:=Rat.mul_le_mul_of_nonneg_right h (show 0≤c by grind);rwa [e] at this
 ·intro h;rw [← e] at h;exact Rat.le_of_mul_le_mul_right h hc
theorem aF7 {a b c:Rat} (hc : 0<c):a / c≤b ↔ a≤b*c:=by
 have e:a / c*c=a:=Rat.div_mul_cancel (by grind);constructor
 ·intro h;have:=Rat.mul_le_mul_of_nonneg_right h (show 0≤c by grind);rwa [e] at this
 ·intro h;rw [← e] at h;exact Rat.le_of_mul_le_mul_right h hc
theorem zX {n:Int} (h:n.natAbs≤9223372036854775807):bV (n:Rat)=true:=by
 refine cX.2 ⟨?_,?_⟩
 ·rw [Rat.num_intCast];exact h
 ·rw [Rat.den_intCast];decide
theorem Vr {q:Rat} {N D:Nat} (h:QB q N D) (h1:N≤9223372036854775807) (h2:D≤9223372036854775807):bV q=true:=cX.2 ⟨Nat.le_trans h.1 h1,Nat.le_trans h.2 h2⟩
theorem Dq {r:RatR} (f:r.fit) (hv:cU r=true):bV (toQ r)=true:=by
 obtain ⟨h1,h2⟩:=Uc hv;have hd:=dX hv;have hn:=Kb hv;have fn:=f.num.2;have fd:=f.den.2;refine cX.2 ⟨?_,?_⟩
 ·rw [h1];omega
 ·omega
theorem pJ {r:RatR} (h:aZ r=true):fB r=true∧cU r=true∧(1≤r.num∧r.num≤1048576)∧(1≤r.den∧r.den≤65536)∧r.num≤240*r.den:=by
 unfold aZ at h;simp only [Bool.and_eq_true,decide_eq_true_eq] at h;have h2:=h.1;unfold fB at h2;simp only [Bool.and_eq_true,decide_eq_true_eq] at h2;exact ⟨h.1,h2.1.1.1,⟨h2.1.1.2,h2.1.2⟩,⟨dX h2.1.1.1,h2.2⟩,h.2⟩
theorem Qu {r:RatR} (hd : 1≤r.den) {t:Int} {d:Nat} (e : 48000*r.den=d):qS r t=((t*r.num:Int):Rat) / ((d:Int):Rat):=by
 rw [← e,Rat.intCast_mul,Rat.intCast_mul];rfl
theorem Wv {r:RatR} (h:aZ r=true) {t:Int} (ht:t.natAbs≤1099511627776):bV (qS r t)=true:=by
 obtain ⟨_,_,hn,hd,_⟩:=pJ h;obtain ⟨d,e⟩:=eW (n:=48000*r.den) (by omega);rw [Qu hd.1 e];have hm:(t*r.num).natAbs≤1099511627776*1048576:=by rw [Int.natAbs_mul];exact Nat.mul_le_mul ht (by omega)
 exact Vr (Jg (t*r.num) d (by omega)) (by omega) (by omega)
theorem aKn {r:RatR} (h:aZ r=true) (t:Int):((qL r t - 1:Int):Rat)≤qS r t∧qS r t≤((qL r t+1:Int):Rat):=by
 obtain ⟨_,_,hn,hd,h240⟩:=pJ h;obtain ⟨d,e⟩:=eW (n:=48000*r.den) (by omega);have dp:(0:Rat)<((d:Int):Rat):=aBs (by omega);have e2:qL r t=((2*t+1)*r.num - 1) / (2*(d:Int)):=by
  unfold qL;rw [← e];congr 1;omega
 have q1:=Int.mul_ediv_add_emod ((2*t+1)*r.num - 1) (2*(d:Int));have q2:=Int.emod_nonneg ((2*t+1)*r.num - 1) (show 2*(d:Int)≠0 by omega);have q3:=Int.emod_lt_of_pos ((2*t+1)*r.num - 1) (show 0<2*(d:Int) by omega);have q4:(2*t+1)*r.num=2*(t*r.num)+r.num:=by rw [Int.add_mul,Int.one_mul,Int.mul_assoc]
 rw [← e2] at q1;generalize qL r t=f at *;rw [Qu hd.1 e];have q5 : 2*(d:Int)*f=2*(f*d):=by rw [Int.mul_assoc,Int.mul_comm (d:Int) f]
 constructor
 ·rw [aEt dp, ← Rat.intCast_mul,Rat.intCast_le_intCast,Int.sub_mul,Int.one_mul];omega
 ·rw [aF7 dp, ← Rat.intCast_mul,Rat.intCast_le_intCast,Int.add_mul,Int.one_mul];omega
theorem Sq:∀ (l:List ClipR) (i:Nat) (n:Int) (j:Nat),(∀ c∈l,1≤c.len)→j<l.length→bZ (l.take j)≤n→n<bZ (l.take j)+(l.getD j default).len→pZ l i n=(((i+j:Nat):Int),n - bZ (l.take j),true)
 | [],_,_,_,_,h,_,_=>absurd h (by simp)
 | c::l,i,n,0,hp,_,h1,h2=>by
  rw [Bq];have h3:n<c.len:=by simpa [bZ] using h2
  rw [if_pos h3];simp [bZ]
 | c::l,i,n,j+1,hp,h,h1,h2=>by
  rw [Bq];have e:bZ ((c::l).take (j+1))=c.len+bZ (l.take j):=rfl;have e2:(c::l).getD (j+1) default=l.getD j default:=rfl;rw [e] at h1 h2 ⊢;rw [e2] at h2;have hj:j<l.length:=by simpa using h
  have h0:=nG (t:=l) (fun d hd=>hp d (by simp [hd])) j 0 (Nat.zero_le _) (by omega);have t0:bZ (l.take 0)=0:=rfl;rw [if_neg (by omega),Sq l (i+1) (n - c.len) j (fun d hd=>hp d (by simp [hd])) hj (by omega) (by omega)];have e3:i+1+j=i+(j+1):=by omega
  have e4:n - c.len - bZ (l.take j)=n - (c.len+bZ (l.take j)):=by omega
  rw [e3,e4]
theorem hit_cases {t:List ClipR} (hv:cG t=true) (f:Int) :
  (Qb t f=none∧(f<0∨bZ t≤f)∧(nB t f).2.2=false) ∨
  ∃ i:Nat,i<t.length∧0≤f∧bZ (t.take i)≤f∧f<bZ (t.take i)+(t.getD i default).len∧nB t f=((i:Int),f - bZ (t.take i),true) ∧
   Qb t f=if (t.getD i default).kind=0 then none else some (t.getD i default,bZ (t.take i)):=by
 obtain ⟨h64,hvc,hsum⟩:=mA hv;have hp:∀ c∈t,1≤c.len∧c.len≤2147483647:=fun c hc=>eS (hvc c hc)
 have hp1:∀ c∈t,1≤c.len:=fun c hc=>(hp c hc).1
 by_cases h0:f<0
 ·have e:nB t f=(0,0,false):=by unfold nB;rw [if_neg (by omega)]
  refine .inl ⟨?_, .inl h0,by rw [e]⟩;unfold Qb;rw [e];rfl
 ·by_cases h1:bZ t≤f
  ·have e:nB t f=(0,0,false):=by unfold nB;rw [if_pos ⟨hv,by omega⟩,Ft t 0 f hp h1]
   refine .inl ⟨?_, .inr h1,by rw [e]⟩;unfold Qb;rw [e];rfl
  ·obtain ⟨i,x,hi,a,b⟩:=place hp1 (by omega) (show f<bZ t by omega);have hil:i<t.length:=by
    rcases Nat.lt_or_ge i t.length with h2 | h2
    ·exact h2
    ·rw [List.getElem?_eq_none h2] at hi;cases hi
   have hx:t.getD i default=x:=by rw [List.getD_eq_getElem?_getD,hi];rfl
   have e:nB t f=((i:Int),f - bZ (t.take i),true):=by
    unfold nB;rw [if_pos ⟨hv,by omega⟩,Sq t 0 f i hp1 hil a (by rw [hx];exact b),Nat.zero_add]
   refine .inr ⟨i,hil,by omega,a,by rw [hx];exact b,e,?_⟩;unfold Qb;rw [e,if_pos rfl];simp only [Int.toNat_natCast];have e5:f - (f - bZ (t.take i))=bZ (t.take i):=by omega
   rw [e5]
theorem Dm {t:List ClipR} (hv:cG t=true) {f:Int} {c:ClipR} {b:Int} (h:Qb t f=some (c,b)):c∈t∧c.kind≠0∧0≤b∧b≤f∧f<b+c.len∧b≤2147483647:=by
 obtain ⟨h64,hvc,hsum⟩:=mA hv;have hp1:∀ c∈t,1≤c.len:=fun c hc=>(eS (hvc c hc)).1
 rcases hit_cases hv f with ⟨h1,_⟩ | ⟨i,hi,h0,a,b',_,h1⟩
 ·rw [h1] at h;cases h
 ·rw [h1] at h;split at h
  ·cases h
  ·rename_i hk;injection h with h;obtain ⟨rfl,rfl⟩:=Prod.mk.inj h;have t0:=nG hp1 i 0 (by omega) (by omega);have t1:=nG hp1 t.length i (by omega) (Nat.le_refl _);rw [List.take_length] at t1;have tz:bZ (t.take 0)=0:=rfl;exact ⟨aR hi,hk,by omega,a,b',by omega⟩
theorem share01 {q:Rat} (h0 : 0≤q) (h1:q≤1) : 0≤q.num∧q.num≤(q.den:Int):=by
 refine ⟨Rat.num_nonneg.2 h0,?_⟩;have:=(Rat.le_iff _ _).1 h1;simpa using this
theorem aGp {r:RatR} (h:aZ r=true) {t:Int} {c:ClipR} {b:Int} (hv:cZ c=true) (hk:c.kind=2) (hb:b≤qL r t∧qL r t<b+c.len) :
  0≤((qS r t - (b:Rat))+((c.off+1:Int):Rat))*inv (c.total+1).toNat∧((qS r t - (b:Rat))+((c.off+1:Int):Rat))*inv (c.total+1).toNat≤1:=by
 obtain ⟨w0,w1⟩:=aKn h t;have hkk:dC c=true:=by
  unfold cZ at hv;rw [Bool.and_eq_true] at hv;exact hv.2
 unfold dC at hkk;rw [if_neg (by omega),if_neg (by omega),if_pos hk] at hkk;unfold jN at hkk;simp only [Bool.and_eq_true,decide_eq_true_eq] at hkk;obtain ⟨⟨⟨⟨⟨s1,s2⟩,s3⟩,s4⟩,_⟩,_⟩:=hkk;obtain ⟨n,hn⟩:=eW (n:=c.total+1) (by omega);have hl:=(eS hv).1;have hn1 : 1≤n:=by omega
 have np:(0:Rat)<((n:Int):Rat):=aBs (by omega);rw [hn,Int.toNat_natCast];have e:∀ z:Rat,z*inv n=z / ((n:Int):Rat):=fun z=>by
  unfold inv;rw [Rat.div_def,Rat.div_def];simp
 rw [e,aEt np,aF7 np];generalize qS r t=x at *;generalize qL r t=f at *;have a1:((f - 1 - b+(c.off+1):Int):Rat)≤x - (b:Rat)+((c.off+1:Int):Rat):=by
  simp only [Rat.intCast_add,Rat.intCast_sub] at w0 w1 ⊢
  grind
 have a2:x - (b:Rat)+((c.off+1:Int):Rat)≤((f+1 - b+(c.off+1):Int):Rat):=by
  simp only [Rat.intCast_add,Rat.intCast_sub] at w0 w1 ⊢
  grind
 have b1:((0:Int):Rat)≤((f - 1 - b+(c.off+1):Int):Rat):=Rat.intCast_le_intCast.2 (by omega);have b2:((f+1 - b+(c.off+1):Int):Rat)≤((n:Int):Rat):=Rat.intCast_le_intCast.2 (by omega);constructor
 ·rw [Rat.zero_mul];exact Rat.le_trans b1 a1
 ·rw [Rat.one_mul];exact Rat.le_trans a2 b2
def Qk (m:Int) (l:List Int):Prop := ∀ u∈l, -m≤u∧u≤m
theorem dK {x n:Int} {d:Nat} (h0 : 0≤n) (h1:n≤(d:Int)) (hd : 1≤d) : -(x.natAbs:Int)≤fM x n d∧fM x n d≤(x.natAbs:Int)+1:=by
 have:=eC (x:=x) h0 h1 hd;unfold fM;split<;>omega
theorem uM {m:Int} {l:List Int} (h:Qk m l) (hm : 0≤m) (j:Int) : -m≤aT l j∧aT l j≤m:=by
 unfold aT;split
 ·rcases Nat.lt_or_ge j.toNat l.length with h1 | h1
  ·exact h _ (aR h1)
  ·rw [List.getD_eq_getElem?_getD,List.getElem?_eq_none h1];exact ⟨by simp only [Option.getD_none];omega,by simp only [Option.getD_none];omega⟩
 ·omega
def KQ (Q:Exit→St→Prop) (pe:List PanicEntry) (σ : St):Prop := ∀ fr,Q (.panic pe) { σ with fr:=fr }
def aY (D:Nat→Prop) (h h':Heap):Prop := ∀ q b,D q→h.look q=some b→h'.look q=some b
theorem aHv {D:Nat→Prop} {h h':Heap} (he:Ek h h'):aY D h h':=fun q b _ hq=>he q b hq
theorem bC {D:Nat→Prop} {a b c:Heap} (h1:aY D a b) (h2:aY D b c):aY D a c:=fun q x hd hq=>h2 q x hd (h1 q x hd hq)
def PCall (P:Program) (D:Nat→Prop) (KP:List PanicEntry→St→Prop) (σ : St) (d:Option Tmp) (f:FuncId) (xs:List V) (K:St→Prop):Prop :=
 P.enters f=true ∧ ∀ E w vs,Rel w E σ.h→(∀ i,E.U i→i < σ.nx)→RdVs w E xs vs→Calls P f vs.toArray w fun e w' =>
  (∃ v x h' nx' E',e = .returned v∧Rel w' E' h'∧(∀ i,E'.U i→i<nx')∧Ext E w E' w'∧RdV w' E' x v∧aY D σ.h h'∧K (({ σ with h:=h',nx:=nx' }:St).put d x)) ∨
  (∃ pe h' nx' E',e = .panicked pe∧Rel w' E' h'∧(∀ i,E'.U i→i<nx')∧Ext E w E' w'∧KP pe { σ with fr:=[],h:=h',nx:=nx' })
theorem PCall.mono {P:Program} {D:Nat→Prop} {KP KP':List PanicEntry→St→Prop} {σ : St} {d:Option Tmp} {f:FuncId} {xs:List V} {K K':St→Prop} (hk:∀ σ,K σ → K' σ) (hp:∀ pe σ,KP pe σ → KP' pe σ) (h:PCall P D KP σ d f xs K):PCall P D KP' σ d f xs K' :=
 ⟨h.1,fun E w vs h1 h2 h3=>(h.2 E w vs h1 h2 h3).mono fun e w' hh=>by
  rcases hh with ⟨v,x,h',nx',E',q1,q2,q3,q4,q5,q6,q7⟩ | ⟨pe,h',nx',E',q1,q2,q3,q4,q5⟩
  ·exact .inl ⟨v,x,h',nx',E',q1,q2,q3,q4,q5,q6,hk _ q7⟩
  ·exact .inr ⟨pe,h',nx',E',q1,q2,q3,q4,hp _ _ q5⟩⟩
def uJ (P:Program) (rs:List ResultVar) (K:V→St→Prop) (KP:List PanicEntry→St→Prop) (e:Exit) (σ : St):Prop :=
 match e with
 | .panic pe => σ.df = []∧KP pe σ
 | e=>Hs P rs K e σ
theorem Qh {P:Program} {f:FuncId} {fn:Func} {c:Code} {args:List V} {n n0 nx:Nat} {rs:List ResultVar} {h0:Heap} {K:V→St→Prop} {KP:List PanicEntry→St→Prop} {R:Ending→World→Prop} (hf:P.funcs[f]? = some fn) (hb:fn.body=some c) (hn:fn.ntmps=n)
  (hrs:fn.results.toList=rs) (h:AWP P n0 c (uJ P rs K KP) (tJ P n args h0 nx)) {E:Env} {w:World} {vs:List Value} (hr:Rel w E h0) (hbd:∀ i,E.U i→i<nx) (hU:∀ i,E.U i→i<n0) (hargs:RdVs w E args vs)
  (hR:∀ v x σ' E' w',Rel w' E' σ'.h→(∀ i,E'.U i→i < σ'.nx)→Ext E w E' w'→RdV w' E' x v→K x σ'→R (.returned v) w')
  (hRP:∀ pe σ' E' w',Rel w' E' σ'.h→(∀ i,E'.U i→i < σ'.nx)→Ext E w E' w'→KP pe σ'→R (.panicked pe) w'):Calls P f vs.toArray w R:=by
 refine (callsIn_wide (n:=0)).1 (callsIn_of_wp_marks hf hb trivial ?_);have hlen:=RdVs.len hargs;have hrel:RelF (E.at0 none) (tJ P n args h0 nx) { tmps:=vs.toArray++Array.replicate (fn.ntmps - vs.toArray.size) undef,defers:=[] } w:=by
  refine ⟨hr.ro none,hbd,?_,⟨rfl,rfl⟩⟩;have e1:(vs.toArray++Array.replicate (fn.ntmps - vs.toArray.size) undef).toList=vs++List.replicate (n - args.length) undef:=by
   rw [hn,hlen];simp
  show RdVs w (E.at0 none) (args++List.replicate (n - args.length) .dead) _
  rw [e1];exact RdVs.append (hargs.ro none) (zJ _)
 refine wpIn_mono (h (E.at0 none) _ w hrel (E.at0 none) w hU (Ext.refl _ _)) ?_;rintro e a' w' ⟨σ',E',h1,h2,h3⟩;have ret:∀ e,Hs P rs K e σ'→bodyPostM Fence.wide 0 P fn R e a' w':=fun e h3=>by
  obtain ⟨he,xs,hxs,hnop,hK⟩:=Kz h3;have key:LeavesInM Fence.wide 0 P fn a'.tmps R a'.defers .returning w':=by
   refine nY σ'.df a'.defers (fr := σ'.fr) (nx := σ'.nx) (h := σ'.h) (E:=E') ⟨h1.rel,h1.bound,h1.fr,h1.defers⟩ hnop fun E2 w2 q1 q2 q3 q4=>?_
   have hr2:RelF (E2.at0 none) { fr := σ'.fr,h:=Bs σ'.df σ'.h,nx := σ'.nx,df:=[] } { tmps:=a'.tmps,defers:=[] } w2:=⟨q1.ro none,q2,q3.ro none,⟨rfl,rfl⟩⟩
   obtain ⟨v,hv,hrv⟩:=sY (fn:=fn) (xs:=xs) hr2 (by rw [hrs];exact hxs);have hx:Ext E w (E2.at0 E.ro) w2:=(h2.trans q4).back;exact ⟨v,hv,hR v _ (Qe σ') _ w2 (q1.ro E.ro) q2 hx ((hrv:RdV w2 (E2.at0 none) _ _).ro E.ro) hK⟩
  rcases he with rfl | rfl
  ·exact key
  ·exact key
 cases e with
 | panic pe =>
  obtain ⟨hd,hK⟩:=h3;have hdf:=h1.defers;rw [hd] at hdf;have h0:a'.defers = []:=hdf.1;show LeavesInM Fence.wide 0 P fn a'.tmps R a'.defers (.panicking pe) w'
  rw [h0];exact hRP pe σ' (E'.at0 E.ro) w' (h1.rel.ro _) h1.bound h2.back hK
 | normal=>exact ret _ h3
 | ret=>exact ret _ h3
 | exit _=>exact h3.elim
 | goto _=>exact h3.elim
 | outgrown=>exact h3.elim
theorem eV {P:Program} {D:Nat→Prop} {KP:List PanicEntry→St→Prop} {σ : St} {d:Option Tmp} {f:FuncId} {fn:Func} {c:Code} {xs:List V} {n:Nat} {rs:List ResultVar} {K:St→Prop} (he:P.enters f=true) (hf:P.funcs[f]? = some fn) (hb:fn.body=some c) (hn:fn.ntmps=n) (hrs:fn.results.toList=rs)
  (h:AWP P σ.nx c (uJ P rs (fun x σ'=>aY D σ.h σ'.h∧K (({ σ with h := σ'.h,nx := σ'.nx }:St).put d x)) (fun pe σ'=>KP pe { σ with fr:=[],h := σ'.h,nx := σ'.nx })) (tJ P n xs σ.h σ.nx)):PCall P D KP σ d f xs K :=
 ⟨he,fun E w vs hr hbd hargs=>Qh hf hb hn hrs h hr hbd hbd hargs (fun v x σ' E' w' h1 hbd' h2 h3 hK => .inl ⟨v,x, σ'.h, σ'.nx,E',rfl,h1,hbd',h2,h3,hK.1,hK.2⟩) fun pe σ' E' w' h1 hbd' h2 hK => .inr ⟨pe, σ'.h, σ'.nx,E',rfl,h1,hbd',h2,hK⟩⟩
theorem Wm {P:Program} {D:Nat→Prop} {KP:List PanicEntry→St→Prop} {σ : St} {o:Oper} {f:FuncId} {args:Array Operand} {tys:Array TypeId} {K:St→Prop} (ho:o.op = .call { callee := .value (.func f),args:=args,argTypes:=tys })
  (h:dP true (args.toList.map σ.ev) fun xs=>PCall P D KP σ o.dst f xs K) {E:Env} {a:Act} {w:World} (hr:RelF E σ a w) {next:Act→World→Prop} {Q:Exit→Act→World→Prop}
  (hn:∀ a' w' E' σ',RelF E' σ' a' w'→Ext E w E' w'→aY D σ.h σ'.h→K σ'→next a' w') (hp:∀ pe w' E' σ',RelF E' σ' a w'→Ext E w E' w'→KP pe { σ' with fr:=[] }→Q (.panic pe) a w'):o.wpIn (Wd E.ro) 0 P a w next Q:=by
 refine eU (.inr fun c hc=>by rw [ho] at hc;cases hc) ?_;obtain ⟨ys,h1,hys⟩:=kK h;have hvs:=hys w E _ rfl (jC hr args.toList);have h2:=h1.2 E w _ hr.rel hr.bound hvs;have e1:(args.toList.map a.eval).toArray=args.map a.eval:=by apply Array.ext';simp only [Array.toList_map]
 rw [e1] at h2;unfold Oper.wp;rw [kU ho rfl h1.1];simp only [Oper.upon];refine Calls.mono h2 ?_;rintro e w' (⟨v,x,h',nx',E',rfl,q2,q3,q4,q5,q6,q7⟩ | ⟨pe,h',nx',E',rfl,q2,q3,q4,q5⟩)
 ·have hr':RelF E' { σ with h:=h',nx:=nx' } a w':=⟨q2,q3,q4.rdVs _ hr.fr,q4.defs hr.defers⟩
  exact hn _ w' E' _ (hr'.put o.dst q5) q4 (by rw [mD];exact q6) q7
 ·exact hp pe w' E' { σ with h:=h',nx:=nx' } ⟨q2,q3,q4.rdVs _ hr.fr,q4.defs hr.defers⟩ q4 q5
theorem mM {P:Program} {ops:List Oper} {Q:Exit→St→Prop} {o:Oper} {r:List Oper} {σ : St} {f:FuncId} {args:Array Operand} {tys:Array TypeId} (hg:o.guard=none) (ho:o.op = .call { callee := .value (.func f),args:=args,argTypes:=tys })
  (h:dP true (args.toList.map σ.ev) fun xs=>PCall P (fun _=>False) (KQ Q) σ o.dst f xs (qG P ops Q r)):qG P ops Q (o::r) σ := by
 intro E a w hr E0 w0 hE;unfold wpListIn;have hw:Region.wanted o (yielded ops.toArray a.tmps)=true:=by simp [Region.wanted,hg]
 rw [if_pos hw];refine Wm ho h hr (fun a' w' E' σ' h1 h2 _ h3=>?_) fun pe w' E' σ' h1 h2 h3=>⟨σ',E',h1,hE.trans h2,h3 σ'.fr⟩
 have:=h3 E' a' w' h1 E0 w0 (hE.trans h2);rwa [h2.ro] at this
theorem rT {P:Program} {ops:List Oper} {Q:Exit→St→Prop} {o2 o3:Oper} {r:List Oper} {σ : St} (t s:Nat) {k:IntKind} {n:Int} {ty:TypeId} {u:TypeDesc} (g2:o2.guard=none) (g3:o3.guard=none)
  (e2:o2.op = .makeInterface ty (.tmp t)) (e3:o3.op = .panic (.tmp s)) (d2:o2.dst=some s) (hu:P.underlying ty=some u) (hi:∀ m,u ≠ .interface m) (hs:s < σ.fr.length)
  (hx : σ.ev (.tmp t) = .agg [.t (.lit (.int k n))]) (h:KQ Q [{ v := .iface ty (.agg #[.int k n]),recovered:=false }] σ):qG P ops Q (o2::o3::r) σ := by
 intro E a w hr E0 w0 hE;have hv:a.eval (.tmp t) = .agg #[.int k n]:=by
  have h1:=hr.ev (.tmp t);rw [hx] at h1;simp only [RdV] at h1;obtain ⟨⟨vs⟩,h1,h2,h3⟩:=h1;rcases vs with _ | ⟨v,_ | ⟨v2,l⟩⟩
  ·simp only [RdVs] at h2
  ·simp only [RdVs,and_true] at h2;rw [h1,(aG h2).1]
  ·simp only [RdVs,and_false] at h2
 have hsz:s<a.tmps.size:=by
  have:=RdVs.len hr.fr;simp only [Array.length_toList] at this;omega
 unfold wpListIn;have w2:Region.wanted o2 (yielded ops.toArray a.tmps)=true:=by simp [Region.wanted,g2]
 rw [if_pos w2];refine eU (.inr fun c hc=>by rw [e2] at hc;cases hc) ?_;unfold Oper.wp;have r2:(execOp a.eval o2).run P w = .ok (.value (.iface ty (.agg #[.int k n]))) w:=by
  have hm:(Instr.makeInterface ty (.agg #[.int k n])).run P w = .ok (.iface ty (.agg #[.int k n])) w:=by
   unfold Instr.makeInterface;simp only [Sem.run_bind,run_underlying hu,Result.andThen_ok];cases u with
   | interface m=>exact (hi m rfl).elim
   | _=>rfl
  simp only [execOp,e2,hv,Sem.run_bind,hm,Result.andThen_ok,Sem.run_pure]
 rw [r2];show wpListIn (Wd E.ro) 0 P ops.toArray (qD E0 w0 Q) (o3::r) (a.put o2.dst (.iface ty (.agg #[.int k n]))) w
 rw [d2];unfold wpListIn;have w3:Region.wanted o3 (yielded ops.toArray (a.put (some s) (.iface ty (.agg #[.int k n]))).tmps)=true:=by simp [Region.wanted,g3]
 rw [if_pos w3];refine eU (.inr fun c hc=>by rw [e3] at hc;cases hc) ?_;unfold Oper.wp;have ev:(a.put (some s) (.iface ty (.agg #[.int k n]))).eval (.tmp s) = .iface ty (.agg #[.int k n]):=by
  simp [Act.put,Act.eval,hsz]
 have r3:(execOp (a.put (some s) (.iface ty (.agg #[.int k n]))).eval o3).run P w = .halt (.panic (.iface ty (.agg #[.int k n]))) w:=by
  simp only [execOp,e3,ev,Sem.run_bind];rfl
 rw [r3];exact ⟨σ.put (some s) .dead,E,hr.put (some s) (by simp only [RdV]),hE,h _⟩
def aQk (D:Nat→Prop) (σ σ':St) (d:Option Tmp):Prop:=aY D σ.h σ'.h∧WFh σ' ∧ ∀ y:Operand,(∀ t,d=some t→y ≠ .tmp t) → σ'.ev y = σ.ev y
theorem kept_d {D:Nat→Prop} {σ σ':St} {d:Option Tmp} (h:aJv σ σ' d):aQk D σ σ' d:=⟨aHv h.1,h.2⟩
def rM (P:Program) (D:Nat→Prop) (KP:List PanicEntry→St→Prop) (o:Oper) (σ : St) (K:St→Prop):Prop :=
 o.guard=none∧match o.op with
 | .call { callee := .value (.func f),args, .. }=>dP true (args.toList.map σ.ev) fun xs=>PCall P D KP σ o.dst f xs K
 | _=>False
theorem vF {P:Program} {D:Nat→Prop} {KP:List PanicEntry→St→Prop} {o:Oper} {σ : St} {K:St→Prop} (h:rM P D KP o σ K):∃ f args tys,o.guard=none∧o.op = .call { callee := .value (.func f),args:=args,argTypes:=tys }∧dP true (args.toList.map σ.ev) fun xs=>PCall P D KP σ o.dst f xs K:=by
 obtain ⟨hg,h⟩:=h;split at h
 ·rename_i f args tys ho;exact ⟨f,args,_,hg,ho,h⟩
 ·exact h.elim
theorem Ep {P:Program} {D:Nat→Prop} {KP:List PanicEntry→St→Prop} {o:Oper} {σ : St} {K:St→Prop} {f:FuncId} {args:Array Operand} {tys:Array TypeId} (hg:o.guard=none) (ho:o.op = .call { callee := .value (.func f),args:=args,argTypes:=tys }) (h:dP true (args.toList.map σ.ev) fun xs=>PCall P D KP σ o.dst f xs K):rM P D KP o σ K:=by
 refine ⟨hg,?_⟩;rw [ho];exact h
theorem xA {P:Program} {D:Nat→Prop} {KP:List PanicEntry→St→Prop} {o:Oper} {σ : St} {K K':St→Prop} (hk:∀ σ,K σ → K' σ) (h:rM P D KP o σ K):rM P D KP o σ K':=by
 obtain ⟨f,args,tys,hg,ho,hu⟩:=vF h;obtain ⟨ys,h1,h2⟩:=gP hu;exact Ep hg ho (h2 _ (PCall.mono hk (fun _ _ h=>h) h1))
theorem En {P:Program} {D:Nat→Prop} {KP:List PanicEntry→St→Prop} {o:Oper} {σ : St} {K:St→Prop} (h:rM P D KP o σ K):rM P D KP o σ fun s=>WFh s∧K s:=by
 obtain ⟨f,args,tys,hg,ho,hu⟩:=vF h;obtain ⟨ys,h1,h2⟩:=gP hu;refine Ep hg ho (h2 _ ⟨h1.1,fun E w vs q1 q2 q3=>(h1.2 E w vs q1 q2 q3).mono ?_⟩);rintro e w' (⟨v,y,h',nx',E',q1,q2,q3,q4,q5,q6,q7⟩ | hp)
 ·refine .inl ⟨v,y,h',nx',E',q1,q2,q3,q4,q5,q6,fun q hq=>?_,q7⟩;rw [jD] at hq;rw [mD];cases hl:Heap.look h' q with
  | none=>rfl
  | some blk =>
   have:=q3 q (q2.uses hl);have:nx'≤q:=hq;omega
 ·exact .inr hp
theorem Wh {P:Program} {D:Nat→Prop} {KP:List PanicEntry→St→Prop} {σ : St} {o:Oper} {d:Option Tmp} {x:V} {K:St→Prop} (hop:∀ t,d=some t → .tmp t ∉ o.op.operands.toList) (hd:∀ t,d=some t→o.dst≠some t) (h0:rM P D KP o (σ.put d x) K) :
  rM P D KP o σ fun σ'=>K (σ'.put d x)∧aQk D σ σ' o.dst:=by
 obtain ⟨f,args,tys,hg,ho,hu⟩:=vF (En h0);refine Ep hg ho ?_;have hargs:args.toList.map (σ.put d x).ev=args.toList.map σ.ev:=Cz _ fun y hy=>Br fun t ht e=>hop t ht (by rw [← e,ho];simp [Op.operands,Call.operands];exact .inr (by simpa using hy))
 rw [hargs] at hu;obtain ⟨ys,h1,h2⟩:=gP hu;refine h2 _ ⟨h1.1,fun E w vs hr hb hv=>?_⟩;refine (h1.2 E w vs (by rw [mD];exact hr) (by rw [jD];exact hb) hv).mono ?_;rintro e w' (⟨v,y,h',nx',E',q1,q2,q3,q4,q5,q6,r2,q7⟩ | ⟨pe,h',nx',E',q1,q2,q3,q4,q5⟩)
 ·have e1:(({ σ.put d x with h:=h',nx:=nx' }:St).put o.dst y)=(({ σ with h:=h',nx:=nx' }:St).put o.dst y).put d x:=by
   refine Eq.trans ?_ (rX hd);cases d<;>rfl
  rw [mD] at q6;have r2':WFh (({ σ with h:=h',nx:=nx' }:St).put o.dst y):=fun q hq=>by
   have:=r2 q (by rw [jD];rw [jD] at hq;exact hq);rw [mD] at this ⊢;exact this
  refine .inl ⟨v,y,h',nx',E',q1,q2,q3,q4,q5,q6,?_,by rw [mD];exact q6,r2',fun z hz=>?_⟩
  ·rw [← e1];exact q7
  ·rw [Br hz];cases z<;>rfl
 ·refine .inr ⟨pe,h',nx',E',q1,q2,q3,q4,?_⟩;have e2:({ σ.put d x with fr:=[],h:=h',nx:=nx' }:St) = { σ with fr:=[],h:=h',nx:=nx' }:=by cases d<;>rfl
  rw [← e2];exact q5
def xG (P:Program) (D:Nat→Prop) (KP:List PanicEntry→St→Prop) (ops:Array Oper) (b:Bool) (o:Oper) (σ : St) (K:St→Prop):Prop :=
 match b with
 | true=>rM P D KP o σ K
 | false=>cW P ops.toList σ o.dst o.op o.guard K
theorem mB {P:Program} {D:Nat→Prop} {KP:List PanicEntry→St→Prop} {ops:Array Oper} {b:Bool} {o:Oper} {σ : St} {K K':St→Prop} (hk:∀ σ,K σ → K' σ) (h:xG P D KP ops b o σ K):xG P D KP ops b o σ K':=by
 cases b with
 | true=>exact xA hk h
 | false=>exact nU hk h
def Ns (P:Program) (D:Nat→Prop) (KP:List PanicEntry→St→Prop) (ops:Array Oper) (xs:List Nat) (K:St→Prop):Nat→Array Bool→St→Prop
 | 0,listed, σ => Region.ready .any ops listed = []∧K σ
 | f+1,listed, σ => (Region.ready .any ops listed = []→K σ) ∧ ∀ i∈Region.ready .any ops listed, ∃ o,ops[i]? = some o∧xG P D KP ops (xs.contains i) o σ (Ns P D KP ops xs K f (listed.setIfInBounds i true))
theorem Dx {P:Program} {D:Nat→Prop} {ops:Array Oper} {xs:List Nat} {Q:Exit→St→Prop}:∀ (f:Nat) (listed:Array Bool) (σ : St),Ns P D (KQ Q) ops xs (Q .normal) f listed σ → ∀ E a w,RelF E σ a w → ∀ E0 w0,Ext E0 w0 E w→wpAnyIn (Wd E.ro) 0 P .any ops (qD E0 w0 Q) f listed a w
 | 0,listed, σ,h,E,a,w,hr,E0,w0,hE=>⟨h.1, σ,E,hr,hE,h.2⟩
 | f+1,listed, σ,h,E,a,w,hr,E0,w0,hE=>by
  refine ⟨fun h0=>⟨σ,E,hr,hE,h.1 h0⟩,fun i hi=>?_⟩;obtain ⟨o,ho,hs⟩:=h.2 i hi;unfold wpOpIn;rw [ho];dsimp only;cases hb:xs.contains i with
  | false =>
   rw [hb] at hs;have:=Yw (Q:=qD E0 w0 Q) (next:=wpAnyIn (Wd E.ro) 0 P .any ops (qD E0 w0 Q) f (listed.setIfInBounds i true)) hs hr (fun a' w' E' σ' h1 h2 h3=>by
    have:=Dx f _ σ' h3 E' a' w' h1 E0 w0 (hE.trans h2);rwa [h2.ro] at this)
   simpa using this
  | true =>
   rw [hb] at hs;obtain ⟨g,args,tys,hg,hop,hu⟩:=vF hs;have hw:Region.wanted o (yielded ops a.tmps)=true:=by simp [Region.wanted,hg]
   rw [if_pos hw];refine Wm hop hu hr (fun a' w' E' σ' h1 h2 _ h3=>?_) fun pe w' E' σ' h1 h2 h3=>⟨σ',E',h1,hE.trans h2,h3 σ'.fr⟩
   have:=Dx f _ σ' h3 E' a' w' h1 E0 w0 (hE.trans h2);rwa [h2.ro] at this
theorem He {P:Program} {D:Nat→Prop} {KP:List PanicEntry→St→Prop} {ops:Array Oper} {xs:List Nat} {K:St→Prop} {i:Nat} {oi:Oper} {y:V} (hi:ops[i]? = some oi) (hix:xs.contains i=false)
  (hhv:∀ (j:Nat) oj,ops[j]? = some oj→wW P oj.op=true→xs.contains j=true∨xY .any ops 16 j i=true) :
  ∀ (fuel:Nat) (listed:Array Bool) (σ : St),HeadInv .any ops ops.size listed →
   (∀ j oj,ops[j]? = some oj→j≠i→listed.getD j true=false→(∀ e∈oj.after,Region.binds .any e=true→e.on≠i)→oi.apart ops oj=true) →
   i∈Region.ready .any ops listed→WFh σ →
   (∀ σ',kG σ σ' oi.op.operands.toList→aY D σ.h σ'.h→(∀ j w,oi.guard=some (j,w) → ∀ t,dZ ops.toList j=some t → σ'.ev (.tmp t) = σ.ev (.tmp t)) → ∀ K':St→Prop,K' (σ'.put oi.dst y)→cW P ops.toList σ' oi.dst oi.op oi.guard K') →
   Ns P D KP ops xs K fuel (listed.setIfInBounds i true) (σ.put oi.dst y)→Ns P D KP ops xs K (fuel+1) listed σ := by
 have first:∀ σ K',cW P ops.toList σ oi.dst oi.op oi.guard K'→xG P D KP ops (xs.contains i) oi σ K':=fun σ K' h=>by rw [hix];exact h
 intro fuel
 induction fuel with
 | zero =>
  intro listed σ inv hfree hr hw hst H;refine ⟨fun h=>(by rw [h] at hr;cases hr),fun j hj=>?_⟩
  by_cases hji:j=i
  ·subst hji;exact ⟨oi,hi,first _ _ (hst σ (fun _ _=>rfl) (fun _ _ _ h=>h) (fun _ _ _ _ _=>rfl) _ H)⟩
  ·have:=ready_mono hj hji;rw [H.1] at this;cases this
 | succ fuel ih =>
  intro listed σ inv hfree hr hw hst H;refine ⟨fun h=>(by rw [h] at hr;cases hr),fun j hj=>?_⟩
  by_cases hji:j=i
  ·subst hji;exact ⟨oi,hi,first _ _ (hst σ (fun _ _=>rfl) (fun _ _ _ h=>h) (fun _ _ _ _ _=>rfl) _ H)⟩
  ·obtain ⟨oj,hoj,hs⟩:=H.2 j (ready_mono hj hji);refine ⟨oj,hoj,?_⟩;obtain ⟨hjun,oj',hoj',hall⟩:=mem_ready.1 hj;rw [hoj] at hoj';injection hoj' with hoj';subst hoj';have hiu:=(mem_ready.1 hr).1;have hil:listed.getD i false=false:=getD_both hiu;have hnot:∀ e∈oj.after,Region.binds .any e=true→e.on≠i:=fun e he hb heq=>by
    have h1:=hall e he hb;rw [heq,hil] at h1;cases h1
   have hap:=hfree j oj hoj hji hjun hnot;obtain ⟨p1,p2,p3⟩:=Oper.apart_spec hap;have hjs:j<ops.size:=(Array.getElem?_eq_some_iff.1 hoj).1;have inv':=inv.set hj hjs;have hr':=ready_mono hr (Ne.symm hji);have hc:xG P D KP ops (xs.contains j) oj σ (fun σ'=>Ns P D KP ops xs K fuel ((listed.setIfInBounds i true).setIfInBounds j true) (σ'.put oi.dst y)∧aQk D σ σ' oj.dst):=by
    cases hxj:xs.contains j with
    | true =>
     rw [hxj] at hs;exact Wh (fun t ht=>sD (p1 t ht)) (fun t ht=>p2 t ht) hs
    | false =>
     rw [hxj] at hs;have hnh:wW P oj.op=false:=by
      cases hh:wW P oj.op with
      | false=>rfl
      | true =>
       have h3:=(hhv j oj hoj hh).resolve_left (by rw [hxj];simp);have:=mR inv 16 j h3 (fun ok hk e he hb=>by
        rw [hoj] at hk;injection hk with hk;subst hk;exact hall e he hb)
       rw [hil] at this;cases this
     exact nU (fun σ' hk=>⟨hk.1,kept_d hk.2⟩) (Bp (fun t ht=>sD (p1 t ht)) (fun t j' w' ht hg=>pM (p1 t ht) hg) (fun t ht=>p2 t ht) hnh hw hs)
   refine mB (fun σ' hk=>?_) hc;obtain ⟨hk1,hk2,hk3,hk4⟩:=hk;refine ih (listed.setIfInBounds j true) σ' inv' ?_ hr' hk3 ?_ ?_
   ·intro k ok hk hki hun hno;refine hfree k ok hk hki ?_ hno
    by_cases hjk:j=k
    ·subst hjk;exact hjun
    ·rw [getD_set_ne true hjk] at hun;exact hun
   ·intro σ'' he hh hg K' hK';refine hst σ'' (fun z hz=>?_) (bC hk2 hh) (fun j' w' hgd t ht=>?_) K' hK'
    ·rw [he z hz];exact hk4 z fun t ht e=>sD (p3 t ht) (e ▸ hz)
    ·rw [hg j' w' hgd t ht];refine hk4 _ fun t' ht' e=>?_
     injection e with e;subst e;exact pM (p3 _ ht') hgd ht
   ·rw [Array.setIfInBounds_comm _ _ hji];exact hk1
def allD (D:Nat→Prop):List Nat→Prop
 | []=>True
 | q::r=>D q∧allD D r
def aM7 (D:Nat→Prop) (σ : St):List Operand→Prop
 | []=>True
 | y::r=>allD D (σ.ev y).ment∧aM7 D σ r
theorem aFy {D:Nat→Prop}:∀ {l:List Nat},allD D l → ∀ q∈l,D q
 | [],_,q,h=>by cases h
 | a::l,hl,q,h=>by
  rcases List.mem_cons.1 h with rfl | h
  ·exact hl.1
  ·exact aFy hl.2 q h
theorem Ut {D:Nat→Prop} {σ : St}:∀ {l:List Operand},aM7 D σ l → ∀ y∈l, ∀ q∈(σ.ev y).ment,D q
 | [],_,q,h=>by cases h
 | a::l,hl,y,h=>by
  rcases List.mem_cons.1 h with rfl | h
  ·exact aFy hl.1
  ·exact Ut hl.2 y h
def Me (P:Program) (l:List Oper) (D:Nat→Prop) (o:Option Oper) (σ : St) (K:St→Prop):Prop :=
 match o with
 | some o=>aM7 D σ o.op.operands.toList∧cW P l σ o.dst o.op o.guard K
 | none=>False
def uE (P:Program) (l:List Oper) (D:Nat→Prop) (KP:List PanicEntry→St→Prop) (b:Bool) (o:Option Oper) (σ : St) (K:St→Prop):Prop :=
 match o with
 | some o=>xG P D KP l.toArray b o σ K
 | none=>False
def mN (P:Program) (l:List Oper) (D:Nat→Prop) (KP:List PanicEntry→St→Prop) (xs:List Nat) (K:St→Prop):PT→St→Prop
 | .done, σ => K σ
 | .look i t, σ => Me P l D (l[i]?) σ (mN P l D KP xs K t)
 | .step i t, σ => uE P l D KP (xs.contains i) (l[i]?) σ (mN P l D KP xs K t)
theorem aDz {P:Program} {D:Nat→Prop} {KP:List PanicEntry→St→Prop} {l:List Oper} {xs:List Nat} {K:St→Prop}:∀ (f:Nat) (t:PT) (listed:Array Bool) (w:Bool) (σ : St),ptB P l.toArray xs f listed w t=true→HeadInv .any l.toArray l.toArray.size listed→(w=true→WFh σ) →
  mN P l D KP xs K t σ → Ns P D KP l.toArray xs K f listed σ
 | 0, .done,listed,w, σ,hB,inv,hw,h=>by
  unfold ptB at hB;exact ⟨by simpa using hB,h⟩
 | 0, .look _ _,listed,w, σ,hB,_,_,_=>by cases hB
 | 0, .step _ _,listed,w, σ,hB,_,_,_=>by cases hB
 | f+1, .done,listed,w, σ,hB,inv,hw,h=>by
  unfold ptB at hB;have h0:Region.ready .any l.toArray listed = []:=by simpa using hB
  exact ⟨fun _=>h,fun i hi=>by rw [h0] at hi;cases hi⟩
 | f+1, .look i t,listed,w, σ,hB,inv,hw,h=>by
  unfold ptB aEn at hB;simp only [Bool.and_eq_true] at hB;obtain ⟨⟨bw,⟨⟨⟨b1,b2⟩,b3⟩,b3x⟩,b4⟩,b5⟩:=hB;have hr:i∈Region.ready .any l.toArray listed:=by simpa using b1
  obtain ⟨oi,ho,hm⟩:∃ oi,l.toArray[i]? = some oi∧eX P oi.op=true:=by
   cases hq:l.toArray[i]? with
   | none=>rw [hq] at b3;cases b3
   | some oi=>rw [hq] at b3;exact ⟨oi,rfl,by simpa using b3⟩
  have ho':l[i]? = some oi:=by simpa using ho
  simp only [mN,ho',Me] at h;obtain ⟨hD,h⟩:=h;obtain ⟨y,hk,hst0⟩:=rA hm h;have hst:∀ σ',kG σ σ' oi.op.operands.toList→aY D σ.h σ'.h→(∀ j w,oi.guard=some (j,w) → ∀ t,dZ l j=some t → σ'.ev (.tmp t) = σ.ev (.tmp t)) → ∀ K':St→Prop,K' (σ'.put oi.dst y)→cW P l σ' oi.dst oi.op oi.guard K' :=
   fun σ' he hh hg K' hk'=>hst0 σ' he (fun y hy q b hm hq=>hh q b (Ut hD y hy q hm) hq) hg K' hk'
  have his:i<l.toArray.size:=(Array.getElem?_eq_some_iff.1 ho).1;refine He (y:=y) ho (by simpa using b3x) (fun j oj hoj hh=>?_) f listed σ inv (Region.free_spec ho b2) hr (hw bw) hst ?_
  ·have hj:=(List.all_eq_true.1 b4) j (List.mem_range.2 (Array.getElem?_eq_some_iff.1 hoj).1);simp only [hoj,Option.any_some,hh,Bool.not_true,Bool.false_or,Bool.or_eq_true] at hj;exact hj
  ·exact aDz f t _ w _ b5 (inv.set hr his) (fun q=>(uU (hw q)).2.1) hk
 | f+1, .step i t,listed,w, σ,hB,inv,hw,h=>by
  unfold ptB at hB;simp only [Bool.and_eq_true,beq_iff_eq] at hB;obtain ⟨⟨h1,h2⟩,h3⟩:=hB;obtain ⟨o,ho⟩:=Option.isSome_iff_exists.1 h2;have ho':l[i]? = some o:=by simpa using ho
  have hi:i∈Region.ready .any l.toArray listed:=by rw [h1];simp
  have his:i<l.toArray.size:=(Array.getElem?_eq_some_iff.1 ho).1;refine ⟨fun h0=>(by rw [h1] at h0;cases h0),fun j hj=>?_⟩;rw [h1] at hj;simp only [List.mem_singleton] at hj;subst hj;refine ⟨o,ho,?_⟩;simp only [mN,ho',uE] at h;cases hx:xs.contains j with
  | true =>
   rw [hx] at h h3;exact xA (fun σ' hk=>aDz f t _ _ σ' h3 (inv.set hi his) (fun _=>hk.1) hk.2) (En h)
  | false =>
   rw [hx,Bool.and_false] at h3;rw [hx] at h;exact mB (b:=false) (fun σ' hk=>aDz f t _ _ σ' h3 (inv.set hi his) (fun q=>by cases q) hk) h
theorem aA9 {P:Program} {n0:Nat} {id:Nat} {l:List Oper} {Q:Exit→St→Prop} {σ : St} (D:Nat→Prop) (xs:List Nat) (t:PT) (hm:P.follows .mixedOrders=true)
  (hT:ptB P l.toArray xs l.length (Array.replicate l.length false) true t=true) (h:mN P l D (KQ Q) xs (Q .normal) t σ):Tr P n0 id l.toArray Q σ := by
 intro E a w hr E0 w0 hU hE;refine wpIn_region_any hm ?_;have inv:HeadInv .any l.toArray l.toArray.size (Array.replicate l.length false):=by
  have:=pP (ops:=l.toArray) (md := .any);simpa using this
 have hd:=aDz _ t _ true σ hT inv (fun _=>hr.wfh) h;have hdr:RelF E σ a { w with drawn:=w.drawn+1 }∧Ext E0 w0 E { w with drawn:=w.drawn+1 }:=by
  have hb:Below w.heap.size w { w with drawn:=w.drawn+1 }:=⟨rfl,rfl,rfl,Nat.le_refl _,fun _ _=>rfl⟩
  obtain ⟨k1,k2⟩:=hr.later hb (fun _ h=>h) (fun b hb => .inl hb) (fun b hb'=>hr.rel.slt b hb');exact ⟨k1,hE.trans k2⟩
 have:=Dx _ _ σ hd E a _ hdr.1 E0 w0 hdr.2;simpa using this
section
variable {P:Program} {l:List Oper} {D:Nat→Prop} {KP:List PanicEntry→St→Prop} {xs:List Nat} {K:St→Prop} {σ : St} {o:Oper}
@[go_sem] theorem pzsteps_done:mN P l D KP xs K .done σ = K σ := rfl
@[go_sem] theorem pzsteps_look {i:Nat} {t:PT}:mN P l D KP xs K (.look i t) σ = Me P l D (l[i]?) σ (mN P l D KP xs K t):=rfl
@[go_sem] theorem pzsteps_step {i:Nat} {t:PT}:mN P l D KP xs K (.step i t) σ = uE P l D KP (xs.contains i) (l[i]?) σ (mN P l D KP xs K t):=rfl
@[go_sem] theorem lookZ_some:Me P l D (some o) σ K=(aM7 D σ o.op.operands.toList∧cW P l σ o.dst o.op o.guard K):=rfl
@[go_sem] theorem stepZ_false:uE P l D KP false (some o) σ K=cW P l σ o.dst o.op o.guard K:=rfl
@[go_sem] theorem stepZ_true:uE P l D KP true (some o) σ K=rM P D KP o σ K:=rfl
end
attribute [go_sem] rM allD aM7 Op.operands Call.operands
theorem Rh {w:World} {E:Env} {A B:List V} (h:∀ vs,RdVs w E A vs→RdVs w E B vs):∀ (x0:List V) {vs:List Value},RdVs w E (x0++A) vs→RdVs w E (x0++B) vs
 | [],vs,hv=>h vs hv
 | x::x0,[],hv=>by simp only [List.cons_append,RdVs] at hv
 | x::x0,v::vs,hv=>by
  simp only [List.cons_append,RdVs] at hv ⊢;exact ⟨hv.1,Rh h x0 hv.2⟩
theorem Rj {w:World} {E:Env} {x y:V} (hy:∀ v,RdV w E x v→RdV w E y v):∀ {xs:List (List V)} (i:Nat) {vs:List Value},RdVs w E xs.flatten vs→xs[i]? = some [x]→RdVs w E (xs.set i [y]).flatten vs
 | [],i,vs,_,hx=>by simp at hx
 | x0::xs,0,vs,h,hx=>by
  simp at hx;subst hx;simp only [List.flatten_cons,List.set_cons_zero,List.cons_append,List.nil_append] at h ⊢;cases vs with
  | nil=>simp only [RdVs] at h
  | cons v vs =>
   simp only [RdVs] at h ⊢;exact ⟨hy _ h.1,h.2⟩
 | x0::xs,i+1,vs,h,hx=>by
  simp only [List.flatten_cons,List.set_cons_succ] at h ⊢;exact Rh (fun us hus=>Rj hy i hus (by simpa using hx)) x0 h
theorem Rel.recellR {w:World} {E:Env} {h:Heap} {b e k:Nat} {d:List T} {xs xs':List (List V)} (hr:Rel w E h) (hl:h.look b=some (.row e k d xs)) (hlen:xs'.length=xs.length) (hk:(∀ x∈xs,x.length=k) → ∀ x∈xs',x.length=k)
  (hc:∀ vs,RdVs w E xs.flatten vs→RdVs w E xs'.flatten vs):Rel w E (h.set b (.row e k d xs')):=by
 refine ⟨fun i blk hi=>?_,fun i hv hB=>?_,hr.domF,hr.own,hr.apart,hr.slt,hr.dlt⟩
 ·rw [Heap.look_set _ _ _ hl] at hi;split at hi
  ·rename_i hib;subst hib;injection hi with hi;subst hi;obtain ⟨hv,h1,cells,h2,h3,h4,h5⟩:=hr.has _ _ hl;exact ⟨hv,h1,cells,by rw [hlen];exact h2,hc _ h3,hk h4,h5⟩
  ·exact hr.has i blk hi
 ·obtain ⟨q1,q2⟩:=hr.dom i hv hB;refine ⟨q1,?_⟩;rw [Heap.look_set _ _ _ hl];split
  ·exact ⟨_,rfl⟩
  ·exact q2
def aEe (b i e k e0 k0:Nat) (d d0:List T) (xs:List (List V)) (σ : St):St := { σ with h:=(σ.nx, .row e k d []) :: σ.h.set b (.row e0 k0 d0 (xs.set i [.own σ.nx])),nx := σ.nx+1 }
theorem gN {n0:Nat} {σ : St} (b i e k e0 k0:Nat) (d d0:List T) (xs:List (List V)) (hn:n0 ≤ σ.nx) (hl : σ.h.look b=some (.row e0 k0 d0 xs)) (hi:xs[i]? = some [.t (.lit (.slice none 0 0))]):Bv n0 σ (aEe b i e k e0 k0 d d0 xs σ):=by
 intro E a w hr E0 w0 hU hE;have hb:Below w.heap.size w w:=⟨rfl,rfl,rfl,Nat.le_refl _,fun _ _=>rfl⟩
 have hbn:b ≠ σ.nx:=fun e=>by
  have:=hr.bound b (hr.rel.uses hl);omega
 obtain ⟨k1,k2,k3⟩:=hr.add (hv := .slice none 0 0) (blk := .row e k d []) (S':=E.S) hb (fun _ h=>h) (fun b hb => .inl hb) hr.rel.slt
  (fun _=>⟨[],World.ownsRow_nil w 0 e k,by simp only [List.flatten_nil,RdVs],by simp,rfl⟩) (fun b hb'=>by simp [aP] at hb') rfl rfl
 have h1:Heap.look ((σ.nx, .row e k d []) :: σ.h) b=some (.row e0 k0 d0 xs):=by rw [Heap.look,if_neg hbn];exact hl
 have h2:=k1.rel.recellR (xs':=xs.set i [.own σ.nx]) h1 (by simp) (fun hk x hx=>by
   rcases List.mem_or_eq_of_mem_set hx with hx | hx
   ·exact hk x hx
   ·rw [hx];have:=hk _ (List.mem_of_getElem? hi);simpa using this) fun vs hvs=>Rj (fun v hv=>by rw [(aG hv).1];exact k3) i hvs hi
 rw [Heap.set,if_neg hbn] at h2;exact ⟨_,⟨h2,k1.bound,k1.fr,k1.defers⟩,hE.trans k2⟩
attribute [go_sem] aEe
theorem aL9 {P:Program} {ops:List Oper} {Q:Exit→St→Prop} {o:Oper} {r:List Oper} {σ : St} {x:V} {v:Value} (hg:o.guard=none) (hc:∀ c,o.op ≠ .defer c) (hx:∀ w E,RdV w E x v)
  (hrun:∀ E a w,RelF E σ a w→(execOp a.eval o).run P w = .ok (.value v) w) (h:qG P ops Q r (σ.put o.dst x)):qG P ops Q (o::r) σ := by
 intro E a w hr E0 w0 hE;unfold wpListIn;have hw:Region.wanted o (yielded ops.toArray a.tmps)=true:=by simp [Region.wanted,hg]
 rw [if_pos hw];refine eU (.inr fun c h=>(hc c h).elim) ?_;unfold Oper.wp;rw [hrun E a w hr];exact h E _ w (hr.put o.dst (hx w E)) E0 w0 hE
theorem aBm {P:Program} {ops:List Oper} {Q:Exit→St→Prop} {o:Oper} {r:List Oper} {σ : St} {t:Tmp} {g:FuncId} {cs:List V} (hg:o.guard=none) (ho:o.op = .defer { callee := .value (.tmp t),args := #[],argTypes := #[] })
  (hx : σ.ev (.tmp t) = .clo g cs) (hd:o.dst=none) (hro:wE σ.df=false) (h:qG P ops Q r { σ with df := .fnc g cs :: σ.df }):qG P ops Q (o::r) σ := by
 intro E a w hr E0 w0 hE;have hv:=hr.ev (.tmp t);rw [hx] at hv;simp only [RdV] at hv;obtain ⟨caps,he,hcs⟩:=hv;unfold wpListIn;have hw:Region.wanted o (yielded ops.toArray a.tmps)=true:=by simp [Region.wanted,hg]
 rw [if_pos hw];refine eU (.inl (hr.defers.ro hro)) ?_;unfold Oper.wp;have hrun:(execOp a.eval o).run P w = .ok (.defer { target := .fn (.func g) caps,args := #[] }) w:=by
  simp [execOp,ho,resolve,he,Deferred.ofValue]
 rw [hrun];simp only [Oper.upon];have hput:({ a with defers := { target := .fn (.func g) caps,args := #[] }::a.defers }:Act).put o.dst undef = { a with defers := { target := .fn (.func g) caps,args := #[] }::a.defers }:=by rw [hd];rfl
 rw [hput];have hdf:DefRel w E (.fnc g cs :: σ.df) ({ target := .fn (.func g) caps,args := #[] }::a.defers):=⟨⟨caps,rfl,hcs⟩,hr.defers⟩
 exact h E { a with defers := { target := .fn (.func g) caps,args := #[] }::a.defers } w ⟨hr.rel,hr.bound,hr.fr,hdf⟩ E0 w0 hE
def RecD (P:Program) (g:FuncId) (pe:List PanicEntry) (cs:List V) (h:Heap) (nx:Nat) (K:Heap→Nat→Prop):Prop :=
 P.enters g=true ∧ ∀ E w (cap:Array Value),Rel w E h→(∀ i,E.U i→i<nx)→RdVs w E cs cap.toList→CallsDIn Fence.wide 0 P g cap (.panicking pe) w fun e u' w' =>
  (∃ v,e = .returned v)∧settle u' = .returning ∧ ∃ E' h' nx',Rel w' E' h'∧(∀ i,E'.U i→i<nx')∧Ext E w E' w'∧K h' nx'
def Hr (P:Program) (rs:List ResultVar) (K:V→St→Prop) (e:Exit) (σ : St):Prop :=
 match e with
 | .panic pe => ∃ g cs, σ.df = [.fnc g cs]∧RecD P g pe cs σ.h σ.nx fun h' nx' => ∃ xs,Ah P { fr := σ.fr,h:=h',nx:=nx' } rs=some xs∧K (Wr xs) { fr := σ.fr,h:=h',nx:=nx' }
 | e=>Hs P rs K e σ
theorem Qg {P:Program} {f:FuncId} {fn:Func} {c:Code} {args:List V} {n n0 nx:Nat} {rs:List ResultVar} {h0:Heap} {K:V→St→Prop} {R:Ending→World→Prop} (hf:P.funcs[f]? = some fn) (hb:fn.body=some c) (hn:fn.ntmps=n)
  (hrs:fn.results.toList=rs) (h:AWP P n0 c (Hr P rs K) (tJ P n args h0 nx)) {E:Env} {w:World} {vs:List Value} (hr:Rel w E h0) (hbd:∀ i,E.U i→i<nx) (hU:∀ i,E.U i→i<n0) (hargs:RdVs w E args vs)
  (hR:∀ v x σ' E' w',Rel w' E' σ'.h→(∀ i,E'.U i→i < σ'.nx)→Ext E w E' w'→RdV w' E' x v→K x σ'→R (.returned v) w'):Calls P f vs.toArray w R:=by
 refine (callsIn_wide (n:=0)).1 (callsIn_of_wp_marks hf hb trivial ?_);have hlen:=RdVs.len hargs;have hrel:RelF (E.at0 none) (tJ P n args h0 nx) { tmps:=vs.toArray++Array.replicate (fn.ntmps - vs.toArray.size) undef,defers:=[] } w:=by
  refine ⟨hr.ro none,hbd,?_,⟨rfl,rfl⟩⟩;have e1:(vs.toArray++Array.replicate (fn.ntmps - vs.toArray.size) undef).toList=vs++List.replicate (n - args.length) undef:=by
   rw [hn,hlen];simp
  show RdVs w (E.at0 none) (args++List.replicate (n - args.length) .dead) _
  rw [e1];exact RdVs.append (hargs.ro none) (zJ _)
 refine wpIn_mono (h (E.at0 none) _ w hrel (E.at0 none) w hU (Ext.refl _ _)) ?_;rintro e a' w' ⟨σ',E',h1,h2,h3⟩;have ret:∀ e,Hs P rs K e σ'→bodyPostM Fence.wide 0 P fn R e a' w':=fun e h3=>by
  obtain ⟨he,xs,hxs,hnop,hK⟩:=Kz h3;have key:LeavesInM Fence.wide 0 P fn a'.tmps R a'.defers .returning w':=by
   refine nY σ'.df a'.defers (fr := σ'.fr) (nx := σ'.nx) (h := σ'.h) (E:=E') ⟨h1.rel,h1.bound,h1.fr,h1.defers⟩ hnop fun E2 w2 q1 q2 q3 q4=>?_
   have hr2:RelF (E2.at0 none) { fr := σ'.fr,h:=Bs σ'.df σ'.h,nx := σ'.nx,df:=[] } { tmps:=a'.tmps,defers:=[] } w2:=⟨q1.ro none,q2,q3.ro none,⟨rfl,rfl⟩⟩
   obtain ⟨v,hv,hrv⟩:=sY (fn:=fn) (xs:=xs) hr2 (by rw [hrs];exact hxs);have hx:Ext E w (E2.at0 E.ro) w2:=(h2.trans q4).back;exact ⟨v,hv,hR v _ (Qe σ') _ w2 (q1.ro E.ro) q2 hx ((hrv:RdV w2 (E2.at0 none) _ _).ro E.ro) hK⟩
  rcases he with rfl | rfl
  ·exact key
  ·exact key
 cases e with
 | panic pe =>
  obtain ⟨g,cs,hd,hen,hrec⟩:=h3;have hdf:=h1.defers;rw [hd] at hdf;cases hds:a'.defers with
  | nil=>rw [hds] at hdf;exact hdf.elim
  | cons d ds =>
   rw [hds] at hdf;obtain ⟨⟨cap,rfl,hcs⟩,hd0⟩:=hdf;show LeavesInM Fence.wide 0 P fn a'.tmps R a'.defers (.panicking pe) w'
   rw [hds];refine ⟨by simp, .inr ⟨fun hq=>by simp [Fence.wide] at hq, .func g,cap,g,cap,rfl,Az hen cap w',fun _ _=>trivial,?_⟩⟩;refine (hrec E' w' cap h1.rel h1.bound hcs).mono ?_;rintro e u' w2 ⟨⟨v,rfl⟩,hu,E2,h',nx',q1,q2,q3,xs,hxs,hK⟩;show LeavesInM Fence.wide 0 P fn a'.tmps R ds (settle u') w2
   rw [hu];have hds0:ds = []:=hd0.1;subst hds0;have hr2:RelF (E2.at0 none) { fr := σ'.fr,h:=h',nx:=nx',df:=[] } { tmps:=a'.tmps,defers:=[] } w2:=⟨q1.ro none,q2,(q3.rdVs _ h1.fr).ro none,⟨rfl,rfl⟩⟩
   obtain ⟨v2,hv,hrv⟩:=sY (fn:=fn) (xs:=xs) hr2 (by rw [hrs];exact hxs);have hx:Ext E w (E2.at0 E.ro) w2:=(h2.trans q3).back;exact ⟨v2,hv,hR v2 _ { fr := σ'.fr,h:=h',nx:=nx' } _ w2 (q1.ro E.ro) q2 hx ((hrv:RdV w2 (E2.at0 none) _ _).ro E.ro) hK⟩
 | normal=>exact ret _ h3
 | ret=>exact ret _ h3
 | exit _=>exact h3.elim
 | goto _=>exact h3.elim
 | outgrown=>exact h3.elim
theorem vS {P:Program} {D:Nat→Prop} {KP:List PanicEntry→St→Prop} {σ : St} {d:Option Tmp} {f:FuncId} {xs ys:List V} {r:V} {K:St→Prop} (hC:aJ P f ys r) (hp:V.pures ys=true) (hy:∀ w E vs,RdVs w E xs vs→RdVs w E ys vs) (hK:K (σ.put d r)):PCall P D KP σ d f xs K:=by
 refine ⟨hC.1,fun E w vs hr hbd hvs=>?_⟩;refine (hC.2 w E.S vs hr.slt (RdVs.bare _ hp (hy _ _ _ hvs))).mono ?_;rintro e w' ⟨v,S',rfl,q1,q2,q3,q4,q5⟩;have hrF:RelF E { σ with fr:=[],df:=aGu E } { tmps := #[],defers:=[] } w:=⟨hr,hbd,by show RdVs w E [] [];simp only [RdVs],Jd⟩
 obtain ⟨k1,k2⟩:=hrF.later q5 q1 q2 q3;exact .inl ⟨v,r, σ.h, σ.nx,_,rfl,k1.rel,k1.bound,k2,RdV.unbare (E := { E with S:=S' }) r q4,fun q b _ h=>h,hK⟩
theorem rdV_opq {w:World} {E:Env} {i:Nat} {v:Value} (h:RdV w E (.own i) v):RdV w E (.t .opq) v:=by
 simp only [RdV] at h ⊢;exact .opq _ h.1
theorem aLk {w:World} {E:Env} {i:Nat} {xs:List V} {vs:List Value} (h:RdVs w E (.own i::xs) vs):RdVs w E (.t .opq::xs) vs:=by
 cases vs with
 | nil=>simp only [RdVs] at h
 | cons v vs =>
  simp only [RdVs] at h ⊢;exact ⟨rdV_opq h.1,h.2⟩
theorem aH0 {P:Program} {D:Nat→Prop} {KP:List PanicEntry→St→Prop} {σ : St} {d:Option Tmp} {f:FuncId} {i:Nat} {xs:List V} {r:V} {K:St→Prop} (hC:aJ P f (.t .opq::xs) r) (hp:V.pures (.t .opq::xs)=true) (hK:K (σ.put d r)):PCall P D KP σ d f (.own i::xs) K :=
 vS hC hp (fun w E vs h=>aLk h) hK
structure AudF (A:List AudioR):Prop where
 len:A.length≤9223372036854775807
 chs:∀ a∈A,a.chs.length≤9223372036854775807
 pcm:∀ a∈A, ∀ p∈a.chs,p.length≤9223372036854775807∧Gg p
def aCx (L:List (List Int)) (p:List Int):Bool:=(p.length==(L.getD 0 []).length)&&decide (p.length≤1048576)
def mE (a:AudioR):Bool:=a.chs.all (aCx a.chs)&&decide (a.chs.length≤4)
theorem aAm (L:List (List Int)) (p:List Int):(((p.length:Int) != ((L.getD 0 []).length:Int))||decide ((p.length:Int) > 1048576)) = !aCx L p:=by
 unfold aCx;rw [Bool.eq_iff_iff];simp only [Bool.or_eq_true,Bool.not_eq_true',Bool.and_eq_false_iff,decide_eq_true_eq,decide_eq_false_iff_not,beq_eq_false_iff_ne,bne_iff_ne,ne_eq];omega
theorem Eg {α : Type} {d : α} {q : α → Bool} {l:List α} (h:∀ i,i<l.length→q (l.getD i d)=true):l.all q=true:=by
 rw [List.all_eq_true];intro x hx;obtain ⟨i,hi,rfl⟩:=List.getElem_of_mem hx;have:=h i hi;rwa [List.getD_eq_getElem?_getD,List.getElem?_eq_getElem hi] at this
theorem aP4 (a:AudioR) (hl:a.chs.length≤9223372036854775807):aJ Tryz.prog 28 [.agg [cA a.name, .t (kT a.chs)]] (aL (mE a)):=by
 obtain ⟨nm,L⟩:=a;simp only at hl ⊢;refine aD Tryz.X28 Tryz.func28 rfl Tryz.ntmps28 (by rw [Tryz.results28]) (aB _ ?_);simp only [go_sem,simprocAttr,kT,t16];refine aE (fun (k:Nat) σ => bM 3 (aA k) (aW [4,5,6,7,8,9,10,11,12,13,14,15,16,17,18,19,20,21,22,23,24,25,26,27,28,29,30,31,32,33,34,35] (bE σ))) (fun k=>k≤L.length ∧ ∀ i,i<k→aCx L (L.getD i [])=true) (fun k=>L.length - k) 0 (aC ?_) ⟨Nat.zero_le _,fun i hi=>absurd hi (by omega)⟩ ?_
 ·simp only [go_sem,simprocAttr]<;>simp
 ·rintro k ⟨hk,hi⟩;refine aB _ ?_;simp only [go_sem,simprocAttr];refine ⟨fun hlt=>?_,fun hge=>?_⟩
  ·simp only [bxx] at hlt;have hkl:k<L.length:=by omega
   have h0l : 0<L.length:=by omega
   have hwk:IntKind.i64.wrap ((k:Int)+1)=((k+1:Nat):Int):=by rw [bF (by omega)];omega
   unfold awS;simp only [go_sem,simprocAttr];refine bL [0,1,2,3,4,5,6,7,8,9,10,11,12,13,14,15,16,17,18,19,20] .done rfl (by kernel_rfl) (by kernel_rfl) (by decide) ?_;simp only [go_sem,simprocAttr,yR hkl,yR h0l];rw [aAm];refine ⟨⟨by omega,by omega⟩,by omega,fun _=>⟨by omega,by omega⟩,fun h5=>?_,fun h5=>?_⟩
   ·have:mE ⟨nm,L⟩=false:=by
     unfold mE;rw [bX hkl (by simpa using h5)];rfl
    rw [this];unfold awS;simp only [go_sem,simprocAttr]
   ·unfold awS;simp only [go_sem,simprocAttr];refine ⟨k+1,aC ?_,⟨by omega,upto hi (by simpa using h5)⟩,by omega⟩;simp only [go_sem,simprocAttr,hwk];simp
  ·simp only [bxx] at hge;have hkl:k=L.length:=by omega
   unfold awS;simp only [go_sem,simprocAttr];have h6:mE ⟨nm,L⟩=decide ((L.length:Int)≤4):=by
    unfold mE;rw [Eg (d:=[]) (by rw [← hkl];exact hi),Bool.true_and];exact decide_eq_decide.2 (by show L.length≤4 ↔ _;omega)
   rw [h6]
theorem Ef {A:List AudioR} {k:Nat} (h:k<A.length) (d:List T):nth d (A.map AudioR.c) k = [uB (A.getD k default).name,kT (A.getD k default).chs]:=aFw h d
theorem aP9 (A:List AudioR) (hl:A.length≤9223372036854775807) (n:ByteArray):aJ Tryz.prog 157 [.t (gC A),cA n] (aA (kW (fun a:AudioR=>a.name.toList==n.toList) A)):=by
 refine aD Tryz.X157 Tryz.func157 rfl Tryz.ntmps157 (by rw [Tryz.results157]) (aB _ ?_);simp only [go_sem,simprocAttr];refine aE (fun (k:Nat) σ => bM 5 (aA k) (aW [6,7,8,9,10,11,12,13,14,15,16,17,18,19] (bE σ))) (fun k=>k≤A.length ∧ ∀ i,i<k→((A.getD i default).name.toList==n.toList)=false) (fun k=>A.length - k) 0 (aC ?_) ⟨Nat.zero_le _,fun i hi=>absurd hi (by omega)⟩ ?_
 ·simp only [go_sem,simprocAttr]<;>simp
 ·rintro k ⟨hk,hi⟩;refine aB _ ?_;simp only [go_sem,simprocAttr];refine ⟨fun hlt=>?_,fun hge=>?_⟩
  ·simp only [bxx] at hlt;have hkl:k<A.length:=by omega
   have hwk:IntKind.i64.wrap ((k:Int)+1)=((k+1:Nat):Int):=by rw [bF (by omega)];omega
   unfold awS;simp only [go_sem,simprocAttr,Ef hkl];refine ⟨⟨by omega,by omega⟩,fun hc=>?_,fun hc=>?_⟩
   ·unfold awS;simp only [go_sem,simprocAttr];rw [Dr (k:=k) (by omega) hi hc]
   ·unfold awS;simp only [go_sem,simprocAttr];refine ⟨k+1,aC ?_,⟨by omega,upto hi hc⟩,by omega⟩;simp only [go_sem,simprocAttr,hwk]
  ·simp only [bxx] at hge;have hkl:k=A.length:=by omega
   unfold awS;simp only [go_sem,simprocAttr];rw [Fu (fun i hi2=>hi i (by omega))]
theorem aKx {A:List AudioR} {n:ByteArray} (h:kW (fun a:AudioR=>a.name.toList==n.toList) A<0):pR A n=none:=by
 unfold pR;unfold kW at h;split at h
 ·omega
 ·rename_i h1;rw [List.find?_eq_none];intro a ha hq;exact h1 (List.any_eq_true.2 ⟨a,ha,hq⟩)
theorem aKw {A:List AudioR} {n:ByteArray} (h : 0≤kW (fun a:AudioR=>a.name.toList==n.toList) A):∃ k,k<A.length∧kW (fun a:AudioR=>a.name.toList==n.toList) A=(k:Int)∧pR A n=some (A.getD k default):=by
 unfold kW at h ⊢;split at h
 ·rename_i h1;rw [if_pos h1];obtain ⟨x,hx,hq⟩:=List.any_eq_true.1 h1;have hlt:A.findIdx (fun a:AudioR=>a.name.toList==n.toList)<A.length:=List.findIdx_lt_length_of_exists ⟨x,hx,hq⟩;refine ⟨_,hlt,rfl,?_⟩;unfold pR;rw [bD hlt, ← List.getElem?_eq_getElem hlt,List.find?_eq_getElem?_findIdx]
 ·omega
def rtC (m:MediumR):Bool×List T:=(true,[ti m.seq.rate.num,ti m.seq.rate.den])
def rtM (l:List MediumR):List Ent:=gY MediumR.name rtC l
def auC (a:AudioR):Bool×List T:=(true,AudioR.c a)
def auM (l:List AudioR):List Ent:=gY AudioR.name auC l
theorem put_rt (k:Value) (m:MediumR) (es:List Ent):sS k (bK m.seq.rate) (tEs es)=tEs (gT k (rtC m) es):=rY k (rtC m) es
theorem put_au (k:Value) (a:AudioR) (es:List Ent):sS k (.agg [cA a.name, .t (kT a.chs)]) (tEs es)=tEs (gT k (auC a) es):=rY k (auC a) es
theorem Zr (l:List MediumR):dL .string (rtM l)=true:=jJ (gR _ _ _)
theorem aMv (l:List AudioR):dL .string (auM l)=true:=jJ (gR _ _ _)
theorem lend_rt (l:List MediumR) (h:Heap) (n:Nat):mF (aV h n) (tEs (rtM l))=some (rtM l):=tF _ (pN h n) _ (jW _ _ (fun _=>rfl) _)
theorem lend_au (l:List AudioR) (h:Heap) (n:Nat):mF (aV h n) (tEs (auM l))=some (auM l):=tF _ (pN h n) _ (jW _ _ (fun _=>rfl) _)
theorem look_rt (n:ByteArray) (l:List MediumR):eP (.string n) (rtM l)=(Cy l n).map fun m=>bK m.seq.rate:=yC _ _ n l
attribute [go_sem] Zr aMv lend_rt lend_au
open Go.RowKit
set_option maxRecDepth 4000
theorem kN:aJu Tryz.prog 19:=by
 refine ⟨Tryz.X19,fun cap w=>callsDIn_of_wpSIn Tryz.func19 rfl trivial fun c₀ cs hu=>?_⟩;have k1 : 2<cap.size+(16 - cap.size):=by omega
 have k2 : 5<cap.size+(16 - cap.size):=by omega
 have k3 : 2<max 16 cap.size:=by omega
 have k4 : 5<max 16 cap.size:=by omega
 have k5 : 6<cap.size+(16 - cap.size):=by omega
 have k6 : 7<cap.size+(16 - cap.size):=by omega
 have k7 : 6<max 16 cap.size:=by omega
 have k8 : 7<max 16 cap.size:=by omega
 apply wpSIn_seq;apply wpSIn_region;simp [wpOpsSIn,Fence.wide,go_sem,recoverD,hu,Tryz.ntmps19,Exit.thenS,k2];apply wpSIn_seq;apply wpSIn_region;simp [wpOpsSIn,go_sem,Exit.thenS,k1,k5];refine wpSIn_cond (t:=false) (by simp [Act.eval,k6]) ?_;refine wpSIn_of_wpIn rfl (wpIn_skip ?_);refine ⟨rfl, .returning,by rw [← hu], .tuple #[],?_,⟨_,rfl⟩,rfl,rfl⟩;simp [results,Tryz.results19,go_sem]
def eQ (f:Nat→Int) (n i:Nat):List Int:=(List.range n).map fun j=>if j<i then f j else 0
theorem mG (f:Nat→Int) (n i:Nat):(eQ f n i).length=n:=by unfold eQ;simp
theorem sK (f:Nat→Int) (n:Nat):eQ f n n=(List.range n).map f:=by
 unfold eQ;refine List.map_congr_left fun j hj=>?_
 rw [if_pos (List.mem_range.1 hj)]
def sndP (L:List Int) (k:Nat) (i:Nat):Int:=(bH L k 9000+i*(1+bH L (k+1) 700)).tmod 20000
def sndQ (L:List Int) (k:Nat) (i:Nat):Int:=(-(bH L k 9000*3+((i*i:Nat):Int).tmod 977*(1+bH L (k+1) 700))).tmod 20000
def sndL (f:Nat→Int) (n:Nat):List Int:=(List.range n).map f
theorem aK2 {x:Int} (h1 : -32768≤x) (h2:x≤32767):IntKind.i16.wrap x=x:=by
 have e1:(2:Int) ^ IntKind.i16.bits=65536:=by decide
 have e2:(2:Int) ^ (IntKind.i16.bits - 1)=32768:=by decide
 unfold IntKind.wrap;simp only [IntKind.signed,e1,e2,Bool.true_and,decide_eq_true_eq];split<;>omega
def soundsA (L:List Int) (n:Nat):List AudioR:=[⟨⟨#[97]⟩,[sndL (sndP L 0) n,sndL (sndQ L 0) n]⟩,⟨⟨#[98]⟩,[sndL (sndP L 2) n,sndL (sndQ L 2) n]⟩]
open Go.RowKit
set_option maxRecDepth 4000
def sqM (n:ByteArray):Ja:=[(.string n,false,[.opq])]
structure SoundOk (md:List MediumR) (q:SequenceR) (A:List AudioR) (E:SndE) (m:Nat) (from0:Int) (n:Nat):Prop where
 fit:(⟨md,[q]⟩:ProjR).fit
 val:dR ⟨md,[q]⟩=0
 hm:md.length≤16
 h8:q.sound.length≤8
 ht:∀ t∈q.sound,cG t=true
 ha:A.length≤100
 hn:(A.map AudioR.name).Nodup
 hp:∀ a∈A,a.chs.length≤4 ∧ ∀ p∈a.chs,p.length=(a.chs.getD 0 []).length∧p.length≤1048576
 hch:q.channels=m
 hr:RateS q.rate
 n1:n≤1000
 f0 : -68719476736≤from0
 f1:from0+n≤68719476736
 hc:∀ i:Nat,i<n→CmpOk (rtM md) (auM A) (sqM q.name) E m q.sound q.rate (from0+i)
theorem tRows_set1 (xs:List (List T)) (n:Nat) (t:T):(aS xs).set n [V.t t]=aS (xs.set n [t]):=by
 unfold aS;rw [List.map_set];rfl
