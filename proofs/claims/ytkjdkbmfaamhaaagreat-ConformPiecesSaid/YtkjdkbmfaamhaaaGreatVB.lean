/- Proved here: Contracts of the division with a rest and of fractions with negative numerators, for use in the proofs of the given statements; conditions stand in each theorem. -/
import Derived.Test.YtkjdkbmfaamhaaaGreatZK
import Derived.Test.YtkjdkbmfaamhaaaGreatYL
import Derived.Test.YtkjdkbmfaamhaaaGreatVA
set_option linter.unusedSimpArgs false
set_option linter.unusedVariables false
set_option linter.unusedSectionVars false
set_option linter.unnecessarySimpa false
namespace Go.Proofs.YtkjdkbmfaamhaaaGreat
open Go.RowKit
set_option maxRecDepth 4000
theorem cDivideR (z:Int) (d:Nat) (hz : -9223372036854775808<z∧z<9223372036854775808) (hd : 1≤d) (hd2:d<9223372036854775808):CPure Tryz.prog 120 [vwide z,vu64 d] (.tup [vint (z / (d:Int)),vu64 (z % (d:Int)),vbool true]):=by
 refine cpure_of Tryz.xen120 Tryz.func120 rfl Tryz.ntmps120 (by rw [Tryz.results120]) (aw_ok _ ?_)
 obtain ⟨k,hk⟩:∃ k,k=z.natAbs / d:=⟨_,rfl⟩
 obtain ⟨m,hm⟩:∃ m,m=z.natAbs % d:=⟨_,rfl⟩
 have hkm:(d:Int)*k+m=z.natAbs:=by
  have:=Nat.div_add_mod z.natAbs d
  rw [hk,hm]
  exact_mod_cast this
 have hmd:m<d:=by rw [hm];exact Nat.mod_lt _ (by omega)
 have hkz:k≤z.natAbs:=by rw [hk];exact Nat.div_le_self _ _
 simp only [go_sem,simprocAttr]
 refine ⟨fun h=>?_,fun h=>?_⟩
 ·simp only [bxx] at h
  omega
 unfold awS
 simp only [go_sem,simprocAttr]
 refine ⟨_,cDiv64 z.natAbs d hd (by omega),?_⟩
 rw [← hk, ← hm]
 simp only [go_sem,simprocAttr]
 refine ⟨fun h=>?_,fun h=>?_⟩
 ·simp only [bxx] at h
  unfold awS
  simp only [go_sem,simprocAttr]
  refine ⟨fun h2=>?_,fun h2=>?_⟩
  ·simp only [bxx] at h2
   omega
  unfold awS
  simp only [go_sem,simprocAttr]
  have hz2:z=(d:Int)*k+m:=by omega
  have e1:z / (d:Int)=k:=by
   rw [hz2,Int.add_comm,Int.add_mul_ediv_left _ _ (by omega),Int.ediv_eq_zero_of_lt (by omega) (by omega)]
   omega
  have e2:z % (d:Int)=m:=by
   rw [hz2,Int.mul_add_emod_self_left,Int.emod_eq_of_lt (by omega) (by omega)]
  rw [e1,e2,wrapN (by omega)]
 ·simp only [bxx] at h
  unfold awS
  simp only [go_sem,simprocAttr,decide_true,decide_false]
  refine ⟨fun h2=>?_,fun h2=>?_⟩
  ·simp only [bxx] at h2
   omega
  unfold awS
  simp only [go_sem,simprocAttr,decide_true,decide_false]
  have hz2:z = -((d:Int)*k+m):=by omega
  refine brW (b:=decide (0<m)) ?_ ⟨fun h3=>?_,fun h3=>?_⟩
  ·rw [Bool.eq_iff_iff];simp only [bxx];omega
  ·have h3 : 0<m:=by simpa using h3
   unfold awS
   have w1:IntKind.u64.wrap ((k:Int)+1)=(k:Int)+1:=wrapU64 (by omega) (by omega)
   have w2:IntKind.u64.wrap (0 - ((k:Int)+1))=18446744073709551615 - k:=by rw [wrapU64_neg (by omega) (by omega)];omega
   have w3:IntKind.i64.wrap (18446744073709551615 - (k:Int)) = -((k:Int)+1):=by rw [wrap64_hi (by omega) (by omega)];omega
   have w4:IntKind.u64.wrap ((d:Int) - m)=(d:Int) - m:=wrapU64 (by omega) (by omega)
   have hz3:z=((d:Int) - m)+(d:Int)*(-((k:Int)+1)):=by
    rw [hz2,Int.mul_neg,Int.mul_add]
    omega
   have e1:z / (d:Int) = -((k:Int)+1):=by
    rw [hz3,Int.add_mul_ediv_left _ _ (by omega),Int.ediv_eq_zero_of_lt (by omega) (by omega)]
    omega
   have e2:z % (d:Int)=(d:Int) - m:=by
    rw [hz3,Int.add_mul_emod_self_left,Int.emod_eq_of_lt (by omega) (by omega)]
   simp only [go_sem,simprocAttr,decide_true,decide_false]
   rw [w1,w2,w3,w4,e1,e2]
  ·have h3:m=0:=by simpa using h3
   unfold awS
   have hk1 : 1≤k:=by
    rcases Nat.eq_zero_or_pos k with h0 | h0
    ·rw [h0,h3] at hkm
     simp only [Int.natCast_zero,Int.mul_zero] at hkm
     omega
    ·exact h0
   have w2:IntKind.u64.wrap (0 - (k:Int))=18446744073709551616 - k:=by rw [wrapU64_neg (by omega) (by omega)];omega
   have w3:IntKind.i64.wrap (18446744073709551616 - (k:Int)) = -(k:Int):=by rw [wrap64_hi (by omega) (by omega)];omega
   have hz3:z=(d:Int)*(-(k:Int)):=by
    rw [hz2,Int.mul_neg,h3]
    omega
   have e1:z / (d:Int) = -(k:Int):=by rw [hz3,Int.mul_ediv_cancel_left _ (by omega)]
   have e2:z % (d:Int)=m:=by rw [hz3,Int.mul_emod_right,h3];rfl
   simp only [go_sem,simprocAttr,decide_true,decide_false]
   rw [w2,w3,e1,e2]
theorem ofQ_frac (n:Int) (d:Nat) (hd : 1≤d):ofQ ((n:Rat) / (d:Int))=⟨n / (Nat.gcd n.natAbs d:Nat),(d / Nat.gcd n.natAbs d:Nat)⟩:=by
 have e:(n:Rat) / ((d:Int):Rat)=mkRat n d:=by
  rw [Rat.mkRat_eq_div]
  rfl
 rw [e, ← Rat.normalize_eq_mkRat (by omega),Rat.normalize_eq]
 rfl
theorem cOfZ (n:Int) (d:Nat) (hd : 1≤d) (hn:n.natAbs≤4611686018427387904) (hd2:d≤4611686018427387904):CPure Tryz.prog 49 [vint n,vint d] (.tup [vrat (ofQ ((n:Rat) / (d:Int))),vint 0]):=by
 obtain ⟨m,hm⟩:∃ m,m=n.natAbs:=⟨_,rfl⟩
 have hg : 0<Nat.gcd m d:=Nat.gcd_pos_of_pos_right _ hd
 have q1:m / Nat.gcd m d≤m:=Nat.div_le_self _ _
 have q2:d / Nat.gcd m d≤d:=Nat.div_le_self _ _
 have hR:ofQ ((n:Rat) / (d:Int))=⟨if n<0 then -((m / Nat.gcd m d:Nat):Int) else ((m / Nat.gcd m d:Nat):Int),(d / Nat.gcd m d:Nat)⟩:=by
  rw [ofQ_frac n d hd, ← hm]
  congr 1
  have hdv:(Nat.gcd m d) ∣ m:=Nat.gcd_dvd_left _ _
  obtain ⟨q,hq⟩:=hdv
  have hq2:m / Nat.gcd m d=q:=Nat.div_eq_of_eq_mul_right hg hq
  rw [hq2]
  have hmq:(m:Int)=(Nat.gcd m d:Int)*q:=by exact_mod_cast hq
  split
  ·have:n=(Nat.gcd m d:Int)*(-(q:Int)):=by rw [Int.mul_neg, ← hmq];omega
   rw [this,Int.mul_ediv_cancel_left _ (by omega)]
  ·have:n=(Nat.gcd m d:Int)*(q:Int):=by rw [← hmq];omega
   rw [this,Int.mul_ediv_cancel_left _ (by omega)]
 rw [hR]
 refine cpure_of Tryz.xen49 Tryz.func49 rfl Tryz.ntmps49 (by rw [Tryz.results49]) (aw_ok _ ?_)
 simp only [go_sem,simprocAttr]
 refine ⟨fun h=>?_,fun h=>?_⟩
 ·simp only [bxx] at h
  omega
 ·unfold awS
  simp only [go_sem,simprocAttr]
  refine ⟨_,cMagnitude n ⟨by omega,by omega⟩,?_⟩
  rw [← hm]
  simp only [go_sem,simprocAttr]
  refine ⟨_,cMagnitude d ⟨by omega,by omega⟩,?_⟩
  simp only [go_sem,simprocAttr,Int.natAbs_natCast]
  refine ⟨_,cGcdU m d,?_⟩
  simp only [go_sem,simprocAttr]
  refine drawR_of [0,1,2,3,4,5,6,7] .done rfl (by kernel_rfl) (by kernel_rfl) (by decide) ?_
  simp only [go_sem,simprocAttr,tdiv_nat,wNU (n:=m / Nat.gcd m d) (by omega),wNU (n:=d / Nat.gcd m d) (by omega)]
  refine ⟨by omega,by omega,fun h2=>?_,fun h2=>?_⟩
  ·simp only [bxx] at h2
   omega
  ·unfold awS
   simp only [go_sem,simprocAttr,wrapN (n:=m / Nat.gcd m d) (by omega),wrapN (n:=d / Nat.gcd m d) (by omega)]
   have e2:decide ((d:Int)<0)=false:=decide_eq_false (by omega)
   by_cases hneg:n<0
   ·rw [if_pos hneg]
    refine ⟨fun h3=>?_,fun h3=>?_⟩
    ·unfold awS
     simp only [go_sem,simprocAttr]
     have q0:(0:Int)≤((m / Nat.gcd m d:Nat):Int):=Int.natCast_nonneg _
     have q3:((m / Nat.gcd m d:Nat):Int)≤m:=by exact_mod_cast q1
     generalize ((m / Nat.gcd m d:Nat):Int)=w at *
     rw [wrap64 (x:=0 - w) (by omega) (by omega),Int.zero_sub]
    ·exfalso
     rw [decide_eq_true hneg,e2] at h3
     exact absurd h3 (by decide)
   ·rw [if_neg hneg]
    refine ⟨fun h3=>?_,fun h3=>?_⟩
    ·exfalso
     rw [decide_eq_false hneg,e2] at h3
     exact absurd h3 (by decide)
    ·unfold awS
     simp only [go_sem,simprocAttr]
open Go.RowKit
set_option maxRecDepth 4000
theorem cMulDiv (x n:Int) (d:Nat) (hx:I64 x) (hn:I64 n) (h : -9223372036854775808<x*n∧x*n<9223372036854775808) (hd : 1≤d) (hd2:d<9223372036854775808) :
  CPure Tryz.prog 84 [vint x,vint n,vint d] (.tup [vint (x*n / (d:Int)),vint (x*n % (d:Int)),vint 0]):=by
 refine cpure_of Tryz.xen84 Tryz.func84 rfl Tryz.ntmps84 (by rw [Tryz.results84]) (aw_ok _ ?_)
 have r0:=Int.emod_nonneg (x*n) (show (d:Int)≠0 by omega)
 have r1:=Int.emod_lt_of_pos (x*n) (show (0:Int)<d by omega)
 simp only [go_sem,simprocAttr]
 refine ⟨fun h2=>?_,fun h2=>?_⟩
 ·simp only [bxx] at h2
  omega
 unfold awS
 simp only [go_sem,simprocAttr]
 refine ⟨_,cProduct x n hx hn (by rw [← Int.natAbs_mul];omega),?_⟩
 simp only [go_sem,simprocAttr]
 rw [wrapNU (n:=d) (by omega)]
 refine ⟨_,cDivideR (x*n) d h hd hd2,?_⟩
 simp only [go_sem,simprocAttr,wrap64 (x:=x*n % (d:Int)) (by omega) (by omega)]
theorem cMustI (x:Int):CPure Tryz.prog 46 [vint x,vint 0] (vint x):=by
 refine cpure_of Tryz.xen46 Tryz.func46 rfl Tryz.ntmps46 (by rw [Tryz.results46]) (aw_ok _ ?_)
 simp only [go_sem,simprocAttr]
theorem cMustR (r:RatR):CPure Tryz.prog 48 [vrat r,vint 0] (vrat r):=by
 refine cpure_of Tryz.xen48 Tryz.func48 rfl Tryz.ntmps48 (by rw [Tryz.results48]) (aw_ok _ ?_)
 simp only [go_sem,simprocAttr]
theorem cPortion (x n:Int) (d:Nat) (hx:I64 x) (hn:I64 n) (h : -4611686018427387904<x*n∧x*n<4611686018427387904) (hd : 1≤d) (hd2:d<4611686018427387904) :
  CPure Tryz.prog 93 [vint x,vint n,vint d] (vint (near x ((n:Rat) / ((d:Int):Rat)))):=by
 have r0:=Int.emod_nonneg (x*n) (show (d:Int)≠0 by omega)
 have r1:=Int.emod_lt_of_pos (x*n) (show (0:Int)<d by omega)
 rw [near_frac x n (d:=(d:Int)) (by omega)]
 refine cpure_of Tryz.xen93 Tryz.func93 rfl Tryz.ntmps93 (by rw [Tryz.results93]) (aw_ok _ ?_)
 simp only [go_sem,simprocAttr]
 refine ⟨_,cMulDiv x n d hx hn ⟨by omega,by omega⟩ hd (by omega),?_⟩
 simp only [go_sem,simprocAttr]
 refine ⟨_,cMustI _,?_⟩
 have q0:(x*n / (d:Int)).natAbs≤(x*n).natAbs:=Int.natAbs_ediv_le_natAbs _ _
 generalize x*n / (d:Int)=q at *
 generalize x*n % (d:Int)=r at *
 simp only [go_sem,simprocAttr,wrap64 (x:=(d:Int) - r) (by omega) (by omega),wrap64 (x:=q+1) (by omega) (by omega)]
 refine ⟨fun h=>?_,fun h=>?_⟩
 ·simp only [bxx] at h
  unfold awS
  simp only [go_sem,simprocAttr,wrap64 (x:=q+1) (by omega) (by omega)]
  rw [if_pos (by omega)]
 ·simp only [bxx] at h
  unfold awS
  simp only [go_sem,simprocAttr]
  rw [if_neg (by omega)]
def usableR (r:RatR):Bool:=vRat r&&decide (1≤r.num)&&decide (r.num≤1048576)&&decide (r.den≤65536)
theorem cUsable (r:RatR) (f:r.fit):CPure Tryz.prog 45 [vrat r] (vbool (usableR r)):=by
 refine cpure_of Tryz.xen45 Tryz.func45 rfl Tryz.ntmps45 (by rw [Tryz.results45]) (aw_ok _ ?_)
 simp only [go_sem,simprocAttr]
 refine ⟨_,cPRat r f,?_⟩
 unfold usableR
 simp only [go_sem,simprocAttr,decide_true,decide_false]
def audibleR (r:RatR):Bool:=usableR r&&decide (r.num≤240*r.den)
theorem cAudible (r:RatR) (f:r.fit) (hd : 0≤r.den∧r.den≤65536):CPure Tryz.prog 24 [vrat r] (vbool (audibleR r)):=by
 refine cpure_of Tryz.xen24 Tryz.func24 rfl Tryz.ntmps24 (by rw [Tryz.results24]) (aw_ok _ ?_)
 simp only [go_sem,simprocAttr]
 refine ⟨_,cUsable r f,?_⟩
 unfold audibleR
 simp only [go_sem,simprocAttr,decide_true,decide_false,wrap64 (x:=240*r.den) (by omega) (by omega)]
def numberedS (s:Int):Bool:=decide (-1099511627776≤s)&&decide (s≤1099511627776)
theorem cNumbered (s:Int):CPure Tryz.prog 23 [vint s] (vbool (numberedS s)):=by
 refine cpure_of Tryz.xen23 Tryz.func23 rfl Tryz.ntmps23 (by rw [Tryz.results23]) (aw_ok _ ?_)
 unfold numberedS
 simp only [go_sem,simprocAttr,decide_true,decide_false]
theorem cOwner (s:Int) (r:RatR) (f:r.fit) (hu:usableR r=true) (hs : -1099511627776≤s∧s≤1099511627776) :
  CPure Tryz.prog 47 [vint s,vrat r] (.tup [vint (ownF r s),vint 0]):=by
 have hu2:=hu
 unfold usableR at hu2
 simp only [Bool.and_eq_true,decide_eq_true_eq] at hu2
 obtain ⟨⟨⟨hv,h1⟩,h2⟩,h3⟩:=hu2
 have hd:=vRat_den hv
 obtain ⟨d,hd2⟩:=nat_of (n:=96000*r.den) (by omega)
 have hm : -2305843009213693953*2≤(2*s+1)*r.num∧(2*s+1)*r.num≤2305843009213693953*2:=by
  have a1:(2*s+1).natAbs≤2199023255553:=by omega
  have a2:r.num.natAbs≤1048576:=by omega
  have a3:((2*s+1)*r.num).natAbs≤2199023255553*1048576:=by rw [Int.natAbs_mul];exact Nat.mul_le_mul a1 a2
  omega
 refine cpure_of Tryz.xen47 Tryz.func47 rfl Tryz.ntmps47 (by rw [Tryz.results47]) (aw_ok _ ?_)
 simp only [go_sem,simprocAttr]
 refine ⟨_,cUsable r f,?_⟩
 simp only [go_sem,simprocAttr,hu]
 refine ⟨fun h=>?_,fun h=>?_⟩
 ·simp only [bxx] at h
  omega
 unfold awS
 simp only [go_sem,simprocAttr,wrap64 (x:=2*s) (by omega) (by omega),wrap64 (x:=2*s+1) (by omega) (by omega),wrap64 (x:=(2*s+1)*r.num) (by omega) (by omega),wrap64 (x:=(2*s+1)*r.num - 1) (by omega) (by omega),wrap64 (x:=96000*r.den) (by omega) (by omega),hd2,wrapN (n:=d) (by omega)]
 refine ⟨_,cMulDiv ((2*s+1)*r.num - 1) 1 d ⟨by omega,by omega⟩ ⟨by omega,by omega⟩ ⟨by omega,by omega⟩ (by omega) (by omega),?_⟩
 simp only [go_sem,simprocAttr]
 unfold ownF
 rw [hd2,Int.mul_one]
theorem floor_toQ {r:RatR} (hv:vRat r=true):(toQ r).floor=r.num / r.den:=by
 obtain ⟨an,ad⟩:=toQ_num hv
 have hd:=vRat_den hv
 have h:=Rat.num_divInt_den (toQ r)
 rw [Rat.divInt_eq_div] at h
 have e:=floor_frac (toQ r).num (d:=((toQ r).den:Int)) (by omega)
 rw [← an, ← ad, ← e]
 exact congrArg Rat.floor h.symm
theorem tdiv_floor {n d:Int} (hd : 0<d):n / d=if n.tmod d<0 then n.tdiv d - 1 else n.tdiv d:=by
 have e1:=Int.mul_tdiv_add_tmod n d
 have e2:=Int.mul_ediv_add_emod n d
 have m0:=Int.emod_nonneg n (show d≠0 by omega)
 have m1:=Int.emod_lt_of_pos n hd
 have t1:(n.tmod d).natAbs<d.natAbs:=by rw [Int.natAbs_tmod];exact Nat.mod_lt _ (by omega)
 generalize n.tdiv d=q at *
 generalize n.tmod d=r at *
 generalize n / d=u at *
 generalize n % d=v at *
 have hk:d*(q - u)=v - r:=by rw [Int.mul_sub];omega
 split
 ·have:q - u=1:=by
   have h1 : 0<q - u:=by
    refine Int.lt_of_mul_lt_mul_left (a:=d) ?_ (by omega)
    omega
   have h2:q - u<2:=by
    refine Int.lt_of_mul_lt_mul_left (a:=d) ?_ (by omega)
    omega
   omega
  omega
 ·have:q - u=0:=by
   have h1 : -1<q - u:=by
    refine Int.lt_of_mul_lt_mul_left (a:=d) ?_ (by omega)
    omega
   have h2:q - u<1:=by
    refine Int.lt_of_mul_lt_mul_left (a:=d) ?_ (by omega)
    omega
   omega
  omega
theorem cFloor (r:RatR) (f:r.fit) (hv:vRat r=true):CPure Tryz.prog 126 [vrat r] (vint (toQ r).floor):=by
 have hd:=vRat_den hv
 have fn:=f.num
 have fd:=f.den.2
 have fn2:=vRat_num hv
 have fn3:=fn.2
 rw [floor_toQ hv,tdiv_floor (show 0<r.den by omega)]
 have q0:(r.num.tdiv r.den).natAbs≤r.num.natAbs:=by rw [Int.natAbs_tdiv];exact Nat.div_le_self _ _
 have q1:(r.num.tmod r.den).natAbs≤r.num.natAbs:=by rw [Int.natAbs_tmod];exact Nat.mod_le _ _
 refine cpure_of Tryz.xen126 Tryz.func126 rfl Tryz.ntmps126 (by rw [Tryz.results126]) (aw_ok _ ?_)
 simp only [go_sem,simprocAttr]
 refine ⟨_,cPRat r f,?_⟩
 simp only [go_sem,simprocAttr,hv]
 refine ⟨by omega,?_⟩
 generalize r.num.tdiv r.den=q at *
 generalize r.num.tmod r.den=m at *
 simp only [go_sem,simprocAttr,wrap64 (x:=q) (by omega) (by omega),wrap64 (x:=m) (by omega) (by omega)]
 refine ⟨by omega,fun h=>?_,fun h=>?_⟩
 ·simp only [bxx] at h
  unfold awS
  simp only [go_sem,simprocAttr,wrap64 (x:=q - 1) (by omega) (by omega)]
  rw [if_pos (by omega)]
 ·simp only [bxx] at h
  unfold awS
  simp only [go_sem,simprocAttr]
  rw [if_neg (by omega)]
theorem cSub (a b:RatR) (fa:a.fit) (fb:b.fit) (ha:vRat a=true) (hb:vRat b=true) {p q:Nat} (hp:a.den=p) (hq:b.den=q) (h1:(a.num*((q / Nat.gcd p q:Nat):Int)).natAbs<2305843009213693952)
  (h3:(b.num*((p / Nat.gcd p q:Nat):Int)).natAbs<2305843009213693952) (h2:p*q<9223372036854775808) (hv':vRat ⟨-b.num,b.den⟩=true) (hf':RatR.fit ⟨-b.num,b.den⟩):CPure Tryz.prog 51 [vrat a,vrat b] (vqe (toQ a - toQ b)):=by
 have fbn:=fb.num
 have fbn2:=vRat_num hb
 have e:toQ ⟨-b.num,b.den⟩ = -toQ b:=by
  unfold toQ
  rw [Rat.neg_mkRat]
 have hs:toQ a - toQ b=toQ a+toQ ⟨-b.num,b.den⟩:=by rw [e,Rat.sub_eq_add_neg]
 rw [hs]
 refine cpure_of Tryz.xen51 Tryz.func51 rfl Tryz.ntmps51 (by rw [Tryz.results51]) (aw_ok _ ?_)
 simp only [go_sem,simprocAttr]
 refine ⟨_,cPRat a fa,?_⟩
 simp only [go_sem,simprocAttr]
 refine ⟨_,fun _=>cPRat b fb,?_⟩
 simp only [go_sem,simprocAttr,ha,hb,Int.zero_sub,wrap64 (x := -b.num) (by have:=fbn.2;omega) (by have:=fbn.2;omega)]
 refine ⟨_,cAdd a ⟨-b.num,b.den⟩ fa hf' ha hv' hp hq h1 (by rw [Int.neg_mul,Int.natAbs_neg];exact h3) h2,?_⟩
 simp only [go_sem,simprocAttr]
open Go.RowKit
set_option maxRecDepth 4000
def QB (q:Rat) (N D:Nat):Prop:=q.num.natAbs≤N∧q.den≤D
theorem qb_mono {q:Rat} {N D M F:Nat} (h:QB q N D) (h1:N≤M) (h2:D≤F):QB q M F:=⟨Nat.le_trans h.1 h1,Nat.le_trans h.2 h2⟩
theorem qb_mul {p q:Rat} {N D M F:Nat} (hp:QB p N D) (hq:QB q M F):QB (p*q) (N*M) (D*F):=by
 obtain ⟨e1,e2⟩:=mulQ p q
 refine ⟨?_,?_⟩
 ·rw [e1,Int.natAbs_mul]
  exact Nat.mul_le_mul (Nat.le_trans (Int.natAbs_ediv_le_natAbs _ _) hp.1) (Nat.le_trans (Int.natAbs_ediv_le_natAbs _ _) hq.1)
 ·rw [e2]
  exact Nat.mul_le_mul (Nat.le_trans (Nat.div_le_self _ _) hp.2) (Nat.le_trans (Nat.div_le_self _ _) hq.2)
theorem qb_add {p q:Rat} {N D M F:Nat} (hp:QB p N D) (hq:QB q M F):QB (p+q) (N*F+M*D) (D*F):=by
 obtain ⟨e1,e2⟩:=addQ p q
 refine ⟨?_,?_⟩
 ·rw [e1]
  refine Nat.le_trans (Int.natAbs_ediv_le_natAbs _ _) (Nat.le_trans (Int.natAbs_add_le _ _) ?_)
  rw [Int.natAbs_mul,Int.natAbs_mul,Int.natAbs_natCast,Int.natAbs_natCast]
  exact Nat.add_le_add (Nat.mul_le_mul hp.1 (Nat.le_trans (Nat.div_le_self _ _) hq.2)) (Nat.mul_le_mul hq.1 (Nat.le_trans (Nat.div_le_self _ _) hp.2))
 ·rw [e2]
  exact Nat.mul_le_mul (Nat.le_trans (Nat.div_le_self _ _) hp.2) (Nat.le_trans (Nat.div_le_self _ _) hq.2)
theorem qb_neg {q:Rat} {N D:Nat} (h:QB q N D):QB (-q) N D:=by
 refine ⟨?_,?_⟩
 ·rw [Rat.neg_num,Int.natAbs_neg]
  exact h.1
 ·rw [Rat.neg_den]
  exact h.2
theorem qb_int (n:Int):QB (n:Rat) n.natAbs 1:=⟨Nat.le_of_eq (by rw [Rat.num_intCast]),Nat.le_of_eq (by rw [Rat.den_intCast])⟩
theorem qb_frac (n:Int) (d:Nat) (hd : 1≤d):QB ((n:Rat) / (d:Int)) n.natAbs d:=by
 have e:=ofQ_frac n d hd
 unfold ofQ at e
 have e1:=congrArg RatR.num e
 have e2:=congrArg RatR.den e
 simp only at e1 e2
 refine ⟨?_,?_⟩
 ·rw [e1]
  exact Int.natAbs_ediv_le_natAbs _ _
 ·have e3:((n:Rat) / ((d:Int):Rat)).den=d / Nat.gcd n.natAbs d:=by exact_mod_cast e2
  rw [e3]
  exact Nat.div_le_self _ _
theorem ofQ_int (n:Int):ofQ (n:Rat)=⟨n,1⟩:=by
 unfold ofQ
 rw [Rat.num_intCast,Rat.den_intCast]
 rfl
theorem qb_fit {q:Rat} {N D:Nat} (h:QB q N D) (hN:N<9223372036854775808) (hD:D<9223372036854775808):(ofQ q).fit∧vRat (ofQ q)=true:=by
 obtain ⟨h1,h2⟩:=h
 have hp:=q.den_pos
 refine ⟨⟨⟨?_,?_⟩,⟨?_,?_⟩⟩,vRat_ofQ q (by omega)⟩
 ·show -9223372036854775808≤q.num
  omega
 ·show q.num≤9223372036854775807
  omega
 ·show -9223372036854775808≤(q.den:Int)
  omega
 ·show (q.den:Int)≤9223372036854775807
  omega
theorem cMulQ {p q:Rat} {N D M F:Nat} (hp:QB p N D) (hq:QB q M F) (h1:N<9223372036854775808) (h2:D<9223372036854775808) (h3:M<9223372036854775808) (h4:F<9223372036854775808) (h5:N*M<9223372036854775808) (h6:D*F<9223372036854775808) :
  CPure Tryz.prog 124 [vrat (ofQ p),vrat (ofQ q)] (vqe (p*q)):=by
 obtain ⟨f1,v1⟩:=qb_fit hp h1 h2
 obtain ⟨f2,v2⟩:=qb_fit hq h3 h4
 have h:=cMul (ofQ p) (ofQ q) f1 f2 v1 v2 (Nat.lt_of_le_of_lt (Nat.mul_le_mul hp.1 hq.1) h5) (Nat.lt_of_le_of_lt (Nat.mul_le_mul hp.2 hq.2) h6)
 rw [toQ_ofQ,toQ_ofQ] at h
 exact h
theorem cAddQ {p q:Rat} {N D M F:Nat} (hp:QB p N D) (hq:QB q M F) (h1:N<9223372036854775808) (h2:D<9223372036854775808) (h3:M<9223372036854775808) (h4:F<9223372036854775808) (h5:N*F<2305843009213693952) (h6:M*D<2305843009213693952) (h7:D*F<9223372036854775808) :
  CPure Tryz.prog 89 [vrat (ofQ p),vrat (ofQ q)] (vqe (p+q)):=by
 obtain ⟨f1,v1⟩:=qb_fit hp h1 h2
 obtain ⟨f2,v2⟩:=qb_fit hq h3 h4
 have h:=cAdd (ofQ p) (ofQ q) f1 f2 v1 v2 (p:=p.den) (q:=q.den) rfl rfl
  (by rw [Int.natAbs_mul,Int.natAbs_natCast];exact Nat.lt_of_le_of_lt (Nat.mul_le_mul hp.1 (Nat.le_trans (Nat.div_le_self _ _) hq.2)) h5)
  (by rw [Int.natAbs_mul,Int.natAbs_natCast];exact Nat.lt_of_le_of_lt (Nat.mul_le_mul hq.1 (Nat.le_trans (Nat.div_le_self _ _) hp.2)) h6)
  (Nat.lt_of_le_of_lt (Nat.mul_le_mul hp.2 hq.2) h7)
 rw [toQ_ofQ,toQ_ofQ] at h
 exact h
theorem cSubQ {p q:Rat} {N D M F:Nat} (hp:QB p N D) (hq:QB q M F) (h1:N<9223372036854775808) (h2:D<9223372036854775808) (h3:M<9223372036854775808) (h4:F<9223372036854775808) (h5:N*F<2305843009213693952) (h6:M*D<2305843009213693952) (h7:D*F<9223372036854775808) :
  CPure Tryz.prog 51 [vrat (ofQ p),vrat (ofQ q)] (vqe (p - q)):=by
 obtain ⟨f1,v1⟩:=qb_fit hp h1 h2
 obtain ⟨f2,v2⟩:=qb_fit hq h3 h4
 obtain ⟨f3,v3⟩:=qb_fit (qb_neg hq) h3 h4
 have e:ofQ (-q)=⟨-(ofQ q).num,(ofQ q).den⟩:=by
  unfold ofQ
  rw [Rat.neg_num,Rat.neg_den]
 rw [e] at f3 v3
 have h:=cSub (ofQ p) (ofQ q) f1 f2 v1 v2 (p:=p.den) (q:=q.den) rfl rfl
  (by rw [Int.natAbs_mul,Int.natAbs_natCast];exact Nat.lt_of_le_of_lt (Nat.mul_le_mul hp.1 (Nat.le_trans (Nat.div_le_self _ _) hq.2)) h5)
  (by rw [Int.natAbs_mul,Int.natAbs_natCast];exact Nat.lt_of_le_of_lt (Nat.mul_le_mul hq.1 (Nat.le_trans (Nat.div_le_self _ _) hp.2)) h6)
  (Nat.lt_of_le_of_lt (Nat.mul_le_mul hp.2 hq.2) h7) v3 f3
 rw [toQ_ofQ,toQ_ofQ] at h
 exact h
theorem cDivI {p:Rat} {N D:Nat} (hp:QB p N D) (n:Nat) (hn : 1≤n) (hn2:n<9223372036854775808) (h1:N<9223372036854775808) (h2:D<9223372036854775808) (h6:D*n<9223372036854775808) :
  CPure Tryz.prog 90 [vrat (ofQ p),vrat ⟨n,1⟩] (vqe (p*((1:Int) / ((n:Int):Rat)))):=by
 obtain ⟨f1,v1⟩:=qb_fit hp h1 h2
 have hb:=qb_frac 1 n hn
 have e:ofQ (((1:Int):Rat) / ((n:Int):Rat))=⟨1,n⟩:=by
  rw [ofQ_frac 1 n hn]
  show (⟨1 / ((Nat.gcd 1 n:Nat):Int),((n / Nat.gcd 1 n:Nat):Int)⟩:RatR)=_
  rw [Nat.gcd_one_left,Nat.div_one]
  rfl
 have hm:=cMulQ hp hb h1 h2 (by decide:(1:Int).natAbs<9223372036854775808) hn2 (by rw [show (1:Int).natAbs=1 from rfl];omega) h6
 rw [e] at hm
 have hv:vRat ⟨(n:Int),1⟩=true:=vRat_int (by omega)
 refine cpure_of Tryz.xen90 Tryz.func90 rfl Tryz.ntmps90 (by rw [Tryz.results90]) (aw_ok _ ?_)
 simp only [go_sem,simprocAttr]
 refine ⟨_,cPRat (ofQ p) f1,?_⟩
 simp only [go_sem,simprocAttr]
 refine ⟨_,fun _=>cPRat ⟨(n:Int),1⟩ ⟨⟨by simp only;omega,by simp only;omega⟩,⟨by simp only;omega,by simp only;omega⟩⟩,?_⟩
 have d1:((n:Int)==0)=false:=by rw [beq_eq_false_iff_ne];omega
 have d2:decide ((n:Int)<0)=false:=decide_eq_false (by omega)
 simp only [go_sem,simprocAttr,v1,hv,d1,d2]
 refine ⟨_,hm,?_⟩
 simp only [go_sem,simprocAttr]
end Go.Proofs.YtkjdkbmfaamhaaaGreat
