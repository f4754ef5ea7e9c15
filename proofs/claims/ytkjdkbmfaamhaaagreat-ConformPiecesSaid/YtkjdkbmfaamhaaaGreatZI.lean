/- Proved here: Contracts of the functions that look at names and lines of text, for use in the proofs of the given statements; conditions stand in each theorem. -/
import Derived.Test.YtkjdkbmfaamhaaaGreatZH
import Derived.Laws.StructEq
set_option linter.unusedSimpArgs false
set_option linter.unusedVariables false
set_option linter.unusedSectionVars false
set_option linter.unnecessarySimpa false
namespace Go.Proofs.YtkjdkbmfaamhaaaGreat
open Go.RowKit
set_option maxRecDepth 4000
theorem cPName (s:ByteArray):CPure Tryz.prog 69 [vstr s] (vbool (vName s)):=by
 refine cpure_of Tryz.xen69 Tryz.func69 rfl Tryz.ntmps69 (by rw [Tryz.results69]) (awp_facts fun hf=>aw_ok _ ?_)
 simp only [go_sem,simprocAttr,factsT] at hf
 have hl:s.size≤maxLen:=hf
 simp only [go_sem,simprocAttr]
 refine ⟨fun h=>?_,fun h=>?_⟩
 ·unfold awS
  simp only [go_sem,simprocAttr]
  have:vName s=false:=by
   simp only [bxx] at h
   simp only [vName,Bool.and_eq_false_iff,decide_eq_false_iff_not]
   omega
  rw [this]
 ·unfold awS
  simp only [go_sem,simprocAttr]
  refine awp_loop_f (fun (k:Nat) σ => setS 15 (vint k) (deadS [5,6,7,8,9,10,11,12,13] σ)) (fun k=>k≤s.size ∧ ∀ i,i<k→nmI (byteAt s i)=true) (fun k=>s.size - k) 0 (weak_self ?_) ⟨Nat.zero_le _,by omega⟩ ?_
  ·simp only [go_sem,simprocAttr]<;>rfl
  ·rintro k ⟨hk,hi⟩
   refine aw_ok _ ?_
   simp only [go_sem,simprocAttr]
   refine ⟨fun hlt=>?_,fun hge=>?_⟩
   all_goals simp only [decide_eq_true_eq,decide_eq_false_iff_not,Int.ofNat_lt] at *
   ·unfold awS
    simp only [go_sem,simprocAttr]
    refine ⟨⟨by omega,by omega⟩,?_⟩
    refine brW (b := !nmI (byteAt s k)) ?_ ⟨fun hb=>?_,fun hb=>?_⟩
    ·unfold byteAt nmI
     rw [Bool.eq_iff_iff];simp only [bxx];omega
    ·unfold awS
     simp only [go_sem,simprocAttr]
     rw [vName,bytes_hit hlt (by simpa using hb)]
     simp
    ·unfold awS
     simp only [go_sem,simprocAttr]
     refine ⟨k+1,weak_self ?_,⟨hlt,fun i h2=>?_⟩,by omega⟩
     ·simp only [go_sem,simprocAttr]<;>simp [wrap_of hlt hl]
     ·rcases Nat.lt_or_ge i k with h3 | h3
      ·exact hi i h3
      ·rw [show i=k from by omega];simpa using hb
   ·unfold awS
    simp only [go_sem,simprocAttr]
    rw [vName,bytes_done (fun i h2=>hi i (by omega))]
    simp only [bxx] at h
    simp
    omega
theorem cPLine (s:ByteArray):CPure Tryz.prog 141 [vstr s] (vbool (vLine s)):=by
 refine cpure_of Tryz.xen141 Tryz.func141 rfl Tryz.ntmps141 (by rw [Tryz.results141]) (awp_facts fun hf=>aw_ok _ ?_)
 simp only [go_sem,simprocAttr,factsT] at hf
 have hl:s.size≤maxLen:=hf
 simp only [go_sem,simprocAttr]
 refine ⟨fun h=>?_,fun h=>?_⟩
 ·unfold awS
  simp only [go_sem,simprocAttr]
  have:vLine s=false:=by
   simp only [bxx] at h
   simp only [vLine,Bool.and_eq_false_iff,decide_eq_false_iff_not]
   omega
  rw [this]
 ·unfold awS
  simp only [go_sem,simprocAttr]
  refine awp_loop_f (fun (k:Nat) σ => setS 14 (vint k) (deadS [4,5,6,7,8,9,10,11,12] σ)) (fun k=>k≤s.size ∧ ∀ i,i<k→lnI (byteAt s i)=true) (fun k=>s.size - k) 0 (weak_self ?_) ⟨Nat.zero_le _,by omega⟩ ?_
  ·simp only [go_sem,simprocAttr]<;>rfl
  ·rintro k ⟨hk,hi⟩
   refine aw_ok _ ?_
   simp only [go_sem,simprocAttr]
   refine ⟨fun hlt=>?_,fun hge=>?_⟩
   all_goals simp only [decide_eq_true_eq,decide_eq_false_iff_not,Int.ofNat_lt] at *
   ·unfold awS
    simp only [go_sem,simprocAttr]
    refine ⟨⟨by omega,by omega⟩,fun _=>⟨by omega,by omega⟩,?_⟩
    refine brW (b := !lnI (byteAt s k)) ?_ ⟨fun hb=>?_,fun hb=>?_⟩
    ·unfold byteAt lnI
     rw [Bool.eq_iff_iff];simp only [bxx];omega
    ·unfold awS
     simp only [go_sem,simprocAttr]
     rw [vLine,bytes_hit hlt (by simpa using hb)]
     simp
    ·unfold awS
     simp only [go_sem,simprocAttr]
     refine ⟨k+1,weak_self ?_,⟨hlt,fun i h2=>?_⟩,by omega⟩
     ·simp only [go_sem,simprocAttr]<;>simp [wrap_of hlt hl]
     ·rcases Nat.lt_or_ge i k with h3 | h3
      ·exact hi i h3
      ·rw [show i=k from by omega];simpa using hb
   ·unfold awS
    simp only [go_sem,simprocAttr]
    rw [vLine,bytes_done (fun i h2=>hi i (by omega))]
    simp only [bxx] at h
    simp
    omega
open Go.RowKit
set_option maxRecDepth 4000
theorem seven_cells {w:World} {E:Env} {a b c d e f g:V} {vs:Array Value} (h:RdVs w E [a,b,c,d,e,f,g] vs.toList):∃ x1 x2 x3 x4 x5 x6 x7,vs = #[x1,x2,x3,x4,x5,x6,x7]∧RdV w E a x1∧RdV w E b x2∧RdV w E c x3∧RdV w E d x4∧RdV w E e x5∧RdV w E f x6∧RdV w E g x7:=by
 obtain ⟨l⟩:=vs
 rcases l with _ | ⟨x1,_ | ⟨x2,_ | ⟨x3,_ | ⟨x4,_ | ⟨x5,_ | ⟨x6,_ | ⟨x7,_ | ⟨x8,l⟩⟩⟩⟩⟩⟩⟩⟩<;>simp only [RdVs,and_false,and_true] at h
 exact ⟨x1,x2,x3,x4,x5,x6,x7,rfl,h⟩
theorem two_cells {w:World} {E:Env} {a b:V} {vs:Array Value} (h:RdVs w E [a,b] vs.toList):∃ x1 x2,vs = #[x1,x2]∧RdV w E a x1∧RdV w E b x2:=by
 obtain ⟨l⟩:=vs
 rcases l with _ | ⟨x1,_ | ⟨x2,_ | ⟨x3,l⟩⟩⟩<;>simp only [RdVs,and_false,and_true] at h
 exact ⟨x1,x2,rfl,h⟩
def RatR.eqb (s t:RatR):Bool:=s.num==t.num&&s.den==t.den
theorem eqRat (s t:RatR):EqV Tryz.prog 52 [vint s.num,vint s.den] [vint t.num,vint t.den] (s.eqb t):=by
 intro w E vs us h1 h2
 obtain ⟨x1,x2,rfl,h1,h2'⟩:=two_cells h1
 obtain ⟨y1,y2,rfl,k1,k2⟩:=two_cells h2
 rw [(rdV_lit_inv h1).1,(rdV_lit_inv h2').1,(rdV_lit_inv k1).1,(rdV_lit_inv k2).1]
 constructor
 ·unfold Op.equal
  simp [go_sem,Op.maxDepth]
  unfold RatR.eqb
  repeat' split
  all_goals simp_all
 ·intro p q
  unfold eqGuard
  simp [Tryz.eqGuardType52]
def SourceR.eqb (s t:SourceR):Bool:=s.kind==t.kind&&(s.name.toList==t.name.toList)&&s.pos.num==t.pos.num&&s.pos.den==t.pos.den&&s.speed.num==t.speed.num&&s.speed.den==t.speed.den&&(s.smooth==t.smooth)
theorem eqSource (s t:SourceR):EqV Tryz.prog 64 [vint s.kind,vstr s.name,vint s.pos.num,vint s.pos.den,vint s.speed.num,vint s.speed.den,vbool s.smooth] [vint t.kind,vstr t.name,vint t.pos.num,vint t.pos.den,vint t.speed.num,vint t.speed.den,vbool t.smooth] (s.eqb t):=by
 intro w E vs us h1 h2
 obtain ⟨x1,x2,x3,x4,x5,x6,x7,rfl,h1,h2',h3,h4,h5,h6,h7⟩:=seven_cells h1
 obtain ⟨y1,y2,y3,y4,y5,y6,y7,rfl,k1,k2,k3,k4,k5,k6,k7⟩:=seven_cells h2
 rw [(rdV_lit_inv h1).1,(rdV_lit_inv h2').1,(rdV_lit_inv h3).1,(rdV_lit_inv h4).1,(rdV_lit_inv h5).1,(rdV_lit_inv h6).1,(rdV_lit_inv h7).1,(rdV_lit_inv k1).1,(rdV_lit_inv k2).1,(rdV_lit_inv k3).1,(rdV_lit_inv k4).1,(rdV_lit_inv k5).1,(rdV_lit_inv k6).1,(rdV_lit_inv k7).1]
 constructor
 ·unfold Op.equal
  simp [go_sem,Op.maxDepth]
  unfold SourceR.eqb
  repeat' split
  all_goals simp_all
 ·intro p q
  unfold eqGuard
  simp [Tryz.eqGuardType64]
abbrev zSource:SourceR:=⟨0,⟨#[]⟩,⟨0,0⟩,⟨0,0⟩,false⟩
def SourceR.isZ (s:SourceR):Bool:=s.eqb zSource
theorem tmod_nat (a b:Nat):((a:Int)).tmod (b:Int)=((a % b:Nat):Int):=by
 rw [Int.tmod_eq_emod_of_nonneg (by omega)];rfl
theorem tdiv_nat (a b:Nat):((a:Int)).tdiv (b:Int)=((a / b:Nat):Int):=by
 rw [Int.tdiv_eq_ediv_of_nonneg (by omega)];rfl
theorem cGcdU (a b:Nat):CPure Tryz.prog 86 [vu64 a,vu64 b] (vu64 (Nat.gcd a b)):=by
 refine cpure_of Tryz.xen86 Tryz.func86 rfl Tryz.ntmps86 (by rw [Tryz.results86]) (aw_ok _ ?_)
 simp only [go_sem,simprocAttr]
 refine awp_loop_f (fun (x:Nat×Nat) σ => setS 0 (vu64 x.1) (setS 1 (vu64 x.2) σ)) (fun x=>Nat.gcd x.1 x.2=Nat.gcd a b) (fun x=>x.2) (a,b) (weak_self ?_) rfl ?_
 ·simp only [go_sem,simprocAttr]
 ·rintro ⟨x,y⟩ hg
  simp only at hg
  refine aw_ok _ ?_
  simp only [go_sem,simprocAttr]
  refine brW (b := !decide (y=0)) ?_ ⟨fun hb=>?_,fun hb=>?_⟩
  ·rw [Bool.eq_iff_iff];simp only [bxx];omega
  ·unfold awS
   simp only [go_sem,simprocAttr]
   have hy:y≠0:=by simpa using hb
   refine drawR_of [0,1,2,3,4,5] .done rfl (by kernel_rfl) (by kernel_rfl) (by decide) ?_
   simp only [go_sem,simprocAttr]
   refine ⟨by omega,(y,x % y),weak_self ?_,?_,Nat.mod_lt _ (by omega)⟩
   ·simp only [go_sem,simprocAttr,tmod_nat]
   ·simp only
    rw [← hg,Nat.gcd_comm x y,Nat.gcd_rec y x,Nat.gcd_comm]
  ·unfold awS
   simp only [go_sem,simprocAttr]
   have hy:y=0:=by simpa using hb
   subst hy
   rw [← hg,Nat.gcd_zero_right]
theorem cDivisor (a b:Nat):CPure Tryz.prog 159 [vint a,vint b] (vint (Nat.gcd a b)):=by
 refine cpure_of Tryz.xen159 Tryz.func159 rfl Tryz.ntmps159 (by rw [Tryz.results159]) (aw_ok _ ?_)
 simp only [go_sem,simprocAttr]
 refine awp_loop_f (fun (x:Nat×Nat) σ => setS 0 (vint x.1) (setS 1 (vint x.2) σ)) (fun x=>Nat.gcd x.1 x.2=Nat.gcd a b) (fun x=>x.2) (a,b) (weak_self ?_) rfl ?_
 ·simp only [go_sem,simprocAttr]
 ·rintro ⟨x,y⟩ hg
  simp only at hg
  refine aw_ok _ ?_
  simp only [go_sem,simprocAttr]
  refine brW (b := !decide (y=0)) ?_ ⟨fun hb=>?_,fun hb=>?_⟩
  ·rw [Bool.eq_iff_iff];simp only [bxx];omega
  ·unfold awS
   simp only [go_sem,simprocAttr]
   have hy:y≠0:=by simpa using hb
   refine drawR_of [0,1,2,3,4,5] .done rfl (by kernel_rfl) (by kernel_rfl) (by decide) ?_
   simp only [go_sem,simprocAttr]
   refine ⟨by omega,(y,x % y),weak_self ?_,?_,Nat.mod_lt _ (by omega)⟩
   ·simp only [go_sem,simprocAttr,tmod_nat]
   ·simp only
    rw [← hg,Nat.gcd_comm x y,Nat.gcd_rec y x,Nat.gcd_comm]
  ·unfold awS
   simp only [go_sem,simprocAttr]
   have hy:y=0:=by simpa using hb
   subst hy
   rw [← hg,Nat.gcd_zero_right]
theorem cMagnitude (n:Int) (h:I64 n):CPure Tryz.prog 85 [vint n] (vu64 n.natAbs):=by
 obtain ⟨h1,h2⟩:=h
 refine cpure_of Tryz.xen85 Tryz.func85 rfl Tryz.ntmps85 (by rw [Tryz.results85]) (aw_ok _ ?_)
 simp only [go_sem,simprocAttr]
 refine ⟨fun h=>?_,fun h=>?_⟩
 all_goals
  simp only [bxx] at h
  unfold awS
  simp only [go_sem,simprocAttr]
 ·have e1:IntKind.u64.wrap n=n+18446744073709551616:=wrapU64_neg (by omega) (by omega)
  rw [e1,wrapU64_neg (by omega) (by omega)]
  congr 3;omega
 ·rw [wrapU64 (by omega) (by omega)]
  congr 3;omega
def vRat (r:RatR):Bool:=decide (1≤r.den)&&decide (-9223372036854775808<r.num)&&decide (Nat.gcd r.num.natAbs r.den.natAbs=1)
theorem nat_of {n:Int} (h : 0≤n):∃ k:Nat,n=k:=⟨n.toNat,by omega⟩
theorem cPRat (r:RatR) (h:r.fit):CPure Tryz.prog 83 [vrat r] (vbool (vRat r)):=by
 obtain ⟨⟨a1,a2⟩,b1,b2⟩:=h
 refine cpure_of Tryz.xen83 Tryz.func83 rfl Tryz.ntmps83 (by rw [Tryz.results83]) (aw_ok _ ?_)
 simp only [go_sem,simprocAttr]
 refine drawR_of [0,1,2,3,4,5,6,7,8,9,10,11,12,13,14,15,16,17,18] .done rfl (by kernel_rfl) (by kernel_rfl) (by decide) ?_
 simp only [go_sem,simprocAttr]
 refine ⟨_,fun _=>cMagnitude _ ⟨a1,a2⟩,?_⟩
 simp only [go_sem,simprocAttr]
 refine ⟨vu64 (Nat.gcd r.num.natAbs r.den.natAbs),fun hg=>?_,?_⟩
 ·simp only [bxx] at hg
  have e1:IntKind.u64.wrap r.den=((r.den.natAbs:Nat):Int):=by rw [wrapU64 (by omega) (by omega)];omega
  rw [e1]
  exact cGcdU _ _
 simp only [go_sem,simprocAttr]
 have:(decide (r.den ≥ 1)&&decide (r.num > -9223372036854775808)&&(((Nat.gcd r.num.natAbs r.den.natAbs:Nat):Int)==1))=vRat r:=by
  unfold vRat
  rw [Bool.eq_iff_iff];simp only [bxx];omega
 rw [this]
def vBnd (r:RatR) (most:Int):Bool:=vRat r&&decide (r.den≤65536)&&decide (-(most*r.den)≤r.num)&&decide (r.num≤most*r.den)
theorem mul_bound {m d:Int} (h0 : 0≤m) (h1:m≤1099511627776) (h2 : 1≤d) (h3:d≤65536) : 0≤m*d∧m*d≤72057594037927936:=by
 refine ⟨Int.mul_nonneg h0 (by omega),?_⟩
 calc m*d≤1099511627776*d:=Int.mul_le_mul_of_nonneg_right h1 (by omega)
  _≤1099511627776*65536:=Int.mul_le_mul_of_nonneg_left h3 (by omega)
  _=72057594037927936:=by decide
theorem bnd_expr (r:RatR) {m:Int} (h0 : 0≤m) (h1:m≤1099511627776):(vRat r&&decide (r.den≤65536)&&decide (r.num ≥ IntKind.i64.wrap (IntKind.i64.wrap (0 - m)*r.den))&&decide (r.num≤IntKind.i64.wrap (m*r.den)))=vBnd r m:=by
 unfold vBnd
 by_cases hv:vRat r=true
 ·by_cases hd:r.den≤65536
  ·have hv':=hv
   unfold vRat at hv'
   simp only [bxx] at hv'
   obtain ⟨q1,q2⟩:=mul_bound h0 h1 hv'.1.1 hd
   have e1:IntKind.i64.wrap (0 - m) = -m:=by rw [wrap64 (by omega) (by omega)];omega
   rw [e1,Int.neg_mul,wrap64 (x := -(m*r.den)) (by omega) (by omega),wrap64 (x:=m*r.den) (by omega) (by omega)]
  ·simp [hd]
 ·simp [hv]
theorem cBounded (r:RatR) (m:Int) (h:r.fit) (h0 : 0≤m) (h1:m≤1099511627776):CPure Tryz.prog 158 [vrat r,vint m] (vbool (vBnd r m)):=by
 refine cpure_of Tryz.xen158 Tryz.func158 rfl Tryz.ntmps158 (by rw [Tryz.results158]) (aw_ok _ ?_)
 simp only [go_sem,simprocAttr]
 refine ⟨_,cPRat r h,?_⟩
 simp only [go_sem,simprocAttr]
 rw [bnd_expr r h0 h1]
def vWith (r:RatR) (m:Int):Bool:=decide (((r.num.natAbs:Nat):Int)≤m*r.den)
def baseN (p q:Nat):Nat:=if p > 4294967296∨q > 4294967296 then 0 else if p / Nat.gcd p q > 4294967296 / q then 0 else p / Nat.gcd p q*q
theorem lcm_eq (p q:Nat):p / Nat.gcd p q*q=Nat.lcm p q:=by
 rw [Nat.lcm,Nat.mul_comm,Nat.mul_comm p q,Nat.mul_div_assoc q (Nat.gcd_dvd_left p q)]
def vChans (l:List Int):Bool:=decide (l.length≤4)&&l.all fun c=>decide (-1≤c)&&decide (c≤3)
theorem all_hit {α : Type} {d : α} {p : α → Bool} {l:List α} {k:Nat} (h:k<l.length) (hp:p (l.getD k d)=false):l.all p=false:=by
 rw [List.getD_eq_getElem?_getD,List.getElem?_eq_getElem h,Option.getD_some] at hp
 rw [Bool.eq_false_iff,ne_eq,List.all_eq_true]
 intro h'
 have:=h' _ (List.getElem_mem h)
 rw [hp] at this;cases this
theorem all_done {α : Type} {d : α} {p : α → Bool} {l:List α} (h:∀ k,k<l.length→p (l.getD k d)=true):l.all p=true:=by
 rw [List.all_eq_true]
 intro c hc
 obtain ⟨k,hk,rfl⟩:=List.mem_iff_getElem.1 hc
 have:=h k hk
 rwa [List.getD_eq_getElem?_getD,List.getElem?_eq_getElem hk,Option.getD_some] at this
theorem upto {p:Nat→Prop} {k:Nat} (h:∀ i,i<k→p i) (hk:p k):∀ i,i<k+1→p i:=fun i hi=>by
 rcases Nat.lt_or_ge i k with h3 | h3
 ·exact h i h3
 ·rw [show i=k from by omega];exact hk
theorem cPChans (l:List Int):CPure Tryz.prog 142 [.t (tints l)] (vbool (vChans l)):=by
 refine cpure_of Tryz.xen142 Tryz.func142 rfl Tryz.ntmps142 (by rw [Tryz.results142]) (awp_facts fun hf=>aw_ok _ ?_)
 simp only [go_sem,simprocAttr,factsT] at hf
 have hl:l.length≤maxLen:=by first | exact hf.1 | exact hf.1.1
 simp only [go_sem,simprocAttr]
 refine ⟨fun h=>?_,fun h=>?_⟩
 ·unfold awS
  simp only [go_sem,simprocAttr]
  simp only [bxx] at h
  have:vChans l=false:=by simp only [vChans,Bool.and_eq_false_iff,decide_eq_false_iff_not];omega
  rw [this]
 ·unfold awS
  simp only [go_sem,simprocAttr]
  simp only [bxx] at h
  refine awp_loop_f (fun (k:Nat) σ => setS 10 (vint k) (deadS [5,6,7] σ)) (fun k=>k≤l.length ∧ ∀ i,i<k→(decide (-1≤l.getD i 0)&&decide (l.getD i 0≤3))=true) (fun k=>l.length - k) 0 (weak_self ?_) ⟨Nat.zero_le _,by omega⟩ ?_
  ·simp only [go_sem,simprocAttr]<;>rfl
  ·rintro k ⟨hk,hi⟩
   refine aw_ok _ ?_
   simp only [go_sem,simprocAttr]
   refine ⟨fun hlt=>?_,fun hge=>?_⟩
   ·simp only [bxx] at hlt
    unfold awS
    simp only [go_sem,simprocAttr]
    refine ⟨⟨by omega,by omega⟩,?_⟩
    refine brW (b := !(decide (-1≤l.getD k 0)&&decide (l.getD k 0≤3))) ?_ ⟨fun hb=>?_,fun hb=>?_⟩
    ·rw [Bool.eq_iff_iff];simp only [bxx];omega
    ·unfold awS
     simp only [go_sem,simprocAttr]
     unfold vChans
     rw [all_hit (d:=(0:Int)) (p:=fun c=>decide (-1≤c)&&decide (c≤3)) (k:=k) (by omega) (nt hb),Bool.and_false]
    ·unfold awS
     simp only [go_sem,simprocAttr]
     refine ⟨k+1,weak_self ?_,⟨by omega,upto hi (nf hb)⟩,by omega⟩
     simp only [go_sem,simprocAttr]<;>simp [wrap_of (show k<l.length by omega) hl]
   ·simp only [bxx] at hge
    unfold awS
    simp only [go_sem,simprocAttr]
    unfold vChans
    rw [all_done (d:=(0:Int)) (p:=fun c=>decide (-1≤c)&&decide (c≤3)) (fun i h2=>hi i (by omega)),Bool.and_true,decide_eq_true (by omega:l.length≤4)]
def lcmS (s:SourceR):Nat:=Nat.lcm s.pos.den.natAbs s.speed.den.natAbs
def vSource (s:SourceR):Bool:=s.isZ||((s.kind==1||s.kind==2)&&vName s.name&&vRat s.pos&&vRat s.speed&&vWith s.pos 1099511627776&&vWith s.speed 1024&&decide (lcmS s≤65536))
theorem vRat_den {r:RatR} (h:vRat r=true) : 1≤r.den:=by
 unfold vRat at h
 simp only [bxx] at h
 exact h.1.1
theorem bnd_with (r:RatR) (m:Int):vBnd r m=(vRat r&&decide (r.den≤65536)&&vWith r m):=by
 unfold vBnd vWith
 rw [Bool.and_assoc]
 congr 1
 rw [Bool.eq_iff_iff];simp only [bxx];omega
theorem lcm_dens {s:SourceR} (h1:vRat s.pos=true) (h2:vRat s.speed=true) (h:lcmS s≤65536):s.pos.den≤65536∧s.speed.den≤65536:=by
 have d1:=vRat_den h1
 have d2:=vRat_den h2
 unfold lcmS at h
 have h3:s.pos.den.natAbs≤_:=Nat.le_of_dvd (Nat.lcm_pos (by omega) (by omega)) (Nat.dvd_lcm_left s.pos.den.natAbs s.speed.den.natAbs)
 have h4:s.speed.den.natAbs≤_:=Nat.le_of_dvd (Nat.lcm_pos (by omega) (by omega)) (Nat.dvd_lcm_right s.pos.den.natAbs s.speed.den.natAbs)
 omega
theorem cPSource (s:SourceR) (h:s.fit):CPure Tryz.prog 143 [vsource s] (vbool (vSource s)):=by
 refine cpure_of Tryz.xen143 Tryz.func143 rfl Tryz.ntmps143 (by rw [Tryz.results143]) (aw_ok _ ?_)
 simp only [go_sem,simprocAttr]
 refine ⟨_,eqSource s zSource,?_⟩
 refine brW (b:=s.isZ) ?_ ⟨fun hb=>?_,fun hb=>?_⟩
 ·rfl
 ·unfold awS
  simp only [go_sem,simprocAttr]
  unfold vSource
  rw [hb];rfl
 ·unfold awS
  simp only [go_sem,simprocAttr]
  refine ⟨_,fun _=>cPName s.name,?_⟩
  simp only [go_sem,simprocAttr]
  refine brW (b := !((s.kind==1||s.kind==2)&&vName s.name)) ?_ ⟨fun hc=>?_,fun hc=>?_⟩
  ·(try simp only [bne]);cases (s.kind==1)<;>cases (s.kind==2)<;>cases (vName s.name)<;>rfl
  ·unfold awS
   simp only [go_sem,simprocAttr]
   have hc':=nt hc
   unfold vSource
   rw [hb,hc'];rfl
  ·unfold awS
   simp only [go_sem,simprocAttr]
   have hc':=nf hc
   have hd:=h.speed.den.1
   refine drawR_of [0,1,2,3,4,5,6,7,8,9,10,11,12,13,14,15,16,17,18,19,20,21,22,23,24,25,26] .done rfl (by kernel_rfl) (by kernel_rfl) (by decide) ?_
   simp only [go_sem,simprocAttr]
   refine ⟨_,cBounded s.pos 1099511627776 h.pos (by omega) (by omega),?_⟩
   simp only [go_sem,simprocAttr]
   refine ⟨_,fun _=>cBounded s.speed 1024 h.speed (by omega) (by omega),?_⟩
   simp only [go_sem,simprocAttr]
   refine ⟨vint (Nat.gcd s.pos.den.natAbs s.speed.den.natAbs),fun hg=>?_,?_⟩
   ·simp only [bxx,vBnd] at hg
    have d1:=vRat_den hg.1.1.1.1
    have d2:=vRat_den hg.2.1.1.1
    have e1:s.pos.den=((s.pos.den.natAbs:Nat):Int):=by omega
    have e2:s.speed.den=((s.speed.den.natAbs:Nat):Int):=by omega
    have:=cDivisor s.pos.den.natAbs s.speed.den.natAbs
    rw [← e1, ← e2] at this
    exact this
   simp only [go_sem,simprocAttr]
   refine ⟨fun hg=>?_,?_⟩
   ·simp only [bxx,vBnd] at hg
    have d1:=vRat_den hg.1.1.1.1
    have : 0<Nat.gcd s.pos.den.natAbs s.speed.den.natAbs:=Nat.gcd_pos_of_pos_left _ (by omega)
    omega
   ·rw [bnd_with,bnd_with]
    have key:(vRat s.pos&&decide (s.pos.den≤65536)&&vWith s.pos 1099511627776&&(vRat s.speed&&decide (s.speed.den≤65536)&&vWith s.speed 1024)&&decide (IntKind.i64.wrap (IntKind.i64.wrap (s.pos.den.tdiv ((Nat.gcd s.pos.den.natAbs s.speed.den.natAbs:Nat):Int))*s.speed.den)≤65536))=vSource s:=by
     unfold vSource
     rw [hb,Bool.and_eq_true] at *
     rw [Bool.false_or,hc'.1,hc'.2]
     cases h1:vRat s.pos
     ·rfl
     cases h2:vRat s.speed
     ·simp
     have d1:=vRat_den h1
     have d2:=vRat_den h2
     obtain ⟨p,hp⟩:=nat_of (n:=s.pos.den) (by omega)
     obtain ⟨q,hq⟩:=nat_of (n:=s.speed.den) (by omega)
     have p1 : 1≤p:=by omega
     have q1 : 1≤q:=by omega
     unfold lcmS
     have hb1:=h.pos.den.2
     have hb2:=h.speed.den.2
     rw [hp] at hb1
     rw [hq] at hb2
     simp only [hp,hq,Int.natAbs_natCast]
     have hle:p / Nat.gcd p q≤p:=Nat.div_le_self _ _
     by_cases hsm:p≤65536∧q≤65536
     ·have hm:p / Nat.gcd p q*q≤65536*65536:=Nat.mul_le_mul (by omega) hsm.2
      have e0:IntKind.i64.wrap (IntKind.i64.wrap ((p:Int).tdiv ((Nat.gcd p q:Nat):Int))*(q:Int))=((Nat.lcm p q:Nat):Int):=by
       rw [tdiv_nat,wrapN (by omega), ← Int.natCast_mul,wrapN (by omega),lcm_eq]
      have e1:decide ((p:Int)≤65536)=true:=by simp;omega
      have e2:decide ((q:Int)≤65536)=true:=by simp;omega
      have e3:decide (((Nat.lcm p q:Nat):Int)≤65536)=decide (Nat.lcm p q≤65536):=by rw [Bool.eq_iff_iff];simp only [bxx];omega
      simp only [e0,e1,e2,e3]
      (try simp only [bne]);cases (vWith s.pos 1099511627776)<;>cases (vWith s.speed 1024)<;>cases (decide (Nat.lcm p q≤65536))<;>rfl
     ·have e1:(decide ((p:Int)≤65536)&&decide ((q:Int)≤65536))=false:=by simp;omega
      have h3:p≤Nat.lcm p q:=Nat.le_of_dvd (Nat.lcm_pos p1 q1) (Nat.dvd_lcm_left p q)
      have h4:q≤Nat.lcm p q:=Nat.le_of_dvd (Nat.lcm_pos p1 q1) (Nat.dvd_lcm_right p q)
      have e2:decide (Nat.lcm p q≤65536)=false:=by simp;omega
      rw [e2]
      revert e1
      generalize decide ((p:Int)≤65536)=b1
      generalize decide ((q:Int)≤65536)=b2
      intro e1
      cases b1<;>cases b2<;>simp_all
    rw [key]
open Go.RowKit
set_option maxRecDepth 4000
open Go.RowKit
set_option maxRecDepth 4000
def emp (s:ByteArray):Bool:=s.toList==(⟨#[]⟩:ByteArray).toList
def shareOk (c:ClipR):Bool:=decide (0≤c.off)&&decide (c.len≤c.total)&&decide (c.total≤2147483647)&&decide (c.off≤c.total - c.len)
def noShare (c:ClipR):Bool:=c.off==0&&c.total==0
def kindOk (c:ClipR):Bool :=
 if c.kind=0 then c.a.isZ&&c.b.isZ&&noShare c&&c.param==0&&emp c.text&&c.gain==0&&c.chan.length==0
 else if c.kind=1 then c.b.isZ&&noShare c&&c.param==0&&emp c.text
 else if c.kind=2 then shareOk c&&c.param==0&&emp c.text
 else if c.kind=3 then shareOk c&&decide (0≤c.param)&&decide (c.param≤3)&&emp c.text
 else if c.kind=4 then noShare c&&decide (0≤c.param)&&decide (c.param≤255)&&emp c.text
 else if c.kind=5 then c.b.isZ&&noShare c&&c.param==0&&vLine c.text
 else false
def baseOk (c:ClipR):Bool:=decide (1≤c.len)&&decide (c.len≤2147483647)&&decide (0≤c.gain)&&decide (c.gain≤65536)&&vChans c.chan&&vSource c.a&&vSource c.b
def vClip (c:ClipR):Bool:=baseOk c&&kindOk c
theorem cPClip (c:ClipR) (h:c.fit):CPure Tryz.prog 114 [vclip c] (vbool (vClip c)):=by
 refine cpure_of Tryz.xen114 Tryz.func114 rfl Tryz.ntmps114 (by rw [Tryz.results114]) (aw_ok _ ?_)
 simp only [go_sem,simprocAttr]
 refine ⟨_,fun _=>cPChans c.chan,?_⟩
 simp only [go_sem,simprocAttr]
 refine ⟨_,fun _=>cPSource c.a h.a,?_⟩
 simp only [go_sem,simprocAttr]
 refine ⟨_,fun _=>cPSource c.b h.b,?_⟩
 simp only [go_sem,simprocAttr]
 refine brW (b := !baseOk c) ?_ ⟨fun hb=>?_,fun hb=>?_⟩
 ·have:baseOk c=(decide (1≤c.len)&&decide (c.len≤2147483647)&&decide (0≤c.gain)&&decide (c.gain≤65536)&&vChans c.chan&&vSource c.a&&vSource c.b):=rfl
  rw [this]
  have e1:(decide (c.len<1)||decide (c.len > 2147483647)||decide (c.gain<0)||decide (c.gain > 65536)) = !(decide (1≤c.len)&&decide (c.len≤2147483647)&&decide (0≤c.gain)&&decide (c.gain≤65536)):=by rw [Bool.eq_iff_iff];simp only [bxx];omega
  rw [e1]
  simp only [Bool.not_and,Bool.not_not,Bool.or_assoc]
 ·unfold awS
  simp only [go_sem,simprocAttr]
  unfold vClip
  rw [nt hb];rfl
 ·unfold awS
  simp only [go_sem,simprocAttr]
  refine ⟨_,eqSource c.b zSource,?_⟩
  refine drawR_of [0,1,2,3,4,5,6,7] .done rfl (by kernel_rfl) (by kernel_rfl) (by decide) ?_
  simp only [go_sem,simprocAttr]
  have hbo:(IntKind.i64.wrap (c.total - c.len))=c.total - c.len ∨ ¬ (0≤c.off∧c.len≤c.total∧c.total≤2147483647):=by
   have:=nf hb
   unfold baseOk at this
   simp only [bxx] at this
   by_cases hx : 0≤c.off∧c.len≤c.total∧c.total≤2147483647
   ·left;exact wrap64 (by omega) (by omega)
   ·right;exact hx
  have hsh:(decide (c.off ≥ 0)&&decide (c.total ≥ c.len)&&decide (c.total≤2147483647)&&decide (c.off≤IntKind.i64.wrap (c.total - c.len)))=shareOk c:=by
   unfold shareOk
   rcases hbo with e | e
   ·rw [e];first | done | (rw [Bool.eq_iff_iff];simp only [bxx];omega)
   ·rw [Bool.eq_iff_iff];simp only [bxx];omega
  rw [hsh]
  have hv:vClip c=kindOk c:=by unfold vClip;rw [nf hb,Bool.true_and]
  rw [hv]
  refine ⟨fun hk=>?_,fun hk0=>?_⟩
  ·simp only [bxx] at hk
   unfold awS
   simp only [go_sem,simprocAttr]
   refine ⟨_,eqSource c.a zSource,?_⟩
   unfold kindOk
   rw [if_pos hk]
   have e1:(((c.chan.length:Nat):Int)==0)=(c.chan.length==0):=by rw [Bool.eq_iff_iff];simp only [bxx];omega
   rw [e1]
   rfl
  unfold awS
  simp only [go_sem,simprocAttr]
  refine ⟨fun hk=>?_,fun hk1=>?_⟩
  ·simp only [bxx] at hk
   unfold awS
   simp only [go_sem,simprocAttr]
   unfold kindOk
   rw [if_neg (by omega),if_pos hk]
   rfl
  unfold awS
  simp only [go_sem,simprocAttr]
  refine ⟨fun hk=>?_,fun hk2=>?_⟩
  ·simp only [bxx] at hk
   unfold awS
   simp only [go_sem,simprocAttr]
   unfold kindOk
   rw [if_neg (by omega),if_neg (by omega),if_pos hk]
   rfl
  unfold awS
  simp only [go_sem,simprocAttr]
  refine ⟨fun hk=>?_,fun hk3=>?_⟩
  ·simp only [bxx] at hk
   unfold awS
   simp only [go_sem,simprocAttr]
   unfold kindOk
   rw [if_neg (by omega),if_neg (by omega),if_neg (by omega),if_pos hk]
   rfl
  unfold awS
  simp only [go_sem,simprocAttr]
  refine ⟨fun hk=>?_,fun hk4=>?_⟩
  ·simp only [bxx] at hk
   unfold awS
   simp only [go_sem,simprocAttr]
   unfold kindOk
   rw [if_neg (by omega),if_neg (by omega),if_neg (by omega),if_neg (by omega),if_pos hk]
   rfl
  unfold awS
  simp only [go_sem,simprocAttr]
  refine ⟨fun hk=>?_,fun hk5=>?_⟩
  ·simp only [bxx] at hk
   unfold awS
   simp only [go_sem,simprocAttr]
   refine ⟨_,fun _=>cPLine c.text,?_⟩
   simp only [go_sem,simprocAttr]
   unfold kindOk
   rw [if_neg (by omega),if_neg (by omega),if_neg (by omega),if_neg (by omega),if_neg (by omega),if_pos hk]
   rfl
  unfold awS
  simp only [go_sem,simprocAttr]
  simp only [bxx] at hk0
  simp only [bxx] at hk1
  simp only [bxx] at hk2
  simp only [bxx] at hk3
  simp only [bxx] at hk4
  simp only [bxx] at hk5
  unfold kindOk
  rw [if_neg hk0,if_neg hk1,if_neg hk2,if_neg hk3,if_neg hk4,if_neg hk5]
end Go.Proofs.YtkjdkbmfaamhaaaGreat
