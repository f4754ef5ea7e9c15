/- Proved here: Contracts of the functions that look at names and lines of text; conditions stand in each theorem. -/
import Derived.Test.YtbfnemkngoaeeaaGreatQ07
import Derived.Laws.StructEq
set_option linter.unusedSimpArgs false
set_option linter.unusedVariables false
set_option linter.unusedSectionVars false
set_option linter.unnecessarySimpa false
namespace Go.Proofs.YtbfnemkngoaeeaaGreat
open Go.RowKit
set_option maxRecDepth 4000
theorem vM (s:ByteArray):aM Tryz.prog 124 [bM s] (aS (aT s)):=by
 refine aH Tryz.X124 Tryz.func124 rfl Tryz.ntmps124 (by rw [Tryz.results124]) (fD fun hf=>aD _ ?_);simp only [go_sem,simprocAttr,kW] at hf;have hl:s.size≤maxLen:=hf;simp only [go_sem,simprocAttr];refine ⟨fun h=>?_,fun h=>?_⟩
 ·unfold awS;simp only [go_sem,simprocAttr];have:aT s=false:=by
   simp only [bxx] at h;simp only [aT,Bool.and_eq_false_iff,decide_eq_false_iff_not];omega
  rw [this]
 ·unfold awS;simp only [go_sem,simprocAttr];refine aF (fun (k:Nat) σ => cJ 15 (aC k) (bN [5,6,7,8,9,10,11,12,13] σ)) (fun k=>k≤s.size ∧ ∀ i,i<k→nmI (mX s i)=true) (fun k=>s.size - k) 0 (aB ?_) ⟨Nat.zero_le _,by omega⟩ ?_
  ·simp only [go_sem,simprocAttr]<;>rfl
  ·rintro k ⟨hk,hi⟩;refine aD _ ?_;simp only [go_sem,simprocAttr];refine ⟨fun hlt=>?_,fun hge=>?_⟩
   all_goals simp only [decide_eq_true_eq,decide_eq_false_iff_not,Int.ofNat_lt] at *
   ·unfold awS;simp only [go_sem,simprocAttr];refine ⟨⟨by omega,by omega⟩,?_⟩;refine brW (b := !nmI (mX s k)) ?_ ⟨fun hb=>?_,fun hb=>?_⟩
    ·unfold mX nmI;rw [Bool.eq_iff_iff];simp only [bxx];omega
    ·unfold awS;simp only [go_sem,simprocAttr];rw [aT,Cq hlt (by simpa using hb)];simp
    ·unfold awS;simp only [go_sem,simprocAttr];refine ⟨k+1,aB ?_,⟨hlt,fun i h2=>?_⟩,by omega⟩
     ·simp only [go_sem,simprocAttr]<;>simp [dV hlt hl]
     ·rcases Nat.lt_or_ge i k with h3 | h3
      ·exact hi i h3
      ·rw [show i=k from by omega];simpa using hb
   ·unfold awS;simp only [go_sem,simprocAttr];rw [aT,yE (fun i h2=>hi i (by omega))];simp only [bxx] at h;simp;omega
theorem Ev (s:ByteArray):aM Tryz.prog 131 [bM s] (aS (aT s)):=by
 refine aH Tryz.X131 Tryz.func131 rfl Tryz.ntmps131 (by rw [Tryz.results131]) (fD fun hf=>aD _ ?_);simp only [go_sem,simprocAttr,kW] at hf;have hl:s.size≤maxLen:=hf;simp only [go_sem,simprocAttr];refine aF (fun (k:Nat) σ => cJ 3 (aC k) σ) (fun k=>k≤s.size ∧ ∀ i,i<k→nmI (mX s i)=true) (fun k=>s.size - k) 0 (aB ?_) ⟨Nat.zero_le _,by omega⟩ ?_
 ·simp only [go_sem,simprocAttr]<;>rfl
 ·rintro k ⟨hk,hi⟩;refine aD _ ?_;simp only [go_sem,simprocAttr];refine ⟨fun hlt=>?_,fun hge=>?_⟩
  all_goals simp only [decide_eq_true_eq,decide_eq_false_iff_not,Int.ofNat_lt] at *
  ·unfold awS;simp only [go_sem,simprocAttr];refine ⟨⟨by omega,by omega⟩,?_⟩;refine brW (b := !nmI (mX s k)) ?_ ⟨fun hb=>?_,fun hb=>?_⟩
   ·unfold mX nmI;rw [Bool.eq_iff_iff];simp only [bxx];omega
   ·unfold awS;simp only [go_sem,simprocAttr];rw [aT,Cq hlt (by simpa using hb)];simp
   ·unfold awS;simp only [go_sem,simprocAttr];refine ⟨k+1,aB ?_,⟨hlt,fun i h2=>?_⟩,by omega⟩
    ·simp only [go_sem,simprocAttr]<;>simp [dV hlt hl]
    ·rcases Nat.lt_or_ge i k with h3 | h3
     ·exact hi i h3
     ·rw [show i=k from by omega];simpa using hb
  ·unfold awS;simp only [go_sem,simprocAttr];rw [aT,yE (fun i h2=>hi i (by omega)),Bool.and_true];have:(decide ((s.size:Int) ≥ 1)&&decide ((s.size:Int)≤32))=(decide (1≤s.size)&&decide (s.size≤32)):=by
    rw [Bool.eq_iff_iff];simp only [bxx];omega
   rw [this]
theorem aWd (s:ByteArray):aM Tryz.prog 178 [bM s] (aS (kL s)):=by
 refine aH Tryz.X178 Tryz.func178 rfl Tryz.ntmps178 (by rw [Tryz.results178]) (fD fun hf=>aD _ ?_);simp only [go_sem,simprocAttr,kW] at hf;have hl:s.size≤maxLen:=hf;simp only [go_sem,simprocAttr];refine ⟨fun h=>?_,fun h=>?_⟩
 ·unfold awS;simp only [go_sem,simprocAttr];have:kL s=false:=by
   simp only [bxx] at h;simp only [kL,Bool.and_eq_false_iff,decide_eq_false_iff_not];omega
  rw [this]
 ·unfold awS;simp only [go_sem,simprocAttr];refine aF (fun (k:Nat) σ => cJ 14 (aC k) (bN [4,5,6,7,8,9,10,11,12] σ)) (fun k=>k≤s.size ∧ ∀ i,i<k→lnI (mX s i)=true) (fun k=>s.size - k) 0 (aB ?_) ⟨Nat.zero_le _,by omega⟩ ?_
  ·simp only [go_sem,simprocAttr]<;>rfl
  ·rintro k ⟨hk,hi⟩;refine aD _ ?_;simp only [go_sem,simprocAttr];refine ⟨fun hlt=>?_,fun hge=>?_⟩
   all_goals simp only [decide_eq_true_eq,decide_eq_false_iff_not,Int.ofNat_lt] at *
   ·unfold awS;simp only [go_sem,simprocAttr];refine ⟨⟨by omega,by omega⟩,fun _=>⟨by omega,by omega⟩,?_⟩;refine brW (b := !lnI (mX s k)) ?_ ⟨fun hb=>?_,fun hb=>?_⟩
    ·unfold mX lnI;rw [Bool.eq_iff_iff];simp only [bxx];omega
    ·unfold awS;simp only [go_sem,simprocAttr];rw [kL,Cq hlt (by simpa using hb)];simp
    ·unfold awS;simp only [go_sem,simprocAttr];refine ⟨k+1,aB ?_,⟨hlt,fun i h2=>?_⟩,by omega⟩
     ·simp only [go_sem,simprocAttr]<;>simp [dV hlt hl]
     ·rcases Nat.lt_or_ge i k with h3 | h3
      ·exact hi i h3
      ·rw [show i=k from by omega];simpa using hb
   ·unfold awS;simp only [go_sem,simprocAttr];rw [kL,yE (fun i h2=>hi i (by omega))];simp only [bxx] at h;simp;omega
open Go.RowKit
set_option maxRecDepth 4000
theorem La {w:World} {E:Env} {a b c d e f g:V} {vs:Array Value} (h:RdVs w E [a,b,c,d,e,f,g] vs.toList):∃ x1 x2 x3 x4 x5 x6 x7,vs = #[x1,x2,x3,x4,x5,x6,x7]∧RdV w E a x1∧RdV w E b x2∧RdV w E c x3∧RdV w E d x4∧RdV w E e x5∧RdV w E f x6∧RdV w E g x7:=by
 obtain ⟨l⟩:=vs;rcases l with _ | ⟨x1,_ | ⟨x2,_ | ⟨x3,_ | ⟨x4,_ | ⟨x5,_ | ⟨x6,_ | ⟨x7,_ | ⟨x8,l⟩⟩⟩⟩⟩⟩⟩⟩<;>simp only [RdVs,and_false,and_true] at h
 exact ⟨x1,x2,x3,x4,x5,x6,x7,rfl,h⟩
theorem Wa {w:World} {E:Env} {a b:V} {vs:Array Value} (h:RdVs w E [a,b] vs.toList):∃ x1 x2,vs = #[x1,x2]∧RdV w E a x1∧RdV w E b x2:=by
 obtain ⟨l⟩:=vs;rcases l with _ | ⟨x1,_ | ⟨x2,_ | ⟨x3,l⟩⟩⟩<;>simp only [RdVs,and_false,and_true] at h
 exact ⟨x1,x2,rfl,h⟩
def RatR.eqb (s t:RatR):Bool:=s.num==t.num&&s.den==t.den
theorem eqRat (s t:RatR):EqV Tryz.prog 30 [aC s.num,aC s.den] [aC t.num,aC t.den] (s.eqb t):=by
 intro w E vs us h1 h2;obtain ⟨x1,x2,rfl,h1,h2'⟩:=Wa h1;obtain ⟨y1,y2,rfl,k1,k2⟩:=Wa h2;rw [(aG h1).1,(aG h2').1,(aG k1).1,(aG k2).1];constructor
 ·unfold Op.equal;simp [go_sem,Op.maxDepth];unfold RatR.eqb
  repeat' split
  all_goals simp_all
 ·intro p q;unfold eqGuard;simp [Tryz.eqGuardType30]
def SourceR.eqb (s t:SourceR):Bool:=s.kind==t.kind&&(s.name.toList==t.name.toList)&&s.pos.num==t.pos.num&&s.pos.den==t.pos.den&&s.speed.num==t.speed.num&&s.speed.den==t.speed.den&&(s.smooth==t.smooth)
theorem uC (s t:SourceR):EqV Tryz.prog 101 [aC s.kind,bM s.name,aC s.pos.num,aC s.pos.den,aC s.speed.num,aC s.speed.den,aS s.smooth] [aC t.kind,bM t.name,aC t.pos.num,aC t.pos.den,aC t.speed.num,aC t.speed.den,aS t.smooth] (s.eqb t):=by
 intro w E vs us h1 h2;obtain ⟨x1,x2,x3,x4,x5,x6,x7,rfl,h1,h2',h3,h4,h5,h6,h7⟩:=La h1;obtain ⟨y1,y2,y3,y4,y5,y6,y7,rfl,k1,k2,k3,k4,k5,k6,k7⟩:=La h2;rw [(aG h1).1,(aG h2').1,(aG h3).1,(aG h4).1,(aG h5).1,(aG h6).1,(aG h7).1,(aG k1).1,(aG k2).1,(aG k3).1,(aG k4).1,(aG k5).1,(aG k6).1,(aG k7).1];constructor
 ·unfold Op.equal;simp [go_sem,Op.maxDepth];unfold SourceR.eqb
  repeat' split
  all_goals simp_all
 ·intro p q;unfold eqGuard;simp [Tryz.eqGuardType101]
abbrev zSource:SourceR:=⟨0,⟨#[]⟩,⟨0,0⟩,⟨0,0⟩,false⟩
def SourceR.isZ (s:SourceR):Bool:=s.eqb zSource
theorem yW (a b:Nat):((a:Int)).tmod (b:Int)=((a % b:Nat):Int):=by
 rw [Int.tmod_eq_emod_of_nonneg (by omega)];rfl
theorem mY (a b:Nat):((a:Int)).tdiv (b:Int)=((a / b:Nat):Int):=by
 rw [Int.tdiv_eq_ediv_of_nonneg (by omega)];rfl
theorem Zt (a b:Nat):aM Tryz.prog 179 [dS a,dS b] (dS (Nat.gcd a b)):=by
 refine aH Tryz.X179 Tryz.func179 rfl Tryz.ntmps179 (by rw [Tryz.results179]) (aD _ ?_);simp only [go_sem,simprocAttr];refine aF (fun (x:Nat×Nat) σ => cJ 0 (dS x.1) (cJ 1 (dS x.2) σ)) (fun x=>Nat.gcd x.1 x.2=Nat.gcd a b) (fun x=>x.2) (a,b) (aB ?_) rfl ?_
 ·simp only [go_sem,simprocAttr]
 ·rintro ⟨x,y⟩ hg;simp only at hg;refine aD _ ?_;simp only [go_sem,simprocAttr];refine brW (b := !decide (y=0)) ?_ ⟨fun hb=>?_,fun hb=>?_⟩
  ·rw [Bool.eq_iff_iff];simp only [bxx];omega
  ·unfold awS;simp only [go_sem,simprocAttr];have hy:y≠0:=by simpa using hb
   refine cL [0,1,2,3,4,5] .done rfl (by kernel_rfl) (by kernel_rfl) (by decide) ?_;simp only [go_sem,simprocAttr];refine ⟨by omega,(y,x % y),aB ?_,?_,Nat.mod_lt _ (by omega)⟩
   ·simp only [go_sem,simprocAttr,yW]
   ·simp only;rw [← hg,Nat.gcd_comm x y,Nat.gcd_rec y x,Nat.gcd_comm]
  ·unfold awS;simp only [go_sem,simprocAttr];have hy:y=0:=by simpa using hb
   subst hy;rw [← hg,Nat.gcd_zero_right]
theorem aWq (a b:Nat):aM Tryz.prog 224 [aC a,aC b] (aC (Nat.gcd a b)):=by
 refine aH Tryz.X224 Tryz.func224 rfl Tryz.ntmps224 (by rw [Tryz.results224]) (aD _ ?_);simp only [go_sem,simprocAttr];refine aF (fun (x:Nat×Nat) σ => cJ 0 (aC x.1) (cJ 1 (aC x.2) σ)) (fun x=>Nat.gcd x.1 x.2=Nat.gcd a b) (fun x=>x.2) (a,b) (aB ?_) rfl ?_
 ·simp only [go_sem,simprocAttr]
 ·rintro ⟨x,y⟩ hg;simp only at hg;refine aD _ ?_;simp only [go_sem,simprocAttr];refine brW (b := !decide (y=0)) ?_ ⟨fun hb=>?_,fun hb=>?_⟩
  ·rw [Bool.eq_iff_iff];simp only [bxx];omega
  ·unfold awS;simp only [go_sem,simprocAttr];have hy:y≠0:=by simpa using hb
   refine cL [0,1,2,3,4,5] .done rfl (by kernel_rfl) (by kernel_rfl) (by decide) ?_;simp only [go_sem,simprocAttr];refine ⟨by omega,(y,x % y),aB ?_,?_,Nat.mod_lt _ (by omega)⟩
   ·simp only [go_sem,simprocAttr,yW]
   ·simp only;rw [← hg,Nat.gcd_comm x y,Nat.gcd_rec y x,Nat.gcd_comm]
  ·unfold awS;simp only [go_sem,simprocAttr];have hy:y=0:=by simpa using hb
   subst hy;rw [← hg,Nat.gcd_zero_right]
theorem nM (n:Int) (h:I64 n):aM Tryz.prog 180 [aC n] (dS n.natAbs):=by
 obtain ⟨h1,h2⟩:=h;refine aH Tryz.X180 Tryz.func180 rfl Tryz.ntmps180 (by rw [Tryz.results180]) (aD _ ?_);simp only [go_sem,simprocAttr];refine ⟨fun h=>?_,fun h=>?_⟩
 all_goals
  simp only [bxx] at h;unfold awS;simp only [go_sem,simprocAttr]
 ·have e1:IntKind.u64.wrap n=n+18446744073709551616:=yR (by omega) (by omega);rw [e1,yR (by omega) (by omega)];congr 3;omega
 ·rw [Ex (by omega) (by omega)];congr 3;omega
def gD (r:RatR):Bool:=decide (1≤r.den)&&decide (-9223372036854775808<r.num)&&decide (Nat.gcd r.num.natAbs r.den.natAbs=1)
theorem Jy {n:Int} (h : 0≤n):∃ k:Nat,n=k:=⟨n.toNat,by omega⟩
theorem Ug (r:RatR) (h:r.fit):aM Tryz.prog 103 [Cr r] (aS (gD r)):=by
 obtain ⟨⟨a1,a2⟩,b1,b2⟩:=h;refine aH Tryz.X103 Tryz.func103 rfl Tryz.ntmps103 (by rw [Tryz.results103]) (aD _ ?_);simp only [go_sem,simprocAttr];refine cL [0,1,2,3,4,5,6,7,8,9,10,11,12,13,14,15,16,17,18] .done rfl (by kernel_rfl) (by kernel_rfl) (by decide) ?_;simp only [go_sem,simprocAttr];refine ⟨_,fun _=>nM _ ⟨a1,a2⟩,?_⟩;simp only [go_sem,simprocAttr];refine ⟨dS (Nat.gcd r.num.natAbs r.den.natAbs),fun hg=>?_,?_⟩
 ·simp only [bxx] at hg;have e1:IntKind.u64.wrap r.den=((r.den.natAbs:Nat):Int):=by rw [Ex (by omega) (by omega)];omega
  rw [e1];exact Zt _ _
 simp only [go_sem,simprocAttr];have:(decide (r.den ≥ 1)&&decide (r.num > -9223372036854775808)&&(((Nat.gcd r.num.natAbs r.den.natAbs:Nat):Int)==1))=gD r:=by
  unfold gD;rw [Bool.eq_iff_iff];simp only [bxx];omega
 rw [this]
def aHx (r:RatR) (most:Int):Bool:=gD r&&decide (r.den≤65536)&&decide (-(most*r.den)≤r.num)&&decide (r.num≤most*r.den)
theorem aQc {m d:Int} (h0 : 0≤m) (h1:m≤1099511627776) (h2 : 1≤d) (h3:d≤65536) : 0≤m*d∧m*d≤72057594037927936:=by
 refine ⟨Int.mul_nonneg h0 (by omega),?_⟩
 calc m*d≤1099511627776*d:=Int.mul_le_mul_of_nonneg_right h1 (by omega)
  _≤1099511627776*65536:=Int.mul_le_mul_of_nonneg_left h3 (by omega)
  _=72057594037927936:=by decide
theorem aWx (r:RatR) {m:Int} (h0 : 0≤m) (h1:m≤1099511627776):(gD r&&decide (r.den≤65536)&&decide (r.num ≥ IntKind.i64.wrap (IntKind.i64.wrap (0 - m)*r.den))&&decide (r.num≤IntKind.i64.wrap (m*r.den)))=aHx r m:=by
 unfold aHx
 by_cases hv:gD r=true
 ·by_cases hd:r.den≤65536
  ·have hv':=hv;unfold gD at hv';simp only [bxx] at hv';obtain ⟨q1,q2⟩:=aQc h0 h1 hv'.1.1 hd;have e1:IntKind.i64.wrap (0 - m) = -m:=by rw [wrap64 (by omega) (by omega)];omega
   rw [e1,Int.neg_mul,wrap64 (x := -(m*r.den)) (by omega) (by omega),wrap64 (x:=m*r.den) (by omega) (by omega)]
  ·simp [hd]
 ·simp [hv]
theorem aHc (r:RatR) (m:Int) (h:r.fit) (h0 : 0≤m) (h1:m≤1099511627776):aM Tryz.prog 218 [Cr r,aC m] (aS (aHx r m)):=by
 refine aH Tryz.X218 Tryz.func218 rfl Tryz.ntmps218 (by rw [Tryz.results218]) (aD _ ?_);simp only [go_sem,simprocAttr];refine ⟨_,Ug r h,?_⟩;simp only [go_sem,simprocAttr];rw [aWx r h0 h1]
def pD (r:RatR) (m:Int):Bool:=decide (((r.num.natAbs:Nat):Int)≤m*r.den)
def baseN (p q:Nat):Nat:=if p > 4294967296∨q > 4294967296 then 0 else if p / Nat.gcd p q > 4294967296 / q then 0 else p / Nat.gcd p q*q
theorem aUp (p q:Nat):p / Nat.gcd p q*q=Nat.lcm p q:=by
 rw [Nat.lcm,Nat.mul_comm,Nat.mul_comm p q,Nat.mul_div_assoc q (Nat.gcd_dvd_left p q)]
def gH (l:List Int):Bool:=decide (l.length≤4)&&l.all fun c=>decide (-1≤c)&&decide (c≤3)
theorem gG {α : Type} {d : α} {p : α → Bool} {l:List α} {k:Nat} (h:k<l.length) (hp:p (l.getD k d)=false):l.all p=false:=by
 rw [List.getD_eq_getElem?_getD,List.getElem?_eq_getElem h,Option.getD_some] at hp;rw [Bool.eq_false_iff,ne_eq,List.all_eq_true];intro h';have:=h' _ (List.getElem_mem h);rw [hp] at this;cases this
theorem dE {α : Type} {d : α} {p : α → Bool} {l:List α} (h:∀ k,k<l.length→p (l.getD k d)=true):l.all p=true:=by
 rw [List.all_eq_true];intro c hc;obtain ⟨k,hk,rfl⟩:=List.mem_iff_getElem.1 hc;have:=h k hk;rwa [List.getD_eq_getElem?_getD,List.getElem?_eq_getElem hk,Option.getD_some] at this
theorem upto {p:Nat→Prop} {k:Nat} (h:∀ i,i<k→p i) (hk:p k):∀ i,i<k+1→p i:=fun i hi=>by
 rcases Nat.lt_or_ge i k with h3 | h3
 ·exact h i h3
 ·rw [show i=k from by omega];exact hk
theorem cPChans (l:List Int):aM Tryz.prog 176 [.t (bY l)] (aS (gH l)):=by
 refine aH Tryz.X176 Tryz.func176 rfl Tryz.ntmps176 (by rw [Tryz.results176]) (fD fun hf=>aD _ ?_);simp only [go_sem,simprocAttr,kW] at hf;have hl:l.length≤maxLen:=by first | exact hf.1 | exact hf.1.1
 simp only [go_sem,simprocAttr];refine ⟨fun h=>?_,fun h=>?_⟩
 ·unfold awS;simp only [go_sem,simprocAttr];simp only [bxx] at h;have:gH l=false:=by simp only [gH,Bool.and_eq_false_iff,decide_eq_false_iff_not];omega
  rw [this]
 ·unfold awS;simp only [go_sem,simprocAttr];simp only [bxx] at h;refine aF (fun (k:Nat) σ => cJ 10 (aC k) (bN [5,6,7] σ)) (fun k=>k≤l.length ∧ ∀ i,i<k→(decide (-1≤l.getD i 0)&&decide (l.getD i 0≤3))=true) (fun k=>l.length - k) 0 (aB ?_) ⟨Nat.zero_le _,by omega⟩ ?_
  ·simp only [go_sem,simprocAttr]<;>rfl
  ·rintro k ⟨hk,hi⟩;refine aD _ ?_;simp only [go_sem,simprocAttr];refine ⟨fun hlt=>?_,fun hge=>?_⟩
   ·simp only [bxx] at hlt;unfold awS;simp only [go_sem,simprocAttr];refine ⟨⟨by omega,by omega⟩,?_⟩;refine brW (b := !(decide (-1≤l.getD k 0)&&decide (l.getD k 0≤3))) ?_ ⟨fun hb=>?_,fun hb=>?_⟩
    ·rw [Bool.eq_iff_iff];simp only [bxx];omega
    ·unfold awS;simp only [go_sem,simprocAttr];unfold gH;rw [gG (d:=(0:Int)) (p:=fun c=>decide (-1≤c)&&decide (c≤3)) (k:=k) (by omega) (nt hb),Bool.and_false]
    ·unfold awS;simp only [go_sem,simprocAttr];refine ⟨k+1,aB ?_,⟨by omega,upto hi (nf hb)⟩,by omega⟩;simp only [go_sem,simprocAttr]<;>simp [dV (show k<l.length by omega) hl]
   ·simp only [bxx] at hge;unfold awS;simp only [go_sem,simprocAttr];unfold gH;rw [dE (d:=(0:Int)) (p:=fun c=>decide (-1≤c)&&decide (c≤3)) (fun i h2=>hi i (by omega)),Bool.and_true,decide_eq_true (by omega:l.length≤4)]
theorem aRj (k:Int):aM Tryz.prog 165 [aC k] (aS (k==2||k==3)):=by
 refine aH Tryz.X165 Tryz.func165 rfl Tryz.ntmps165 (by rw [Tryz.results165]) (aD _ ?_);simp only [go_sem,simprocAttr]
def aBe (s:SourceR):Nat:=Nat.lcm s.pos.den.natAbs s.speed.den.natAbs
def aY (s:SourceR):Bool:=s.isZ||((s.kind==1||s.kind==2)&&aT s.name&&gD s.pos&&gD s.speed&&pD s.pos 1099511627776&&pD s.speed 1024&&decide (aBe s≤65536))
theorem fM {r:RatR} (h:gD r=true) : 1≤r.den:=by
 unfold gD at h;simp only [bxx] at h;exact h.1.1
theorem aHe (r:RatR) (m:Int):aHx r m=(gD r&&decide (r.den≤65536)&&pD r m):=by
 unfold aHx pD;rw [Bool.and_assoc];congr 1;rw [Bool.eq_iff_iff];simp only [bxx];omega
theorem aUq {s:SourceR} (h1:gD s.pos=true) (h2:gD s.speed=true) (h:aBe s≤65536):s.pos.den≤65536∧s.speed.den≤65536:=by
 have d1:=fM h1;have d2:=fM h2;unfold aBe at h;have h3:s.pos.den.natAbs≤_:=Nat.le_of_dvd (Nat.lcm_pos (by omega) (by omega)) (Nat.dvd_lcm_left s.pos.den.natAbs s.speed.den.natAbs);have h4:s.speed.den.natAbs≤_:=Nat.le_of_dvd (Nat.lcm_pos (by omega) (by omega)) (Nat.dvd_lcm_right s.pos.den.natAbs s.speed.den.natAbs);omega
theorem aH4 (s:SourceR) (h:s.fit):aM Tryz.prog 177 [uL s] (aS (aY s)):=by
 refine aH Tryz.X177 Tryz.func177 rfl Tryz.ntmps177 (by rw [Tryz.results177]) (aD _ ?_);simp only [go_sem,simprocAttr];refine ⟨_,uC s zSource,?_⟩;refine brW (b:=s.isZ) ?_ ⟨fun hb=>?_,fun hb=>?_⟩
 ·rfl
 ·unfold awS;simp only [go_sem,simprocAttr];unfold aY;rw [hb];rfl
 ·unfold awS;simp only [go_sem,simprocAttr];refine ⟨_,fun _=>vM s.name,?_⟩;simp only [go_sem,simprocAttr];refine brW (b := !((s.kind==1||s.kind==2)&&aT s.name)) ?_ ⟨fun hc=>?_,fun hc=>?_⟩
  ·(try simp only [bne]);cases (s.kind==1)<;>cases (s.kind==2)<;>cases (aT s.name)<;>rfl
  ·unfold awS;simp only [go_sem,simprocAttr];have hc':=nt hc;unfold aY;rw [hb,hc'];rfl
  ·unfold awS;simp only [go_sem,simprocAttr];have hc':=nf hc;have hd:=h.speed.den.1;refine cL [0,1,2,3,4,5,6,7,8,9,10,11,12,13,14,15,16,17,18,19,20,21,22,23,24,25,26] .done rfl (by kernel_rfl) (by kernel_rfl) (by decide) ?_;simp only [go_sem,simprocAttr];refine ⟨_,aHc s.pos 1099511627776 h.pos (by omega) (by omega),?_⟩;simp only [go_sem,simprocAttr];refine ⟨_,fun _=>aHc s.speed 1024 h.speed (by omega) (by omega),?_⟩;simp only [go_sem,simprocAttr];refine ⟨aC (Nat.gcd s.pos.den.natAbs s.speed.den.natAbs),fun hg=>?_,?_⟩
   ·simp only [bxx,aHx] at hg;have d1:=fM hg.1.1.1.1;have d2:=fM hg.2.1.1.1;have e1:s.pos.den=((s.pos.den.natAbs:Nat):Int):=by omega
    have e2:s.speed.den=((s.speed.den.natAbs:Nat):Int):=by omega
    have:=aWq s.pos.den.natAbs s.speed.den.natAbs;rw [← e1, ← e2] at this;exact this
   simp only [go_sem,simprocAttr];refine ⟨fun hg=>?_,?_⟩
   ·simp only [bxx,aHx] at hg;have d1:=fM hg.1.1.1.1;have : 0<Nat.gcd s.pos.den.natAbs s.speed.den.natAbs:=Nat.gcd_pos_of_pos_left _ (by omega);omega
   ·rw [aHe,aHe];have key:(gD s.pos&&decide (s.pos.den≤65536)&&pD s.pos 1099511627776&&(gD s.speed&&decide (s.speed.den≤65536)&&pD s.speed 1024)&&decide (IntKind.i64.wrap (IntKind.i64.wrap (s.pos.den.tdiv ((Nat.gcd s.pos.den.natAbs s.speed.den.natAbs:Nat):Int))*s.speed.den)≤65536))=aY s:=by
     unfold aY;rw [hb,Bool.and_eq_true] at *;rw [Bool.false_or,hc'.1,hc'.2];cases h1:gD s.pos
     ·rfl
     cases h2:gD s.speed
     ·simp
     have d1:=fM h1;have d2:=fM h2;obtain ⟨p,hp⟩:=Jy (n:=s.pos.den) (by omega);obtain ⟨q,hq⟩:=Jy (n:=s.speed.den) (by omega);have p1 : 1≤p:=by omega
     have q1 : 1≤q:=by omega
     unfold aBe;have hb1:=h.pos.den.2;have hb2:=h.speed.den.2;rw [hp] at hb1;rw [hq] at hb2;simp only [hp,hq,Int.natAbs_natCast];have hle:p / Nat.gcd p q≤p:=Nat.div_le_self _ _
     by_cases hsm:p≤65536∧q≤65536
     ·have hm:p / Nat.gcd p q*q≤65536*65536:=Nat.mul_le_mul (by omega) hsm.2;have e0:IntKind.i64.wrap (IntKind.i64.wrap ((p:Int).tdiv ((Nat.gcd p q:Nat):Int))*(q:Int))=((Nat.lcm p q:Nat):Int):=by
       rw [mY,fG (by omega), ← Int.natCast_mul,fG (by omega),aUp]
      have e1:decide ((p:Int)≤65536)=true:=by simp;omega
      have e2:decide ((q:Int)≤65536)=true:=by simp;omega
      have e3:decide (((Nat.lcm p q:Nat):Int)≤65536)=decide (Nat.lcm p q≤65536):=by rw [Bool.eq_iff_iff];simp only [bxx];omega
      simp only [e0,e1,e2,e3]
      (try simp only [bne]);cases (pD s.pos 1099511627776)<;>cases (pD s.speed 1024)<;>cases (decide (Nat.lcm p q≤65536))<;>rfl
     ·have e1:(decide ((p:Int)≤65536)&&decide ((q:Int)≤65536))=false:=by simp;omega
      have h3:p≤Nat.lcm p q:=Nat.le_of_dvd (Nat.lcm_pos p1 q1) (Nat.dvd_lcm_left p q);have h4:q≤Nat.lcm p q:=Nat.le_of_dvd (Nat.lcm_pos p1 q1) (Nat.dvd_lcm_right p q);have e2:decide (Nat.lcm p q≤65536)=false:=by simp;omega
      rw [e2];revert e1;generalize decide ((p:Int)≤65536)=b1;generalize decide ((q:Int)≤65536)=b2;intro e1;cases b1<;>cases b2<;>simp_all
    rw [key]
open Go.RowKit
set_option maxRecDepth 4000
open Go.RowKit
set_option maxRecDepth 4000
def emp (s:ByteArray):Bool:=s.toList==(⟨#[]⟩:ByteArray).toList
def dW (c:ClipR):Bool:=decide (0≤c.off)&&decide (c.len≤c.total)&&decide (c.total≤2147483647)&&decide (c.off≤c.total - c.len)
def dX (c:ClipR):Bool:=c.off==0&&c.total==0
def cD (c:ClipR):Bool :=
 if c.kind=0 then c.a.isZ&&c.b.isZ&&dX c&&c.param==0&&emp c.text&&c.gain==0&&c.chan.length==0
 else if c.kind=1 then c.b.isZ&&dX c&&c.param==0&&emp c.text
 else if c.kind=2 then dW c&&c.param==0&&emp c.text
 else if c.kind=3 then dW c&&decide (0≤c.param)&&decide (c.param≤3)&&emp c.text
 else if c.kind=4 then dX c&&decide (0≤c.param)&&decide (c.param≤255)&&emp c.text
 else if c.kind=5 then c.b.isZ&&dX c&&c.param==0&&kL c.text
 else false
def nN (c:ClipR):Bool:=decide (1≤c.len)&&decide (c.len≤2147483647)&&decide (0≤c.gain)&&decide (c.gain≤65536)&&gH c.chan&&aY c.a&&aY c.b
def bB (c:ClipR):Bool:=nN c&&cD c
theorem cPClip (c:ClipR) (h:c.fit):aM Tryz.prog 100 [qG c] (aS (bB c)):=by
 refine aH Tryz.X100 Tryz.func100 rfl Tryz.ntmps100 (by rw [Tryz.results100]) (aD _ ?_);simp only [go_sem,simprocAttr];refine ⟨_,fun _=>cPChans c.chan,?_⟩;simp only [go_sem,simprocAttr];refine ⟨_,fun _=>aH4 c.a h.a,?_⟩;simp only [go_sem,simprocAttr];refine ⟨_,fun _=>aH4 c.b h.b,?_⟩;simp only [go_sem,simprocAttr];refine brW (b := !nN c) ?_ ⟨fun hb=>?_,fun hb=>?_⟩
 ·have:nN c=(decide (1≤c.len)&&decide (c.len≤2147483647)&&decide (0≤c.gain)&&decide (c.gain≤65536)&&gH c.chan&&aY c.a&&aY c.b):=rfl;rw [this];have e1:(decide (c.len<1)||decide (c.len > 2147483647)||decide (c.gain<0)||decide (c.gain > 65536)) = !(decide (1≤c.len)&&decide (c.len≤2147483647)&&decide (0≤c.gain)&&decide (c.gain≤65536)):=by rw [Bool.eq_iff_iff];simp only [bxx];omega
  rw [e1];simp only [Bool.not_and,Bool.not_not,Bool.or_assoc]
 ·unfold awS;simp only [go_sem,simprocAttr];unfold bB;rw [nt hb];rfl
 ·unfold awS;simp only [go_sem,simprocAttr];refine ⟨_,uC c.b zSource,?_⟩;refine cL [0,1,2,3,4,5,6,7] .done rfl (by kernel_rfl) (by kernel_rfl) (by decide) ?_;simp only [go_sem,simprocAttr];have hbo:(IntKind.i64.wrap (c.total - c.len))=c.total - c.len ∨ ¬ (0≤c.off∧c.len≤c.total∧c.total≤2147483647):=by
   have:=nf hb;unfold nN at this;simp only [bxx] at this
   by_cases hx : 0≤c.off∧c.len≤c.total∧c.total≤2147483647
   ·left;exact wrap64 (by omega) (by omega)
   ·right;exact hx
  have hsh:(decide (c.off ≥ 0)&&decide (c.total ≥ c.len)&&decide (c.total≤2147483647)&&decide (c.off≤IntKind.i64.wrap (c.total - c.len)))=dW c:=by
   unfold dW;rcases hbo with e | e
   ·rw [e];first | done | (rw [Bool.eq_iff_iff];simp only [bxx];omega)
   ·rw [Bool.eq_iff_iff];simp only [bxx];omega
  rw [hsh];have hv:bB c=cD c:=by unfold bB;rw [nf hb,Bool.true_and]
  rw [hv];refine ⟨fun hk=>?_,fun hk0=>?_⟩
  ·simp only [bxx] at hk;unfold awS;simp only [go_sem,simprocAttr];refine ⟨_,uC c.a zSource,?_⟩;unfold cD;rw [if_pos hk];have e1:(((c.chan.length:Nat):Int)==0)=(c.chan.length==0):=by rw [Bool.eq_iff_iff];simp only [bxx];omega
   rw [e1];rfl
  unfold awS;simp only [go_sem,simprocAttr];refine ⟨fun hk=>?_,fun hk1=>?_⟩
  ·simp only [bxx] at hk;unfold awS;simp only [go_sem,simprocAttr];unfold cD;rw [if_neg (by omega),if_pos hk];rfl
  unfold awS;simp only [go_sem,simprocAttr];refine ⟨fun hk=>?_,fun hk2=>?_⟩
  ·simp only [bxx] at hk;unfold awS;simp only [go_sem,simprocAttr];unfold cD;rw [if_neg (by omega),if_neg (by omega),if_pos hk];rfl
  unfold awS;simp only [go_sem,simprocAttr];refine ⟨fun hk=>?_,fun hk3=>?_⟩
  ·simp only [bxx] at hk;unfold awS;simp only [go_sem,simprocAttr];unfold cD;rw [if_neg (by omega),if_neg (by omega),if_neg (by omega),if_pos hk];rfl
  unfold awS;simp only [go_sem,simprocAttr];refine ⟨fun hk=>?_,fun hk4=>?_⟩
  ·simp only [bxx] at hk;unfold awS;simp only [go_sem,simprocAttr];unfold cD;rw [if_neg (by omega),if_neg (by omega),if_neg (by omega),if_neg (by omega),if_pos hk];rfl
  unfold awS;simp only [go_sem,simprocAttr];refine ⟨fun hk=>?_,fun hk5=>?_⟩
  ·simp only [bxx] at hk;unfold awS;simp only [go_sem,simprocAttr];refine ⟨_,fun _=>aWd c.text,?_⟩;simp only [go_sem,simprocAttr];unfold cD;rw [if_neg (by omega),if_neg (by omega),if_neg (by omega),if_neg (by omega),if_neg (by omega),if_pos hk];rfl
  unfold awS;simp only [go_sem,simprocAttr];simp only [bxx] at hk0;simp only [bxx] at hk1;simp only [bxx] at hk2;simp only [bxx] at hk3;simp only [bxx] at hk4;simp only [bxx] at hk5;unfold cD;rw [if_neg hk0,if_neg hk1,if_neg hk2,if_neg hk3,if_neg hk4,if_neg hk5]
end Go.Proofs.YtbfnemkngoaeeaaGreat
