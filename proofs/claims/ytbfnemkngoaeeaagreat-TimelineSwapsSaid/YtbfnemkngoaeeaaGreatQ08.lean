/- Proved here: Contracts of the functions that look at names and lines of text; conditions stand in each theorem. -/
import Derived.Test.YtbfnemkngoaeeaaGreatQ07
import Derived.Laws.StructEq
set_option linter.unusedSimpArgs false
set_option linter.unusedVariables false
set_option linter.unusedSectionVars false
set_option linter.unnecessarySimpa false
namespace Go.Proofs.YtbfnemkngoaeeaaGreat
open Go.RowKit
set_option maxRecDepth 4000
theorem aCk (s:ByteArray):aN Tryz.prog 124 [bP s] (aP (cG s)):=by
 refine aH Tryz.X124 Tryz.func124 rfl Tryz.ntmps124 (by rw [Tryz.results124]) (cE fun hf=>aD _ ?_);simp only [go_sem,simprocAttr,dF] at hf;have hl:s.size≤maxLen:=hf;simp only [go_sem,simprocAttr];refine ⟨fun h=>?_,fun h=>?_⟩
 ·unfold awS;simp only [go_sem,simprocAttr];have:cG s=false:=by
   simp only [bxx] at h;simp only [cG,Bool.and_eq_false_iff,decide_eq_false_iff_not];omega
  rw [this]
 ·unfold awS;simp only [go_sem,simprocAttr];refine aF (fun (k:Nat) σ => bL 15 (aC k) (aX [5,6,7,8,9,10,11,12,13] σ)) (fun k=>k≤s.size ∧ ∀ i,i<k→nmI (gU s i)=true) (fun k=>s.size - k) 0 (aA ?_) ⟨Nat.zero_le _,by omega⟩ ?_
  ·simp only [go_sem,simprocAttr]<;>rfl
  ·rintro k ⟨hk,hi⟩;refine aD _ ?_;simp only [go_sem,simprocAttr];refine ⟨fun hlt=>?_,fun hge=>?_⟩
   all_goals simp only [decide_eq_true_eq,decide_eq_false_iff_not,Int.ofNat_lt] at *
   ·unfold awS;simp only [go_sem,simprocAttr];refine ⟨⟨by omega,by omega⟩,?_⟩;refine brW (b := !nmI (gU s k)) ?_ ⟨fun hb=>?_,fun hb=>?_⟩
    ·unfold gU nmI;rw [Bool.eq_iff_iff];simp only [bxx];omega
    ·unfold awS;simp only [go_sem,simprocAttr];rw [cG,xY hlt (by simpa using hb)];simp
    ·unfold awS;simp only [go_sem,simprocAttr];refine ⟨k+1,aA ?_,⟨hlt,fun i h2=>?_⟩,by omega⟩
     ·simp only [go_sem,simprocAttr]<;>simp [cY hlt hl]
     ·rcases Nat.lt_or_ge i k with h3 | h3
      ·exact hi i h3
      ·rw [show i=k from by omega];simpa using hb
   ·unfold awS;simp only [go_sem,simprocAttr];rw [cG,tX (fun i h2=>hi i (by omega))];simp only [bxx] at h;simp;omega
theorem aCj (s:ByteArray):aN Tryz.prog 131 [bP s] (aP (cG s)):=by
 refine aH Tryz.X131 Tryz.func131 rfl Tryz.ntmps131 (by rw [Tryz.results131]) (cE fun hf=>aD _ ?_);simp only [go_sem,simprocAttr,dF] at hf;have hl:s.size≤maxLen:=hf;simp only [go_sem,simprocAttr];refine aF (fun (k:Nat) σ => bL 3 (aC k) σ) (fun k=>k≤s.size ∧ ∀ i,i<k→nmI (gU s i)=true) (fun k=>s.size - k) 0 (aA ?_) ⟨Nat.zero_le _,by omega⟩ ?_
 ·simp only [go_sem,simprocAttr]<;>rfl
 ·rintro k ⟨hk,hi⟩;refine aD _ ?_;simp only [go_sem,simprocAttr];refine ⟨fun hlt=>?_,fun hge=>?_⟩
  all_goals simp only [decide_eq_true_eq,decide_eq_false_iff_not,Int.ofNat_lt] at *
  ·unfold awS;simp only [go_sem,simprocAttr];refine ⟨⟨by omega,by omega⟩,?_⟩;refine brW (b := !nmI (gU s k)) ?_ ⟨fun hb=>?_,fun hb=>?_⟩
   ·unfold gU nmI;rw [Bool.eq_iff_iff];simp only [bxx];omega
   ·unfold awS;simp only [go_sem,simprocAttr];rw [cG,xY hlt (by simpa using hb)];simp
   ·unfold awS;simp only [go_sem,simprocAttr];refine ⟨k+1,aA ?_,⟨hlt,fun i h2=>?_⟩,by omega⟩
    ·simp only [go_sem,simprocAttr]<;>simp [cY hlt hl]
    ·rcases Nat.lt_or_ge i k with h3 | h3
     ·exact hi i h3
     ·rw [show i=k from by omega];simpa using hb
  ·unfold awS;simp only [go_sem,simprocAttr];rw [cG,tX (fun i h2=>hi i (by omega)),Bool.and_true];have:(decide ((s.size:Int) ≥ 1)&&decide ((s.size:Int)≤32))=(decide (1≤s.size)&&decide (s.size≤32)):=by
    rw [Bool.eq_iff_iff];simp only [bxx];omega
   rw [this]
theorem aN2 (s:ByteArray):aN Tryz.prog 178 [bP s] (aP (fS s)):=by
 refine aH Tryz.X178 Tryz.func178 rfl Tryz.ntmps178 (by rw [Tryz.results178]) (cE fun hf=>aD _ ?_);simp only [go_sem,simprocAttr,dF] at hf;have hl:s.size≤maxLen:=hf;simp only [go_sem,simprocAttr];refine ⟨fun h=>?_,fun h=>?_⟩
 ·unfold awS;simp only [go_sem,simprocAttr];have:fS s=false:=by
   simp only [bxx] at h;simp only [fS,Bool.and_eq_false_iff,decide_eq_false_iff_not];omega
  rw [this]
 ·unfold awS;simp only [go_sem,simprocAttr];refine aF (fun (k:Nat) σ => bL 14 (aC k) (aX [4,5,6,7,8,9,10,11,12] σ)) (fun k=>k≤s.size ∧ ∀ i,i<k→lnI (gU s i)=true) (fun k=>s.size - k) 0 (aA ?_) ⟨Nat.zero_le _,by omega⟩ ?_
  ·simp only [go_sem,simprocAttr]<;>rfl
  ·rintro k ⟨hk,hi⟩;refine aD _ ?_;simp only [go_sem,simprocAttr];refine ⟨fun hlt=>?_,fun hge=>?_⟩
   all_goals simp only [decide_eq_true_eq,decide_eq_false_iff_not,Int.ofNat_lt] at *
   ·unfold awS;simp only [go_sem,simprocAttr];refine ⟨⟨by omega,by omega⟩,fun _=>⟨by omega,by omega⟩,?_⟩;refine brW (b := !lnI (gU s k)) ?_ ⟨fun hb=>?_,fun hb=>?_⟩
    ·unfold gU lnI;rw [Bool.eq_iff_iff];simp only [bxx];omega
    ·unfold awS;simp only [go_sem,simprocAttr];rw [fS,xY hlt (by simpa using hb)];simp
    ·unfold awS;simp only [go_sem,simprocAttr];refine ⟨k+1,aA ?_,⟨hlt,fun i h2=>?_⟩,by omega⟩
     ·simp only [go_sem,simprocAttr]<;>simp [cY hlt hl]
     ·rcases Nat.lt_or_ge i k with h3 | h3
      ·exact hi i h3
      ·rw [show i=k from by omega];simpa using hb
   ·unfold awS;simp only [go_sem,simprocAttr];rw [fS,tX (fun i h2=>hi i (by omega))];simp only [bxx] at h;simp;omega
theorem aMu (s:ByteArray):aN Tryz.prog 264 [bP s] (aP (fS s)):=by
 refine aH Tryz.X264 Tryz.func264 rfl Tryz.ntmps264 (by rw [Tryz.results264]) (cE fun hf=>aD _ ?_);simp only [go_sem,simprocAttr,dF] at hf;have hl:s.size≤maxLen:=hf;simp only [go_sem,simprocAttr];refine aF (fun (k:Nat) σ => bL 3 (aC k) σ) (fun k=>k≤s.size ∧ ∀ i,i<k→lnI (gU s i)=true) (fun k=>s.size - k) 0 (aA ?_) ⟨Nat.zero_le _,by omega⟩ ?_
 ·simp only [go_sem,simprocAttr]<;>rfl
 ·rintro k ⟨hk,hi⟩;refine aD _ ?_;simp only [go_sem,simprocAttr];refine ⟨fun hlt=>?_,fun hge=>?_⟩
  all_goals simp only [decide_eq_true_eq,decide_eq_false_iff_not,Int.ofNat_lt] at *
  ·unfold awS;simp only [go_sem,simprocAttr];refine ⟨⟨by omega,by omega⟩,fun _=>⟨by omega,by omega⟩,?_⟩;refine brW (b := !lnI (gU s k)) ?_ ⟨fun hb=>?_,fun hb=>?_⟩
   ·unfold gU lnI;rw [Bool.eq_iff_iff];simp only [bxx];omega
   ·unfold awS;simp only [go_sem,simprocAttr];rw [fS,xY hlt (by simpa using hb)];simp
   ·unfold awS;simp only [go_sem,simprocAttr];refine ⟨k+1,aA ?_,⟨hlt,fun i h2=>?_⟩,by omega⟩
    ·simp only [go_sem,simprocAttr]<;>simp [cY hlt hl]
    ·rcases Nat.lt_or_ge i k with h3 | h3
     ·exact hi i h3
     ·rw [show i=k from by omega];simpa using hb
  ·unfold awS;simp only [go_sem,simprocAttr];rw [fS,tX (fun i h2=>hi i (by omega)),Bool.and_true];have:(decide ((s.size:Int) ≥ 1)&&decide ((s.size:Int)≤64))=(decide (1≤s.size)&&decide (s.size≤64)):=by
    rw [Bool.eq_iff_iff];simp only [bxx];omega
   rw [this]
open Go.RowKit
set_option maxRecDepth 4000
theorem Dq {w:World} {E:Env} {a b c d e f g:V} {vs:Array Value} (h:RdVs w E [a,b,c,d,e,f,g] vs.toList):∃ x1 x2 x3 x4 x5 x6 x7,vs = #[x1,x2,x3,x4,x5,x6,x7]∧RdV w E a x1∧RdV w E b x2∧RdV w E c x3∧RdV w E d x4∧RdV w E e x5∧RdV w E f x6∧RdV w E g x7:=by
 obtain ⟨l⟩:=vs;rcases l with _ | ⟨x1,_ | ⟨x2,_ | ⟨x3,_ | ⟨x4,_ | ⟨x5,_ | ⟨x6,_ | ⟨x7,_ | ⟨x8,l⟩⟩⟩⟩⟩⟩⟩⟩<;>simp only [RdVs,and_false,and_true] at h
 exact ⟨x1,x2,x3,x4,x5,x6,x7,rfl,h⟩
theorem Nv {w:World} {E:Env} {a b:V} {vs:Array Value} (h:RdVs w E [a,b] vs.toList):∃ x1 x2,vs = #[x1,x2]∧RdV w E a x1∧RdV w E b x2:=by
 obtain ⟨l⟩:=vs;rcases l with _ | ⟨x1,_ | ⟨x2,_ | ⟨x3,l⟩⟩⟩<;>simp only [RdVs,and_false,and_true] at h
 exact ⟨x1,x2,rfl,h⟩
def RatR.eqb (s t:RatR):Bool:=s.num==t.num&&s.den==t.den
theorem Zu (s t:RatR):EqV Tryz.prog 30 [aC s.num,aC s.den] [aC t.num,aC t.den] (s.eqb t):=by
 intro w E vs us h1 h2;obtain ⟨x1,x2,rfl,h1,h2'⟩:=Nv h1;obtain ⟨y1,y2,rfl,k1,k2⟩:=Nv h2;rw [(aG h1).1,(aG h2').1,(aG k1).1,(aG k2).1];constructor
 ·unfold Op.equal;simp [go_sem,Op.maxDepth];unfold RatR.eqb
  repeat' split
  all_goals simp_all
 ·intro p q;unfold eqGuard;simp [Tryz.eqGuardType30]
def SourceR.eqb (s t:SourceR):Bool:=s.kind==t.kind&&(s.name.toList==t.name.toList)&&s.pos.num==t.pos.num&&s.pos.den==t.pos.den&&s.speed.num==t.speed.num&&s.speed.den==t.speed.den&&(s.smooth==t.smooth)
theorem gF (s t:SourceR):EqV Tryz.prog 101 [aC s.kind,bP s.name,aC s.pos.num,aC s.pos.den,aC s.speed.num,aC s.speed.den,aP s.smooth] [aC t.kind,bP t.name,aC t.pos.num,aC t.pos.den,aC t.speed.num,aC t.speed.den,aP t.smooth] (s.eqb t):=by
 intro w E vs us h1 h2;obtain ⟨x1,x2,x3,x4,x5,x6,x7,rfl,h1,h2',h3,h4,h5,h6,h7⟩:=Dq h1;obtain ⟨y1,y2,y3,y4,y5,y6,y7,rfl,k1,k2,k3,k4,k5,k6,k7⟩:=Dq h2;rw [(aG h1).1,(aG h2').1,(aG h3).1,(aG h4).1,(aG h5).1,(aG h6).1,(aG h7).1,(aG k1).1,(aG k2).1,(aG k3).1,(aG k4).1,(aG k5).1,(aG k6).1,(aG k7).1];constructor
 ·unfold Op.equal;simp [go_sem,Op.maxDepth];unfold SourceR.eqb
  repeat' split
  all_goals simp_all
 ·intro p q;unfold eqGuard;simp [Tryz.eqGuardType101]
abbrev zSource:SourceR:=⟨0,⟨#[]⟩,⟨0,0⟩,⟨0,0⟩,false⟩
def SourceR.isZ (s:SourceR):Bool:=s.eqb zSource
theorem jL (a b:Nat):((a:Int)).tmod (b:Int)=((a % b:Nat):Int):=by
 rw [Int.tmod_eq_emod_of_nonneg (by omega)];rfl
theorem fY (a b:Nat):((a:Int)).tdiv (b:Int)=((a / b:Nat):Int):=by
 rw [Int.tdiv_eq_ediv_of_nonneg (by omega)];rfl
theorem aA9 (a b:Nat):aN Tryz.prog 179 [dB a,dB b] (dB (Nat.gcd a b)):=by
 refine aH Tryz.X179 Tryz.func179 rfl Tryz.ntmps179 (by rw [Tryz.results179]) (aD _ ?_);simp only [go_sem,simprocAttr];refine aF (fun (x:Nat×Nat) σ => bL 0 (dB x.1) (bL 1 (dB x.2) σ)) (fun x=>Nat.gcd x.1 x.2=Nat.gcd a b) (fun x=>x.2) (a,b) (aA ?_) rfl ?_
 ·simp only [go_sem,simprocAttr]
 ·rintro ⟨x,y⟩ hg;simp only at hg;refine aD _ ?_;simp only [go_sem,simprocAttr];refine brW (b := !decide (y=0)) ?_ ⟨fun hb=>?_,fun hb=>?_⟩
  ·rw [Bool.eq_iff_iff];simp only [bxx];omega
  ·unfold awS;simp only [go_sem,simprocAttr];have hy:y≠0:=by simpa using hb
   refine bM [0,1,2,3,4,5] .done rfl (by kernel_rfl) (by kernel_rfl) (by decide) ?_;simp only [go_sem,simprocAttr];refine ⟨by omega,(y,x % y),aA ?_,?_,Nat.mod_lt _ (by omega)⟩
   ·simp only [go_sem,simprocAttr,jL]
   ·simp only;rw [← hg,Nat.gcd_comm x y,Nat.gcd_rec y x,Nat.gcd_comm]
  ·unfold awS;simp only [go_sem,simprocAttr];have hy:y=0:=by simpa using hb
   subst hy;rw [← hg,Nat.gcd_zero_right]
theorem aN8 (a b:Nat):aN Tryz.prog 224 [aC a,aC b] (aC (Nat.gcd a b)):=by
 refine aH Tryz.X224 Tryz.func224 rfl Tryz.ntmps224 (by rw [Tryz.results224]) (aD _ ?_);simp only [go_sem,simprocAttr];refine aF (fun (x:Nat×Nat) σ => bL 0 (aC x.1) (bL 1 (aC x.2) σ)) (fun x=>Nat.gcd x.1 x.2=Nat.gcd a b) (fun x=>x.2) (a,b) (aA ?_) rfl ?_
 ·simp only [go_sem,simprocAttr]
 ·rintro ⟨x,y⟩ hg;simp only at hg;refine aD _ ?_;simp only [go_sem,simprocAttr];refine brW (b := !decide (y=0)) ?_ ⟨fun hb=>?_,fun hb=>?_⟩
  ·rw [Bool.eq_iff_iff];simp only [bxx];omega
  ·unfold awS;simp only [go_sem,simprocAttr];have hy:y≠0:=by simpa using hb
   refine bM [0,1,2,3,4,5] .done rfl (by kernel_rfl) (by kernel_rfl) (by decide) ?_;simp only [go_sem,simprocAttr];refine ⟨by omega,(y,x % y),aA ?_,?_,Nat.mod_lt _ (by omega)⟩
   ·simp only [go_sem,simprocAttr,jL]
   ·simp only;rw [← hg,Nat.gcd_comm x y,Nat.gcd_rec y x,Nat.gcd_comm]
  ·unfold awS;simp only [go_sem,simprocAttr];have hy:y=0:=by simpa using hb
   subst hy;rw [← hg,Nat.gcd_zero_right]
theorem cRGcd (a:Int) (b:Nat) (ha : -9223372036854775807≤a) (ha2:a≤9223372036854775807):aN Tryz.prog 263 [aC a,aC b] (aC (Nat.gcd a.natAbs b)):=by
 refine aH Tryz.X263 Tryz.func263 rfl Tryz.ntmps263 (by rw [Tryz.results263]) (aD _ ?_);simp only [go_sem,simprocAttr];refine ⟨fun h=>?_,fun h=>?_⟩
 all_goals
  unfold awS;simp only [go_sem,simprocAttr];refine aF (fun (x:Nat×Nat) σ => bL 0 (aC x.1) (bL 1 (aC x.2) (aX [7,8] σ))) (fun x=>Nat.gcd x.1 x.2=Nat.gcd a.natAbs b) (fun x=>x.2) (a.natAbs,b) (aA ?_) rfl ?_
  ·simp only [bxx] at h;simp only [go_sem,simprocAttr]
   first | (rw [wrap64 (by omega) (by omega)];congr 3;omega) | (congr 3;omega)
  ·rintro ⟨x,y⟩ hg;simp only at hg;refine aD _ ?_;simp only [go_sem,simprocAttr];refine brW (b := !decide (y=0)) ?_ ⟨fun hb=>?_,fun hb=>?_⟩
   ·rw [Bool.eq_iff_iff];simp only [bxx];omega
   ·unfold awS;simp only [go_sem,simprocAttr];have hy:y≠0:=by simpa using hb
    refine bM [0,1,2,3,4,5] .done rfl (by kernel_rfl) (by kernel_rfl) (by decide) ?_;simp only [go_sem,simprocAttr];refine ⟨by omega,(y,x % y),aA ?_,?_,Nat.mod_lt _ (by omega)⟩
    ·simp only [go_sem,simprocAttr,jL]
    ·simp only;rw [← hg,Nat.gcd_comm x y,Nat.gcd_rec y x,Nat.gcd_comm]
   ·unfold awS;simp only [go_sem,simprocAttr];have hy:y=0:=by simpa using hb
    subst hy;rw [← hg,Nat.gcd_zero_right]
theorem qN (n:Int) (h:I64 n):aN Tryz.prog 180 [aC n] (dB n.natAbs):=by
 obtain ⟨h1,h2⟩:=h;refine aH Tryz.X180 Tryz.func180 rfl Tryz.ntmps180 (by rw [Tryz.results180]) (aD _ ?_);simp only [go_sem,simprocAttr];refine ⟨fun h=>?_,fun h=>?_⟩
 all_goals
  simp only [bxx] at h;unfold awS;simp only [go_sem,simprocAttr]
 ·have e1:IntKind.u64.wrap n=n+18446744073709551616:=uP (by omega) (by omega);rw [e1,uP (by omega) (by omega)];congr 3;omega
 ·rw [Sb (by omega) (by omega)];congr 3;omega
def dL (r:RatR):Bool:=decide (1≤r.den)&&decide (-9223372036854775808<r.num)&&decide (Nat.gcd r.num.natAbs r.den.natAbs=1)
theorem tL {n:Int} (h : 0≤n):∃ k:Nat,n=k:=⟨n.toNat,by omega⟩
theorem Rn (r:RatR) (h:r.fit):aN Tryz.prog 103 [uK r] (aP (dL r)):=by
 obtain ⟨⟨a1,a2⟩,b1,b2⟩:=h;refine aH Tryz.X103 Tryz.func103 rfl Tryz.ntmps103 (by rw [Tryz.results103]) (aD _ ?_);simp only [go_sem,simprocAttr];refine bM [0,1,2,3,4,5,6,7,8,9,10,11,12,13,14,15,16,17,18] .done rfl (by kernel_rfl) (by kernel_rfl) (by decide) ?_;simp only [go_sem,simprocAttr];refine ⟨_,fun _=>qN _ ⟨a1,a2⟩,?_⟩;simp only [go_sem,simprocAttr];refine ⟨dB (Nat.gcd r.num.natAbs r.den.natAbs),fun hg=>?_,?_⟩
 ·simp only [bxx] at hg;have e1:IntKind.u64.wrap r.den=((r.den.natAbs:Nat):Int):=by rw [Sb (by omega) (by omega)];omega
  rw [e1];exact aA9 _ _
 simp only [go_sem,simprocAttr];have:(decide (r.den ≥ 1)&&decide (r.num > -9223372036854775808)&&(((Nat.gcd r.num.natAbs r.den.natAbs:Nat):Int)==1))=dL r:=by
  unfold dL;rw [Bool.eq_iff_iff];simp only [bxx];omega
 rw [this]
theorem aMt (r:RatR) (h:r.fit):aN Tryz.prog 246 [uK r] (aP (dL r)):=by
 obtain ⟨⟨a1,a2⟩,b1,b2⟩:=h;refine aH Tryz.X246 Tryz.func246 rfl Tryz.ntmps246 (by rw [Tryz.results246]) (aD _ ?_);simp only [go_sem,simprocAttr];refine ⟨aC (Nat.gcd r.num.natAbs r.den.natAbs),fun hg=>?_,?_⟩
 ·simp only [bxx] at hg;have e1:r.den=((r.den.natAbs:Nat):Int):=by omega
  have:=cRGcd r.num r.den.natAbs (by omega) (by omega);rw [← e1] at this;exact this
 simp only [go_sem,simprocAttr];have:(decide (r.den ≥ 1)&&decide (r.num > -9223372036854775808)&&(((Nat.gcd r.num.natAbs r.den.natAbs:Nat):Int)==1))=dL r:=by
  unfold dL;rw [Bool.eq_iff_iff];simp only [bxx];omega
 rw [this]
def Gx (r:RatR) (most:Int):Bool:=dL r&&decide (r.den≤65536)&&decide (-(most*r.den)≤r.num)&&decide (r.num≤most*r.den)
theorem aGb {m d:Int} (h0 : 0≤m) (h1:m≤1099511627776) (h2 : 1≤d) (h3:d≤65536) : 0≤m*d∧m*d≤72057594037927936:=by
 refine ⟨Int.mul_nonneg h0 (by omega),?_⟩
 calc m*d≤1099511627776*d:=Int.mul_le_mul_of_nonneg_right h1 (by omega)
  _≤1099511627776*65536:=Int.mul_le_mul_of_nonneg_left h3 (by omega)
  _=72057594037927936:=by decide
theorem aNj (r:RatR) {m:Int} (h0 : 0≤m) (h1:m≤1099511627776):(dL r&&decide (r.den≤65536)&&decide (r.num ≥ IntKind.i64.wrap (IntKind.i64.wrap (0 - m)*r.den))&&decide (r.num≤IntKind.i64.wrap (m*r.den)))=Gx r m:=by
 unfold Gx
 by_cases hv:dL r=true
 ·by_cases hd:r.den≤65536
  ·have hv':=hv;unfold dL at hv';simp only [bxx] at hv';obtain ⟨q1,q2⟩:=aGb h0 h1 hv'.1.1 hd;have e1:IntKind.i64.wrap (0 - m) = -m:=by rw [wrap64 (by omega) (by omega)];omega
   rw [e1,Int.neg_mul,wrap64 (x := -(m*r.den)) (by omega) (by omega),wrap64 (x:=m*r.den) (by omega) (by omega)]
  ·simp [hd]
 ·simp [hv]
theorem Mg (r:RatR) (m:Int) (h:r.fit) (h0 : 0≤m) (h1:m≤1099511627776):aN Tryz.prog 218 [uK r,aC m] (aP (Gx r m)):=by
 refine aH Tryz.X218 Tryz.func218 rfl Tryz.ntmps218 (by rw [Tryz.results218]) (aD _ ?_);simp only [go_sem,simprocAttr];refine ⟨_,Rn r h,?_⟩;simp only [go_sem,simprocAttr];rw [aNj r h0 h1]
def eE (r:RatR) (m:Int):Bool:=decide (((r.num.natAbs:Nat):Int)≤m*r.den)
theorem Nm {n d m:Nat} (hd : 0<d):(decide (((n / d:Nat):Int)<(m:Int))||(((n / d:Nat):Int)==(m:Int))&&(((n % d:Nat):Int)==0))=decide ((n:Int)≤(m:Int)*(d:Int)):=by
 have h1:=Nat.div_add_mod n d;have h2:=Nat.mod_lt n hd;rw [Bool.eq_iff_iff];simp only [Bool.or_eq_true,Bool.and_eq_true,decide_eq_true_eq,beq_iff_eq];have e1:((n:Int)≤(m:Int)*(d:Int)) ↔ n≤m*d:=by rw [← Int.natCast_mul];omega
 rw [e1];constructor
 ·rintro (h | ⟨h,h'⟩)
  ·have h3:n / d+1≤m:=by omega
   have:=Nat.mul_le_mul_right d h3;rw [Nat.add_mul,Nat.mul_comm (n / d)] at this;omega
  ·have h3:n / d=m:=by omega
   have h4:n % d=0:=by omega
   rw [h3,h4,Nat.mul_comm d] at h1;omega
 ·intro h;have h3:n / d≤m:=by
   have:=Nat.div_le_div_right (c:=d) h;rwa [Nat.mul_div_cancel _ hd] at this
  rcases Nat.lt_or_ge (n / d) m with h4 | h4
  ·left;omega
  ·right;have h5:n / d=m:=by omega
   refine ⟨by omega,?_⟩;rw [h5,Nat.mul_comm d] at h1;omega
theorem aEm (r:RatR) (m:Nat) (h:r.fit) (hv:dL r=true):aN Tryz.prog 270 [uK r,aC m] (aP (eE r m)):=by
 unfold dL at hv;simp only [bxx] at hv;obtain ⟨⟨a1,a2⟩,b1,b2⟩:=h;obtain ⟨d,hd⟩:=tL (n:=r.den) (by omega);refine aH Tryz.X270 Tryz.func270 rfl Tryz.ntmps270 (by rw [Tryz.results270]) (aD _ ?_);simp only [go_sem,simprocAttr];refine ⟨fun h=>?_,fun h=>?_⟩
 all_goals
  simp only [bxx] at h;unfold awS;simp only [go_sem,simprocAttr]
 ·have e1:IntKind.i64.wrap (0 - r.num)=((r.num.natAbs:Nat):Int):=by rw [wrap64 (by omega) (by omega)];omega
  have hq:r.num.natAbs / d≤r.num.natAbs:=Nat.div_le_self _ _;rw [e1,hd,fY,jL,fV (by omega),Nm (by omega)];unfold eE;rw [hd];exact ⟨by omega,fun _=>by omega,fun _=>by omega,rfl⟩
 ·have e1:r.num=((r.num.natAbs:Nat):Int):=by omega
  have hq:r.num.natAbs / d≤r.num.natAbs:=Nat.div_le_self _ _;have e2:eE r m=decide (((r.num.natAbs:Nat):Int)≤m*(d:Int)):=by unfold eE;rw [hd]
  rw [e2,e1,hd,fY,jL,fV (by omega),Nm (by omega)];exact ⟨by omega,fun _=>by omega,fun _=>by omega,rfl⟩
def wK (p q:Nat):Nat:=if p > 4294967296∨q > 4294967296 then 0 else if p / Nat.gcd p q > 4294967296 / q then 0 else p / Nat.gcd p q*q
theorem Ub (p q:Nat):p / Nat.gcd p q*q=Nat.lcm p q:=by
 rw [Nat.lcm,Nat.mul_comm,Nat.mul_comm p q,Nat.mul_div_assoc q (Nat.gcd_dvd_left p q)]
theorem aNn {p q:Nat} (hp : 1≤p) (hq : 1≤q) (h:Nat.lcm p q≤65536):wK p q=Nat.lcm p q:=by
 have h1:p≤Nat.lcm p q:=Nat.le_of_dvd (Nat.lcm_pos hp hq) (Nat.dvd_lcm_left p q);have h2:q≤Nat.lcm p q:=Nat.le_of_dvd (Nat.lcm_pos hp hq) (Nat.dvd_lcm_right p q);have h3:p / Nat.gcd p q≤4294967296 / q:=by
  rw [Nat.le_div_iff_mul_le hq,Ub];omega
 unfold wK;rw [if_neg (by omega),if_neg (by omega),Ub]
theorem aHg {p q:Nat} (hp : 1≤p) (hq : 1≤q) (h : ¬ Nat.lcm p q≤65536):wK p q=0∨65536<wK p q:=by
 unfold wK;split
 ·exact .inl rfl
 ·split
  ·exact .inl rfl
  ·rw [Ub];omega
theorem cBase (s:SourceR) {p q:Nat} (hp:s.pos.den=p) (hq:s.speed.den=q) (h1 : 1≤p) (h2 : 1≤q) (h3:p≤9223372036854775807) (h4:q≤9223372036854775807):aN Tryz.prog 271 [mM s] (aC (wK p q)):=by
 refine aH Tryz.X271 Tryz.func271 rfl Tryz.ntmps271 (by rw [Tryz.results271]) (aD _ ?_);simp only [go_sem,simprocAttr,hp,hq];refine brW (b:=decide (p > 4294967296∨q > 4294967296)) ?_ ⟨fun hb=>?_,fun hb=>?_⟩
 ·rw [Bool.eq_iff_iff];simp only [bxx];omega
 ·unfold awS;simp only [go_sem,simprocAttr];simp only [decide_eq_true_eq] at hb;unfold wK;rw [if_pos hb];rfl
 ·unfold awS;simp only [go_sem,simprocAttr];simp only [decide_eq_false_iff_not] at hb;refine bM [0,1,2,3,4,5,6,7,8,9,10,11] .done rfl (by kernel_rfl) (by kernel_rfl) (by decide) ?_;simp only [go_sem,simprocAttr];refine ⟨_,cRGcd p q (by omega) (by omega),?_⟩;have hg : 0<Nat.gcd p q:=Nat.gcd_pos_of_pos_left _ (by omega);have hle:p / Nat.gcd p q≤p:=Nat.div_le_self _ _;have hle2 : 4294967296 / q≤4294967296:=Nat.div_le_self _ _;have hn:(p:Int).natAbs=p:=Int.natAbs_natCast p;have e2:(4294967296:Int).tdiv (q:Int)=((4294967296 / q:Nat):Int):=fY 4294967296 q;simp only [go_sem,simprocAttr,hn,fY,e2];rw [fV (n:=p / Nat.gcd p q) (by omega),fV (n:=4294967296 / q) (by omega)];refine ⟨by omega,by omega,?_⟩;refine brW (b:=decide (p / Nat.gcd p q > 4294967296 / q)) ?_ ⟨fun hb2=>?_,fun hb2=>?_⟩
  ·rw [Bool.eq_iff_iff];simp only [bxx];omega
  ·unfold awS;simp only [go_sem,simprocAttr];simp only [bxx] at hb2;unfold wK;rw [if_neg (by omega),if_pos hb2];rfl
  ·unfold awS;simp only [go_sem,simprocAttr];simp only [bxx] at hb2;have h5:p / Nat.gcd p q*q≤4294967296:=(Nat.le_div_iff_mul_le (by omega)).1 (by omega);rw [← Int.natCast_mul,wrap64 (by omega) (by omega)];unfold wK;rw [if_neg (by omega),if_neg (by omega)]
def dM (l:List Int):Bool:=decide (l.length≤4)&&l.all fun c=>decide (-1≤c)&&decide (c≤3)
theorem cA {α : Type} {d : α} {p : α → Bool} {l:List α} {k:Nat} (h:k<l.length) (hp:p (l.getD k d)=false):l.all p=false:=by
 rw [List.getD_eq_getElem?_getD,List.getElem?_eq_getElem h,Option.getD_some] at hp;rw [Bool.eq_false_iff,ne_eq,List.all_eq_true];intro h';have:=h' _ (List.getElem_mem h);rw [hp] at this;cases this
theorem bT {α : Type} {d : α} {p : α → Bool} {l:List α} (h:∀ k,k<l.length→p (l.getD k d)=true):l.all p=true:=by
 rw [List.all_eq_true];intro c hc;obtain ⟨k,hk,rfl⟩:=List.mem_iff_getElem.1 hc;have:=h k hk;rwa [List.getD_eq_getElem?_getD,List.getElem?_eq_getElem hk,Option.getD_some] at this
theorem upto {p:Nat→Prop} {k:Nat} (h:∀ i,i<k→p i) (hk:p k):∀ i,i<k+1→p i:=fun i hi=>by
 rcases Nat.lt_or_ge i k with h3 | h3
 ·exact h i h3
 ·rw [show i=k from by omega];exact hk
theorem cPChans (l:List Int):aN Tryz.prog 176 [.t (bN l)] (aP (dM l)):=by
 refine aH Tryz.X176 Tryz.func176 rfl Tryz.ntmps176 (by rw [Tryz.results176]) (cE fun hf=>aD _ ?_);simp only [go_sem,simprocAttr,dF] at hf;have hl:l.length≤maxLen:=by first | exact hf.1 | exact hf.1.1
 simp only [go_sem,simprocAttr];refine ⟨fun h=>?_,fun h=>?_⟩
 ·unfold awS;simp only [go_sem,simprocAttr];simp only [bxx] at h;have:dM l=false:=by simp only [dM,Bool.and_eq_false_iff,decide_eq_false_iff_not];omega
  rw [this]
 ·unfold awS;simp only [go_sem,simprocAttr];simp only [bxx] at h;refine aF (fun (k:Nat) σ => bL 10 (aC k) (aX [5,6,7] σ)) (fun k=>k≤l.length ∧ ∀ i,i<k→(decide (-1≤l.getD i 0)&&decide (l.getD i 0≤3))=true) (fun k=>l.length - k) 0 (aA ?_) ⟨Nat.zero_le _,by omega⟩ ?_
  ·simp only [go_sem,simprocAttr]<;>rfl
  ·rintro k ⟨hk,hi⟩;refine aD _ ?_;simp only [go_sem,simprocAttr];refine ⟨fun hlt=>?_,fun hge=>?_⟩
   ·simp only [bxx] at hlt;unfold awS;simp only [go_sem,simprocAttr];refine ⟨⟨by omega,by omega⟩,?_⟩;refine brW (b := !(decide (-1≤l.getD k 0)&&decide (l.getD k 0≤3))) ?_ ⟨fun hb=>?_,fun hb=>?_⟩
    ·rw [Bool.eq_iff_iff];simp only [bxx];omega
    ·unfold awS;simp only [go_sem,simprocAttr];unfold dM;rw [cA (d:=(0:Int)) (p:=fun c=>decide (-1≤c)&&decide (c≤3)) (k:=k) (by omega) (nt hb),Bool.and_false]
    ·unfold awS;simp only [go_sem,simprocAttr];refine ⟨k+1,aA ?_,⟨by omega,upto hi (nf hb)⟩,by omega⟩;simp only [go_sem,simprocAttr]<;>simp [cY (show k<l.length by omega) hl]
   ·simp only [bxx] at hge;unfold awS;simp only [go_sem,simprocAttr];unfold dM;rw [bT (d:=(0:Int)) (p:=fun c=>decide (-1≤c)&&decide (c≤3)) (fun i h2=>hi i (by omega)),Bool.and_true,decide_eq_true (by omega:l.length≤4)]
theorem Rp (k:Int):aN Tryz.prog 165 [aC k] (aP (k==2||k==3)):=by
 refine aH Tryz.X165 Tryz.func165 rfl Tryz.ntmps165 (by rw [Tryz.results165]) (aD _ ?_);simp only [go_sem,simprocAttr]
theorem tW (k:Int):aN Tryz.prog 265 [aC k] (aP (k==2||k==3)):=by
 refine aH Tryz.X265 Tryz.func265 rfl Tryz.ntmps265 (by rw [Tryz.results265]) (aD _ ?_);simp only [go_sem,simprocAttr]
theorem rS (s:SourceR):aN Tryz.prog 217 [mM s] (aP s.isZ):=by
 refine aH Tryz.X217 Tryz.func217 rfl Tryz.ntmps217 (by rw [Tryz.results217]) (aD _ ?_);simp only [go_sem,simprocAttr];refine ⟨_,gF s zSource,?_⟩;rfl
def Fk (s:SourceR):Nat:=Nat.lcm s.pos.den.natAbs s.speed.den.natAbs
def aS (s:SourceR):Bool:=s.isZ||((s.kind==1||s.kind==2)&&cG s.name&&dL s.pos&&dL s.speed&&eE s.pos 1099511627776&&eE s.speed 1024&&decide (Fk s≤65536))
theorem dR {r:RatR} (h:dL r=true) : 1≤r.den:=by
 unfold dL at h;simp only [bxx] at h;exact h.1.1
theorem aAb (r:RatR) (m:Int):Gx r m=(dL r&&decide (r.den≤65536)&&eE r m):=by
 unfold Gx eE;rw [Bool.and_assoc];congr 1;rw [Bool.eq_iff_iff];simp only [bxx];omega
theorem aLk {s:SourceR} (h1:dL s.pos=true) (h2:dL s.speed=true) (h:Fk s≤65536):s.pos.den≤65536∧s.speed.den≤65536:=by
 have d1:=dR h1;have d2:=dR h2;unfold Fk at h;have h3:s.pos.den.natAbs≤_:=Nat.le_of_dvd (Nat.lcm_pos (by omega) (by omega)) (Nat.dvd_lcm_left s.pos.den.natAbs s.speed.den.natAbs);have h4:s.speed.den.natAbs≤_:=Nat.le_of_dvd (Nat.lcm_pos (by omega) (by omega)) (Nat.dvd_lcm_right s.pos.den.natAbs s.speed.den.natAbs);omega
theorem aA8 (s:SourceR) (h:s.fit):aN Tryz.prog 177 [mM s] (aP (aS s)):=by
 refine aH Tryz.X177 Tryz.func177 rfl Tryz.ntmps177 (by rw [Tryz.results177]) (aD _ ?_);simp only [go_sem,simprocAttr];refine ⟨_,gF s zSource,?_⟩;refine brW (b:=s.isZ) ?_ ⟨fun hb=>?_,fun hb=>?_⟩
 ·rfl
 ·unfold awS;simp only [go_sem,simprocAttr];unfold aS;rw [hb];rfl
 ·unfold awS;simp only [go_sem,simprocAttr];refine ⟨_,fun _=>aCk s.name,?_⟩;simp only [go_sem,simprocAttr];refine brW (b := !((s.kind==1||s.kind==2)&&cG s.name)) ?_ ⟨fun hc=>?_,fun hc=>?_⟩
  ·(try simp only [bne]);cases (s.kind==1)<;>cases (s.kind==2)<;>cases (cG s.name)<;>rfl
  ·unfold awS;simp only [go_sem,simprocAttr];have hc':=nt hc;unfold aS;rw [hb,hc'];rfl
  ·unfold awS;simp only [go_sem,simprocAttr];have hc':=nf hc;have hd:=h.speed.den.1;refine bM [0,1,2,3,4,5,6,7,8,9,10,11,12,13,14,15,16,17,18,19,20,21,22,23,24,25,26] .done rfl (by kernel_rfl) (by kernel_rfl) (by decide) ?_;simp only [go_sem,simprocAttr];refine ⟨_,Mg s.pos 1099511627776 h.pos (by omega) (by omega),?_⟩;simp only [go_sem,simprocAttr];refine ⟨_,fun _=>Mg s.speed 1024 h.speed (by omega) (by omega),?_⟩;simp only [go_sem,simprocAttr];refine ⟨aC (Nat.gcd s.pos.den.natAbs s.speed.den.natAbs),fun hg=>?_,?_⟩
   ·simp only [bxx,Gx] at hg;have d1:=dR hg.1.1.1.1;have d2:=dR hg.2.1.1.1;have e1:s.pos.den=((s.pos.den.natAbs:Nat):Int):=by omega
    have e2:s.speed.den=((s.speed.den.natAbs:Nat):Int):=by omega
    have:=aN8 s.pos.den.natAbs s.speed.den.natAbs;rw [← e1, ← e2] at this;exact this
   simp only [go_sem,simprocAttr];refine ⟨fun hg=>?_,?_⟩
   ·simp only [bxx,Gx] at hg;have d1:=dR hg.1.1.1.1;have : 0<Nat.gcd s.pos.den.natAbs s.speed.den.natAbs:=Nat.gcd_pos_of_pos_left _ (by omega);omega
   ·rw [aAb,aAb];have key:(dL s.pos&&decide (s.pos.den≤65536)&&eE s.pos 1099511627776&&(dL s.speed&&decide (s.speed.den≤65536)&&eE s.speed 1024)&&decide (IntKind.i64.wrap (IntKind.i64.wrap (s.pos.den.tdiv ((Nat.gcd s.pos.den.natAbs s.speed.den.natAbs:Nat):Int))*s.speed.den)≤65536))=aS s:=by
     unfold aS;rw [hb,Bool.and_eq_true] at *;rw [Bool.false_or,hc'.1,hc'.2];cases h1:dL s.pos
     ·rfl
     cases h2:dL s.speed
     ·simp
     have d1:=dR h1;have d2:=dR h2;obtain ⟨p,hp⟩:=tL (n:=s.pos.den) (by omega);obtain ⟨q,hq⟩:=tL (n:=s.speed.den) (by omega);have p1 : 1≤p:=by omega
     have q1 : 1≤q:=by omega
     unfold Fk;have hb1:=h.pos.den.2;have hb2:=h.speed.den.2;rw [hp] at hb1;rw [hq] at hb2;simp only [hp,hq,Int.natAbs_natCast];have hle:p / Nat.gcd p q≤p:=Nat.div_le_self _ _
     by_cases hsm:p≤65536∧q≤65536
     ·have hm:p / Nat.gcd p q*q≤65536*65536:=Nat.mul_le_mul (by omega) hsm.2;have e0:IntKind.i64.wrap (IntKind.i64.wrap ((p:Int).tdiv ((Nat.gcd p q:Nat):Int))*(q:Int))=((Nat.lcm p q:Nat):Int):=by
       rw [fY,fV (by omega), ← Int.natCast_mul,fV (by omega),Ub]
      have e1:decide ((p:Int)≤65536)=true:=by simp;omega
      have e2:decide ((q:Int)≤65536)=true:=by simp;omega
      have e3:decide (((Nat.lcm p q:Nat):Int)≤65536)=decide (Nat.lcm p q≤65536):=by rw [Bool.eq_iff_iff];simp only [bxx];omega
      simp only [e0,e1,e2,e3]
      (try simp only [bne]);cases (eE s.pos 1099511627776)<;>cases (eE s.speed 1024)<;>cases (decide (Nat.lcm p q≤65536))<;>rfl
     ·have e1:(decide ((p:Int)≤65536)&&decide ((q:Int)≤65536))=false:=by simp;omega
      have h3:p≤Nat.lcm p q:=Nat.le_of_dvd (Nat.lcm_pos p1 q1) (Nat.dvd_lcm_left p q);have h4:q≤Nat.lcm p q:=Nat.le_of_dvd (Nat.lcm_pos p1 q1) (Nat.dvd_lcm_right p q);have e2:decide (Nat.lcm p q≤65536)=false:=by simp;omega
      rw [e2];revert e1;generalize decide ((p:Int)≤65536)=b1;generalize decide ((q:Int)≤65536)=b2;intro e1;cases b1<;>cases b2<;>simp_all
    rw [key]
open Go.RowKit
set_option maxRecDepth 4000
theorem dT (s:SourceR) (h:s.fit):aN Tryz.prog 266 [mM s] (aP (aS s)):=by
 refine aH Tryz.X266 Tryz.func266 rfl Tryz.ntmps266 (by rw [Tryz.results266]) (aD _ ?_);simp only [go_sem,simprocAttr];refine ⟨_,rS s,?_⟩;simp only [go_sem,simprocAttr];refine brW (b:=s.isZ) ?_ ⟨fun hb=>?_,fun hb=>?_⟩
 ·rfl
 ·unfold awS;simp only [go_sem,simprocAttr];unfold aS;rw [hb];rfl
 ·unfold awS;simp only [go_sem,simprocAttr];refine ⟨_,fun _=>aCj s.name,?_⟩;simp only [go_sem,simprocAttr];refine ⟨_,fun _=>aMt s.pos h.pos,?_⟩;simp only [go_sem,simprocAttr];refine ⟨_,fun _=>aMt s.speed h.speed,?_⟩;simp only [go_sem,simprocAttr];refine brW (b := !((s.kind==1||s.kind==2)&&cG s.name&&dL s.pos&&dL s.speed)) ?_ ⟨fun hc=>?_,fun hc=>?_⟩
  ·(try simp only [bne]);cases (s.kind==1)<;>cases (s.kind==2)<;>cases (cG s.name)<;>cases (dL s.pos)<;>cases (dL s.speed)<;>rfl
  ·unfold awS;simp only [go_sem,simprocAttr];unfold aS;rw [hb,nt hc];rfl
  ·unfold awS;simp only [go_sem,simprocAttr];have hc1:=nf hc;have hc2:=hc1;simp only [Bool.and_eq_true] at hc2;refine ⟨_,aEm s.pos 1099511627776 h.pos hc2.1.2,?_⟩;simp only [go_sem,simprocAttr];refine ⟨_,fun _=>aEm s.speed 1024 h.speed hc2.2,?_⟩;simp only [go_sem,simprocAttr];refine brW (b := !(eE s.pos 1099511627776&&eE s.speed 1024)) ?_ ⟨fun hd=>?_,fun hd=>?_⟩
   ·(try simp only [bne]);cases (eE s.pos 1099511627776)<;>cases (eE s.speed 1024)<;>rfl
   ·unfold awS;simp only [go_sem,simprocAttr];have hd':=nt hd;unfold aS;rw [hb,hc1,Bool.true_and,hd'];rfl
   ·unfold awS;simp only [go_sem,simprocAttr];have d1:=dR hc2.1.2;have d2:=dR hc2.2;obtain ⟨p,hp⟩:=tL (n:=s.pos.den) (by omega);obtain ⟨q,hq⟩:=tL (n:=s.speed.den) (by omega);have b1:=h.pos.den.2;have b2:=h.speed.den.2;refine ⟨_,cBase s hp hq (by omega) (by omega) (by omega) (by omega),?_⟩;simp only [go_sem,simprocAttr];have e1:(decide (((wK p q:Nat):Int) ≥ 1)&&decide (((wK p q:Nat):Int)≤65536))=decide (Fk s≤65536):=by
     have e2:Fk s=Nat.lcm p q:=by unfold Fk;rw [hp,hq];rfl
     rw [e2]
     by_cases hl:Nat.lcm p q≤65536
     ·rw [aNn (by omega) (by omega) hl];have:=Nat.lcm_pos (m:=p) (n:=q) (by omega) (by omega);rw [Bool.eq_iff_iff];simp only [bxx];omega
     ·have:=aHg (p:=p) (q:=q) (by omega) (by omega) hl;rw [Bool.eq_iff_iff];simp only [bxx];omega
    rw [e1];have hd':=nf hd;unfold aS;simp only [Bool.and_eq_true] at hd';rw [hb,hc1,hd'.1,hd'.2];rfl
theorem Gg (s:SourceR) (h:s.fit):aN Tryz.prog 166 [mM s] (aP (s.isZ||Gx s.pos 1099511627776)):=by
 refine aH Tryz.X166 Tryz.func166 rfl Tryz.ntmps166 (by rw [Tryz.results166]) (aD _ ?_);simp only [go_sem,simprocAttr];refine ⟨_,gF s zSource,?_⟩;refine ⟨_,fun _=>Mg s.pos 1099511627776 h.pos (by omega) (by omega),?_⟩;simp only [go_sem,simprocAttr]<;>rfl
open Go.RowKit
set_option maxRecDepth 4000
def emp (s:ByteArray):Bool:=s.toList==(⟨#[]⟩:ByteArray).toList
def eV (c:ClipR):Bool:=decide (0≤c.off)&&decide (c.len≤c.total)&&decide (c.total≤2147483647)&&decide (c.off≤c.total - c.len)
def cS (c:ClipR):Bool:=c.off==0&&c.total==0
def bZ (c:ClipR):Bool :=
 if c.kind=0 then c.a.isZ&&c.b.isZ&&cS c&&c.param==0&&emp c.text&&c.gain==0&&c.chan.length==0
 else if c.kind=1 then c.b.isZ&&cS c&&c.param==0&&emp c.text
 else if c.kind=2 then eV c&&c.param==0&&emp c.text
 else if c.kind=3 then eV c&&decide (0≤c.param)&&decide (c.param≤3)&&emp c.text
 else if c.kind=4 then cS c&&decide (0≤c.param)&&decide (c.param≤255)&&emp c.text
 else if c.kind=5 then c.b.isZ&&cS c&&c.param==0&&fS c.text
 else false
def kJ (c:ClipR):Bool:=decide (1≤c.len)&&decide (c.len≤2147483647)&&decide (0≤c.gain)&&decide (c.gain≤65536)&&dM c.chan&&aS c.a&&aS c.b
def bQ (c:ClipR):Bool:=kJ c&&bZ c
theorem aN5 (c:ClipR) (h:c.fit):aN Tryz.prog 100 [fH c] (aP (bQ c)):=by
 refine aH Tryz.X100 Tryz.func100 rfl Tryz.ntmps100 (by rw [Tryz.results100]) (aD _ ?_);simp only [go_sem,simprocAttr];refine ⟨_,fun _=>cPChans c.chan,?_⟩;simp only [go_sem,simprocAttr];refine ⟨_,fun _=>aA8 c.a h.a,?_⟩;simp only [go_sem,simprocAttr];refine ⟨_,fun _=>aA8 c.b h.b,?_⟩;simp only [go_sem,simprocAttr];refine brW (b := !kJ c) ?_ ⟨fun hb=>?_,fun hb=>?_⟩
 ·have:kJ c=(decide (1≤c.len)&&decide (c.len≤2147483647)&&decide (0≤c.gain)&&decide (c.gain≤65536)&&dM c.chan&&aS c.a&&aS c.b):=rfl;rw [this];have e1:(decide (c.len<1)||decide (c.len > 2147483647)||decide (c.gain<0)||decide (c.gain > 65536)) = !(decide (1≤c.len)&&decide (c.len≤2147483647)&&decide (0≤c.gain)&&decide (c.gain≤65536)):=by rw [Bool.eq_iff_iff];simp only [bxx];omega
  rw [e1];simp only [Bool.not_and,Bool.not_not,Bool.or_assoc]
 ·unfold awS;simp only [go_sem,simprocAttr];unfold bQ;rw [nt hb];rfl
 ·unfold awS;simp only [go_sem,simprocAttr];refine ⟨_,gF c.b zSource,?_⟩;refine bM [0,1,2,3,4,5,6,7] .done rfl (by kernel_rfl) (by kernel_rfl) (by decide) ?_;simp only [go_sem,simprocAttr];have hbo:(IntKind.i64.wrap (c.total - c.len))=c.total - c.len ∨ ¬ (0≤c.off∧c.len≤c.total∧c.total≤2147483647):=by
   have:=nf hb;unfold kJ at this;simp only [bxx] at this
   by_cases hx : 0≤c.off∧c.len≤c.total∧c.total≤2147483647
   ·left;exact wrap64 (by omega) (by omega)
   ·right;exact hx
  have hsh:(decide (c.off ≥ 0)&&decide (c.total ≥ c.len)&&decide (c.total≤2147483647)&&decide (c.off≤IntKind.i64.wrap (c.total - c.len)))=eV c:=by
   unfold eV;rcases hbo with e | e
   ·rw [e];first | done | (rw [Bool.eq_iff_iff];simp only [bxx];omega)
   ·rw [Bool.eq_iff_iff];simp only [bxx];omega
  rw [hsh];have hv:bQ c=bZ c:=by unfold bQ;rw [nf hb,Bool.true_and]
  rw [hv];refine ⟨fun hk=>?_,fun hk0=>?_⟩
  ·simp only [bxx] at hk;unfold awS;simp only [go_sem,simprocAttr];refine ⟨_,gF c.a zSource,?_⟩;unfold bZ;rw [if_pos hk];have e1:(((c.chan.length:Nat):Int)==0)=(c.chan.length==0):=by rw [Bool.eq_iff_iff];simp only [bxx];omega
   rw [e1];rfl
  unfold awS;simp only [go_sem,simprocAttr];refine ⟨fun hk=>?_,fun hk1=>?_⟩
  ·simp only [bxx] at hk;unfold awS;simp only [go_sem,simprocAttr];unfold bZ;rw [if_neg (by omega),if_pos hk];rfl
  unfold awS;simp only [go_sem,simprocAttr];refine ⟨fun hk=>?_,fun hk2=>?_⟩
  ·simp only [bxx] at hk;unfold awS;simp only [go_sem,simprocAttr];unfold bZ;rw [if_neg (by omega),if_neg (by omega),if_pos hk];rfl
  unfold awS;simp only [go_sem,simprocAttr];refine ⟨fun hk=>?_,fun hk3=>?_⟩
  ·simp only [bxx] at hk;unfold awS;simp only [go_sem,simprocAttr];unfold bZ;rw [if_neg (by omega),if_neg (by omega),if_neg (by omega),if_pos hk];rfl
  unfold awS;simp only [go_sem,simprocAttr];refine ⟨fun hk=>?_,fun hk4=>?_⟩
  ·simp only [bxx] at hk;unfold awS;simp only [go_sem,simprocAttr];unfold bZ;rw [if_neg (by omega),if_neg (by omega),if_neg (by omega),if_neg (by omega),if_pos hk];rfl
  unfold awS;simp only [go_sem,simprocAttr];refine ⟨fun hk=>?_,fun hk5=>?_⟩
  ·simp only [bxx] at hk;unfold awS;simp only [go_sem,simprocAttr];refine ⟨_,fun _=>aN2 c.text,?_⟩;simp only [go_sem,simprocAttr];unfold bZ;rw [if_neg (by omega),if_neg (by omega),if_neg (by omega),if_neg (by omega),if_neg (by omega),if_pos hk];rfl
  unfold awS;simp only [go_sem,simprocAttr];simp only [bxx] at hk0;simp only [bxx] at hk1;simp only [bxx] at hk2;simp only [bxx] at hk3;simp only [bxx] at hk4;simp only [bxx] at hk5;unfold bZ;rw [if_neg hk0,if_neg hk1,if_neg hk2,if_neg hk3,if_neg hk4,if_neg hk5]
end Go.Proofs.YtbfnemkngoaeeaaGreat
