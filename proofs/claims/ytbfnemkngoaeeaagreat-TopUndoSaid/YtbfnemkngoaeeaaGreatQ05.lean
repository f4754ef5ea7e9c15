/- Proved here: Contracts of the functions that look at names and lines of text. -/
import Derived.Test.YtbfnemkngoaeeaaGreatQ04
import Derived.Lib.AppendZeros
import Derived.Shelf.RegionOpenPlain
import Derived.Shelf.SlIter.Nil
import Derived.Shelf.SortM.Plain
import Derived.Shelf.SortM.SortNone
set_option linter.unusedSimpArgs false
set_option linter.unusedVariables false
set_option linter.unnecessarySimpa false
namespace Go.Proofs.YtbfnemkngoaeeaaGreat
open Go.RowKit
set_option maxRecDepth 4000
theorem aG2 (s:ByteArray):aK Tryz.prog 124 [bY s] (aX (dS s)):=by
 refine aG Tryz.X124 Tryz.func124 rfl Tryz.ntmps124 (by rw [Tryz.results124]) (dV fun hf=>aC _ ?_);simp only [go_sem,simprocAttr,nN] at hf;have hl:s.size≤maxLen:=hf;simp only [go_sem,simprocAttr];refine ⟨fun h=>?_,fun h=>?_⟩
 ·unfold awS;simp only [go_sem,simprocAttr];have:dS s=false:=by
   simp only [bxx] at h;simp only [dS,Bool.and_eq_false_iff,decide_eq_false_iff_not];omega
  rw [this]
 ·unfold awS;simp only [go_sem,simprocAttr];refine aJ (fun (k:Nat) σ => dW 15 (aA k) (dD [5,6,7,8,9,10,11,12,13] σ)) (fun k=>k≤s.size ∧ ∀ i,i<k→nmI (uU s i)=true) (fun k=>s.size - k) 0 (aE ?_) ⟨Nat.zero_le _,by omega⟩ ?_
  ·simp only [go_sem,simprocAttr]<;>rfl
  ·rintro k ⟨hk,hi⟩;refine aC _ ?_;simp only [go_sem,simprocAttr];refine ⟨fun hlt=>?_,fun hge=>?_⟩
   all_goals simp only [decide_eq_true_eq,decide_eq_false_iff_not,Int.ofNat_lt] at *
   ·unfold awS;simp only [go_sem,simprocAttr];refine ⟨⟨by omega,by omega⟩,?_⟩;refine brW (b := !nmI (uU s k)) ?_ ⟨fun hb=>?_,fun hb=>?_⟩
    ·unfold uU nmI;rw [Bool.eq_iff_iff];simp only [bxx];omega
    ·unfold awS;simp only [go_sem,simprocAttr];rw [dS,Xh hlt (by simpa using hb)];simp
    ·unfold awS;simp only [go_sem,simprocAttr];refine ⟨k+1,aE ?_,⟨hlt,fun i h2=>?_⟩,by omega⟩
     ·simp only [go_sem,simprocAttr]<;>simp [tG hlt hl]
     ·rcases Nat.lt_or_ge i k with h3 | h3
      ·exact hi i h3
      ·rw [show i=k from by omega];simpa using hb
   ·unfold awS;simp only [go_sem,simprocAttr];rw [dS,Sw (fun i h2=>hi i (by omega))];simp only [bxx] at h;simp;omega
theorem aSp (s:ByteArray):aK Tryz.prog 178 [bY s] (aX (nU s)):=by
 refine aG Tryz.X178 Tryz.func178 rfl Tryz.ntmps178 (by rw [Tryz.results178]) (dV fun hf=>aC _ ?_);simp only [go_sem,simprocAttr,nN] at hf;have hl:s.size≤maxLen:=hf;simp only [go_sem,simprocAttr];refine ⟨fun h=>?_,fun h=>?_⟩
 ·unfold awS;simp only [go_sem,simprocAttr];have:nU s=false:=by
   simp only [bxx] at h;simp only [nU,Bool.and_eq_false_iff,decide_eq_false_iff_not];omega
  rw [this]
 ·unfold awS;simp only [go_sem,simprocAttr];refine aJ (fun (k:Nat) σ => dW 14 (aA k) (dD [4,5,6,7,8,9,10,11,12] σ)) (fun k=>k≤s.size ∧ ∀ i,i<k→lnI (uU s i)=true) (fun k=>s.size - k) 0 (aE ?_) ⟨Nat.zero_le _,by omega⟩ ?_
  ·simp only [go_sem,simprocAttr]<;>rfl
  ·rintro k ⟨hk,hi⟩;refine aC _ ?_;simp only [go_sem,simprocAttr];refine ⟨fun hlt=>?_,fun hge=>?_⟩
   all_goals simp only [decide_eq_true_eq,decide_eq_false_iff_not,Int.ofNat_lt] at *
   ·unfold awS;simp only [go_sem,simprocAttr];refine ⟨⟨by omega,by omega⟩,fun _=>⟨by omega,by omega⟩,?_⟩;refine brW (b := !lnI (uU s k)) ?_ ⟨fun hb=>?_,fun hb=>?_⟩
    ·unfold uU lnI;rw [Bool.eq_iff_iff];simp only [bxx];omega
    ·unfold awS;simp only [go_sem,simprocAttr];rw [nU,Xh hlt (by simpa using hb)];simp
    ·unfold awS;simp only [go_sem,simprocAttr];refine ⟨k+1,aE ?_,⟨hlt,fun i h2=>?_⟩,by omega⟩
     ·simp only [go_sem,simprocAttr]<;>simp [tG hlt hl]
     ·rcases Nat.lt_or_ge i k with h3 | h3
      ·exact hi i h3
      ·rw [show i=k from by omega];simpa using hb
   ·unfold awS;simp only [go_sem,simprocAttr];rw [nU,Sw (fun i h2=>hi i (by omega))];simp only [bxx] at h;simp;omega
theorem Hg {w:World} {E:Env} {a b c d e f g:V} {vs:Array Value} (h:RdVs w E [a,b,c,d,e,f,g] vs.toList):∃ x1 x2 x3 x4 x5 x6 x7,vs = #[x1,x2,x3,x4,x5,x6,x7]∧RdV w E a x1∧RdV w E b x2∧RdV w E c x3∧RdV w E d x4∧RdV w E e x5∧RdV w E f x6∧RdV w E g x7:=by
 obtain ⟨l⟩:=vs;rcases l with _ | ⟨x1,_ | ⟨x2,_ | ⟨x3,_ | ⟨x4,_ | ⟨x5,_ | ⟨x6,_ | ⟨x7,_ | ⟨x8,l⟩⟩⟩⟩⟩⟩⟩⟩<;>simp only [RdVs,and_false,and_true] at h
 exact ⟨x1,x2,x3,x4,x5,x6,x7,rfl,h⟩
theorem Um {w:World} {E:Env} {a b:V} {vs:Array Value} (h:RdVs w E [a,b] vs.toList):∃ x1 x2,vs = #[x1,x2]∧RdV w E a x1∧RdV w E b x2:=by
 obtain ⟨l⟩:=vs;rcases l with _ | ⟨x1,_ | ⟨x2,_ | ⟨x3,l⟩⟩⟩<;>simp only [RdVs,and_false,and_true] at h
 exact ⟨x1,x2,rfl,h⟩
def RatR.eqb (s t:RatR):Bool:=s.num==t.num&&s.den==t.den
theorem aJb (s t:RatR):EqV Tryz.prog 30 [aA s.num,aA s.den] [aA t.num,aA t.den] (s.eqb t):=by
 intro w E vs us h1 h2;obtain ⟨x1,x2,rfl,h1,h2'⟩:=Um h1;obtain ⟨y1,y2,rfl,k1,k2⟩:=Um h2;rw [(aF h1).1,(aF h2').1,(aF k1).1,(aF k2).1];constructor
 ·unfold Op.equal;simp [go_sem,Op.maxDepth];unfold RatR.eqb
  repeat' split
  all_goals simp_all
 ·intro p q;unfold eqGuard;simp [Tryz.eqGuardType30]
def SourceR.eqb (s t:SourceR):Bool:=s.kind==t.kind&&(s.name.toList==t.name.toList)&&s.pos.num==t.pos.num&&s.pos.den==t.pos.den&&s.speed.num==t.speed.num&&s.speed.den==t.speed.den&&(s.smooth==t.smooth)
theorem jT (s t:SourceR):EqV Tryz.prog 101 [aA s.kind,bY s.name,aA s.pos.num,aA s.pos.den,aA s.speed.num,aA s.speed.den,aX s.smooth] [aA t.kind,bY t.name,aA t.pos.num,aA t.pos.den,aA t.speed.num,aA t.speed.den,aX t.smooth] (s.eqb t):=by
 intro w E vs us h1 h2;obtain ⟨x1,x2,x3,x4,x5,x6,x7,rfl,h1,h2',h3,h4,h5,h6,h7⟩:=Hg h1;obtain ⟨y1,y2,y3,y4,y5,y6,y7,rfl,k1,k2,k3,k4,k5,k6,k7⟩:=Hg h2;rw [(aF h1).1,(aF h2').1,(aF h3).1,(aF h4).1,(aF h5).1,(aF h6).1,(aF h7).1,(aF k1).1,(aF k2).1,(aF k3).1,(aF k4).1,(aF k5).1,(aF k6).1,(aF k7).1];constructor
 ·unfold Op.equal;simp [go_sem,Op.maxDepth];unfold SourceR.eqb
  repeat' split
  all_goals simp_all
 ·intro p q;unfold eqGuard;simp [Tryz.eqGuardType101]
abbrev zSource:SourceR:=⟨0,⟨#[]⟩,⟨0,0⟩,⟨0,0⟩,false⟩
def SourceR.isZ (s:SourceR):Bool:=s.eqb zSource
theorem xU (a b:Nat):((a:Int)).tmod (b:Int)=((a % b:Nat):Int):=by
 rw [Int.tmod_eq_emod_of_nonneg (by omega)];rfl
theorem kT (a b:Nat):((a:Int)).tdiv (b:Int)=((a / b:Nat):Int):=by
 rw [Int.tdiv_eq_ediv_of_nonneg (by omega)];rfl
theorem Xd (a b:Nat):aK Tryz.prog 179 [eP a,eP b] (eP (Nat.gcd a b)):=by
 refine aG Tryz.X179 Tryz.func179 rfl Tryz.ntmps179 (by rw [Tryz.results179]) (aC _ ?_);simp only [go_sem,simprocAttr];refine aJ (fun (x:Nat×Nat) σ => dW 0 (eP x.1) (dW 1 (eP x.2) σ)) (fun x=>Nat.gcd x.1 x.2=Nat.gcd a b) (fun x=>x.2) (a,b) (aE ?_) rfl ?_
 ·simp only [go_sem,simprocAttr]
 ·rintro ⟨x,y⟩ hg;simp only at hg;refine aC _ ?_;simp only [go_sem,simprocAttr];refine brW (b := !decide (y=0)) ?_ ⟨fun hb=>?_,fun hb=>?_⟩
  ·rw [Bool.eq_iff_iff];simp only [bxx];omega
  ·unfold awS;simp only [go_sem,simprocAttr];have hy:y≠0:=by simpa using hb
   refine bT [0,1,2,3,4,5] .done rfl (by kernel_rfl) (by kernel_rfl) (by decide) ?_;simp only [go_sem,simprocAttr];refine ⟨by omega,(y,x % y),aE ?_,?_,Nat.mod_lt _ (by omega)⟩
   ·simp only [go_sem,simprocAttr,xU]
   ·simp only;rw [← hg,Nat.gcd_comm x y,Nat.gcd_rec y x,Nat.gcd_comm]
  ·unfold awS;simp only [go_sem,simprocAttr];have hy:y=0:=by simpa using hb
   subst hy;rw [← hg,Nat.gcd_zero_right]
theorem aSy (a b:Nat):aK Tryz.prog 224 [aA a,aA b] (aA (Nat.gcd a b)):=by
 refine aG Tryz.X224 Tryz.func224 rfl Tryz.ntmps224 (by rw [Tryz.results224]) (aC _ ?_);simp only [go_sem,simprocAttr];refine aJ (fun (x:Nat×Nat) σ => dW 0 (aA x.1) (dW 1 (aA x.2) σ)) (fun x=>Nat.gcd x.1 x.2=Nat.gcd a b) (fun x=>x.2) (a,b) (aE ?_) rfl ?_
 ·simp only [go_sem,simprocAttr]
 ·rintro ⟨x,y⟩ hg;simp only at hg;refine aC _ ?_;simp only [go_sem,simprocAttr];refine brW (b := !decide (y=0)) ?_ ⟨fun hb=>?_,fun hb=>?_⟩
  ·rw [Bool.eq_iff_iff];simp only [bxx];omega
  ·unfold awS;simp only [go_sem,simprocAttr];have hy:y≠0:=by simpa using hb
   refine bT [0,1,2,3,4,5] .done rfl (by kernel_rfl) (by kernel_rfl) (by decide) ?_;simp only [go_sem,simprocAttr];refine ⟨by omega,(y,x % y),aE ?_,?_,Nat.mod_lt _ (by omega)⟩
   ·simp only [go_sem,simprocAttr,xU]
   ·simp only;rw [← hg,Nat.gcd_comm x y,Nat.gcd_rec y x,Nat.gcd_comm]
  ·unfold awS;simp only [go_sem,simprocAttr];have hy:y=0:=by simpa using hb
   subst hy;rw [← hg,Nat.gcd_zero_right]
theorem mC (n:Int) (h:I64 n):aK Tryz.prog 180 [aA n] (eP n.natAbs):=by
 obtain ⟨h1,h2⟩:=h;refine aG Tryz.X180 Tryz.func180 rfl Tryz.ntmps180 (by rw [Tryz.results180]) (aC _ ?_);simp only [go_sem,simprocAttr];refine ⟨fun h=>?_,fun h=>?_⟩
 all_goals
  simp only [bxx] at h;unfold awS;simp only [go_sem,simprocAttr]
 ·have e1:IntKind.u64.wrap n=n+18446744073709551616:=xP (by omega) (by omega);rw [e1,xP (by omega) (by omega)];congr 3;omega
 ·rw [Kh (by omega) (by omega)];congr 3;omega
def fG (r:RatR):Bool:=decide (1≤r.den)&&decide (-9223372036854775808<r.num)&&decide (Nat.gcd r.num.natAbs r.den.natAbs=1)
theorem Ga {n:Int} (h : 0≤n):∃ k:Nat,n=k:=⟨n.toNat,by omega⟩
theorem Sp (r:RatR) (h:r.fit):aK Tryz.prog 103 [Ax r] (aX (fG r)):=by
 obtain ⟨⟨a1,a2⟩,b1,b2⟩:=h;refine aG Tryz.X103 Tryz.func103 rfl Tryz.ntmps103 (by rw [Tryz.results103]) (aC _ ?_);simp only [go_sem,simprocAttr];refine bT [0,1,2,3,4,5,6,7,8,9,10,11,12,13,14,15,16,17,18] .done rfl (by kernel_rfl) (by kernel_rfl) (by decide) ?_;simp only [go_sem,simprocAttr];refine ⟨_,fun _=>mC _ ⟨a1,a2⟩,?_⟩;simp only [go_sem,simprocAttr];refine ⟨eP (Nat.gcd r.num.natAbs r.den.natAbs),fun hg=>?_,?_⟩
 ·simp only [bxx] at hg;have e1:IntKind.u64.wrap r.den=((r.den.natAbs:Nat):Int):=by rw [Kh (by omega) (by omega)];omega
  rw [e1];exact Xd _ _
 simp only [go_sem,simprocAttr];have:(decide (r.den ≥ 1)&&decide (r.num > -9223372036854775808)&&(((Nat.gcd r.num.natAbs r.den.natAbs:Nat):Int)==1))=fG r:=by
  unfold fG;rw [Bool.eq_iff_iff];simp only [bxx];omega
 rw [this]
def Ls (r:RatR) (most:Int):Bool:=fG r&&decide (r.den≤65536)&&decide (-(most*r.den)≤r.num)&&decide (r.num≤most*r.den)
theorem aLk {m d:Int} (h0 : 0≤m) (h1:m≤1099511627776) (h2 : 1≤d) (h3:d≤65536) : 0≤m*d∧m*d≤72057594037927936:=by
 refine ⟨Int.mul_nonneg h0 (by omega),?_⟩
 calc m*d≤1099511627776*d:=Int.mul_le_mul_of_nonneg_right h1 (by omega)
  _≤1099511627776*65536:=Int.mul_le_mul_of_nonneg_left h3 (by omega)
  _=72057594037927936:=by decide
theorem aT7 (r:RatR) {m:Int} (h0 : 0≤m) (h1:m≤1099511627776):(fG r&&decide (r.den≤65536)&&decide (r.num ≥ IntKind.i64.wrap (IntKind.i64.wrap (0 - m)*r.den))&&decide (r.num≤IntKind.i64.wrap (m*r.den)))=Ls r m:=by
 unfold Ls
 by_cases hv:fG r=true
 ·by_cases hd:r.den≤65536
  ·have hv':=hv;unfold fG at hv';simp only [bxx] at hv';obtain ⟨q1,q2⟩:=aLk h0 h1 hv'.1.1 hd;have e1:IntKind.i64.wrap (0 - m) = -m:=by rw [wrap64 (by omega) (by omega)];omega
   rw [e1,Int.neg_mul,wrap64 (x := -(m*r.den)) (by omega) (by omega),wrap64 (x:=m*r.den) (by omega) (by omega)]
  ·simp [hd]
 ·simp [hv]
theorem Su (r:RatR) (m:Int) (h:r.fit) (h0 : 0≤m) (h1:m≤1099511627776):aK Tryz.prog 218 [Ax r,aA m] (aX (Ls r m)):=by
 refine aG Tryz.X218 Tryz.func218 rfl Tryz.ntmps218 (by rw [Tryz.results218]) (aC _ ?_);simp only [go_sem,simprocAttr];refine ⟨_,Sp r h,?_⟩;simp only [go_sem,simprocAttr];rw [aT7 r h0 h1]
def kH (r:RatR) (m:Int):Bool:=decide (((r.num.natAbs:Nat):Int)≤m*r.den)
def baseN (p q:Nat):Nat:=if p > 4294967296∨q > 4294967296 then 0 else if p / Nat.gcd p q > 4294967296 / q then 0 else p / Nat.gcd p q*q
theorem aQt (p q:Nat):p / Nat.gcd p q*q=Nat.lcm p q:=by
 rw [Nat.lcm,Nat.mul_comm,Nat.mul_comm p q,Nat.mul_div_assoc q (Nat.gcd_dvd_left p q)]
def fU (l:List Int):Bool:=decide (l.length≤4)&&l.all fun c=>decide (-1≤c)&&decide (c≤3)
theorem fY {α : Type} {d : α} {p : α → Bool} {l:List α} {k:Nat} (h:k<l.length) (hp:p (l.getD k d)=false):l.all p=false:=by
 rw [List.getD_eq_getElem?_getD,List.getElem?_eq_getElem h,Option.getD_some] at hp;rw [Bool.eq_false_iff,ne_eq,List.all_eq_true];intro h';have:=h' _ (List.getElem_mem h);rw [hp] at this;cases this
theorem cU {α : Type} {d : α} {p : α → Bool} {l:List α} (h:∀ k,k<l.length→p (l.getD k d)=true):l.all p=true:=by
 rw [List.all_eq_true];intro c hc;obtain ⟨k,hk,rfl⟩:=List.mem_iff_getElem.1 hc;have:=h k hk;rwa [List.getD_eq_getElem?_getD,List.getElem?_eq_getElem hk,Option.getD_some] at this
theorem upto {p:Nat→Prop} {k:Nat} (h:∀ i,i<k→p i) (hk:p k):∀ i,i<k+1→p i:=fun i hi=>by
 rcases Nat.lt_or_ge i k with h3 | h3
 ·exact h i h3
 ·rw [show i=k from by omega];exact hk
theorem cPChans (l:List Int):aK Tryz.prog 176 [.t (bS l)] (aX (fU l)):=by
 refine aG Tryz.X176 Tryz.func176 rfl Tryz.ntmps176 (by rw [Tryz.results176]) (dV fun hf=>aC _ ?_);simp only [go_sem,simprocAttr,nN] at hf;have hl:l.length≤maxLen:=by first | exact hf.1 | exact hf.1.1
 simp only [go_sem,simprocAttr];refine ⟨fun h=>?_,fun h=>?_⟩
 ·unfold awS;simp only [go_sem,simprocAttr];simp only [bxx] at h;have:fU l=false:=by simp only [fU,Bool.and_eq_false_iff,decide_eq_false_iff_not];omega
  rw [this]
 ·unfold awS;simp only [go_sem,simprocAttr];simp only [bxx] at h;refine aJ (fun (k:Nat) σ => dW 10 (aA k) (dD [5,6,7] σ)) (fun k=>k≤l.length ∧ ∀ i,i<k→(decide (-1≤l.getD i 0)&&decide (l.getD i 0≤3))=true) (fun k=>l.length - k) 0 (aE ?_) ⟨Nat.zero_le _,by omega⟩ ?_
  ·simp only [go_sem,simprocAttr]<;>rfl
  ·rintro k ⟨hk,hi⟩;refine aC _ ?_;simp only [go_sem,simprocAttr];refine ⟨fun hlt=>?_,fun hge=>?_⟩
   ·simp only [bxx] at hlt;unfold awS;simp only [go_sem,simprocAttr];refine ⟨⟨by omega,by omega⟩,?_⟩;refine brW (b := !(decide (-1≤l.getD k 0)&&decide (l.getD k 0≤3))) ?_ ⟨fun hb=>?_,fun hb=>?_⟩
    ·rw [Bool.eq_iff_iff];simp only [bxx];omega
    ·unfold awS;simp only [go_sem,simprocAttr];unfold fU;rw [fY (d:=(0:Int)) (p:=fun c=>decide (-1≤c)&&decide (c≤3)) (k:=k) (by omega) (nt hb),Bool.and_false]
    ·unfold awS;simp only [go_sem,simprocAttr];refine ⟨k+1,aE ?_,⟨by omega,upto hi (nf hb)⟩,by omega⟩;simp only [go_sem,simprocAttr]<;>simp [tG (show k<l.length by omega) hl]
   ·simp only [bxx] at hge;unfold awS;simp only [go_sem,simprocAttr];unfold fU;rw [cU (d:=(0:Int)) (p:=fun c=>decide (-1≤c)&&decide (c≤3)) (fun i h2=>hi i (by omega)),Bool.and_true,decide_eq_true (by omega:l.length≤4)]
theorem Xc (k:Int):aK Tryz.prog 165 [aA k] (aX (k==2||k==3)):=by
 refine aG Tryz.X165 Tryz.func165 rfl Tryz.ntmps165 (by rw [Tryz.results165]) (aC _ ?_);simp only [go_sem,simprocAttr]
def Qa (s:SourceR):Nat:=Nat.lcm s.pos.den.natAbs s.speed.den.natAbs
def aY (s:SourceR):Bool:=s.isZ||((s.kind==1||s.kind==2)&&dS s.name&&fG s.pos&&fG s.speed&&kH s.pos 1099511627776&&kH s.speed 1024&&decide (Qa s≤65536))
theorem fK {r:RatR} (h:fG r=true) : 1≤r.den:=by
 unfold fG at h;simp only [bxx] at h;exact h.1.1
theorem aDv (r:RatR) (m:Int):Ls r m=(fG r&&decide (r.den≤65536)&&kH r m):=by
 unfold Ls kH;rw [Bool.and_assoc];congr 1;rw [Bool.eq_iff_iff];simp only [bxx];omega
theorem aQu {s:SourceR} (h1:fG s.pos=true) (h2:fG s.speed=true) (h:Qa s≤65536):s.pos.den≤65536∧s.speed.den≤65536:=by
 have d1:=fK h1;have d2:=fK h2;unfold Qa at h;have h3:s.pos.den.natAbs≤_:=Nat.le_of_dvd (Nat.lcm_pos (by omega) (by omega)) (Nat.dvd_lcm_left s.pos.den.natAbs s.speed.den.natAbs);have h4:s.speed.den.natAbs≤_:=Nat.le_of_dvd (Nat.lcm_pos (by omega) (by omega)) (Nat.dvd_lcm_right s.pos.den.natAbs s.speed.den.natAbs);omega
theorem aDu (s:SourceR) (h:s.fit):aK Tryz.prog 177 [kW s] (aX (aY s)):=by
 refine aG Tryz.X177 Tryz.func177 rfl Tryz.ntmps177 (by rw [Tryz.results177]) (aC _ ?_);simp only [go_sem,simprocAttr];refine ⟨_,jT s zSource,?_⟩;refine brW (b:=s.isZ) ?_ ⟨fun hb=>?_,fun hb=>?_⟩
 ·rfl
 ·unfold awS;simp only [go_sem,simprocAttr];unfold aY;rw [hb];rfl
 ·unfold awS;simp only [go_sem,simprocAttr];refine ⟨_,fun _=>aG2 s.name,?_⟩;simp only [go_sem,simprocAttr];refine brW (b := !((s.kind==1||s.kind==2)&&dS s.name)) ?_ ⟨fun hc=>?_,fun hc=>?_⟩
  ·(try simp only [bne]);cases (s.kind==1)<;>cases (s.kind==2)<;>cases (dS s.name)<;>rfl
  ·unfold awS;simp only [go_sem,simprocAttr];have hc':=nt hc;unfold aY;rw [hb,hc'];rfl
  ·unfold awS;simp only [go_sem,simprocAttr];have hc':=nf hc;have hd:=h.speed.den.1;refine bT [0,1,2,3,4,5,6,7,8,9,10,11,12,13,14,15,16,17,18,19,20,21,22,23,24,25,26] .done rfl (by kernel_rfl) (by kernel_rfl) (by decide) ?_;simp only [go_sem,simprocAttr];refine ⟨_,Su s.pos 1099511627776 h.pos (by omega) (by omega),?_⟩;simp only [go_sem,simprocAttr];refine ⟨_,fun _=>Su s.speed 1024 h.speed (by omega) (by omega),?_⟩;simp only [go_sem,simprocAttr];refine ⟨aA (Nat.gcd s.pos.den.natAbs s.speed.den.natAbs),fun hg=>?_,?_⟩
   ·simp only [bxx,Ls] at hg;have d1:=fK hg.1.1.1.1;have d2:=fK hg.2.1.1.1;have e1:s.pos.den=((s.pos.den.natAbs:Nat):Int):=by omega
    have e2:s.speed.den=((s.speed.den.natAbs:Nat):Int):=by omega
    have:=aSy s.pos.den.natAbs s.speed.den.natAbs;rw [← e1, ← e2] at this;exact this
   simp only [go_sem,simprocAttr];refine ⟨fun hg=>?_,?_⟩
   ·simp only [bxx,Ls] at hg;have d1:=fK hg.1.1.1.1;have : 0<Nat.gcd s.pos.den.natAbs s.speed.den.natAbs:=Nat.gcd_pos_of_pos_left _ (by omega);omega
   ·rw [aDv,aDv];have key:(fG s.pos&&decide (s.pos.den≤65536)&&kH s.pos 1099511627776&&(fG s.speed&&decide (s.speed.den≤65536)&&kH s.speed 1024)&&decide (IntKind.i64.wrap (IntKind.i64.wrap (s.pos.den.tdiv ((Nat.gcd s.pos.den.natAbs s.speed.den.natAbs:Nat):Int))*s.speed.den)≤65536))=aY s:=by
     unfold aY;rw [hb,Bool.and_eq_true] at *;rw [Bool.false_or,hc'.1,hc'.2];cases h1:fG s.pos
     ·rfl
     cases h2:fG s.speed
     ·simp
     have d1:=fK h1;have d2:=fK h2;obtain ⟨p,hp⟩:=Ga (n:=s.pos.den) (by omega);obtain ⟨q,hq⟩:=Ga (n:=s.speed.den) (by omega);have p1 : 1≤p:=by omega
     have q1 : 1≤q:=by omega
     unfold Qa;have hb1:=h.pos.den.2;have hb2:=h.speed.den.2;rw [hp] at hb1;rw [hq] at hb2;simp only [hp,hq,Int.natAbs_natCast];have hle:p / Nat.gcd p q≤p:=Nat.div_le_self _ _
     by_cases hsm:p≤65536∧q≤65536
     ·have hm:p / Nat.gcd p q*q≤65536*65536:=Nat.mul_le_mul (by omega) hsm.2;have e0:IntKind.i64.wrap (IntKind.i64.wrap ((p:Int).tdiv ((Nat.gcd p q:Nat):Int))*(q:Int))=((Nat.lcm p q:Nat):Int):=by
       rw [kT,gE (by omega), ← Int.natCast_mul,gE (by omega),aQt]
      have e1:decide ((p:Int)≤65536)=true:=by simp;omega
      have e2:decide ((q:Int)≤65536)=true:=by simp;omega
      have e3:decide (((Nat.lcm p q:Nat):Int)≤65536)=decide (Nat.lcm p q≤65536):=by rw [Bool.eq_iff_iff];simp only [bxx];omega
      simp only [e0,e1,e2,e3]
      (try simp only [bne]);cases (kH s.pos 1099511627776)<;>cases (kH s.speed 1024)<;>cases (decide (Nat.lcm p q≤65536))<;>rfl
     ·have e1:(decide ((p:Int)≤65536)&&decide ((q:Int)≤65536))=false:=by simp;omega
      have h3:p≤Nat.lcm p q:=Nat.le_of_dvd (Nat.lcm_pos p1 q1) (Nat.dvd_lcm_left p q);have h4:q≤Nat.lcm p q:=Nat.le_of_dvd (Nat.lcm_pos p1 q1) (Nat.dvd_lcm_right p q);have e2:decide (Nat.lcm p q≤65536)=false:=by simp;omega
      rw [e2];revert e1;generalize decide ((p:Int)≤65536)=b1;generalize decide ((q:Int)≤65536)=b2;intro e1;cases b1<;>cases b2<;>simp_all
    rw [key]
theorem Kz (s:SourceR) (h:s.fit):aK Tryz.prog 166 [kW s] (aX (s.isZ||Ls s.pos 1099511627776)):=by
 refine aG Tryz.X166 Tryz.func166 rfl Tryz.ntmps166 (by rw [Tryz.results166]) (aC _ ?_);simp only [go_sem,simprocAttr];refine ⟨_,jT s zSource,?_⟩;refine ⟨_,fun _=>Su s.pos 1099511627776 h.pos (by omega) (by omega),?_⟩;simp only [go_sem,simprocAttr]<;>rfl
def emp (s:ByteArray):Bool:=s.toList==(⟨#[]⟩:ByteArray).toList
def fE (c:ClipR):Bool:=decide (0≤c.off)&&decide (c.len≤c.total)&&decide (c.total≤2147483647)&&decide (c.off≤c.total - c.len)
def eN (c:ClipR):Bool:=c.off==0&&c.total==0
def cF (c:ClipR):Bool :=
 if c.kind=0 then c.a.isZ&&c.b.isZ&&eN c&&c.param==0&&emp c.text&&c.gain==0&&c.chan.length==0
 else if c.kind=1 then c.b.isZ&&eN c&&c.param==0&&emp c.text
 else if c.kind=2 then fE c&&c.param==0&&emp c.text
 else if c.kind=3 then fE c&&decide (0≤c.param)&&decide (c.param≤3)&&emp c.text
 else if c.kind=4 then eN c&&decide (0≤c.param)&&decide (c.param≤255)&&emp c.text
 else if c.kind=5 then c.b.isZ&&eN c&&c.param==0&&nU c.text
 else false
def pR (c:ClipR):Bool:=decide (1≤c.len)&&decide (c.len≤2147483647)&&decide (0≤c.gain)&&decide (c.gain≤65536)&&fU c.chan&&aY c.a&&aY c.b
def aN (c:ClipR):Bool:=pR c&&cF c
theorem aG3 (c:ClipR) (h:c.fit):aK Tryz.prog 100 [mF c] (aX (aN c)):=by
 refine aG Tryz.X100 Tryz.func100 rfl Tryz.ntmps100 (by rw [Tryz.results100]) (aC _ ?_);simp only [go_sem,simprocAttr];refine ⟨_,fun _=>cPChans c.chan,?_⟩;simp only [go_sem,simprocAttr];refine ⟨_,fun _=>aDu c.a h.a,?_⟩;simp only [go_sem,simprocAttr];refine ⟨_,fun _=>aDu c.b h.b,?_⟩;simp only [go_sem,simprocAttr];refine brW (b := !pR c) ?_ ⟨fun hb=>?_,fun hb=>?_⟩
 ·have:pR c=(decide (1≤c.len)&&decide (c.len≤2147483647)&&decide (0≤c.gain)&&decide (c.gain≤65536)&&fU c.chan&&aY c.a&&aY c.b):=rfl;rw [this];have e1:(decide (c.len<1)||decide (c.len > 2147483647)||decide (c.gain<0)||decide (c.gain > 65536)) = !(decide (1≤c.len)&&decide (c.len≤2147483647)&&decide (0≤c.gain)&&decide (c.gain≤65536)):=by rw [Bool.eq_iff_iff];simp only [bxx];omega
  rw [e1];simp only [Bool.not_and,Bool.or_assoc]
 ·unfold awS;simp only [go_sem,simprocAttr];unfold aN;rw [nt hb];rfl
 ·unfold awS;simp only [go_sem,simprocAttr];refine ⟨_,jT c.b zSource,?_⟩;refine bT [0,1,2,3,4,5,6,7] .done rfl (by kernel_rfl) (by kernel_rfl) (by decide) ?_;simp only [go_sem,simprocAttr];have hbo:(IntKind.i64.wrap (c.total - c.len))=c.total - c.len ∨ ¬ (0≤c.off∧c.len≤c.total∧c.total≤2147483647):=by
   have:=nf hb;unfold pR at this;simp only [bxx] at this
   by_cases hx : 0≤c.off∧c.len≤c.total∧c.total≤2147483647
   ·left;exact wrap64 (by omega) (by omega)
   ·right;exact hx
  have hsh:(decide (c.off ≥ 0)&&decide (c.total ≥ c.len)&&decide (c.total≤2147483647)&&decide (c.off≤IntKind.i64.wrap (c.total - c.len)))=fE c:=by
   unfold fE;rcases hbo with e | e
   ·rw [e];first | done | (rw [Bool.eq_iff_iff];simp only [bxx];omega)
   ·rw [Bool.eq_iff_iff];simp only [bxx];omega
  rw [hsh];have hv:aN c=cF c:=by unfold aN;rw [nf hb,Bool.true_and]
  rw [hv];refine ⟨fun hk=>?_,fun hk0=>?_⟩
  ·simp only [bxx] at hk;unfold awS;simp only [go_sem,simprocAttr];refine ⟨_,jT c.a zSource,?_⟩;unfold cF;rw [if_pos hk];have e1:(((c.chan.length:Nat):Int)==0)=(c.chan.length==0):=by rw [Bool.eq_iff_iff];simp only [bxx];omega
   rw [e1];rfl
  unfold awS;simp only [go_sem,simprocAttr];refine ⟨fun hk=>?_,fun hk1=>?_⟩
  ·simp only [bxx] at hk;unfold awS;simp only [go_sem,simprocAttr];unfold cF;rw [if_neg (by omega),if_pos hk];rfl
  unfold awS;simp only [go_sem,simprocAttr];refine ⟨fun hk=>?_,fun hk2=>?_⟩
  ·simp only [bxx] at hk;unfold awS;simp only [go_sem,simprocAttr];unfold cF;rw [if_neg (by omega),if_neg (by omega),if_pos hk];rfl
  unfold awS;simp only [go_sem,simprocAttr];refine ⟨fun hk=>?_,fun hk3=>?_⟩
  ·simp only [bxx] at hk;unfold awS;simp only [go_sem,simprocAttr];unfold cF;rw [if_neg (by omega),if_neg (by omega),if_neg (by omega),if_pos hk];rfl
  unfold awS;simp only [go_sem,simprocAttr];refine ⟨fun hk=>?_,fun hk4=>?_⟩
  ·simp only [bxx] at hk;unfold awS;simp only [go_sem,simprocAttr];unfold cF;rw [if_neg (by omega),if_neg (by omega),if_neg (by omega),if_neg (by omega),if_pos hk];rfl
  unfold awS;simp only [go_sem,simprocAttr];refine ⟨fun hk=>?_,fun hk5=>?_⟩
  ·simp only [bxx] at hk;unfold awS;simp only [go_sem,simprocAttr];refine ⟨_,fun _=>aSp c.text,?_⟩;simp only [go_sem,simprocAttr];unfold cF;rw [if_neg (by omega),if_neg (by omega),if_neg (by omega),if_neg (by omega),if_neg (by omega),if_pos hk];rfl
  unfold awS;simp only [go_sem,simprocAttr];simp only [bxx] at hk0;simp only [bxx] at hk1;simp only [bxx] at hk2;simp only [bxx] at hk3;simp only [bxx] at hk4;simp only [bxx] at hk5;unfold cF;rw [if_neg hk0,if_neg hk1,if_neg hk2,if_neg hk3,if_neg hk4,if_neg hk5]
open Go.ChangeShapes Go.WideShapes
abbrev I64s := { n:Int // I64 n }
abbrev RatF := { r:RatR // r.fit }
abbrev SourceF := { s:SourceR // s.fit }
abbrev ClipF := { c:ClipR // c.fit }
theorem oChan:Opens Tryz.prog 3 sS:=aLg (k := .i64) Tryz.underlying3
theorem oInts:Opens Tryz.prog 22 fun l:List Int=>[bS l]:=aC3 (sS 0) Tryz.underlying22 oChan (by kernel_rfl) (fun _=>rfl) (by decide)
abbrev TrackF := { t:List ClipR // ∀ c∈t,c.fit }
theorem aInts:aGj Tryz.prog 22 fun l:List Int => .t (bS l):=Yt Tryz.underlying22 oInts
set_option maxHeartbeats 4000000
def chanI (n:Int):Bool:=decide (-1≤n)&&decide (n≤3)
theorem bF {c:ClipR} (h:aN c=true) : 1≤c.len∧c.len≤2147483647∧0≤c.gain∧c.gain≤65536∧fU c.chan=true∧aY c.a=true∧aY c.b=true∧cF c=true:=by
 unfold aN pR at h;simp only [Bool.and_eq_true,decide_eq_true_eq] at h;obtain ⟨⟨⟨⟨⟨⟨⟨q1,q2⟩,q3⟩,q4⟩,q5⟩,q6⟩,q7⟩,q8⟩:=h;exact ⟨q1,q2,q3,q4,q5,q6,q7,q8⟩
theorem Ze {c:ClipR} (h:cF c=true) : 0≤c.kind∧c.kind≤5:=by
 by_cases hk : 0≤c.kind∧c.kind≤5
 ·exact hk
 ·unfold cF at h
  repeat rw [if_neg (by omega)] at h
  cases h
theorem aQx {c:ClipR} (h:c.kind=0):cF c=(c.a.isZ&&c.b.isZ&&eN c&&c.param==0&&emp c.text&&c.gain==0&&c.chan.length==0):=by unfold cF;rw [if_pos h]
theorem kind1 {c:ClipR} (h:c.kind=1):cF c=(c.b.isZ&&eN c&&c.param==0&&emp c.text):=by unfold cF;rw [if_neg (by omega),if_pos h]
theorem kind2 {c:ClipR} (h:c.kind=2):cF c=(fE c&&c.param==0&&emp c.text):=by unfold cF;rw [if_neg (by omega),if_neg (by omega),if_pos h]
theorem kind3 {c:ClipR} (h:c.kind=3):cF c=(fE c&&decide (0≤c.param)&&decide (c.param≤3)&&emp c.text):=by unfold cF;rw [if_neg (by omega),if_neg (by omega),if_neg (by omega),if_pos h]
theorem kind4 {c:ClipR} (h:c.kind=4):cF c=(eN c&&decide (0≤c.param)&&decide (c.param≤255)&&emp c.text):=by unfold cF;rw [if_neg (by omega),if_neg (by omega),if_neg (by omega),if_neg (by omega),if_pos h]
theorem kind5 {c:ClipR} (h:c.kind=5):cF c=(c.b.isZ&&eN c&&c.param==0&&nU c.text):=by unfold cF;rw [if_neg (by omega),if_neg (by omega),if_neg (by omega),if_neg (by omega),if_neg (by omega),if_pos h]
def totL:List ClipR→Int
 | []=>0
 | c::l=>c.len+totL l
theorem dU:∀ (l:List ClipR) (k:Nat),k<l.length→totL (l.take (k+1))=totL (l.take k)+(l.getD k default).len
 | [],k,h=>by simp at h
 | c::l,0,h=>by simp [totL]
 | c::l,k+1,h=>by
  have:=dU l k (by simpa using h);simp only [List.take_succ_cons,totL,List.getD_cons_succ] at this ⊢;omega
theorem kY:∀ (l:List ClipR),(∀ c∈l,1≤c.len∧c.len≤2147483647)→(l.length:Int)≤totL l∧totL l≤2147483647*l.length
 | [],_=>by simp [totL]
 | c::l,h=>by
  have h1:=kY l fun d hd=>h d (by simp [hd])
  have h2:=h c (by simp);simp only [totL,List.length_cons];omega
def bB (t:List ClipR):Bool:=decide (t.length≤64)&&t.all aN&&decide (totL t≤2147483647)
def lenT (t:List ClipR):Int:=if bB t=true then totL t else 0
theorem aL {c:ClipR} (h:aN c=true) : 1≤c.len∧c.len≤2147483647:=by
 obtain ⟨h1,h2,_⟩:=bF h;exact ⟨h1,h2⟩
theorem aP {α : Type} {l:List α} {d : α} {k:Nat} (h:k<l.length):l.getD k d∈l:=by
 rw [List.getD_eq_getElem?_getD,List.getElem?_eq_getElem h];exact List.getElem_mem h
theorem Md {t:List ClipR} {k:Nat} (hk:k≤t.length) (hi:∀ i,i<k→aN (t.getD i default)=true):∀ c∈t.take k,1≤c.len∧c.len≤2147483647:=by
 intro c hc;obtain ⟨i,hi2,rfl⟩:=List.mem_iff_getElem.1 hc;have h1:i<k:=by simp at hi2;omega
 have:=aL (hi i h1);rw [aU (by omega)] at this;simpa using this
theorem Up {t:List ClipR} {k:Nat} (hk:k≤t.length) (h64:t.length≤64) (hi:∀ i,i<k→aN (t.getD i default)=true) : 0≤totL (t.take k)∧totL (t.take k)≤137438953408:=by
 have h1:=kY _ (Md hk hi);have:(t.take k).length=k:=by simp;omega
 omega
theorem kX (t:List ClipR) (hfit:∀ c∈t,c.fit):aK Tryz.prog 45 [.t (aM t)] (aX (bB t)):=by
 refine aG Tryz.X45 Tryz.func45 rfl Tryz.ntmps45 (by rw [Tryz.results45]) (aC _ ?_);simp only [go_sem,simprocAttr];refine ⟨fun h=>?_,fun h=>?_⟩
 ·simp only [bxx] at h;unfold awS;simp only [go_sem,simprocAttr];unfold bB;rw [decide_eq_false (by omega : ¬ t.length≤64)];rfl
 ·simp only [bxx] at h;unfold awS;simp only [go_sem,simprocAttr];refine aJ (fun (k:Nat) σ => dW 3 (aA (totL (t.take k))) (dW 11 (aA k) (dD [6,7,8] σ))) (fun k=>k≤t.length ∧ ∀ i,i<k→aN (t.getD i default)=true) (fun k=>t.length - k) 0 (aE ?_) ⟨Nat.zero_le _,by omega⟩ ?_
  ·simp only [go_sem,simprocAttr]<;>simp [totL]
  ·rintro k ⟨hk,hi⟩;have hr:=Up hk (by omega) hi;refine aC _ ?_;simp only [go_sem,simprocAttr];refine ⟨fun hlt=>?_,fun hge=>?_⟩
   ·simp only [bxx] at hlt;have hkl:k<t.length:=by omega
    unfold awS;simp only [go_sem,simprocAttr];refine ⟨⟨by omega,by omega⟩,_,aG3 _ (hfit _ (aP hkl)),?_⟩;simp only [go_sem,simprocAttr];refine brW (b := !aN (t.getD k default)) ?_ ⟨fun hb=>?_,fun hb=>?_⟩
    ·rfl
    ·unfold awS;simp only [go_sem,simprocAttr];unfold bB;rw [fY (d:=default) (p:=aN) (k:=k) hkl (nt hb),Bool.and_false];rfl
    ·have hl:=aL (nf hb);unfold awS;simp only [go_sem,simprocAttr];refine ⟨k+1,aE ?_,⟨by omega,upto hi (nf hb)⟩,by omega⟩;simp only [go_sem,simprocAttr];rw [wrap64 (x:=totL (t.take k)+(t.getD k default).len) (by omega) (by omega),dU t k hkl];simp [dC (show k<9223372036854775807 by omega)]
   ·simp only [bxx] at hge;unfold awS;simp only [go_sem,simprocAttr];unfold bB;rw [cU (d:=default) (p:=aN) (fun i h2=>hi i (by omega)),decide_eq_true (by omega:t.length≤64),List.take_of_length_le (by omega)];rfl
theorem cZ {t:List ClipR} (h:bB t=true):t.length≤64∧(∀ c∈t,aN c=true)∧totL t≤2147483647:=by
 unfold bB at h;simp only [Bool.and_eq_true,decide_eq_true_eq,List.all_eq_true] at h;exact ⟨h.1.1,h.1.2,h.2⟩
def aHm:List V→List V→Prop
 | [],[]=>True
 | x::xs,y::ys=>(x=y∨(x = .t (.lit (.slice none 0 0)) ∧ ∃ k d,y = .t (.list k d [])))∧aHm xs ys
 | _,_=>False
theorem Ph {w:World} {E:Env}:∀ {xs ys:List V} {vs:List Value},aHm xs ys→RdVs w E xs vs→RdVs w E ys vs
 | [],[],_,_,h=>h
 | x::xs,y::ys,[],_,h=>by simp only [RdVs] at h
 | x::xs,y::ys,v::vs,hn,h=>by
  simp only [RdVs] at h ⊢;refine ⟨?_,Ph hn.2 h.2⟩;rcases hn.1 with rfl | ⟨rfl,k,d,rfl⟩
  ·exact h.1
  ·have h1:=h.1;simp only [RdV] at h1 ⊢;cases h1;exact .list _ _ _ none 0 (Nat.zero_le _) (Nat.zero_le _) (fun _=>rfl) (by simp) (by simp) (by simp)
 | [],_::_,_,hn,_=>hn.elim
 | _::_,[],_,hn,_=>hn.elim
def aGc:List T→List T→Prop
 | [],[]=>True
 | x::xs,y::ys=>(x=y∨(x = .lit (.slice none 0 0) ∧ ∃ k d,y = .list k d []))∧aGc xs ys
 | _,_=>False
def Cw:List (List T)→List (List T)→Prop
 | [],[]=>True
 | x::xs,y::ys=>aGc x y∧Cw xs ys
 | _,_=>False
theorem Lc:∀ {xs ys:List T},aGc xs ys→xs.length=ys.length ∧ ∀ (j:Nat) y,ys[j]? = some y → ∃ x,xs[j]? = some x ∧ ∀ (w:World) (S:Nat→Prop) (v:Value),RdT w S x v→RdT w S y v
 | [],[],_=>by simp
 | x::xs,y::ys,h=>by
  obtain ⟨h1,h2⟩:=Lc h.2;refine ⟨by simp [h1],fun j z hz=>?_⟩;cases j with
  | zero =>
   simp at hz;subst hz;refine ⟨x,by simp,fun w S v hv=>?_⟩;rcases h.1 with rfl | ⟨rfl,k,d,rfl⟩
   ·exact hv
   ·cases hv;exact .list _ _ _ none 0 (Nat.zero_le _) (Nat.zero_le _) (fun _=>rfl) (by simp) (by simp) (by simp)
  | succ j =>
   obtain ⟨u,q1,q2⟩:=h2 j z (by simpa using hz);exact ⟨u,by simpa using q1,q2⟩
 | [],_::_,h=>h.elim
 | _::_,[],h=>h.elim
theorem Xk:∀ {xs ys:List (List T)},Cw xs ys→xs.length=ys.length ∧ ∀ (j:Nat) y,ys[j]? = some y → ∃ x,xs[j]? = some x∧aGc x y
 | [],[],_=>by simp
 | x::xs,y::ys,h=>by
  obtain ⟨h1,h2⟩:=Xk h.2;refine ⟨by simp [h1],fun j z hz=>?_⟩;cases j with
  | zero=>simp at hz;subst hz;exact ⟨x,by simp,h.1⟩
  | succ j =>
   obtain ⟨u,q1,q2⟩:=h2 j z (by simpa using hz);exact ⟨u,by simpa using q1,q2⟩
 | [],_::_,h=>h.elim
 | _::_,[],h=>h.elim
theorem aPj {w:World} {S:Nat→Prop} {k:Nat} {d d':List T} {xs ys:List (List T)} {v:Value} (ha:Cw xs ys) (h:RdT w S (.list k d xs) v):RdT w S (.list k d' ys) v:=by
 obtain ⟨hl,hat⟩:=Xk ha;cases h with
 | list _ _ _ A c hm hc hn hk hb hr =>
  rw [hl];refine .list _ _ _ A c (by omega) (by omega) hn ?_ ?_ ?_
  ·intro e he;obtain ⟨i,hi,rfl⟩:=List.mem_iff_getElem.1 he;obtain ⟨x,q1,q2⟩:=hat i _ (List.getElem?_eq_getElem hi);rw [← (Lc q2).1];exact hk x (List.mem_of_getElem? q1)
  ·intro i e he;obtain ⟨x,q1,q2⟩:=hat i e he;obtain ⟨b,off,q3,q4,q5⟩:=hb i x q1;refine ⟨b,off,q3,q4,fun j y hy=>?_⟩;obtain ⟨u,q6,_⟩:=(Lc q2).2 j y hy;exact q5 j u q6
  ·intro i e j y b off u he hy hA hu;obtain ⟨x,q1,q2⟩:=hat i e he;obtain ⟨z,q6,q7⟩:=(Lc q2).2 j y hy;exact q7 _ _ _ (hr i x j z b off u q1 q6 hA hu)
def AsVs (xs ys:List V):Prop := ∀ (w:World) (E:Env) (vs:List Value),RdVs w E xs vs→RdVs w E ys vs
theorem sX {P:Program} {f:FuncId} {args args':List V} {r:V} (ha:AsVs args' args) (h:aK P f args r):aK P f args' r :=
 ⟨h.1,fun w S vs hS hv=>h.2 w S vs hS (ha _ _ _ hv)⟩
theorem AsVs.cons {x y:V} {xs ys:List V} (h1:∀ (w:World) (E:Env) v,RdV w E x v→RdV w E y v) (h2:AsVs xs ys):AsVs (x::xs) (y::ys):=by
 intro w E vs h;cases vs with
 | nil=>simp only [RdVs] at h
 | cons v vs =>
  simp only [RdVs] at h ⊢;exact ⟨h1 _ _ _ h.1,h2 _ _ _ h.2⟩
theorem AsVs.nil:AsVs [] []:=fun _ _ _ h=>h
theorem dN {x:V}:∀ (w:World) (E:Env) v,RdV w E x v→RdV w E x v:=fun _ _ _ h=>h
theorem Eu {k:Nat} {d d':List T} {xs ys:List (List T)} (ha:Cw xs ys):∀ (w:World) (E:Env) v,RdV w E (.t (.list k d xs)) v→RdV w E (.t (.list k d' ys)) v:=by
 intro w E v h;simp only [RdV] at h ⊢;exact aPj ha h
theorem aTf {xs ys:List V} (ha:aHm xs ys):∀ (w:World) (E:Env) v,RdV w E (.agg xs) v→RdV w E (.agg ys) v:=by
 intro w E v h;simp only [RdV] at h ⊢;obtain ⟨vs,rfl,q1,q2⟩:=h;exact ⟨vs,rfl,Ph ha q1,q2⟩
theorem bJ {r x:V} {h:Heap} (e:x.lend h=r) (hp:r.pure=true):tQ r x h:=⟨by rw [e];exact hp,fun w E v hv=>by rw [e] at hv;exact hv⟩
theorem Vj {k:Nat} {d:List T} {h:Heap}:tQ (.t (.list k d [])) (.t (.lit (.slice none 0 0))) h:=by
 refine ⟨rfl,fun w E v hv=>?_⟩;have e:V.lend h (.t (.lit (.slice none 0 0))) = .t (.lit (.slice none 0 0)):=rfl;rw [e] at hv;simp only [RdV] at hv ⊢;cases hv;exact .list _ _ _ none 0 (Nat.zero_le _) (Nat.zero_le _) (fun _=>rfl) (by simp) (by simp) (by simp)
theorem Ky {P:Program} {f:FuncId} {cs args cs':List V} {r r':V} (ha:∀ (w:World) (E:Env) v,RdV w E r v→RdV w E r' v) (h:xB P f cs args r cs'):xB P f cs args r' cs' :=
 ⟨h.1,fun w S b ty cells vs h1 h2 h3 h4 h5 h6=>(h.2 w S b ty cells vs h1 h2 h3 h4 h5 h6).mono fun e w' ⟨v,S',ty',cells',k0,k1,k2,k3,k4,k5⟩=>⟨v,S',ty',cells',k0,k1,k2,k3,ha _ _ _ k4,k5⟩⟩
structure CueR where
 frm:Int
 upto:Int
 lines:List ByteArray
 deriving Inhabited
structure CueR.fit (c:CueR):Prop where
 frm:I64 c.frm
 upto:I64 c.upto
abbrev vcue (c:CueR):V := .agg [aA c.frm,aA c.upto, .t (aAm c.lines)]
def CueR.c (c:CueR):List T:=[ti c.frm,ti c.upto,aAm c.lines]
@[go_sem] theorem CueR.ct (c:CueR):(CueR.c c).map V.t = [aA c.frm,aA c.upto, .t (aAm c.lines)]:=rfl
@[go_sem] theorem CueR.cl (c:CueR):(CueR.c c).length=3:=rfl
@[go_sem] abbrev Mc (l:List CueR):T := .list 3 (CueR.c default) (l.map CueR.c)
structure SeqR where
 w:Int
 h:Int
 rate:RatR
 inter:Bool
 bits:Int
 buf:Int
 q:Nat→Int
 deriving Inhabited
structure SeqR.fit (s:SeqR):Prop where
 w:I64 s.w
 h:I64 s.h
 rate:s.rate.fit
 bits:I64 s.bits
 buf:I64 s.buf
def quantC (q:Nat→Int):List T:=(List.range 128).map fun i => .lit (.int .u8 (q i))
def SeqR.c (s:SeqR):List T:=[ti s.w,ti s.h,ti s.rate.num,ti s.rate.den,tbl s.inter,ti s.bits,ti s.buf]++quantC s.q
structure MediumR where
 name:ByteArray
 sum:Int
 seq:SeqR
 frames:Int
 channels:Int
 samples:Int
 cues:List CueR
 deriving Inhabited
structure MediumR.fit (m:MediumR):Prop where
 seq:m.seq.fit
 frames:I64 m.frames
 channels:I64 m.channels
 samples:I64 m.samples
 cues:∀ c∈m.cues,c.fit
def MediumR.c (m:MediumR):List T:=[fZ m.name,tu m.sum]++m.seq.c ++ [ti m.frames,ti m.channels,ti m.samples,Mc m.cues]
def mT (m:MediumR):List V:=(MediumR.c m).map .t
@[go_sem] theorem MediumR.ct (m:MediumR):(MediumR.c m).map V.t=mT m:=rfl
@[go_sem] theorem MediumR.cl (m:MediumR):(MediumR.c m).length=141:=rfl
@[go_sem] theorem vmed_len (m:MediumR):(mT m).length=141:=rfl
theorem aKd (m:MediumR):(mT m).all V.isCell=true:=by
 rw [List.all_eq_true];intro x hx;unfold mT at hx;obtain ⟨t,_,rfl⟩:=List.mem_map.1 hx;rfl
attribute [go_sem] aKd
@[go_sem] theorem vmed_0 (m:MediumR):(mT m)[0]? = some (bY m.name):=rfl
@[go_sem] theorem vmed_1 (m:MediumR):(mT m)[1]? = some (eP m.sum):=rfl
@[go_sem] theorem vmed_137 (m:MediumR):(mT m)[137]? = some (aA m.frames):=rfl
@[go_sem] theorem vmed_138 (m:MediumR):(mT m)[138]? = some (aA m.channels):=rfl
@[go_sem] theorem vmed_139 (m:MediumR):(mT m)[139]? = some (aA m.samples):=rfl
@[go_sem] theorem vmed_140 (m:MediumR):(mT m)[140]? = some (.t (Mc m.cues)):=rfl
def vseq (s:SeqR):List V:=(SeqR.c s).map .t
@[go_sem] theorem vseq_len (s:SeqR):(vseq s).length=135:=rfl
theorem aNd (m:MediumR):List.take 135 (List.drop 2 (mT m))=vseq m.seq:=rfl
theorem aKc (m:MediumR):List.take 2 (List.drop 4 (mT m)) = [aA m.seq.rate.num,aA m.seq.rate.den]:=rfl
theorem aNe (m:MediumR):List.take 141 (List.drop 0 (mT m))=mT m:=rfl
theorem aKe (m:MediumR):List.take 141 (mT m)=mT m:=rfl
attribute [go_sem] aNd aKc aNe aKe
@[go_sem] theorem drop_zmed (f:Value→V):List.drop 141 (List.map f Tryz.z82) = []:=List.drop_of_length_le (by rw [List.length_map,Tryz.zlen82];exact Nat.le_refl _)
structure SequenceR where
 name:ByteArray
 rate:RatR
 w:Int
 h:Int
 video:List (List ClipR)
 sound:List (List ClipR)
 cues:List CueR
 channels:Int
 deriving Inhabited
def jL (t:List ClipR):List T:=[aM t]
@[go_sem] theorem trackC_t (t:List ClipR):(jL t).map V.t = [.t (aM t)]:=rfl
@[go_sem] theorem trackC_l (t:List ClipR):(jL t).length=1:=rfl
@[go_sem] abbrev mV (l:List (List ClipR)):T := .list 1 (jL []) (l.map jL)
def SequenceR.c (s:SequenceR):List T:=[fZ s.name,ti s.rate.num,ti s.rate.den,ti s.w,ti s.h,mV s.video,mV s.sound,Mc s.cues,ti s.channels]
abbrev mE (s:SequenceR):V := .agg [bY s.name,aA s.rate.num,aA s.rate.den,aA s.w,aA s.h, .t (mV s.video), .t (mV s.sound), .t (Mc s.cues),aA s.channels]
@[go_sem] theorem SequenceR.ct (s:SequenceR):(SequenceR.c s).map V.t = [bY s.name,aA s.rate.num,aA s.rate.den,aA s.w,aA s.h, .t (mV s.video), .t (mV s.sound), .t (Mc s.cues),aA s.channels]:=rfl
@[go_sem] theorem SequenceR.cl (s:SequenceR):(SequenceR.c s).length=9:=rfl
structure SequenceR.fit (s:SequenceR):Prop where
 rate:s.rate.fit
 w:I64 s.w
 h:I64 s.h
 video:∀ t∈s.video, ∀ c∈t,c.fit
 sound:∀ t∈s.sound, ∀ c∈t,c.fit
 cues:∀ c∈s.cues,c.fit
 channels:I64 s.channels
structure ProjR where
 media:List MediumR
 seqs:List SequenceR
 deriving Inhabited
structure ProjR.fit (p:ProjR):Prop where
 media:∀ m∈p.media,m.fit
 seqs:∀ s∈p.seqs,s.fit
@[go_sem] abbrev Fj (l:List MediumR):T := .list 141 (MediumR.c default) (l.map MediumR.c)
@[go_sem] abbrev Un (l:List SequenceR):T := .list 9 (SequenceR.c default) (l.map SequenceR.c)
abbrev uV (p:ProjR):V := .agg [.t (Fj p.media), .t (Un p.seqs)]
def ProjR.c (p:ProjR):List T:=[Fj p.media,Un p.seqs]
def Wt (c:CueR):Bool:=decide (0≤c.frm)&&decide (c.frm<c.upto)&&decide (c.upto≤2147483647)&&decide (1≤c.lines.length)&&decide (c.lines.length≤4)
def Fc (c:CueR):Bool:=Wt c&&c.lines.all nU
theorem cPCue (c:CueR) (h:c.fit):aK Tryz.prog 242 [vcue c] (aX (Fc c)):=by
 obtain ⟨⟨f1,f2⟩,⟨t1,t2⟩⟩:=h;refine aG Tryz.X242 Tryz.func242 rfl Tryz.ntmps242 (by rw [Tryz.results242]) (aC _ ?_);simp only [go_sem,simprocAttr];refine brW (b := !Wt c) ?_ ⟨fun hb=>?_,fun hb=>?_⟩
 ·unfold Wt;rw [Bool.eq_iff_iff];simp only [decide_eq_true_eq,decide_eq_false_iff_not,Bool.or_eq_true,Bool.and_eq_false_iff,Bool.not_eq_eq_eq_not,Bool.not_true];omega
 ·unfold awS;simp only [go_sem,simprocAttr];unfold Fc;rw [nt hb];rfl
 ·have hk:=nf hb;unfold Wt at hk;simp only [decide_eq_true_eq,Bool.and_eq_true] at hk;unfold awS;simp only [go_sem,simprocAttr];refine aJ (fun (k:Nat) σ => dW 35 (aA k) σ) (fun k=>k≤c.lines.length ∧ ∀ i,i<k→nU (c.lines.getD i default)=true) (fun k=>c.lines.length - k) 0 (aE ?_) ⟨Nat.zero_le _,by omega⟩ ?_
  ·simp only [go_sem,simprocAttr]<;>simp
  ·rintro k ⟨hk1,hi⟩;refine aC _ ?_;simp only [go_sem,simprocAttr];refine ⟨fun hlt=>?_,fun hge=>?_⟩
   ·simp only [decide_eq_true_eq] at hlt;unfold awS;simp only [go_sem,simprocAttr];refine ⟨⟨by omega,by omega⟩,_,aSp _,?_⟩;simp only [go_sem];refine brW (b := !nU (c.lines.getD k default)) ?_ ⟨fun hc=>?_,fun hc=>?_⟩
    ·rfl
    ·unfold awS;simp only [go_sem,simprocAttr];unfold Fc;rw [fY (d:=default) (p:=nU) (k:=k) (by omega) (nt hc),Bool.and_false]
    ·unfold awS;simp only [go_sem,simprocAttr];refine ⟨k+1,aE ?_,⟨by omega,upto hi (nf hc)⟩,by omega⟩;simp only [go_sem,simprocAttr]<;>simp [dC (show k<9223372036854775807 by omega)]
   ·simp only [decide_eq_false_iff_not] at hge;unfold awS;simp only [go_sem,simprocAttr];unfold Fc;rw [nf hb,cU (d:=default) (p:=nU) (fun i h2=>hi i (by omega))];rfl
def Cs (l:List CueR):Bool:=l.all Fc
theorem aSq (l:List CueR) (h:∀ c∈l,c.fit):aK Tryz.prog 199 [.t (Mc l)] (aX (Cs l)):=by
 refine aG Tryz.X199 Tryz.func199 rfl Tryz.ntmps199 (by rw [Tryz.results199]) (dV fun hf=>aC _ ?_);simp only [go_sem,simprocAttr,nN] at hf;have hla:l.length≤maxLen:=hf.1;simp only [go_sem,simprocAttr];refine aJ (fun (k:Nat) σ => dW 7 (aA k) σ) (fun k=>k≤l.length ∧ ∀ i,i<k→Fc (l.getD i default)=true) (fun k=>l.length - k) 0 (aE ?_) ⟨Nat.zero_le _,by omega⟩ ?_
 ·simp only [go_sem,simprocAttr]<;>simp
 ·rintro k ⟨hk1,hi⟩;refine aC _ ?_;simp only [go_sem,simprocAttr];refine ⟨fun hlt=>?_,fun hge=>?_⟩
  ·simp only [decide_eq_true_eq] at hlt;unfold awS;simp only [go_sem,simprocAttr];refine ⟨⟨by omega,by omega⟩,_,cPCue _ (h _ (aP (by omega))),?_⟩;simp only [go_sem];refine brW (b := !Fc (l.getD k default)) ?_ ⟨fun hc=>?_,fun hc=>?_⟩
   ·rfl
   ·unfold awS;simp only [go_sem,simprocAttr];unfold Cs;rw [fY (d:=default) (p:=Fc) (k:=k) (by omega) (nt hc)]
   ·unfold awS;simp only [go_sem,simprocAttr];refine ⟨k+1,aE ?_,⟨by omega,upto hi (nf hc)⟩,by omega⟩;simp only [go_sem,simprocAttr]<;>simp [tG (show k<l.length by omega) hla]
  ·simp only [decide_eq_false_iff_not] at hge;unfold awS;simp only [go_sem,simprocAttr];unfold Cs;rw [cU (d:=default) (p:=Fc) (fun i h2=>hi i (by omega))]
def Nh (r:RatR):Bool:=fG r&&decide (0<r.num)
theorem aSn (r:RatR) (h:r.fit):aK Tryz.prog 196 [Ax r] (aX (Nh r)):=by
 refine aG Tryz.X196 Tryz.func196 rfl Tryz.ntmps196 (by rw [Tryz.results196]) (aC _ ?_);simp only [go_sem,simprocAttr];refine ⟨_,Sp r h,?_⟩;simp only [go_sem,simprocAttr]<;>rfl
def Kx (n:Int):Bool:=decide (0≤n)&&decide (n≤2147483647)
theorem aJt (n:Int):aK Tryz.prog 197 [aA n] (aX (Kx n)):=by
 refine aG Tryz.X197 Tryz.func197 rfl Tryz.ntmps197 (by rw [Tryz.results197]) (aC _ ?_);simp only [go_sem,simprocAttr]<;>rfl
def Ct (n:Int):Bool:=decide (0≤n)&&decide (n≤4)
theorem Jx (n:Int):aK Tryz.prog 198 [aA n] (aX (Ct n)):=by
 refine aG Tryz.X198 Tryz.func198 rfl Tryz.ntmps198 (by rw [Tryz.results198]) (aC _ ?_);simp only [go_sem,simprocAttr]<;>rfl
def Bw (n:Int):Bool:=decide (16≤n)&&decide (n≤64)&&decide (n % 16=0)
theorem aSk (n:Int):aK Tryz.prog 201 [aA n,aA 64] (aX (Bw n)):=by
 refine aG Tryz.X201 Tryz.func201 rfl Tryz.ntmps201 (by rw [Tryz.results201]) (aC _ ?_);simp only [go_sem,↓reduceIte,Nat.reduceAdd,Nat.reduceSub];refine ⟨fun _=>by decide,?_⟩;have:(decide (n ≥ 16)&&decide (n≤64)&&n.tmod 16==0)=Bw n:=by
  unfold Bw
  by_cases h : 16≤n
  ·rw [Int.tmod_eq_emod_of_nonneg (by omega)];rfl
  ·simp [h]
 rw [this]
def fF (m:MediumR):Bool:=dS m.name&&Nh m.seq.rate&&Kx m.frames&&Kx m.samples&&Ct m.channels&&Cs m.cues
theorem cPMed (m:MediumR) (h:m.fit):aK Tryz.prog 141 [.agg (mT m)] (aX (!fF m)):=by
 refine aG Tryz.X141 Tryz.func141 rfl Tryz.ntmps141 (by rw [Tryz.results141]) (aC _ ?_);simp only [go_sem,simprocAttr];refine ⟨_,aG2 m.name,?_⟩;simp only [go_sem,simprocAttr];refine ⟨_,fun _=>aSn m.seq.rate h.seq.rate,?_⟩;simp only [go_sem,simprocAttr];refine ⟨_,fun _=>aJt m.frames,?_⟩;simp only [go_sem,simprocAttr];refine ⟨_,fun _=>aJt m.samples,?_⟩;simp only [go_sem,simprocAttr];refine ⟨_,fun _=>Jx m.channels,?_⟩;simp only [go_sem,simprocAttr];refine ⟨_,fun _=>aSq m.cues h.cues,?_⟩;simp only [go_sem,simprocAttr];unfold fF;simp only [Bool.not_and]
def mZ (c:ClipR):Bool:=c.gain==0&&(c.chan.length:Int)==0
theorem aSm (c:ClipR):aK Tryz.prog 203 [mF c] (aX (mZ c)):=by
 refine aG Tryz.X203 Tryz.func203 rfl Tryz.ntmps203 (by rw [Tryz.results203]) (aC _ ?_);simp only [go_sem,simprocAttr]<;>rfl
def Cv (ch:Int) (c:ClipR):Bool:=c.kind==0||((c.kind==1||c.kind==2)&&(!c.a.smooth && !c.b.smooth&&(c.chan.length:Int)==ch))
theorem aMt (c:ClipR) (ch:Int):aK Tryz.prog 205 [mF c,aA ch] (aX (Cv ch c)):=by
 refine aG Tryz.X205 Tryz.func205 rfl Tryz.ntmps205 (by rw [Tryz.results205]) (aC _ ?_);simp only [go_sem,simprocAttr];refine ⟨fun h0=>?_,fun h0=>?_⟩
 ·unfold awS;simp only [go_sem,simprocAttr];unfold Cv;rw [h0];rfl
 ·unfold awS;simp only [go_sem,simprocAttr];refine ⟨fun h1=>?_,fun h1=>?_⟩
  ·unfold awS;simp only [go_sem,simprocAttr,h1];unfold Cv;rw [h0,h1];simp
  ·unfold awS;simp only [go_sem,simprocAttr];refine ⟨fun h2=>?_,fun h2=>?_⟩
   ·unfold awS;simp only [go_sem,simprocAttr];unfold Cv;rw [h0,h1,h2];simp
   ·unfold awS;simp only [go_sem,simprocAttr];unfold Cv;rw [h0,h1,h2];rfl
abbrev Ent:=Value×Bool×List T
def rE (k:Value) (m:Bool×List T):List Ent→List Ent
 | []=>[(k,m)]
 | e::es=>if tD k e.1=true then (k,m)::es else e::rE k m es
theorem vC (k:Value) (m:Bool×List T):∀ es:List Ent,Bz k (mkV m) (tEs es)=tEs (rE k m es)
 | []=>rfl
 | e::es=>by
  have h:=vC k m es;unfold tEs at h ⊢;simp only [List.map_cons,Bz,rE];split
  ·rfl
  ·rw [h];rfl
theorem aHb:∀ ts:List T,V.pures (ts.map .t)=true
 | []=>rfl
 | t::ts=>by simp only [List.map_cons,V.pures,V.pure,aHb ts,Bool.and_self]
theorem aCd:∀ m:Bool×List T,(mkV m).pure=true
 | (true,ts)=>by simp only [mkV,V.pure,aHb]
 | (false,[])=>rfl
 | (false,[t])=>rfl
 | (false,_::_::_)=>rfl
@[go_sem] theorem aEw:∀ es:List Ent,uL (tEs es)=True
 | []=>rfl
 | e::es=>by
  have h:=aEw es;unfold tEs at h ⊢;simp only [List.map_cons,uL,aCd,h,and_self]
@[go_sem] theorem tEs_nil:tEs [] = []:=rfl
def Bb (es:List Ent):Prop := ∀ e∈es, ∃ s:ByteArray,e.1 = .string s
theorem aKn:Bb []:=fun e h=>by cases h
theorem Ut {n:ByteArray} {m:Bool×List T}:∀ {es:List Ent},Bb es→Bb (rE (.string n) m es)
 | [],_=>fun e h=>by simp only [rE,List.mem_singleton] at h;subst h;exact ⟨n,rfl⟩
 | e0::es,h=>by
  unfold rE;split
  ·intro e he;rcases List.mem_cons.1 he with rfl | he
   ·exact ⟨n,rfl⟩
   ·exact h e (by simp [he])
  ·intro e he;rcases List.mem_cons.1 he with rfl | he
   ·exact h _ (by simp)
   ·exact Ut (fun e he=>h e (by simp [he])) e he
theorem sQ {es:List Ent} (h:Bb es):pL .string es=true:=by
 induction es with
 | nil=>rfl
 | cons e es ih =>
  obtain ⟨s,hs⟩:=h e (by simp);simp only [pL,hs,gT,ih fun e he=>h e (by simp [he]),Bool.and_self]
theorem Wa {n n':ByteArray} {m:Bool×List T}:∀ {es:List Ent},Bb es→qL (.string n) (rE (.string n') m es)=if n=n' then some (mkV m) else qL (.string n) es
 | [],_=>by simp only [rE,qL,tD,decide_eq_true_eq]
 | e0::es,h=>by
  obtain ⟨s,hs⟩:=h e0 (by simp);obtain ⟨k0,m0⟩:=e0;simp only at hs;subst hs;have ih:=Wa (n:=n) (n':=n') (m:=m) (es:=es) fun e he=>h e (by simp [he])
  simp only [rE,tD,decide_eq_true_eq];split
  ·rename_i h1;subst h1;simp only [qL,tD,decide_eq_true_eq];split<;>rfl
  ·rename_i h1;simp only [qL,tD,decide_eq_true_eq,ih];split
   ·rename_i h2;subst h2;rw [if_neg (fun h=>h1 h.symm)]
   ·rfl
def jC {α : Type} (nm : α → ByteArray) (c : α → Bool×List T) (l:List α):List Ent:=l.foldl (fun es x=>rE (.string (nm x)) (c x) es) []
theorem wQ {α : Type} (nm : α → ByteArray) (c : α → Bool×List T) (l:List α) (x : α):jC nm c (l ++ [x])=rE (.string (nm x)) (c x) (jC nm c l):=by
 unfold jC;rw [List.foldl_append];rfl
theorem mN {α : Type} (nm : α → ByteArray) (c : α → Bool×List T) (l:List α):Bb (jC nm c l):=by
 unfold jC;have:∀ (l:List α) (es:List Ent),Bb es→Bb (l.foldl (fun es x=>rE (.string (nm x)) (c x) es) es):=by
  intro l
  induction l with
  | nil=>intro es h;exact h
  | cons x l ih=>intro es h;exact ih _ (Ut h)
 exact this l [] aKn
theorem fB {α : Type} [Inhabited α] {l:List α} {k:Nat} (h:k<l.length):l.take (k+1)=l.take k ++ [l.getD k default]:=by
 rw [List.take_add_one,List.getElem?_eq_getElem h,aU h];rfl
theorem wP {α : Type} [Inhabited α] (nm : α → ByteArray) (c : α → Bool×List T) {l:List α} {k:Nat} (h:k<l.length):jC nm c (l.take (k+1))=rE (.string (nm (l.getD k default))) (c (l.getD k default)) (jC nm c (l.take k)):=by
 rw [fB h,wQ]
def gY {α : Type} (nm : α → ByteArray) (n:ByteArray):List α → Option α
 | []=>none
 | x::l=>match gY nm n l with
  | some y=>some y
  | none=>if n=nm x then some x else none
theorem yR {α : Type} (nm : α → ByteArray) (n:ByteArray) (x : α):∀ l:List α,gY nm n (l ++ [x])=if n=nm x then some x else gY nm n l
 | []=>by simp only [List.nil_append,gY]
 | y::l=>by
  simp only [List.cons_append,gY,yR nm n x l]
  by_cases h:n=nm x
  ·rw [if_pos h,if_pos h]
  ·rw [if_neg h,if_neg h]
theorem jS {α : Type} {nm : α → ByteArray} {n:ByteArray}:∀ {l:List α} {x : α},gY nm n l=some x→x∈l∧nm x=n
 | y::l,x,h=>by
  simp only [gY] at h;split at h
  ·rename_i z hz;injection h with h;subst h;obtain ⟨h1,h2⟩:=jS hz;exact ⟨by simp [h1],h2⟩
  ·split at h
   ·injection h with h;subst h;rename_i hn;exact ⟨by simp,hn.symm⟩
   ·cases h
theorem gH {α : Type} {nm : α → ByteArray} {n:ByteArray}:∀ {l:List α},gY nm n l=none ↔ ∀ x∈l,nm x≠n
 | []=>by simp [gY]
 | y::l=>by
  have ih:=gH (nm:=nm) (n:=n) (l:=l);simp only [gY,List.mem_cons,forall_eq_or_imp];split
  ·rename_i z hz;obtain ⟨h1,h2⟩:=jS hz;constructor
   ·intro h;cases h
   ·rintro ⟨_,h⟩;exact (h z h1 h2).elim
  ·rename_i hz;split
   ·rename_i hn;constructor
    ·intro h;cases h
    ·rintro ⟨h,_⟩;exact (h hn.symm).elim
   ·rename_i hn;exact ⟨fun _=>⟨fun h=>hn h.symm,ih.1 hz⟩,fun _=>rfl⟩
theorem tV {α : Type} (nm : α → ByteArray) (c : α → Bool×List T) (n:ByteArray) (l:List α):qL (.string n) (jC nm c l)=(gY nm n l).map fun x=>mkV (c x):=by
 have:∀ (r:List α),qL (.string n) (jC nm c r.reverse)=(gY nm n r.reverse).map fun x=>mkV (c x):=by
  intro r
  induction r with
  | nil=>rfl
  | cons x r ih =>
   rw [List.reverse_cons,wQ,Wa (mN nm c _),yR,ih];split<;>rfl
 have h:=this l.reverse;rwa [List.reverse_reverse] at h
def Zp (r:List ByteArray) (n:ByteArray):Bool:=r.any fun m=>decide (m=n)
theorem yU {r:List ByteArray} {n:ByteArray}:Zp r n=true ↔ n∈r:=by
 unfold Zp;rw [List.any_eq_true];constructor
 ·rintro ⟨m,h1,h2⟩;rw [decide_eq_true_eq] at h2;subst h2;exact h1
 ·intro h;exact ⟨n,h,by simp⟩
def sG:List ByteArray→List ByteArray:=fun l=>l.foldl (fun r n=>if Zp r n=true then r else r ++ [n]) []
theorem vE (l:List ByteArray) (n:ByteArray):sG (l ++ [n])=if Zp (sG l) n=true then sG l else sG l ++ [n]:=by
 unfold sG;rw [List.foldl_append];rfl
def Dg (v:Value):ByteArray :=
 match v with
 | .string s=>s
 | _=>⟨#[]⟩
theorem aCs {n:ByteArray} {m:Bool×List T}:∀ {es:List Ent},Bb es→(rE (.string n) m es).map (fun e=>Dg e.1)=if Zp (es.map fun e=>Dg e.1) n=true then es.map (fun e=>Dg e.1) else es.map (fun e=>Dg e.1) ++ [n]
 | [],_=>rfl
 | e0::es,h=>by
  obtain ⟨s,hs⟩:=h e0 (by simp);obtain ⟨k0,m0⟩:=e0;simp only at hs;subst hs;have ih:=aCs (n:=n) (m:=m) (es:=es) fun e he=>h e (by simp [he])
  simp only [rE,tD,decide_eq_true_eq]
  by_cases h1:n=s
  ·subst h1;rw [if_pos rfl];have:Zp (List.map (fun e:Ent=>Dg e.1) ((Value.string n,m0)::es)) n=true:=yU.2 (by simp [Dg]);rw [if_pos this];rfl
  ·rw [if_neg h1];have h2:Zp (List.map (fun e:Ent=>Dg e.1) ((Value.string s,m0)::es)) n=Zp (List.map (fun e:Ent=>Dg e.1) es) n:=by
    simp only [List.map_cons,Zp,List.any_cons,Dg];rw [decide_eq_false (fun h=>h1 h.symm),Bool.false_or]
   rw [h2,List.map_cons,ih];split<;>rfl
theorem Qe {α : Type} (nm : α → ByteArray) (c : α → Bool×List T) (l:List α):(jC nm c l).map (fun e=>Dg e.1)=sG (l.map nm):=by
 have:∀ (r:List α),(jC nm c r.reverse).map (fun e=>Dg e.1)=sG (r.reverse.map nm):=by
  intro r
  induction r with
  | nil=>rfl
  | cons x r ih=>rw [List.reverse_cons,wQ,aCs (mN nm c _),List.map_append,List.map_cons,List.map_nil,vE,ih]
 have h:=this l.reverse;rwa [List.reverse_reverse] at h
theorem Ea {l:List ByteArray} {n:ByteArray}:n∈sG l ↔ n∈l:=by
 have:∀ (r:List ByteArray),n∈sG r.reverse ↔ n∈r.reverse:=by
  intro r
  induction r with
  | nil=>simp [sG]
  | cons x r ih =>
   rw [List.reverse_cons,vE];split
   ·rename_i h;rw [yU] at h;rw [List.mem_append,ih,List.mem_singleton];constructor
    ·exact .inl
    ·rintro (h1 | rfl)
     ·exact h1
     ·exact ih.1 h
   ·rw [List.mem_append,List.mem_append,ih]
 have h:=this l.reverse;rwa [List.reverse_reverse] at h
theorem aF2 (l:List ByteArray):(sG l).Nodup:=by
 have:∀ (r:List ByteArray),(sG r.reverse).Nodup:=by
  intro r
  induction r with
  | nil=>exact List.nodup_nil
  | cons x r ih =>
   rw [List.reverse_cons,vE];split
   ·exact ih
   ·rename_i h;rw [yU] at h;exact List.nodup_append.2 ⟨ih,by simp,fun a ha b hb=>by simp at hb;subst hb;exact fun e=>h (e ▸ ha)⟩
 have h:=this l.reverse;rwa [List.reverse_reverse] at h
theorem sF (l:List ByteArray):(sG l).length≤l.length:=by
 have:∀ (r:List ByteArray),(sG r.reverse).length≤r.reverse.length:=by
  intro r
  induction r with
  | nil=>exact Nat.le_refl _
  | cons x r ih =>
   rw [List.reverse_cons,vE];split<;>simp only [List.length_append,List.length_cons,List.length_nil]<;>omega
 have h:=this l.reverse;rwa [List.reverse_reverse] at h
theorem xF (l:List ByteArray):(sG l).length<l.length ↔ ¬ l.Nodup:=by
 have:∀ (r:List ByteArray),(sG r.reverse).length<r.reverse.length ↔ ¬ r.reverse.Nodup:=by
  intro r
  induction r with
  | nil=>simp [sG]
  | cons x r ih =>
   rw [List.reverse_cons,vE];have hle:=sF r.reverse;have hnd:(r.reverse ++ [x]).Nodup ↔ r.reverse.Nodup∧x ∉ r.reverse:=by
    rw [List.nodup_append];constructor
    ·rintro ⟨h1,_,h2⟩;exact ⟨h1,fun hx=>h2 x hx x (by simp) rfl⟩
    ·rintro ⟨h1,h2⟩;exact ⟨h1,by simp,fun a ha b hb=>by simp at hb;subst hb;exact fun e=>h2 (e ▸ ha)⟩
   split
   ·rename_i h;rw [yU,Ea] at h;rw [hnd];simp only [List.length_append,List.length_cons,List.length_nil];exact ⟨fun _ h2=>h2.2 h,fun _=>by omega⟩
   ·rename_i h;rw [yU,Ea] at h;rw [hnd];simp only [List.length_append,List.length_cons,List.length_nil];constructor
    ·intro h1 h2;exact (ih.1 (by omega)) h2.1
    ·intro h1;have:=ih.2 (fun h2=>h1 ⟨h2,h⟩);omega
 have h:=this l.reverse;rwa [List.reverse_reverse] at h
theorem Eb {α : Type} (nm : α → ByteArray) (c : α → Bool×List T) (l:List α):(jC nm c l).length=(sG (l.map nm)).length:=by
 have:=congrArg List.length (Qe nm c l);simpa using this
theorem Rk {k:Value} {m:Bool×List T} (hm:(m.1||m.2.length==1)=true):∀ {es:List Ent},sW es=true→sW (rE k m es)=true
 | [],_=>by simp only [rE,sW,List.all_cons,hm,List.all_nil,Bool.and_self]
 | e::es,h=>by
  unfold sW at h;simp only [List.all_cons,Bool.and_eq_true] at h;unfold rE;split
  ·unfold sW;simp only [List.all_cons,hm,Bool.true_and];exact h.2
  ·have:=Rk (k:=k) hm (es:=es) h.2;unfold sW at this ⊢;simp only [List.all_cons,h.1,this,Bool.and_self]
theorem rH {α : Type} (nm : α → ByteArray) (c : α → Bool×List T) (hc:∀ x,((c x).1||(c x).2.length==1)=true) (l:List α):sW (jC nm c l)=true:=by
 unfold jC;have:∀ (l:List α) (es:List Ent),sW es=true→sW (l.foldl (fun es x=>rE (.string (nm x)) (c x) es) es)=true:=by
  intro l
  induction l with
  | nil=>intro es h;exact h
  | cons x l ih=>intro es h;exact ih _ (Rk (hc x) h)
 exact this l [] rfl
def medC (m:MediumR):Bool×List T:=(true,MediumR.c m)
def seqC (s:SequenceR):Bool×List T:=(true,SequenceR.c s)
def Ty (l:List MediumR):List Ent:=jC MediumR.name medC l
def Se (l:List SequenceR):List Ent:=jC SequenceR.name seqC l
@[go_sem] theorem mkV_med (m:MediumR):mkV (medC m) = .agg (mT m):=rfl
@[go_sem] theorem mkV_seq (s:SequenceR):mkV (seqC s)=mE s:=rfl
abbrev vG (l:List MediumR) (n:ByteArray):Option MediumR:=gY MediumR.name n l
abbrev bZ (l:List SequenceR) (n:ByteArray):Option SequenceR:=gY SequenceR.name n l
abbrev vcat (p:ProjR):V := .agg [.t (.map (Ty p.media)), .t (.map (Se p.seqs))]
open Go.Lib
theorem aFf:(Tryz.prog.info? 27).map (fun i=>(i.zero,i.size,i.bytes))=some (some (.slice none 0 0),1,24):=by kernel_rfl
set_option maxHeartbeats 2000000 in
theorem aEp (n:Nat) (h0 : 0<n) (hn:n≤1000000) (w:World):Calls Tryz.prog 262 #[.slice none 0 0, .int .i64 n] w fun e w' =>
  e = .returned (.slice (some ⟨w.heap.size,0,none⟩) 0 (grownCap w n 0 27))∧w'=w.drew.alloc (.cells (Builtin.zeroCells #[.slice none 0 0] n++Builtin.zeroCells #[.slice none 0 0] (grownCap w n 0 27 - n)) 27):=by
 obtain ⟨i0,hi,hz0,hz1,hz2⟩:=info_parts aFf;have h1 : ¬ ((n:Int)<0):=by omega
 have h2:Go.RowKit.wrap64 ((0:Int) - 0)=0:=by unfold Go.RowKit.wrap64;omega
 have h3:Go.RowKit.wrap64 ((n:Int) - 0)=(n:Int):=by unfold Go.RowKit.wrap64;omega
 have h4:(n:Int) > 0:=by omega
 have hrz:∀ ty,(Builtin.append_ #[112,3] ty #[.slice none 0 0, .int .i64 n]).run Tryz.prog w = .ok (.slice (some ⟨w.heap.size,0,none⟩) n (grownCap w n 0 27)) (w.drew.alloc (.cells (Builtin.zeroCells #[.slice none 0 0] n++Builtin.zeroCells #[.slice none 0 0] (grownCap w n 0 27 - n)) 27)):=fun ty =>
  run_append_nil_zeros w _ _ ty _ i0 _ .i64 .i64 Tryz.underlying112 Tryz.underlying3 hi hz0 n h0 (by omega) (by omega) (by rw [hz2];omega)
 have hGn:n≤grownCap w n 0 27:=grownCap_ge w _ _ _;obtain ⟨G,hG⟩:∃ G,G=grownCap w n 0 27:=⟨_,rfl⟩
 rw [← hG] at hrz hGn ⊢
 go_enter Tryz.func262,Tryz.ntmps262
 go_wp2_with (at_builtin;refine Lib.wpList_append_run _ rfl _ _ _ _ rfl _ _ rfl rfl _ _ (hrz _) ?_)
 all_goals (go_ret;exact ⟨rfl,rfl⟩)
set_option maxHeartbeats 2000000 in
theorem aB9 (w:World):Calls Tryz.prog 262 #[.slice none 0 0, .int .i64 0] w fun e w'=>e = .returned (.slice none 0 0)∧w'=w:=by
 have h2:Go.RowKit.wrap64 ((0:Int) - 0)=0:=by unfold Go.RowKit.wrap64;omega
 go_enter Tryz.func262,Tryz.ntmps262
 go_wp2
 all_goals (go_ret;exact ⟨rfl,rfl⟩)
theorem Qp {P : Program} {σ : St} {d : Option Tmp} {f : FuncId} {n e k : Nat} {dd : List T} {K : St → Prop} (he : P.enters f = true) (hrun : ∀ w : World, Calls P f #[.slice none 0 0, .int .i64 n] w fun en w' => (n = 0 ∧ en = .returned (.slice none 0 0) ∧ w' = w) ∨
      ∃ cap cells, en = .returned (.slice (some ⟨w.heap.size, 0, none⟩) 0 cap) ∧ w' = w.drew.alloc (.cells cells e) ∧ cells.size = cap * k ∧ cap ≤ maxLen)
    (hK : K ((σ.add (.row e k dd [])).put d (.own σ.nx))) : ICall P σ d f [.t (.lit (.slice none 0 0)), aA n] K := by
  refine qQ he fun E w vs hr hbd hvs => ?_
  obtain ⟨v1, v2, hv, h1, h2⟩ := aNj (vs := vs.toArray) (by simpa using hvs);rw [hv, (aF h1).1, (aF h2).1];have hrF : RelF E { σ with fr := [], df := aPb E } { tmps := #[], defers := [] } w := ⟨hr, hbd, by show RdVs w E [] []; simp only [RdVs], Yd⟩;refine (hrun w).mono ?_;rintro en w' (⟨rfl, rfl, rfl⟩ | ⟨cap, cells, rfl, rfl, hsz, hcap⟩)
  · obtain ⟨k1, k2, k3⟩ := hrF.add (hv := .slice none 0 0) (blk := .row e k dd []) (S' := E.S) (Below.refl _ _) (fun _ h => h) (fun _ h => .inl h) hr.slt (fun _ => ⟨[], World.ownsRow_nil _ 0 e k, by simp only [List.flatten_nil, RdVs], by simp, rfl⟩) (fun b hb => by cases hb) rfl rfl
    exact ⟨_, _, _, _, _, rfl, k1.rel, k1.bound, k2, k3, hK⟩
  · have hb : Below w.heap.size w (w.drew.alloc (.cells cells e)) := (Below.refl _ _).drew.alloc (Nat.le_refl _) _
    have hnew : (w.drew.alloc (.cells cells e)).heap[w.heap.size]? = some (.cells cells e (0, 0)) := World.alloc_heap_new w.drew _;obtain ⟨k1, k2, k3⟩ := hrF.add (hv := .slice (some ⟨w.heap.size, 0, none⟩) 0 cap) (blk := .row e k dd []) (S' := E.S) hb (fun _ h => h) (fun _ h => .inl h) (fun b hb' => Nat.lt_of_lt_of_le (hr.slt b hb') hb.size)
      (fun _ => ⟨[], ⟨by simp, .inr ⟨w.heap.size, cap, cells, rfl, Nat.zero_le _, hnew, Nat.zero_le _, hcap, hsz, by simp⟩⟩, by simp only [List.flatten_nil, RdVs], by simp, rfl⟩)
      (fun b hb' => by injection hb' with hb'; subst hb'; exact ⟨Nat.le_refl _, (Array.getElem?_eq_some_iff.1 hnew).1, fun hs => absurd (hr.slt _ hs) (by simp)⟩) rfl rfl
    exact ⟨_, _, _, _, _, rfl, k1.rel, k1.bound, k2, k3, hK⟩
theorem Mn (z:Array Value) (n:Nat):(Builtin.zeroCells z n).size=n*z.size:=by unfold Builtin.zeroCells;simp
theorem igrowTr {σ : St} {d:Option Tmp} {n:Nat} {K:St→Prop} (hn:n≤1000000) (dd:List T) (hK:K ((σ.add (.row 27 1 dd [])).put d (.own σ.nx))):ICall Tryz.prog σ d 262 [.t (.lit (.slice none 0 0)),aA n] K:=by
 refine Qp Tryz.X262 (fun w=>?_) hK;rcases Nat.eq_zero_or_pos n with rfl | h0
 ·exact (aB9 w).mono fun e w' h => .inl ⟨rfl,h⟩
 ·refine (aEp n h0 hn w).mono ?_;rintro e w' ⟨rfl,rfl⟩;have h1:=grownCap_ge w n 0 27;refine .inr ⟨_,_,rfl,rfl,?_,grownCap_le_maxLen w n 0 _ (by unfold maxLen;omega)⟩;simp only [Array.size_append,Mn];simp;omega
end Go.Proofs.YtbfnemkngoaeeaaGreat
namespace Go.Proofs.YtbfnemkngoaeeaaGreat
open Go.Proofs Go.RowKit Go.Maps Go.Sort Go.Shelf
def Jf:Go.Shelf.Ren:=⟨fun | 7=>73 | 10=>147 | n=>n,fun | 23=>148 | 26=>9 | 3=>4 | 28=>132 | 0=>0 | 27=>131 | 33=>206 | 4=>4 | n=>n,fun | n=>n⟩
theorem keysLay:Go.Proofs.SlLaysZ.n7 Tryz.prog Jf where
 mixed:=by kernel_rfl
 f7 := ⟨"maps.Keys[map[string]bool,string,bool]", by decide, Tryz.func73.trans (congrArg some (by kernel_rfl))⟩
 f10 := ⟨"maps.Keys[map[string]bool,string,bool]$1", by decide, Tryz.func147.trans (congrArg some (by kernel_rfl))⟩
 t0:=Tryz.underlying0
 a0:=Tryz.isAgg0
 z0:=Tryz.sizeOf0
 v0:=Tryz.zeroValue0
 t4:=Tryz.underlying4
 a4:=Tryz.isAgg4
 z4:=Tryz.sizeOf4
 v4:=Tryz.zeroValue4
 t23:=Tryz.underlying148
 a23:=Tryz.isAgg148
 z23:=Tryz.sizeOf148
 v23:=Tryz.zeroValue148
 t26:=Tryz.underlying9
 a26:=Tryz.isAgg9
 z26:=Tryz.sizeOf9
 v26:=Tryz.zeroValue9
 t27:=Tryz.underlying131
 a27:=Tryz.isAgg131
 z27:=Tryz.sizeOf131
 v27:=Tryz.zeroValue131
 t28:=Tryz.underlying132
 a28:=Tryz.isAgg132
 z28:=Tryz.sizeOf132
 v28:=Tryz.zeroValue132
 t33:=Tryz.underlying206
 a33:=Tryz.isAgg206
 z33:=Tryz.sizeOf206
 v33:=Tryz.zeroValue206
def uJ:Go.Shelf.Ren:=⟨fun | 6=>59 | 8=>128 | 9=>129 | 11=>190 | 13=>192 | 12=>191 | 23=>240 | 24=>241 | 14=>231 | 15=>232 | 16=>233 | 17=>234 | 18=>235 | 19=>236 | 20=>237 | 21=>238 | 22=>239 | 25=>256 | 26=>257 | 27=>258 | 28=>259 | 29=>260 | 30=>261 | 31=>269 | n=>n,fun | 26=>9 | 28=>132 | 24=>57 | 0=>0 | 3=>3 | 37=>259 | 48=>298 | 50=>67 | 4=>4 | 40=>290 | 39=>289 | 45=>295 | 5=>5 | 9=>9 | 51=>308 | 55=>312 | 57=>317 | 58=>318 | 33=>206 | n=>n,fun | n=>n⟩
theorem aKx:Go.Proofs.SlLaysZ.n6 Tryz.prog uJ where
 mixed:=by kernel_rfl
 f6 := ⟨"slices.Sorted[string]", by decide, Tryz.func59.trans (congrArg some (by kernel_rfl))⟩
 f8 := ⟨"slices.Collect[string]", by decide, Tryz.func128.trans (congrArg some (by kernel_rfl))⟩
 f11 := ⟨"slices.AppendSeq[[]string,string]", by decide, Tryz.func190.trans (congrArg some (by kernel_rfl))⟩
 t0:=Tryz.underlying0
 a0:=Tryz.isAgg0
 z0:=Tryz.sizeOf0
 v0:=Tryz.zeroValue0
 t24:=Tryz.underlying57
 a24:=Tryz.isAgg57
 z24:=Tryz.sizeOf57
 v24:=Tryz.zeroValue57
 t26:=Tryz.underlying9
 a26:=Tryz.isAgg9
 z26:=Tryz.sizeOf9
 v26:=Tryz.zeroValue9
 t28:=Tryz.underlying132
 a28:=Tryz.isAgg132
 z28:=Tryz.sizeOf132
 v28:=Tryz.zeroValue132
 i26:=by kernel_rfl
def aB3:Go.Shelf.Ren:=⟨fun | 6=>129 | 8=>192 | 9=>191 | 19=>240 | 20=>241 | 21=>231 | 22=>232 | 23=>233 | 24=>234 | 25=>235 | 26=>236 | 27=>237 | 28=>238 | 29=>239 | 36=>256 | 31=>257 | 32=>258 | 37=>259 | 38=>260 | 39=>261 | 41=>269 | n=>n,fun | 27=>57 | 29=>9 | 3=>3 | 32=>259 | 26=>57 | 0=>0 | 44=>298 | 46=>67 | 4=>4 | 36=>290 | 35=>289 | 41=>295 | 5=>5 | 9=>9 | 53=>308 | 57=>312 | 63=>317 | 64=>318 | n=>n,fun | n=>n⟩
theorem aH0:Go.Proofs.SlLaysM.n6 Tryz.prog aB3 where
 mixed:=by kernel_rfl
 f6 := ⟨"slices.Sort[[]string,string]", by decide, Tryz.func129.trans (congrArg some (by kernel_rfl))⟩
 f8:=Tryz.func192.trans (congrArg some (by kernel_rfl))
 f9 := ⟨"slices.pdqsortOrdered[string]", by decide, Tryz.func191.trans (congrArg some (by kernel_rfl))⟩
 f19:=Tryz.func240.trans (congrArg some (by kernel_rfl))
 f20:=Tryz.func241.trans (congrArg some (by kernel_rfl))
 f21 := ⟨"slices.insertionSortOrdered[string]", by decide, Tryz.func231.trans (congrArg some (by kernel_rfl))⟩
 f22 := ⟨"slices.heapSortOrdered[string]", by decide, Tryz.func232.trans (congrArg some (by kernel_rfl))⟩
 f23 := ⟨"slices.breakPatternsOrdered[string]", by decide, Tryz.func233.trans (congrArg some (by kernel_rfl))⟩
 f24 := ⟨"slices.choosePivotOrdered[string]", by decide, Tryz.func234.trans (congrArg some (by kernel_rfl))⟩
 f25 := ⟨"slices.reverseRangeOrdered[string]", by decide, Tryz.func235.trans (congrArg some (by kernel_rfl))⟩
 f26 := ⟨"slices.partialInsertionSortOrdered[string]", by decide, Tryz.func236.trans (congrArg some (by kernel_rfl))⟩
 f27 := ⟨"cmp.Less[string]", by decide, Tryz.func237.trans (congrArg some (by kernel_rfl))⟩
 f28 := ⟨"slices.partitionEqualOrdered[string]", by decide, Tryz.func238.trans (congrArg some (by kernel_rfl))⟩
 f29 := ⟨"slices.partitionOrdered[string]", by decide, Tryz.func239.trans (congrArg some (by kernel_rfl))⟩
 f31:=Tryz.func257.trans (congrArg some (by kernel_rfl))
 f32:=Tryz.func258.trans (congrArg some (by kernel_rfl))
 f36 := ⟨"slices.siftDownOrdered[string]", by decide, Tryz.func256.trans (congrArg some (by kernel_rfl))⟩
 f37 := ⟨"slices.medianAdjacentOrdered[string]", by decide, Tryz.func259.trans (congrArg some (by kernel_rfl))⟩
 f38 := ⟨"slices.medianOrdered[string]", by decide, Tryz.func260.trans (congrArg some (by kernel_rfl))⟩
 f39 := ⟨"cmp.isNaN[string]", by decide, Tryz.func261.trans (congrArg some (by kernel_rfl))⟩
 f41 := ⟨"slices.order2Ordered[string]", by decide, Tryz.func269.trans (congrArg some (by kernel_rfl))⟩
 t0:=Tryz.underlying0
 a0:=Tryz.isAgg0
 z0:=Tryz.sizeOf0
 v0:=Tryz.zeroValue0
 t3:=Tryz.underlying3
 a3:=Tryz.isAgg3
 z3:=Tryz.sizeOf3
 v3:=Tryz.zeroValue3
 t4:=Tryz.underlying4
 a4:=Tryz.isAgg4
 z4:=Tryz.sizeOf4
 v4:=Tryz.zeroValue4
 t5:=Tryz.underlying5
 a5:=Tryz.isAgg5
 z5:=Tryz.sizeOf5
 v5:=Tryz.zeroValue5
 t9:=Tryz.underlying9
 a9:=Tryz.isAgg9
 z9:=Tryz.sizeOf9
 v9:=Tryz.zeroValue9
 t26:=Tryz.underlying57
 a26:=Tryz.isAgg57
 z26:=Tryz.sizeOf57
 v26:=Tryz.zeroValue57
 t27:=Tryz.underlying57
 a27:=Tryz.isAgg57
 z27:=Tryz.sizeOf57
 v27:=Tryz.zeroValue57
 t29:=Tryz.underlying9
 a29:=Tryz.isAgg9
 z29:=Tryz.sizeOf9
 v29:=Tryz.zeroValue9
 t32:=Tryz.underlying259
 a32:=Tryz.isAgg259
 z32:=Tryz.sizeOf259
 v32:=Tryz.zeroValue259
 t35:=Tryz.underlying289
 a35:=Tryz.isAgg289
 z35:=Tryz.sizeOf289
 v35:=Tryz.zeroValue289
 t36:=Tryz.underlying290
 a36:=Tryz.isAgg290
 z36:=Tryz.sizeOf290
 v36:=Tryz.zeroValue290
 t41:=Tryz.underlying295
 a41:=Tryz.isAgg295
 z41:=Tryz.sizeOf295
 v41:=Tryz.zeroValue295
 t44:=Tryz.underlying298
 a44:=Tryz.isAgg298
 z44:=Tryz.sizeOf298
 v44:=Tryz.zeroValue298
 t46:=Tryz.underlying67
 a46:=Tryz.isAgg67
 z46:=Tryz.sizeOf67
 v46:=Tryz.zeroValue67
 t53:=Tryz.underlying308
 a53:=Tryz.isAgg308
 z53:=Tryz.sizeOf308
 v53:=Tryz.zeroValue308
 t57:=Tryz.underlying312
 a57:=Tryz.isAgg312
 z57:=Tryz.sizeOf312
 v57:=Tryz.zeroValue312
 t63:=Tryz.underlying317
 a63:=Tryz.isAgg317
 z63:=Tryz.sizeOf317
 v63:=Tryz.zeroValue317
 t64:=Tryz.underlying318
 a64:=Tryz.isAgg318
 z64:=Tryz.sizeOf318
 v64:=Tryz.zeroValue318
open Go.RowKit
set_option maxRecDepth 4000
open Go.Maps Go.Sort Go.Shelf Go.WideShapes
def tL (l:List ByteArray):List ByteArray:=((l.map fun s=>s.data.toList).mergeSort leB).map fun b=>⟨b.toArray⟩
theorem aF7 (l:List (List UInt8)):l.map encStr=(l.map fun b=>(⟨b.toArray⟩:ByteArray)).map Value.string:=by
 rw [List.map_map];rfl
theorem vY (l:List ByteArray):(tL l).Perm l:=by
 unfold tL;refine ((List.mergeSort_perm _ leB).map _).trans ?_;rw [List.map_map];have:((fun b:List UInt8=>(⟨b.toArray⟩:ByteArray)) ∘ fun s:ByteArray=>s.data.toList)=id:=by
  funext s;simp
 rw [this,List.map_id]
theorem sortsIn (m : Nat) : AnyZ.SortsIn Tryz.prog uJ Fence.wide m :=
  ⟨fun blk off cap ss W hH hblk hsz => callsIn_wide.2 (AnyM.slices_Sort_string aH0 blk off cap ss W hH hblk hsz),
   fun p cap W => callsIn_wide.2 (AnyM.slices_Sort_string_none aH0 p cap W)⟩
theorem Vh {w:World} {E:Env}:∀ {es:List (Value×V)} {l:List MapEntry},RdEs w E es l→l.map (·.key)=es.map (·.1)
 | [],[],_=>rfl
 | (k,x)::es,e::l,h=>by
  unfold RdEs at h;rw [List.map_cons,List.map_cons,Vh h.2.2,h.1]
 | [],_::_,h=>h.elim
 | _::_,[],h=>h.elim
theorem aQy {k:TypeId} (hk:Tryz.prog.underlying k=some .string) {s:ByteArray} (hs:s.size≤maxLen):keyOf Tryz.prog k (.string s)=some (.string s.data.toList):=by
 unfold keyOf;rw [hk];simp only [mapKey,hk,hs,if_true]
theorem Vf {w:World} {S:Nat→Prop}:∀ {l:List ByteArray},(∀ s∈l,s.size≤maxLen)→RdTs w S (l.map fun s=>T.lit (.string s)) (l.map Value.string)
 | [],_=>trivial
 | s::l,h=>⟨.lit _ rfl (h s (by simp)),Vf fun x hx=>h x (by simp [hx])⟩
set_option maxHeartbeats 2000000 in
theorem aKw {w:World} {b0 r:Nat} {ty:TypeId} {entries:Array MapEntry} {clock:Nat} {ks:List ByteArray} (hb0:w.heap[b0]? = some (.cells #[.map (some r)] ty (0,0))) (hr0:w.heap[r]? = some (.map entries clock))
  (hbn:(∀ e∈entries.toList,e.born<clock)∧(entries.toList.map (·.born)).Nodup) (hks:entries.toList.map (·.key)=ks.map Value.string) (hnd:ks.Nodup) (hsz:∀ k∈ks,k.size≤maxLen) (hlen:ks.length≤1000000) :
  Calls Tryz.prog 59 #[.func (.func 147) #[] #[.pointer (some ⟨b0,0,none⟩)]] w fun e w' => ∃ v,e = .returned v ∧
   w'.ownsRow w.heap.size 9 1 v (tL ks).length ((tL ks).map Value.string)∧Below w.heap.size w w':=by
 have hesz:entries.size=ks.length:=by
  have:=congrArg List.length hks;simpa using this
 have hkind:Tryz.prog.underlying 9=some .string:=Tryz.underlying9;have hmem:∀ x∈entries.toList, ∃ s∈ks,x.key = .string s:=fun x hx=>by
  have h1:x.key∈entries.toList.map (·.key):=List.mem_map_of_mem hx;rw [hks,List.mem_map] at h1;obtain ⟨s,h2,h3⟩:=h1;exact ⟨s,h2,h3.symm⟩
 let R:Value→Option (DataW Unit×List MemPlace):=fun _=>some (.nil,[])
 have hstr:∀ l:List ByteArray,l.Nodup→(l.map Value.string).Nodup:=fun l h=>by
  refine List.pairwise_map.2 (h.imp fun hne e=>hne ?_);injection e
 have hF:Go.WideElems.Fit Tryz.prog 9 R entries clock:=⟨by rw [hesz];unfold maxLen;omega,⟨hbn.1,hbn.2,by rw [hks];exact hstr _ hnd⟩,fun x hx=>by
  obtain ⟨s,h1,h2⟩:=hmem x hx;exact ⟨_,Go.WideElems.rd_mk (key:=x.key) (val:=x.val) (born:=x.born) (by rw [h2];exact aQy hkind (hsz s h1)) rfl⟩⟩
 have hown:w.ownsMap Tryz.prog 9 R r ks.length (.map ((entries.toList.map (Go.WideElems.rg Tryz.prog 9 R)).foldr DataW.insert [])):=⟨entries,clock,hr0,hF,by omega,rfl⟩
 have hcell:w.cell? ⟨b0,0,none⟩=some (.map (some r)):=by simp [World.cell?,hb0]
 have hlt:b0<w.heap.size:=(Array.getElem?_eq_some_iff.1 hb0).1;have hsize:Maps.size (DataW.map ((entries.toList.map (Go.WideElems.rg Tryz.prog 9 R)).foldr DataW.insert []):DataW Unit)=ks.length:=by
  show List.length _=_
  rw [List.Perm.length_eq (sorted_perm _),List.length_map,Array.length_toList,hesz]
 have hseq:=AnyZ.keys_gives (ρ := Jf) { keysLay with } Fence.wide 2 trivial rfl (by omega) b0 r ks.length _ w hlt hcell hown;rw [hsize] at hseq;have hperm:(strKeys (DataW.map ((entries.toList.map (Go.WideElems.rg Tryz.prog 9 R)).foldr DataW.insert []):DataW Unit)).Perm (ks.map fun s=>s.data.toList):=by
  show (List.map _ _).Perm _
  refine (List.Perm.map _ (sorted_perm _)).trans ?_;rw [List.map_map];have:entries.toList.map ((fun p:Lit×DataW Unit=>strOf p.1) ∘ Go.WideElems.rg Tryz.prog 9 R)=(entries.toList.map (·.key)).map fun v=>(Dg v).data.toList:=by
   rw [List.map_map];refine List.map_congr_left fun x hx=>?_
   obtain ⟨s,h1,h2⟩:=hmem x hx;simp only [Function.comp_apply];have h3:Go.WideElems.rd Tryz.prog 9 R x=some (.string s.data.toList,DataW.nil):=Go.WideElems.rd_mk (key:=x.key) (val:=x.val) (born:=x.born) (kl := .string s.data.toList) (yv:=(DataW.nil,[])) (by rw [h2];exact aQy hkind (hsz s h1)) rfl;rw [Go.WideElems.rg_of h3,h2];rfl
  rw [this,hks,List.map_map];exact .refl _
 have hS:=AnyZ.sorted_in (ρ := uJ) aKx Fence.wide 5 trivial trivial trivial trivial rfl (by omega) (sortsIn _) (enters_of Tryz.func129 (by kernel_rfl) rfl) 147 #[.pointer (some ⟨b0,0,none⟩)] trivial (enters_of Tryz.func147 (by kernel_rfl) rfl) _ ks.length (by unfold maxLen;omega) (by omega) w hseq;refine (callsIn_wide.1 hS).mono ?_;rintro e w' ⟨v,ss,rfl,hp,hrow,hnil,hb⟩;refine ⟨v,rfl,?_,hb⟩;have e1:ss.mergeSort leB=(ks.map fun s=>s.data.toList).mergeSort leB:=mergeSort_of_perm (hp.trans hperm);have e2:(ss.mergeSort leB).map encStr=(tL ks).map Value.string:=by
  rw [e1,aF7];rfl
 have e3:ss.length=(tL ks).length:=by
  rw [(hp.trans hperm).length_eq,(vY ks).length_eq,List.length_map]
 rw [← e3, ← e2];exact hrow
theorem aMk (es:List (Value×V)) (ks:List ByteArray) (d:List T) (hk:es.map (·.1)=ks.map Value.string) (hnd:ks.Nodup) (hsz:∀ k∈ks,k.size≤maxLen) (hlen:ks.length≤1000000) :
  CIO Tryz.prog 59 2 [(0, .box [.own 1]),(1, .map es)] [.clo 147 [.own 0]] (.t (.list 1 d ((tL ks).map fun k=>[.lit (.string k)]))) [(0, .box [.own 1]),(1, .map es)] 2:=by
 refine ⟨Tryz.X59,fun E w vs hr hbd hargs=>?_⟩;obtain ⟨hv0,hat0,b0,vs0,ty,rfl,hheap0,hrd0,hone0⟩:=hr.has 0 (.box [.own 1]) rfl;obtain ⟨hv1,hat1,r,entries,clock,rfl,hheap1,hrd1,hborn⟩:=hr.has 1 (.map es) rfl;have h0:∃ u,vs0 = #[u]∧RdV w E (.own 1) u:=by
  obtain ⟨vl⟩:=vs0
  match vl,hrd0 with
  | [u],h=>exact ⟨u,rfl,by simpa only [RdVs,and_true] using h⟩
  | [],h=>simp only [RdVs] at h
  | _::_::_,h=>simp only [RdVs,and_false] at h
 obtain ⟨u,rfl,hu⟩:=h0;simp only [RdV] at hu;have hu':=hu.2.2 _ (.inl hat1);subst hu';obtain ⟨v,rfl,hv⟩:∃ v,vs = [v]∧RdV w E (.clo 147 [.own 0]) v:=by
  match vs,hargs with
  | [v],h=>exact ⟨v,rfl,by simpa only [RdVs,and_true] using h⟩
  | [],h=>simp only [RdVs] at h
  | _::_::_,h=>simp only [RdVs,and_false] at h
 simp only [RdV] at hv;obtain ⟨cs,rfl,hcs⟩:=hv;obtain ⟨p,rfl,hp⟩:∃ p,cs = #[p]∧RdV w E (.own 0) p:=by
  obtain ⟨cl⟩:=cs
  match cl,hcs with
  | [u],h=>exact ⟨u,rfl,by simpa only [RdVs,and_true] using h⟩
  | [],h=>simp only [RdVs] at h
  | _::_::_,h=>simp only [RdVs,and_false] at h
 simp only [RdV] at hp;have hb2:=hp.2.2 _ (.inl hat0);subst hb2;refine (aKw hheap0 hheap1 hborn (by rw [Vh hrd1,hk]) hnd hsz hlen).mono ?_;rintro e w' ⟨v,rfl,hrow,hb⟩;have hnew:∀ b,aV v=some b→w.heap.size≤b∧b<w'.heap.size:=fun b hb'=>by
  rcases hrow.2 with ⟨rfl,_⟩ | ⟨g,cap,cur,rfl,h1,h2,_⟩
  ·cases hb'
  ·injection hb' with hb';subst hb';exact ⟨h1,(Array.getElem?_eq_some_iff.1 h2).1⟩
 obtain ⟨k1,k2⟩:=hr.later (S':=fun b=>E.S b∨aV v=some b) hb (fun _ h => .inl h) (fun b h=>h.imp id fun h=>(hnew b h).1) (fun b h=>h.elim (fun h=>Nat.lt_of_lt_of_le (hr.slt b h) hb.size) fun h=>(hnew b h).2);refine ⟨v,_,rfl,k1,hbd,k2,?_⟩;simp only [RdV];have hsz':∀ s∈tL ks,s.size≤maxLen:=fun s hs=>hsz s ((vY ks).mem_iff.1 hs)
 refine Dt (S:=fun _=>False) (e:=9) (cells:=(tL ks).map Value.string) ?_ ?_ ?_ (fun _ h=>h.elim) (fun b hb' => .inr hb')
 ·rw [List.length_map];exact ownsRow_base_a hrow (Nat.zero_le _)
 ·have:(List.map (fun k=>[T.lit (.string k)]) (tL ks)).flatten=(tL ks).map fun s=>T.lit (.string s):=by
   induction tL ks with
   | nil=>rfl
   | cons x l ih=>rw [List.map_cons,List.flatten_cons,ih];rfl
  rw [this];exact Vf hsz'
 ·intro x hx;obtain ⟨s,_,rfl⟩:=List.mem_map.1 hx;rfl
theorem put_med (k:Value) (m:MediumR) (es:List Ent):Bz k (.agg (mT m)) (tEs es)=tEs (rE k (medC m) es):=vC k (medC m) es
theorem put_seq (k:Value) (s:SequenceR) (es:List Ent):Bz k (mE s) (tEs es)=tEs (rE k (seqC s) es):=vC k (seqC s) es
theorem kinds_M (l:List MediumR):pL .string (Ty l)=true:=sQ (mN _ _ _)
theorem kinds_S (l:List SequenceR):pL .string (Se l)=true:=sQ (mN _ _ _)
theorem lend_M (l:List MediumR) (h:Heap) (n:Nat):nX (bC h n) (tEs (Ty l))=some (Ty l):=Ah _ (nJ h n) _ (rH _ _ (fun _=>rfl) _)
theorem lend_S (l:List SequenceR) (h:Heap) (n:Nat):nX (bC h n) (tEs (Se l))=some (Se l):=Ah _ (nJ h n) _ (rH _ _ (fun _=>rfl) _)
attribute [go_sem] kinds_M kinds_S lend_M lend_S
theorem cCat (p:ProjR) (h1:p.media.length≤16) (h2:p.seqs.length≤16):aK Tryz.prog 71 [uV p] (vcat p):=by
 refine aG Tryz.X71 Tryz.func71 rfl Tryz.ntmps71 (by rw [Tryz.results71]) (aC _ ?_);simp only [go_sem,simprocAttr];refine aJ (fun (k:Nat) σ => { σ with fr := σ.fr.set 14 (aA k),h := σ.h.set 2 (.map (tEs (Ty (p.media.take k)))) }) (fun k=>k≤p.media.length) (fun k=>p.media.length - k) 0 (aE ?_) (Nat.zero_le _) ?_
 ·simp only [go_sem,simprocAttr]<;>simp [Ty,jC,tEs]
 ·intro k hk;refine aC _ ?_;simp only [go_sem,simprocAttr];refine ⟨fun hlt=>?_,fun hge=>?_⟩
  ·simp only [bxx] at hlt;unfold awS;simp only [go_sem,simprocAttr];refine ⟨⟨by omega,by omega⟩,k+1,aE ?_,by omega,by omega⟩;simp only [go_sem,simprocAttr];rw [put_med,dC (show k<9223372036854775807 by omega)];unfold Ty;rw [wP _ _ (show k<p.media.length by omega)];simp
  ·simp only [bxx] at hge;unfold awS;simp only [go_sem,simprocAttr];rw [List.take_of_length_le (show p.media.length≤k by omega)];refine aJ (fun (k:Nat) σ => { σ with fr := σ.fr.set 27 (aA k),h := σ.h.set 3 (.map (tEs (Se (p.seqs.take k)))) }) (fun k=>k≤p.seqs.length) (fun k=>p.seqs.length - k) 0 (aE ?_) (Nat.zero_le _) ?_
   ·simp only [go_sem,simprocAttr]<;>simp [Se,jC,tEs]
   ·intro j hj;refine aC _ ?_;simp only [go_sem,simprocAttr];refine ⟨fun hlt=>?_,fun hge=>?_⟩
    ·simp only [bxx] at hlt;unfold awS;simp only [go_sem,simprocAttr];refine ⟨⟨by omega,by omega⟩,j+1,aE ?_,by omega,by omega⟩;simp only [go_sem,simprocAttr];have e1:=put_seq (.string (p.seqs.getD j default).name) (p.seqs.getD j default) (Se (p.seqs.take j));unfold mE at e1;rw [e1,dC (show j<9223372036854775807 by omega)];unfold Se;rw [wP _ _ (show j<p.seqs.length by omega)];simp
    ·simp only [bxx] at hge;unfold awS;simp only [go_sem,simprocAttr];rw [List.take_of_length_le (show p.seqs.length≤j by omega)]
def dL (s:SequenceR):List ClipR:=(s.video++s.sound).flatten
theorem aT1 (s:SequenceR):aK Tryz.prog 206 [mE s] (.clo 243 [.elem 9 (SequenceR.c s) [SequenceR.c s] 0 0]):=by
 refine aG Tryz.X206 Tryz.func206 rfl Tryz.ntmps206 (by rw [Tryz.results206]) (aC _ ?_);simp only [go_sem,simprocAttr]<;>rfl
theorem Xf (d:List T) (a b:List (List ClipR)) (ha:a.length≤8) (hb:b.length≤8):aK Tryz.prog 244 [.t (.list 1 d [[mV a],[mV b]])] (.t (mV (a++b))):=by
 refine aG Tryz.X244 Tryz.func244 rfl Tryz.ntmps244 (by rw [Tryz.results244]) (aC _ ?_);simp only [go_sem,simprocAttr];have c2:((2:Nat):Int)=2:=rfl;have w1:IntKind.i64.wrap 1=1:=by decide
 have w2:IntKind.i64.wrap 2=2:=by decide
 have e0:IntKind.i64.wrap (0+(a.length:Int))=a.length:=by rw [wrap64 (by omega) (by omega)];omega
 have e0':IntKind.i64.wrap (a.length:Int)=a.length:=by rw [wrap64 (by omega) (by omega)]
 have e1:IntKind.i64.wrap ((a.length:Int)+(b.length:Int))=((a++b).length:Nat):=by rw [wrap64 (by omega) (by omega),List.length_append];omega
 have n0 : ¬ ((a.length:Int)<0):=by omega
 have n1 : ¬ ((((a++b).length:Nat):Int)<0):=by omega
 refine eJ ?_;refine aZ (aC _ ?_);simp only [go_sem,simprocAttr,dtf,nth,Option.getD_some,List.getElem?_cons_zero,w1,c2,e0,n0,forall_const];refine aZ (aC _ ?_);simp only [go_sem,simprocAttr,dtf,nth,Option.getD_some,List.getElem?_cons_zero,List.getElem?_cons_succ,w2,c2,e1,n1,forall_const];refine aZ (aC _ ?_);simp only [go_sem,simprocAttr,decide_false,forall_const];refine igrowTr (n:=(a++b).length) (by rw [List.length_append];omega) (jL []) ?_;simp only [go_sem,simprocAttr];refine eJ ?_;refine aZ (aC _ ?_);simp only [go_sem,simprocAttr,decide_true,nth,Option.getD_some,List.getElem?_cons_zero,w1,c2,forall_const];refine ⟨by unfold maxLen;omega,?_⟩;refine aZ (aC _ ?_);simp only [go_sem,simprocAttr,decide_true,nth,Option.getD_some,List.getElem?_cons_zero,List.getElem?_cons_succ,w2,c2,forall_const];refine ⟨⟨by unfold maxLen;omega,by omega⟩,?_⟩;refine aZ (aC _ ?_);simp only [go_sem,simprocAttr,decide_false,forall_const];rw [List.map_append]
