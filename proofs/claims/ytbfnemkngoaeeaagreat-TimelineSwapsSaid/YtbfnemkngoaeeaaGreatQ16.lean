/- Proved here: Contracts of the functions that make clips from a tape; conditions stand in each theorem. -/
import Derived.Test.YtbfnemkngoaeeaaGreatQ04
import Derived.Test.YtbfnemkngoaeeaaGreatQ08
set_option linter.unusedSimpArgs false
set_option linter.unusedVariables false
set_option linter.unusedSectionVars false
set_option linter.unnecessarySimpa false
namespace Go.Proofs.YtbfnemkngoaeeaaGreat
open Go.RowKit
set_option maxRecDepth 4000
def aD1 (L:List Int) (k:Nat):Int:=if k<L.length then L.getD k 0 else (k:Int)*7+3
def aB (L:List Int) (k:Nat) (n:Int):Int:=((aD1 L k).tmod n+n).tmod n
theorem Vu (v:Int) {n:Int} (h1 : 1≤n) : -n<v.tmod n∧v.tmod n<n:=by
 have h3:=Int.tmod_lt_of_pos v (show 0<n by omega);have h4:=Int.tmod_lt_of_pos (-v) (show 0<n by omega);rw [Int.neg_tmod] at h4;omega
theorem aE {L:List Int} {k:Nat} {n:Int} (h1 : 1≤n) : 0≤aB L k n∧aB L k n<n:=by
 have h3:=Vu (aD1 L k) h1;exact ⟨Int.tmod_nonneg _ (by omega),Int.tmod_lt_of_pos _ (by omega)⟩
theorem Ny {v n:Int} (h1 : 1≤n) (h2:n≤1048576):IntKind.i64.wrap (v.tmod n+n)=v.tmod n+n:=by
 have h3:=Vu v h1;exact wrap64 (by omega) (by omega)
abbrev tapeB (L:List Int) (k:Nat):List V:=[.t (bN L),aC (k:Int)]
theorem bG (L:List Int) (k:Nat) (n:Int) (hk:k≤1048576) (h1 : 1≤n) (h2:n≤1048576):uA Tryz.prog 28 [.t (bN L),aC k] [aC n] (aC (aB L k n)) [.t (bN L),aC ((k+1:Nat):Int)]:=by
 refine mR Tryz.X28 Tryz.func28 rfl Tryz.ntmps28 (by rw [Tryz.results28]) (cE fun hf=>aD _ ?_);have w1:IntKind.i64.wrap ((k:Int)*7)=(k:Int)*7:=wrap64 (by omega) (by omega);have w2:IntKind.i64.wrap ((k:Int)*7+3)=(k:Int)*7+3:=wrap64 (by omega) (by omega);have w3:IntKind.i64.wrap ((k:Int)+1)=(k:Int)+1:=wrap64 (by omega) (by omega);have hn0:n≠0:=by omega
 simp only [go_sem,simprocAttr];refine ⟨fun h=>?_,fun _=>?_⟩
 ·simp only [decide_eq_true_eq] at h;omega
 ·unfold awS;simp only [go_sem,simprocAttr,w1,w2];refine bM [0,1,2,3,4,5,6,7,8,9] .done rfl (by kernel_rfl) (by kernel_rfl) (by decide) ?_;simp only [go_sem,simprocAttr,w1,w2];refine ⟨fun h=>?_,fun h=>?_⟩
  all_goals simp only [decide_eq_true_eq,decide_eq_false_iff_not,Int.ofNat_lt] at h
  ·unfold awS;simp only [go_sem,simprocAttr];refine bM [0,1,2,3,4,5,6,7,8,9,10] .done rfl (by kernel_rfl) (by kernel_rfl) (by decide) ?_;simp only [go_sem,simprocAttr,w3,Ny h1 h2];refine ⟨⟨by omega,by omega⟩,hn0,hn0,?_,?_⟩
   ·simp [aB,aD1,if_pos h]
   ·simp
  ·unfold awS;simp only [go_sem,simprocAttr,w3,Ny h1 h2];refine ⟨hn0,hn0,?_,?_⟩
   ·simp [aB,aD1,if_neg h]
   ·simp
def dens:List Int:=[1,1,1,2,3,1001]
def ratR (p q:Int):RatR:=if p=0 then ⟨0,1⟩ else ⟨p / (Nat.gcd p.natAbs q.natAbs:Nat),q / (Nat.gcd p.natAbs q.natAbs:Nat)⟩
def Jf (L:List Int) (k:Nat) (n:Int):RatR:=ratR (aB L k n) (dens.getD (aB L (k+1) 6).toNat 0)
theorem cRatT (L:List Int) (k:Nat) (n:Int) (hk:k≤1000000) (h1 : 1≤n) (h2:n≤1048576):uA Tryz.prog 175 [.t (bN L),aC k] [aC n] (uK (Jf L k n)) [.t (bN L),aC ((k+2:Nat):Int)]:=by
 refine mR Tryz.X175 Tryz.func175 rfl Tryz.ntmps175 (by rw [Tryz.results175]) (aD _ ?_);simp only [go_sem,simprocAttr];refine aV 10 .done rfl (by kernel_rfl) (by kernel_rfl) (by decide) ?_;simp only [go_sem,simprocAttr];refine fL (bG L k n (by omega) h1 h2) rfl rfl rfl ?_;simp only [go_sem,simprocAttr];refine fL (bG L (k+1) 6 (by omega) (by omega) (by omega)) rfl rfl rfl ?_;have t6:=aE (L:=L) (k:=k+1) (n:=6) (by omega);have t40:=aE (L:=L) (k:=k) (n:=n) (by omega);obtain ⟨P,hP⟩:∃ P:Nat,aB L k n=P:=⟨(aB L k n).toNat,by omega⟩
 obtain ⟨Q,hQ,hQ1,hQ2⟩:∃ Q:Nat,dens.getD (aB L (k+1) 6).toNat 0=(Q:Int)∧1≤Q∧Q≤1001:=by
  have:(aB L (k+1) 6).toNat=0∨(aB L (k+1) 6).toNat=1∨(aB L (k+1) 6).toNat=2∨(aB L (k+1) 6).toNat=3∨(aB L (k+1) 6).toNat=4∨(aB L (k+1) 6).toNat=5:=by omega
  rcases this with h | h | h | h | h | h<;>rw [h]
  ·exact ⟨1,rfl,by omega,by omega⟩
  ·exact ⟨1,rfl,by omega,by omega⟩
  ·exact ⟨1,rfl,by omega,by omega⟩
  ·exact ⟨2,rfl,by omega,by omega⟩
  ·exact ⟨3,rfl,by omega,by omega⟩
  ·exact ⟨1001,rfl,by omega,by omega⟩
 have hQ':=hQ;unfold dens at hQ';have hr:Jf L k n=ratR P Q:=by unfold Jf;rw [hP,hQ]
 rw [hr];simp only [go_sem,simprocAttr,hQ',hP];refine ⟨⟨by omega,by omega⟩,by omega,by kernel_rfl,?_⟩;refine aF (fun (x:Nat×Nat) σ => bL 7 (aC x.1) (bL 8 (aC x.2) σ)) (fun x=>Nat.gcd x.1 x.2=Nat.gcd P Q) (fun x=>x.2) (P,Q) (aA ?_) rfl ?_
 ·simp only [go_sem,simprocAttr]<;>simp
 ·rintro ⟨x,y⟩ hg;simp only at hg;refine aD _ ?_;simp only [go_sem,simprocAttr];refine brW (b := !decide (y=0)) ?_ ⟨fun hb=>?_,fun hb=>?_⟩
  ·rw [Bool.eq_iff_iff];simp only [bxx];omega
  ·unfold awS;simp only [go_sem,simprocAttr];have hy:y≠0:=by simpa using hb
   refine bM [0,1,2,3,4,5] .done rfl (by kernel_rfl) (by kernel_rfl) (by decide) ?_;simp only [go_sem,simprocAttr];refine ⟨by omega,(y,x % y),aA ?_,?_,Nat.mod_lt _ (by omega)⟩
   ·simp only [go_sem,simprocAttr,jL]<;>simp
   ·simp only;rw [← hg,Nat.gcd_comm x y,Nat.gcd_rec y x,Nat.gcd_comm]
  ·unfold awS;simp only [go_sem,simprocAttr];have hy:y=0:=by simpa using hb
   subst hy;rw [Nat.gcd_zero_right] at hg;subst hg;have hg0 : 0<Nat.gcd P Q:=Nat.gcd_pos_of_pos_right _ (by omega);refine brW (b:=decide (P=0)) ?_ ⟨fun h0=>?_,fun h0=>?_⟩
   ·rw [Bool.eq_iff_iff];simp only [bxx];omega
   ·unfold awS;simp only [go_sem,simprocAttr];have hp0:P=0:=by simpa using h0
    subst hp0;rfl
   ·have hp0:P≠0:=by simpa using h0
    have k1:P / Nat.gcd P Q≤P:=Nat.div_le_self _ _;have k2:Q / Nat.gcd P Q≤Q:=Nat.div_le_self _ _;unfold awS;simp only [go_sem,simprocAttr];refine aV 8 .done rfl (by kernel_rfl) (by kernel_rfl) (by decide) ?_;simp only [go_sem,simprocAttr,fY,fV (n:=P / Nat.gcd P Q) (by omega),fV (n:=Q / Nat.gcd P Q) (by omega)];refine ⟨by omega,by omega,by kernel_rfl,?_⟩;unfold ratR;rw [if_neg (by omega)];rfl
def speeds:List (Int×Int):=[(1,1),(1,1),(1,1),(0,1),(-1,1),(1,2),(2,1),(800,1001),(-3,2)]
def Ae (L:List Int) (k:Nat):RatR:=⟨(speeds.getD (aB L k 9).toNat (0,0)).1,(speeds.getD (aB L k 9).toNat (0,0)).2⟩
theorem cSpeed (L:List Int) (k:Nat) (hk:k≤1000000):uA Tryz.prog 39 [.t (bN L),aC k] [] (uK (Ae L k)) [.t (bN L),aC ((k+1:Nat):Int)]:=by
 refine mR Tryz.X39 Tryz.func39 rfl Tryz.ntmps39 (by rw [Tryz.results39]) (aD _ ?_);simp only [go_sem,simprocAttr];refine aL (bG L k 9 (by omega) (by omega) (by omega)) rfl rfl rfl ?_;have t9:=aE (L:=L) (k:=k) (n:=9) (by omega);simp only [go_sem,simprocAttr];exact ⟨⟨by omega,by omega⟩,by omega,rfl⟩
def dZ (p:ByteArray) (i:Int):ByteArray:=p++Utf8.encode (48+i)
theorem Mf (p:ByteArray) (i:Int) (h0 : 0≤i) (h1:i<64) (hp:p.size≤1000):aN Tryz.prog 41 [bP p,aC i] (bP (dZ p i)):=by
 refine aH Tryz.X41 Tryz.func41 rfl Tryz.ntmps41 (by rw [Tryz.results41]) (aD _ ?_);simp only [go_sem,simprocAttr];have e:IntKind.i32.wrap (IntKind.i64.wrap (48+i))=48+i:=by
  rw [wrap64 (by omega) (by omega)];have e1:(2:Int) ^ IntKind.i32.bits=4294967296:=by decide
  have e2:(2:Int) ^ (IntKind.i32.bits - 1)=2147483648:=by decide
  unfold IntKind.wrap;simp only [IntKind.signed,if_true,e1,e2,Bool.true_and,decide_eq_true_eq];split<;>omega
 have hz:=Et (48+i);rw [e];refine ⟨?_,rfl⟩;have:IntKind.i64.max=9223372036854775807:=by decide
 rw [this];omega
end Go.Proofs.YtbfnemkngoaeeaaGreat
