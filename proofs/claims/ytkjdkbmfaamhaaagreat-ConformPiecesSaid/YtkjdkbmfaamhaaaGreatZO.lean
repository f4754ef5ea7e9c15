/- Proved here: Contracts of the functions that make clips from a tape, for use in the proofs of the given statements; conditions stand in each theorem. -/
import Derived.Test.YtkjdkbmfaamhaaaGreatZE
import Derived.Test.YtkjdkbmfaamhaaaGreatZI
set_option linter.unusedSimpArgs false
set_option linter.unusedVariables false
set_option linter.unusedSectionVars false
set_option linter.unnecessarySimpa false
namespace Go.Proofs.YtkjdkbmfaamhaaaGreat
open Go.RowKit
set_option maxRecDepth 4000
def tapeV (L:List Int) (k:Nat):Int:=if k<L.length then L.getD k 0 else (k:Int)*7+3
def tapeN (L:List Int) (k:Nat) (n:Int):Int:=((tapeV L k).tmod n+n).tmod n
theorem tmod_abs (v:Int) {n:Int} (h1 : 1≤n) : -n<v.tmod n∧v.tmod n<n:=by
 have h3:=Int.tmod_lt_of_pos v (show 0<n by omega)
 have h4:=Int.tmod_lt_of_pos (-v) (show 0<n by omega)
 rw [Int.neg_tmod] at h4
 omega
theorem tapeN_lt {L:List Int} {k:Nat} {n:Int} (h1 : 1≤n) : 0≤tapeN L k n∧tapeN L k n<n:=by
 have h3:=tmod_abs (tapeV L k) h1
 exact ⟨Int.tmod_nonneg _ (by omega),Int.tmod_lt_of_pos _ (by omega)⟩
theorem tape_wrap {v n:Int} (h1 : 1≤n) (h2:n≤1048576):IntKind.i64.wrap (v.tmod n+n)=v.tmod n+n:=by
 have h3:=tmod_abs v h1
 exact wrap64 (by omega) (by omega)
abbrev tapeB (L:List Int) (k:Nat):List V:=[.t (tints L),vint (k:Int)]
theorem cNext (L:List Int) (k:Nat) (n:Int) (hk:k≤1048576) (h1 : 1≤n) (h2:n≤1048576):CBox Tryz.prog 9 [.t (tints L),vint k] [vint n] (vint (tapeN L k n)) [.t (tints L),vint ((k+1:Nat):Int)]:=by
 refine cbox_of Tryz.xen9 Tryz.func9 rfl Tryz.ntmps9 (by rw [Tryz.results9]) (awp_facts fun hf=>aw_ok _ ?_)
 have w1:IntKind.i64.wrap ((k:Int)*7)=(k:Int)*7:=wrap64 (by omega) (by omega)
 have w2:IntKind.i64.wrap ((k:Int)*7+3)=(k:Int)*7+3:=wrap64 (by omega) (by omega)
 have w3:IntKind.i64.wrap ((k:Int)+1)=(k:Int)+1:=wrap64 (by omega) (by omega)
 have hn0:n≠0:=by omega
 simp only [go_sem,simprocAttr]
 refine ⟨fun h=>?_,fun _=>?_⟩
 ·simp only [decide_eq_true_eq] at h;omega
 ·unfold awS
  simp only [go_sem,simprocAttr,w1,w2]
  refine drawR_of [0,1,2,3,4,5,6,7,8,9] .done rfl (by kernel_rfl) (by kernel_rfl) (by decide) ?_
  simp only [go_sem,simprocAttr,w1,w2]
  refine ⟨fun h=>?_,fun h=>?_⟩
  all_goals simp only [decide_eq_true_eq,decide_eq_false_iff_not,Int.ofNat_lt] at h
  ·unfold awS
   simp only [go_sem,simprocAttr]
   refine drawR_of [0,1,2,3,4,5,6,7,8,9,10] .done rfl (by kernel_rfl) (by kernel_rfl) (by decide) ?_
   simp only [go_sem,simprocAttr,w3,tape_wrap h1 h2]
   refine ⟨⟨by omega,by omega⟩,hn0,hn0,?_,?_⟩
   ·simp [tapeN,tapeV,if_pos h]
   ·simp
  ·unfold awS
   simp only [go_sem,simprocAttr,w3,tape_wrap h1 h2]
   refine ⟨hn0,hn0,?_,?_⟩
   ·simp [tapeN,tapeV,if_neg h]
   ·simp
def dens:List Int:=[1,1,1,2,3,1001]
def ratR (p q:Int):RatR:=if p=0 then ⟨0,1⟩ else ⟨p / (Nat.gcd p.natAbs q.natAbs:Nat),q / (Nat.gcd p.natAbs q.natAbs:Nat)⟩
def ratAt (L:List Int) (k:Nat) (n:Int):RatR:=ratR (tapeN L k n) (dens.getD (tapeN L (k+1) 6).toNat 0)
theorem cRatT (L:List Int) (k:Nat) (n:Int) (hk:k≤1000000) (h1 : 1≤n) (h2:n≤1048576):CBox Tryz.prog 66 [.t (tints L),vint k] [vint n] (vrat (ratAt L k n)) [.t (tints L),vint ((k+2:Nat):Int)]:=by
 refine cbox_of Tryz.xen66 Tryz.func66 rfl Tryz.ntmps66 (by rw [Tryz.results66]) (aw_ok _ ?_)
 simp only [go_sem,simprocAttr]
 refine drawC_of 10 .done rfl (by kernel_rfl) (by kernel_rfl) (by decide) ?_
 simp only [go_sem,simprocAttr]
 refine bcall (cNext L k n (by omega) h1 h2) rfl rfl rfl ?_
 simp only [go_sem,simprocAttr]
 refine bcall (cNext L (k+1) 6 (by omega) (by omega) (by omega)) rfl rfl rfl ?_
 have t6:=tapeN_lt (L:=L) (k:=k+1) (n:=6) (by omega)
 have t40:=tapeN_lt (L:=L) (k:=k) (n:=n) (by omega)
 obtain ⟨P,hP⟩:∃ P:Nat,tapeN L k n=P:=⟨(tapeN L k n).toNat,by omega⟩
 obtain ⟨Q,hQ,hQ1,hQ2⟩:∃ Q:Nat,dens.getD (tapeN L (k+1) 6).toNat 0=(Q:Int)∧1≤Q∧Q≤1001:=by
  have:(tapeN L (k+1) 6).toNat=0∨(tapeN L (k+1) 6).toNat=1∨(tapeN L (k+1) 6).toNat=2∨(tapeN L (k+1) 6).toNat=3∨(tapeN L (k+1) 6).toNat=4∨(tapeN L (k+1) 6).toNat=5:=by omega
  rcases this with h | h | h | h | h | h<;>rw [h]
  ·exact ⟨1,rfl,by omega,by omega⟩
  ·exact ⟨1,rfl,by omega,by omega⟩
  ·exact ⟨1,rfl,by omega,by omega⟩
  ·exact ⟨2,rfl,by omega,by omega⟩
  ·exact ⟨3,rfl,by omega,by omega⟩
  ·exact ⟨1001,rfl,by omega,by omega⟩
 have hQ':=hQ
 unfold dens at hQ'
 have hr:ratAt L k n=ratR P Q:=by unfold ratAt;rw [hP,hQ]
 rw [hr]
 simp only [go_sem,simprocAttr,hQ',hP]
 refine ⟨⟨by omega,by omega⟩,by omega,by kernel_rfl,?_⟩
 refine awp_loop_f (fun (x:Nat×Nat) σ => setS 7 (vint x.1) (setS 8 (vint x.2) σ)) (fun x=>Nat.gcd x.1 x.2=Nat.gcd P Q) (fun x=>x.2) (P,Q) (weak_self ?_) rfl ?_
 ·simp only [go_sem,simprocAttr]<;>simp
 ·rintro ⟨x,y⟩ hg
  simp only at hg
  refine aw_ok _ ?_
  simp only [go_sem,simprocAttr]
  refine brW (b := !decide (y=0)) ?_ ⟨fun hb=>?_,fun hb=>?_⟩
  ·rw [Bool.eq_iff_iff];simp only [bxx];omega
  ·unfold awS
   simp only [go_sem,simprocAttr]
   have hy:y≠0:=by simpa using hb
   refine drawR_of [0,1,2,3,4,5] .done rfl (by kernel_rfl) (by kernel_rfl) (by decide) ?_
   simp only [go_sem,simprocAttr]
   refine ⟨by omega,(y,x % y),weak_self ?_,?_,Nat.mod_lt _ (by omega)⟩
   ·simp only [go_sem,simprocAttr,tmod_nat]<;>simp
   ·simp only
    rw [← hg,Nat.gcd_comm x y,Nat.gcd_rec y x,Nat.gcd_comm]
  ·unfold awS
   simp only [go_sem,simprocAttr]
   have hy:y=0:=by simpa using hb
   subst hy
   rw [Nat.gcd_zero_right] at hg
   subst hg
   have hg0 : 0<Nat.gcd P Q:=Nat.gcd_pos_of_pos_right _ (by omega)
   refine brW (b:=decide (P=0)) ?_ ⟨fun h0=>?_,fun h0=>?_⟩
   ·rw [Bool.eq_iff_iff];simp only [bxx];omega
   ·unfold awS
    simp only [go_sem,simprocAttr]
    have hp0:P=0:=by simpa using h0
    subst hp0
    rfl
   ·have hp0:P≠0:=by simpa using h0
    have k1:P / Nat.gcd P Q≤P:=Nat.div_le_self _ _
    have k2:Q / Nat.gcd P Q≤Q:=Nat.div_le_self _ _
    unfold awS
    simp only [go_sem,simprocAttr]
    refine drawC_of 8 .done rfl (by kernel_rfl) (by kernel_rfl) (by decide) ?_
    simp only [go_sem,simprocAttr,tdiv_nat,wrapN (n:=P / Nat.gcd P Q) (by omega),wrapN (n:=Q / Nat.gcd P Q) (by omega)]
    refine ⟨by omega,by omega,by kernel_rfl,?_⟩
    unfold ratR
    rw [if_neg (by omega)]
    rfl
def speeds:List (Int×Int):=[(1,1),(1,1),(1,1),(0,1),(-1,1),(1,2),(2,1),(800,1001),(-3,2)]
def speedAt (L:List Int) (k:Nat):RatR:=⟨(speeds.getD (tapeN L k 9).toNat (0,0)).1,(speeds.getD (tapeN L k 9).toNat (0,0)).2⟩
theorem cSpeed (L:List Int) (k:Nat) (hk:k≤1000000):CBox Tryz.prog 67 [.t (tints L),vint k] [] (vrat (speedAt L k)) [.t (tints L),vint ((k+1:Nat):Int)]:=by
 refine cbox_of Tryz.xen67 Tryz.func67 rfl Tryz.ntmps67 (by rw [Tryz.results67]) (aw_ok _ ?_)
 simp only [go_sem,simprocAttr]
 refine icall_box (cNext L k 9 (by omega) (by omega) (by omega)) rfl rfl rfl ?_
 have t9:=tapeN_lt (L:=L) (k:=k) (n:=9) (by omega)
 simp only [go_sem,simprocAttr]
 exact ⟨⟨by omega,by omega⟩,by omega,rfl⟩
def nameB (p:ByteArray) (i:Int):ByteArray:=p++Utf8.encode (48+i)
theorem cName (p:ByteArray) (i:Int) (h0 : 0≤i) (h1:i<64) (hp:p.size≤1000):CPure Tryz.prog 14 [vstr p,vint i] (vstr (nameB p i)):=by
 refine cpure_of Tryz.xen14 Tryz.func14 rfl Tryz.ntmps14 (by rw [Tryz.results14]) (aw_ok _ ?_)
 simp only [go_sem,simprocAttr]
 have e:IntKind.i32.wrap (IntKind.i64.wrap (48+i))=48+i:=by
  rw [wrap64 (by omega) (by omega)]
  have e1:(2:Int) ^ IntKind.i32.bits=4294967296:=by decide
  have e2:(2:Int) ^ (IntKind.i32.bits - 1)=2147483648:=by decide
  unfold IntKind.wrap
  simp only [IntKind.signed,if_true,e1,e2,Bool.true_and,decide_eq_true_eq]
  split<;>omega
 have hz:=encode_size (48+i)
 rw [e]
 refine ⟨?_,rfl⟩
 have:IntKind.i64.max=9223372036854775807:=by decide
 rw [this]
 omega
end Go.Proofs.YtkjdkbmfaamhaaaGreat
