/- Proved here: Contracts of the functions that make clips from a tape, for use in the proofs of the given statements; conditions stand in each theorem. -/
import Derived.Test.YtjmoncjecpckhaaGreatZE
import Derived.Test.YtjmoncjecpckhaaGreatZI
set_option linter.unusedSimpArgs false
set_option linter.unusedVariables false
set_option linter.unusedSectionVars false
set_option linter.unnecessarySimpa false
namespace Go.Proofs.YtjmoncjecpckhaaGreat
open Go.RowKit
set_option maxRecDepth 4000
def tapeV (L:List Int) (k:Nat):Int:=if k<L.length then L.getD k 0 else (k:Int)*7+3
def tapeN (L:List Int) (k:Nat) (n:Int):Int:=((tapeV L k).tmod n+n).tmod n
theorem tmod_abs (v:Int) {n:Int} (h1 : 1≤n) : -n<v.tmod n∧v.tmod n<n:=by
 have h3:=Int.tmod_lt_of_pos v (show 0<n by omega)
 have h4:=Int.tmod_lt_of_pos (-v) (show 0<n by omega)
 rw [Int.neg_tmod] at h4
 omega
theorem tapeN_lt {L:List Int} {k:Nat} {n:Int} (h1 : 1≤n) : 0≤tapeN L k n∧tapeN L k n<n:=by
 have h3:=tmod_abs (tapeV L k) h1
 exact ⟨Int.tmod_nonneg _ (by omega),Int.tmod_lt_of_pos _ (by omega)⟩
theorem tape_wrap {v n:Int} (h1 : 1≤n) (h2:n≤1048576):IntKind.i64.wrap (v.tmod n+n)=v.tmod n+n:=by
 have h3:=tmod_abs v h1
 exact wrap64 (by omega) (by omega)
abbrev tapeB (L:List Int) (k:Nat):List V:=[.t (tints L),vint (k:Int)]
theorem cNext (L:List Int) (k:Nat) (n:Int) (hk:k≤1048576) (h1 : 1≤n) (h2:n≤1048576):CBox Tryz.prog 26 [.t (tints L),vint k] [vint n] (vint (tapeN L k n)) [.t (tints L),vint ((k+1:Nat):Int)]:=by
 refine cbox_of Tryz.xen26 Tryz.func26 rfl Tryz.ntmps26 (by rw [Tryz.results26]) (awp_facts fun hf=>aw_ok _ ?_)
 have w1:IntKind.i64.wrap ((k:Int)*7)=(k:Int)*7:=wrap64 (by omega) (by omega)
 have w2:IntKind.i64.wrap ((k:Int)*7+3)=(k:Int)*7+3:=wrap64 (by omega) (by omega)
 have w3:IntKind.i64.wrap ((k:Int)+1)=(k:Int)+1:=wrap64 (by omega) (by omega)
 have hn0:n≠0:=by omega
 simp only [go_sem,simprocAttr]
 refine ⟨fun h=>?_,fun _=>?_⟩
 ·simp only [decide_eq_true_eq] at h;omega
 ·unfold awS
  simp only [go_sem,simprocAttr,w1,w2]
  refine drawR_of [0,1,2,3,4,5,6,7,8,9] .done rfl (by kernel_rfl) (by kernel_rfl) (by decide) ?_
  simp only [go_sem,simprocAttr,w1,w2]
  refine ⟨fun h=>?_,fun h=>?_⟩
  all_goals simp only [decide_eq_true_eq,decide_eq_false_iff_not,Int.ofNat_lt] at h
  ·unfold awS
   simp only [go_sem,simprocAttr]
   refine drawR_of [0,1,2,3,4,5,6,7,8,9,10] .done rfl (by kernel_rfl) (by kernel_rfl) (by decide) ?_
   simp only [go_sem,simprocAttr,w3,tape_wrap h1 h2]
   refine ⟨⟨by omega,by omega⟩,hn0,hn0,?_,?_⟩
   ·simp [tapeN,tapeV,if_pos h]
   ·simp
  ·unfold awS
   simp only [go_sem,simprocAttr,w3,tape_wrap h1 h2]
   refine ⟨hn0,hn0,?_,?_⟩
   ·simp [tapeN,tapeV,if_neg h]
   ·simp
def dens:List Int:=[1,1,1,2,3,1001]
def ratR (p q:Int):RatR:=if p=0 then ⟨0,1⟩ else ⟨p / (Nat.gcd p.natAbs q.natAbs:Nat),q / (Nat.gcd p.natAbs q.natAbs:Nat)⟩
def ratAt (L:List Int) (k:Nat) (n:Int):RatR:=ratR (tapeN L k n) (dens.getD (tapeN L (k+1) 6).toNat 0)
def speeds:List (Int×Int):=[(1,1),(1,1),(1,1),(0,1),(-1,1),(1,2),(2,1),(800,1001),(-3,2)]
def speedAt (L:List Int) (k:Nat):RatR:=⟨(speeds.getD (tapeN L k 9).toNat (0,0)).1,(speeds.getD (tapeN L k 9).toNat (0,0)).2⟩
def nameB (p:ByteArray) (i:Int):ByteArray:=p++Utf8.encode (48+i)
end Go.Proofs.YtjmoncjecpckhaaGreat
