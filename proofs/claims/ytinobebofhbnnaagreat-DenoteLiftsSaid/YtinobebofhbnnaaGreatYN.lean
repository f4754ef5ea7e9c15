/- Proved here: Frames of films, the reference: shares, sources, pictures, for use in the proofs of the given statements; conditions stand in each theorem. -/
import Derived.Test.YtinobebofhbnnaaGreatYM
import Derived.Test.YtinobebofhbnnaaGreatZK
set_option linter.unusedSimpArgs false
set_option linter.unusedVariables false
set_option linter.unusedSectionVars false
set_option linter.unnecessarySimpa false
namespace Go.Proofs.YtinobebofhbnnaaGreat
open Go.RowKit
set_option maxRecDepth 4000
theorem moved_floor {s:SourceR} {p d:Nat} (ok:SrcOk s p d) (k:Int):∃ g:Nat,0<g∧posS s k=(movedQ s k).num*(g:Int)∧(baseS s:Int)=((movedQ s k).den:Int)*(g:Int)∧0<(movedQ s k).den:=by
 obtain ⟨m1,m2⟩:=moved_parts ok k
 obtain ⟨e1,e2⟩:=posS_eq ok k
 have hb : 0<Nat.lcm p d:=Nat.lcm_pos ok.p1 ok.d1
 have hg : 0<Nat.gcd (numB s k p d).natAbs (Nat.lcm p d):=Nat.gcd_pos_of_pos_right _ hb
 refine ⟨Nat.gcd (numB s k p d).natAbs (Nat.lcm p d),hg,?_,?_,(movedQ s k).den_pos⟩
 ·rw [e2,m1]
  exact (Int.ediv_mul_cancel (Int.ofNat_dvd_left.2 (Nat.gcd_dvd_left _ _))).symm
 ·rw [e1,m2, ← Int.natCast_mul,Nat.div_mul_cancel (Nat.gcd_dvd_right _ _)]
theorem floor_mul {a b:Int} {g:Nat} (hg : 0<g) (hb : 0<b):a*(g:Int) / (b*(g:Int))=a / b∧a*(g:Int) % (b*(g:Int))=a % b*(g:Int):=by
 refine ⟨Int.mul_ediv_mul_of_pos_left a b (by omega),?_⟩
 rw [Int.mul_comm a,Int.mul_comm b,Int.mul_emod_mul_of_pos a b (by omega),Int.mul_comm]
theorem share_scale (op param:Int) {n d:Int} {g:Nat} (hg : 0<g) (a b:ExprR):shareE op param (n*(g:Int)) (d*(g:Int)) a b=shareE op param n d a b:=by
 have e:gcdQ (n*(g:Int)) (d*(g:Int))=gcdQ n d*(g:Int):=by
  unfold gcdQ
  rw [Int.natAbs_mul,Int.natAbs_mul,Int.natAbs_natCast,Nat.gcd_mul_right,Int.natCast_mul]
 unfold shareE
 rw [e,Int.mul_ediv_mul_of_pos_left _ _ (by omega),Int.mul_ediv_mul_of_pos_left _ _ (by omega)]
theorem picE_moved (R:ExprR→ExprR) (F:SourceR→Int→ExprR) {s:SourceR} {p d:Nat} (ok:SrcOk s p d) (k:Int):picE R F s k =
  if s.smooth=true∧(movedQ s k).num % ((movedQ s k).den:Int)≠0 then R (shareE 2 0 ((movedQ s k).num % ((movedQ s k).den:Int)) ((movedQ s k).den:Int) (F s ((movedQ s k).num / ((movedQ s k).den:Int))) (F s ((movedQ s k).num / ((movedQ s k).den:Int)+1)))
  else F s ((movedQ s k).num / ((movedQ s k).den:Int)):=by
 obtain ⟨g,hg,h1,h2,h3⟩:=moved_floor ok k
 obtain ⟨q1,q2⟩:=floor_mul (a:=(movedQ s k).num) (b:=((movedQ s k).den:Int)) hg (by omega)
 have hk:s.kind≠0:=by rcases ok.kind with e | e<;>omega
 unfold picE
 rw [if_neg hk,h1,h2,q1,q2,share_scale _ _ hg]
 have hz:(movedQ s k).num % ((movedQ s k).den:Int)*(g:Int)≠0 ↔ (movedQ s k).num % ((movedQ s k).den:Int)≠0:=by
  constructor
  ·intro h e;exact h (by rw [e];simp)
  ·intro h e
   rcases Int.mul_eq_zero.1 e with e | e
   ·exact h e
   ·omega
 simp only [hz]
open Go.RowKit
set_option maxRecDepth 4000
end Go.Proofs.YtinobebofhbnnaaGreat
