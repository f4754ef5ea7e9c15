/- Proved here: What a dissolve of two frames of a medium shows, in plain Lean, for use in the proofs of the given statements; conditions stand in each theorem. -/
import Derived.Test.YtmbmmijdmdoalaaYQ
set_option linter.unusedSimpArgs false
set_option linter.unusedVariables false
set_option linter.unusedSectionVars false
set_option linter.unnecessarySimpa false
namespace Go.Proofs.Ytmbmmijdmdoalaa
open Go.RowKit
set_option maxRecDepth 4000
def mixC (kind len off tot:Int):ClipR:=⟨len,kind,sgS ⟨0,1⟩ ⟨0,1⟩ false,sgS ⟨1,1⟩ ⟨0,1⟩ false,off,tot,0,⟨#[]⟩,0,[]⟩
theorem mixC_sg {kind len off tot:Int} (hk:kind=2∨kind=3) (h1 : 1≤len) (h2:len≤1000) (h0 : 0≤off) (ht:off+len≤tot) (ht2:tot≤100000):SgOk (mixC kind len off tot):=by
 have r0:vRat ⟨0,1⟩=true:=of_decide_eq_true (by kernel_rfl)
 have r1:vRat ⟨1,1⟩=true:=of_decide_eq_true (by kernel_rfl)
 have w0:vWith ⟨0,1⟩ 1099511627776=true:=of_decide_eq_true (by kernel_rfl)
 have w1:vWith ⟨1,1⟩ 1099511627776=true:=of_decide_eq_true (by kernel_rfl)
 have w2:vWith ⟨0,1⟩ 1024=true:=of_decide_eq_true (by kernel_rfl)
 have ha:=sgS_ok (smooth:=false) r0 r0 w0 w2 (by decide:(1:Int)≤2) (by decide:(1:Int)≤2)
 have hb:=sgS_ok (smooth:=false) r1 r0 w1 w2 (by decide:(1:Int)≤2) (by decide:(1:Int)≤2)
 refine ⟨?_,rfl,fun x hx=>?_⟩
 ·have hs:shareOk (mixC kind len off tot)=true:=by
   unfold shareOk
   simp only [Bool.and_eq_true,decide_eq_true_eq]
   show ((0≤off∧len≤tot)∧tot≤2147483647)∧off≤tot - len
   omega
  unfold vClip baseOk
  have hko:kindOk (mixC kind len off tot)=true:=by
   unfold kindOk
   rw [hs]
   rcases hk with rfl | rfl<;>simp [mixC,emp]
  rw [hko]
  show (decide (1≤len)&&decide (len≤2147483647)&&decide ((0:Int)≤0)&&decide ((0:Int)≤65536)&&vChans []&&vSource (sgS ⟨0,1⟩ ⟨0,1⟩ false)&&vSource (sgS ⟨1,1⟩ ⟨0,1⟩ false)&&true)=true
  rw [ha,hb,decide_eq_true h1,decide_eq_true (show len≤2147483647 by omega)]
  rfl
 ·rcases hx with rfl | rfl
  ·exact ⟨(by decide:(1:Int)≠2),fun _=>rfl⟩
  ·exact ⟨(by decide:(1:Int)≠2),fun _=>rfl⟩
theorem pic_still (t:List ClipR) (G:ByteArray→Int→ExprR) (n k:Int):picE redX (leafE (sgP t) G) (sgS ⟨n,1⟩ ⟨0,1⟩ false) k=still25 n:=by
 unfold picE
 rw [if_neg (show ¬ (sgS ⟨n,1⟩ ⟨0,1⟩ false).kind=0 from (by decide : ¬ (1:Int)=0)),if_neg (show ¬ ((sgS ⟨n,1⟩ ⟨0,1⟩ false).smooth=true∧_) from fun h=>absurd h.1 (by decide : ¬ false=true)),sg_leaf]
 have hb:baseS (sgS ⟨n,1⟩ ⟨0,1⟩ false)=1:=Nat.lcm_self 1
 have hp:posS (sgS ⟨n,1⟩ ⟨0,1⟩ false) k=n:=by
  unfold posS atS stepS
  rw [hb]
  unfold denP denS sgS
  simp
 rw [hp,hb]
 show still25 (n / 1)=_
 rw [Int.ediv_one]
theorem still01:eqE (still25 0) (still25 1)=false:=by
 rw [Bool.eq_false_iff]
 intro h
 have:=eqE_iff.1 h
 unfold still25 at this
 simp at this
theorem mix_clip (t:List ClipR) (G:ByteArray→Int→ExprR) {kind len off tot:Int} (hk:kind=2∨kind=3) (k:Int):clipE redX (leafE (sgP t) G) (mixC kind len off tot) k = .mk kind ⟨#[]⟩ 0 ((off+k+1) / gcdQ (off+k+1) (tot+1)) ((tot+1) / gcdQ (off+k+1) (tot+1)) 0 ⟨#[]⟩ [still25 0,still25 1]:=by
 unfold clipE
 rw [if_neg (show ¬ (mixC kind len off tot).kind=1 by show ¬ kind=1;omega),if_neg (show ¬ (mixC kind len off tot).kind=5 by show ¬ kind=5;omega),if_neg (show ¬ (mixC kind len off tot).kind=4 by show ¬ kind=4;omega)]
 show redX (shareE kind 0 (off+k+1) (tot+1) (picE redX (leafE (sgP t) G) (sgS ⟨0,1⟩ ⟨0,1⟩ false) k) (picE redX (leafE (sgP t) G) (sgS ⟨1,1⟩ ⟨0,1⟩ false) k))=_
 rw [pic_still,pic_still]
 unfold shareE redX
 change redE _ _ _ _ _ _ _ _=_
 rw [redE_two,still01]
 have:(kind==4&&opE (still25 0)==0)=false:=by
  rcases hk with rfl | rfl<;>rfl
 rw [this]
 rfl
theorem mix_facts {N D:Nat} (h0 : 0<N) (h1:N<D) (hD:D≤100000):∃ p q:Nat,(N:Int) / gcdQ N D=p∧(D:Int) / gcdQ N D=q∧0<p∧p<q∧q≤100000∧p*D=N*q∧Nat.gcd p q=1:=by
 have e:gcdQ (N:Int) (D:Int)=((Nat.gcd N D:Nat):Int):=by unfold gcdQ;simp
 have hg : 0<Nat.gcd N D:=Nat.gcd_pos_of_pos_left _ (by omega)
 have m1:=Nat.mul_div_cancel' (Nat.gcd_dvd_left N D)
 have m2:=Nat.mul_div_cancel' (Nat.gcd_dvd_right N D)
 refine ⟨N / Nat.gcd N D,D / Nat.gcd N D,by rw [e, ← Int.natCast_ediv],by rw [e, ← Int.natCast_ediv],Nat.div_pos (Nat.le_of_dvd (by omega) (Nat.gcd_dvd_left N D)) hg,?_,?_,?_,Nat.gcd_div_gcd_div_gcd_of_pos_left (by omega)⟩
 ·refine Nat.lt_of_mul_lt_mul_left (a:=Nat.gcd N D) ?_
  rw [m1,m2]
  omega
 ·have:=Nat.div_le_self D (Nat.gcd N D)
  omega
 ·generalize Nat.gcd N D=g at *
  generalize N / g=p at *
  generalize D / g=q at *
  subst m1
  subst m2
  rw [Nat.mul_left_comm,Nat.mul_assoc]
theorem mix_frame {kind len off tot:Int} (hk:kind=2∨kind=3) (h1 : 1≤len) (h2:len≤1000) (h0 : 0≤off) (ht:off+len≤tot) (ht2:tot≤99999) (k:Nat) (hkl:(k:Int)<len) :
  ∃ p q:Nat,0<p∧p<q∧q≤100000∧(p:Int)*(tot+1)=(off+k+1)*q∧Nat.gcd p q=1 ∧
   CPure Try.prog 5 [vproj (sgP [mixC kind len off tot]),vstr ⟨#[115]⟩,vint k] (.tup [vex kind ⟨#[]⟩ 0 p q 0 ⟨#[]⟩ [still25 0,still25 1],vint 0]):=by
 have hok:=mixC_sg hk h1 h2 h0 ht (by omega)
 have hf:(mixC kind len off tot).fit:=by
  have j0:I64 0:=⟨by decide,by decide⟩
  have j1:I64 1:=⟨by decide,by decide⟩
  exact ⟨⟨by show _≤len;omega,by show len≤_;omega⟩,⟨by show _≤kind;omega,by show kind≤_;omega⟩,⟨j1,⟨j0,j1⟩,⟨j0,j1⟩⟩,⟨j1,⟨j1,j1⟩,⟨j0,j1⟩⟩,⟨by show _≤off;omega,by show off≤_;omega⟩,⟨by show _≤tot;omega,by show tot≤_;omega⟩,j0,j0⟩
 obtain ⟨N,hN⟩:∃ N:Nat,off+(k:Int)+1=N:=⟨(off+(k:Int)+1).toNat,by omega⟩
 obtain ⟨D,hD⟩:∃ D:Nat,tot+1=D:=⟨(tot+1).toNat,by omega⟩
 obtain ⟨p,q,e1,e2,b1,b2,b3,b4,b5⟩:=mix_facts (N:=N) (D:=D) (by omega) (by omega) (by omega)
 refine ⟨p,q,b1,b2,b3,?_,b5,?_⟩
 ·rw [hN,hD, ← Int.natCast_mul, ← Int.natCast_mul,b4]
 ·have hc:=cDFrame (sgP [mixC kind len off tot]) (sg_fit hf) ⟨#[115]⟩ (k:Int) ⟨by omega,by omega⟩
  rw [sg_frame hok hf (show (mixC kind len off tot).kind≠0 by show ¬ kind=0;omega) (by omega) hkl,mix_clip _ _ hk,hN,hD,e1,e2] at hc
  exact hc
end Go.Proofs.Ytmbmmijdmdoalaa
