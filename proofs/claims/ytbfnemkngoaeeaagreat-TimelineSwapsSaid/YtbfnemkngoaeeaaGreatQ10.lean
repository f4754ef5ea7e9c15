/- Proved here: The contract of the reference's check of a clip; conditions stand in each theorem. -/
import Derived.Test.YtbfnemkngoaeeaaGreatQ08
set_option linter.unusedSimpArgs false
set_option linter.unusedVariables false
set_option linter.unusedSectionVars false
set_option linter.unnecessarySimpa false
namespace Go.Proofs.YtbfnemkngoaeeaaGreat
open Go.RowKit
set_option maxRecDepth 4000
set_option maxHeartbeats 4000000
def Rh (n:Int):Bool:=decide (-1≤n)&&decide (n≤3)
theorem Nr (l:List Int):dM l=(decide (l.length≤4)&&l.all Rh):=rfl
theorem cW {s:SourceR} (h:s.isZ=true):aS s=true:=by unfold aS;rw [h];rfl
theorem eF {c:ClipR} (h:bQ c=true) : 1≤c.len∧c.len≤2147483647∧0≤c.gain∧c.gain≤65536∧dM c.chan=true∧aS c.a=true∧aS c.b=true∧bZ c=true:=by
 unfold bQ kJ at h;simp only [Bool.and_eq_true,decide_eq_true_eq] at h;obtain ⟨⟨⟨⟨⟨⟨⟨q1,q2⟩,q3⟩,q4⟩,q5⟩,q6⟩,q7⟩,q8⟩:=h;exact ⟨q1,q2,q3,q4,q5,q6,q7,q8⟩
theorem Bd {c:ClipR} (h:bZ c=true) : 0≤c.kind∧c.kind≤5:=by
 by_cases hk : 0≤c.kind∧c.kind≤5
 ·exact hk
 ·unfold bZ at h
  repeat rw [if_neg (by omega)] at h
  cases h
theorem aAt {l:List Int} (h:dM l=true):l.length≤4:=by
 unfold dM at h;simp only [Bool.and_eq_true,decide_eq_true_eq] at h;exact h.1
theorem Pe {c:ClipR} (h : 1≤c.len) (h2:c.len≤2147483647):(decide (c.off<0)||decide (c.total<0)||decide (c.total > 2147483647)||decide (c.off > IntKind.i64.wrap (c.total - c.len))) = !eV c:=by
 unfold eV
 by_cases hx : 0≤c.total∧c.total≤2147483647
 ·rw [wrap64 (by omega) (by omega)];rw [Bool.eq_iff_iff];simp only [bxx];omega
 ·rw [Bool.eq_iff_iff];simp only [bxx];omega
theorem rC {c:ClipR}:(c.off != 0||c.total != 0) = !cS c:=by
 unfold cS
 (try simp only [bne]);cases (c.off==0)<;>cases (c.total==0)<;>rfl
theorem Qa {n m:Int}:(decide (n<0)||decide (n > m)) = !(decide (0≤n)&&decide (n≤m)):=by rw [Bool.eq_iff_iff];simp only [bxx];omega
theorem tE {n:Int}:(decide (n<0)||decide (n > 0)) = !(n==0):=by rw [Bool.eq_iff_iff];simp only [bxx];omega
theorem gap_ref {c:ClipR}:(c.gain != 0||decide (((c.chan.length:Nat):Int) > 0)) = !(c.gain==0&&c.chan.length==0):=by rw [Bool.eq_iff_iff];simp only [bxx];omega
theorem Kn {c:ClipR} (h:c.kind=0):bZ c=(c.a.isZ&&c.b.isZ&&cS c&&c.param==0&&emp c.text&&c.gain==0&&c.chan.length==0):=by unfold bZ;rw [if_pos h]
theorem Qu {c:ClipR} (h:c.kind=1):bZ c=(c.b.isZ&&cS c&&c.param==0&&emp c.text):=by unfold bZ;rw [if_neg (by omega),if_pos h]
theorem Yz {c:ClipR} (h:c.kind=2):bZ c=(eV c&&c.param==0&&emp c.text):=by unfold bZ;rw [if_neg (by omega),if_neg (by omega),if_pos h]
theorem Yy {c:ClipR} (h:c.kind=3):bZ c=(eV c&&decide (0≤c.param)&&decide (c.param≤3)&&emp c.text):=by unfold bZ;rw [if_neg (by omega),if_neg (by omega),if_neg (by omega),if_pos h]
theorem Yx {c:ClipR} (h:c.kind=4):bZ c=(cS c&&decide (0≤c.param)&&decide (c.param≤255)&&emp c.text):=by unfold bZ;rw [if_neg (by omega),if_neg (by omega),if_neg (by omega),if_neg (by omega),if_pos h]
theorem Qt {c:ClipR} (h:c.kind=5):bZ c=(c.b.isZ&&cS c&&c.param==0&&fS c.text):=by unfold bZ;rw [if_neg (by omega),if_neg (by omega),if_neg (by omega),if_neg (by omega),if_neg (by omega),if_pos h]
theorem cV {b:Bool} (h:b=false):V.t (T.lit (Value.bool false))=aP b:=by rw [h]
theorem cRClip (c:ClipR) (h:c.fit):aN Tryz.prog 248 [fH c] (aP (bQ c)):=by
 refine aH Tryz.X248 Tryz.func248 rfl Tryz.ntmps248 (by rw [Tryz.results248]) (aD _ ?_);simp only [go_sem,simprocAttr];refine brW (b := !(decide (1≤c.len)&&decide (c.len≤2147483647)&&(decide (0≤c.kind)&&decide (c.kind≤5))&&decide (0≤c.gain)&&decide (c.gain≤65536)&&decide (c.chan.length≤4))) ?_ ⟨fun hb=>?_,fun hb=>?_⟩
 ·rw [Bool.eq_iff_iff];simp only [bxx];omega
 ·unfold awS;have hb':=nt hb;simp only [bxx] at hb';have:bQ c=false:=by
   rw [Bool.eq_false_iff];intro hv;obtain ⟨q1,q2,q3,q4,q5,q6,q7,q8⟩:=eF hv;have:=Bd q8;have:=aAt q5;omega
  simp only [go_sem,simprocAttr];rw [this]
 ·unfold awS;simp only [go_sem,simprocAttr];have hb':=nf hb;simp only [bxx] at hb';refine aF (fun (k:Nat) σ => bL 3 (aC k) (aX [7,8,9,10,11,12,13,14,15,16,17,18,19,20,21,22,23,24,25,26,27,28,29,30,31,32,33,34,35,36,37,38,39,40] σ)) (fun k=>k≤c.chan.length ∧ ∀ i,i<k→Rh (c.chan.getD i 0)=true) (fun k=>c.chan.length - k) 0 (aA ?_) ⟨Nat.zero_le _,by omega⟩ ?_
  ·simp only [go_sem,simprocAttr]<;>simp
  ·rintro k ⟨hk,hi⟩;refine aD _ ?_;simp only [go_sem,simprocAttr];refine ⟨fun hlt=>?_,fun hge=>?_⟩
   ·simp only [bxx] at hlt;unfold awS;simp only [go_sem,simprocAttr];refine ⟨⟨by omega,by omega⟩,fun _=>⟨by omega,by omega⟩,?_⟩;refine brW (b := !Rh (c.chan.getD k 0)) ?_ ⟨fun hc=>?_,fun hc=>?_⟩
    ·unfold Rh;rw [Bool.eq_iff_iff];simp only [bxx];omega
    ·unfold awS;simp only [go_sem,simprocAttr];have:bQ c=false:=by
      unfold bQ kJ;rw [Nr,cA (d:=(0:Int)) (p:=Rh) (k:=k) (by omega) (nt hc)];simp
     rw [this]
    ·unfold awS;simp only [go_sem,simprocAttr];refine ⟨k+1,aA ?_,⟨by omega,upto hi (nf hc)⟩,by omega⟩;simp only [go_sem,simprocAttr]<;>simp [bJ (show k<9223372036854775807 by omega)]
   ·simp only [bxx] at hge;have hch:dM c.chan=true:=by
     rw [Nr,bT (d:=(0:Int)) (p:=Rh) (fun i h2=>hi i (by omega)),Bool.and_true,decide_eq_true (by omega:c.chan.length≤4)]
    unfold awS;simp only [go_sem,simprocAttr];have hv:bQ c=(aS c.a&&aS c.b&&bZ c):=by
     unfold bQ kJ;rw [hch,decide_eq_true (by omega : 1≤c.len),decide_eq_true (by omega:c.len≤2147483647),decide_eq_true (by omega : 0≤c.gain),decide_eq_true (by omega:c.gain≤65536)];rfl
    rw [hv];have hk6:c.kind=0∨c.kind=1∨c.kind=2∨c.kind=3∨c.kind=4∨c.kind=5:=by omega
    refine bM [0,1,2,3,4,5,6,7,8,9,10,11,12] .done rfl (by kernel_rfl) (by kernel_rfl) (by decide) ?_;rcases hk6 with hk | hk | hk | hk | hk | hk
    all_goals
     simp only [go_sem,simprocAttr,dtf,hk];refine ⟨_,tW _,?_⟩;simp only [go_sem,simprocAttr,dtf,hk]
    ·refine ⟨aP false,fun h=>h.elim,?_⟩;simp only [go_sem,simprocAttr,dtf,hk];refine ⟨_,(by first | exact rS c.a | exact fun _=>rS c.a),?_⟩;simp only [go_sem,simprocAttr,dtf,hk];refine ⟨aP false,fun h=>h.elim,?_⟩;simp only [go_sem,simprocAttr,dtf,hk];refine ⟨_,(by first | exact rS c.b | exact fun _=>rS c.b),?_⟩;simp only [go_sem,simprocAttr,dtf,hk];refine brW (b := !(c.a.isZ&&c.b.isZ)) ?_ ⟨fun hd=>?_,fun hd=>?_⟩
     ·(try simp only [bne]);cases (c.a.isZ)<;>cases (c.b.isZ)<;>rfl
     ·unfold awS;simp only [go_sem,simprocAttr,dtf,hk];refine cV ?_;rw [Kn hk,Bool.eq_false_iff];intro hv;simp only [Bool.and_eq_true] at hv;have z:=nt hd;simp_all
     ·unfold awS;simp only [go_sem,simprocAttr,dtf,hk];refine brW (b := !(c.gain==0&&c.chan.length==0)) ?_ ⟨fun hg=>?_,fun hg=>?_⟩
      ·exact gap_ref
      ·unfold awS;simp only [go_sem,simprocAttr,dtf,hk];refine cV ?_;have z:=nf hd;rw [Bool.and_eq_true] at z;rw [cW z.1,cW z.2,Kn hk,z.1,z.2];have z2:=nt hg;rw [Bool.and_assoc _ (c.gain==0),z2];simp
      unfold awS;simp only [go_sem,simprocAttr,dtf,hk];refine ⟨_,tW _,?_⟩;simp only [go_sem,simprocAttr,dtf,hk];refine brW (b := !cS c) ?_ ⟨fun hs=>?_,fun hs=>?_⟩
      ·exact rC
      ·unfold awS;simp only [go_sem,simprocAttr,dtf,hk];refine cV ?_;have z:=nf hd;rw [Bool.and_eq_true] at z;rw [cW z.1,cW z.2,Kn hk,z.1,z.2];rw [nt hs];simp
      unfold awS;simp only [go_sem,simprocAttr,dtf,hk];refine brW (b := !(c.param==0)) ?_ ⟨fun hp=>?_,fun hp=>?_⟩
      ·exact tE
      ·unfold awS;simp only [go_sem,simprocAttr,dtf,hk];refine cV ?_;have z:=nf hd;rw [Bool.and_eq_true] at z;rw [cW z.1,cW z.2,Kn hk,z.1,z.2];have z2:=nt hp;rw [z2];simp
      unfold awS;simp only [go_sem,simprocAttr,dtf,hk];have z:=nf hd;rw [Bool.and_eq_true] at z;rw [cW z.1,cW z.2,Kn hk,z.1,z.2];have z2:=nf hp;rw [nf hs,z2];have z3:=nf hg;rw [Bool.and_eq_true] at z3;rw [z3.1,z3.2];simp [emp]
    ·refine ⟨_,(by first | exact dT _ h.a | exact fun _=>dT _ h.a),?_⟩;simp only [go_sem,simprocAttr,dtf,hk];refine ⟨aP false,fun h=>h.elim,?_⟩;simp only [go_sem,simprocAttr,dtf,hk];refine ⟨aP false,fun h=>h.elim,?_⟩;simp only [go_sem,simprocAttr,dtf,hk];refine ⟨_,(by first | exact rS c.b | exact fun _=>rS c.b),?_⟩;simp only [go_sem,simprocAttr,dtf,hk];refine brW (b := !(aS c.a&&c.b.isZ)) ?_ ⟨fun hd=>?_,fun hd=>?_⟩
     ·(try simp only [bne]);cases (aS c.a)<;>cases (c.b.isZ)<;>rfl
     ·unfold awS;simp only [go_sem,simprocAttr,dtf,hk];refine cV ?_;rw [Qu hk,Bool.eq_false_iff];intro hv;simp only [Bool.and_eq_true] at hv;have z:=nt hd;simp_all
     ·unfold awS;simp only [go_sem,simprocAttr,dtf,hk];refine ⟨_,tW _,?_⟩;simp only [go_sem,simprocAttr,dtf,hk];refine brW (b := !cS c) ?_ ⟨fun hs=>?_,fun hs=>?_⟩
      ·exact rC
      ·unfold awS;simp only [go_sem,simprocAttr,dtf,hk];refine cV ?_;have z:=nf hd;rw [Bool.and_eq_true] at z;rw [z.1,cW z.2,Qu hk,z.2];rw [nt hs];simp
      unfold awS;simp only [go_sem,simprocAttr,dtf,hk];refine brW (b := !(c.param==0)) ?_ ⟨fun hp=>?_,fun hp=>?_⟩
      ·exact tE
      ·unfold awS;simp only [go_sem,simprocAttr,dtf,hk];refine cV ?_;have z:=nf hd;rw [Bool.and_eq_true] at z;rw [z.1,cW z.2,Qu hk,z.2];have z2:=nt hp;rw [z2];simp
      unfold awS;simp only [go_sem,simprocAttr,dtf,hk];have z:=nf hd;rw [Bool.and_eq_true] at z;rw [z.1,cW z.2,Qu hk,z.2];have z2:=nf hp;rw [nf hs,z2];simp [emp]
    ·refine ⟨_,(by first | exact dT _ h.a | exact fun _=>dT _ h.a),?_⟩;simp only [go_sem,simprocAttr,dtf,hk];refine ⟨aP false,fun h=>h.elim,?_⟩;simp only [go_sem,simprocAttr,dtf,hk];refine ⟨_,(by first | exact dT _ h.b | exact fun _=>dT _ h.b),?_⟩;simp only [go_sem,simprocAttr,dtf,hk];refine ⟨aP false,fun h=>h.elim,?_⟩;simp only [go_sem,simprocAttr,dtf,hk];refine brW (b := !(aS c.a&&aS c.b)) ?_ ⟨fun hd=>?_,fun hd=>?_⟩
     ·(try simp only [bne]);cases (aS c.a)<;>cases (aS c.b)<;>rfl
     ·unfold awS;simp only [go_sem,simprocAttr,dtf,hk];refine cV ?_;have z:=nt hd;rw [z];rfl
     ·unfold awS;simp only [go_sem,simprocAttr,dtf,hk];refine ⟨_,tW _,?_⟩;simp only [go_sem,simprocAttr,dtf,hk];refine brW (b := !eV c) ?_ ⟨fun hs=>?_,fun hs=>?_⟩
      ·exact Pe (by omega) (by omega)
      ·unfold awS;simp only [go_sem,simprocAttr,dtf,hk];refine cV ?_;have z:=nf hd;rw [z,Yz hk];rw [nt hs];simp
      unfold awS;simp only [go_sem,simprocAttr,dtf,hk];refine brW (b := !(c.param==0)) ?_ ⟨fun hp=>?_,fun hp=>?_⟩
      ·exact tE
      ·unfold awS;simp only [go_sem,simprocAttr,dtf,hk];refine cV ?_;have z:=nf hd;rw [z,Yz hk];have z2:=nt hp;rw [z2];simp
      unfold awS;simp only [go_sem,simprocAttr,dtf,hk];have z:=nf hd;rw [z,Yz hk];have z2:=nf hp;rw [nf hs,z2];simp [emp]
    ·refine ⟨_,(by first | exact dT _ h.a | exact fun _=>dT _ h.a),?_⟩;simp only [go_sem,simprocAttr,dtf,hk];refine ⟨aP false,fun h=>h.elim,?_⟩;simp only [go_sem,simprocAttr,dtf,hk];refine ⟨_,(by first | exact dT _ h.b | exact fun _=>dT _ h.b),?_⟩;simp only [go_sem,simprocAttr,dtf,hk];refine ⟨aP false,fun h=>h.elim,?_⟩;simp only [go_sem,simprocAttr,dtf,hk];refine brW (b := !(aS c.a&&aS c.b)) ?_ ⟨fun hd=>?_,fun hd=>?_⟩
     ·(try simp only [bne]);cases (aS c.a)<;>cases (aS c.b)<;>rfl
     ·unfold awS;simp only [go_sem,simprocAttr,dtf,hk];refine cV ?_;have z:=nt hd;rw [z];rfl
     ·unfold awS;simp only [go_sem,simprocAttr,dtf,hk];refine ⟨_,tW _,?_⟩;simp only [go_sem,simprocAttr,dtf,hk];refine brW (b := !eV c) ?_ ⟨fun hs=>?_,fun hs=>?_⟩
      ·exact Pe (by omega) (by omega)
      ·unfold awS;simp only [go_sem,simprocAttr,dtf,hk];refine cV ?_;have z:=nf hd;rw [z,Yy hk];rw [nt hs];simp
      unfold awS;simp only [go_sem,simprocAttr,dtf,hk];refine brW (b := !(decide (0≤c.param)&&decide (c.param≤3))) ?_ ⟨fun hp=>?_,fun hp=>?_⟩
      ·exact Qa
      ·unfold awS;simp only [go_sem,simprocAttr,dtf,hk];refine cV ?_;have z:=nf hd;rw [z,Yy hk];have z2:=nt hp;rw [Bool.and_assoc _ (decide (0≤c.param)),z2];simp
      unfold awS;simp only [go_sem,simprocAttr,dtf,hk];have z:=nf hd;rw [z,Yy hk];have z2:=nf hp;rw [Bool.and_eq_true] at z2;rw [nf hs,z2.1,z2.2];simp [emp]
    ·refine ⟨_,(by first | exact dT _ h.a | exact fun _=>dT _ h.a),?_⟩;simp only [go_sem,simprocAttr,dtf,hk];refine ⟨aP false,fun h=>h.elim,?_⟩;simp only [go_sem,simprocAttr,dtf,hk];refine ⟨_,(by first | exact dT _ h.b | exact fun _=>dT _ h.b),?_⟩;simp only [go_sem,simprocAttr,dtf,hk];refine ⟨aP false,fun h=>h.elim,?_⟩;simp only [go_sem,simprocAttr,dtf,hk];refine brW (b := !(aS c.a&&aS c.b)) ?_ ⟨fun hd=>?_,fun hd=>?_⟩
     ·(try simp only [bne]);cases (aS c.a)<;>cases (aS c.b)<;>rfl
     ·unfold awS;simp only [go_sem,simprocAttr,dtf,hk];refine cV ?_;have z:=nt hd;rw [z];rfl
     ·unfold awS;simp only [go_sem,simprocAttr,dtf,hk];refine ⟨_,tW _,?_⟩;simp only [go_sem,simprocAttr,dtf,hk];refine brW (b := !cS c) ?_ ⟨fun hs=>?_,fun hs=>?_⟩
      ·exact rC
      ·unfold awS;simp only [go_sem,simprocAttr,dtf,hk];refine cV ?_;have z:=nf hd;rw [z,Yx hk];rw [nt hs];simp
      unfold awS;simp only [go_sem,simprocAttr,dtf,hk];refine brW (b := !(decide (0≤c.param)&&decide (c.param≤255))) ?_ ⟨fun hp=>?_,fun hp=>?_⟩
      ·exact Qa
      ·unfold awS;simp only [go_sem,simprocAttr,dtf,hk];refine cV ?_;have z:=nf hd;rw [z,Yx hk];have z2:=nt hp;rw [Bool.and_assoc _ (decide (0≤c.param)),z2];simp
      unfold awS;simp only [go_sem,simprocAttr,dtf,hk];have z:=nf hd;rw [z,Yx hk];have z2:=nf hp;rw [Bool.and_eq_true] at z2;rw [nf hs,z2.1,z2.2];simp [emp]
    ·refine ⟨_,(by first | exact dT _ h.a | exact fun _=>dT _ h.a),?_⟩;simp only [go_sem,simprocAttr,dtf,hk];refine ⟨aP false,fun h=>h.elim,?_⟩;simp only [go_sem,simprocAttr,dtf,hk];refine ⟨aP false,fun h=>h.elim,?_⟩;simp only [go_sem,simprocAttr,dtf,hk];refine ⟨_,(by first | exact rS c.b | exact fun _=>rS c.b),?_⟩;simp only [go_sem,simprocAttr,dtf,hk];refine brW (b := !(aS c.a&&c.b.isZ)) ?_ ⟨fun hd=>?_,fun hd=>?_⟩
     ·(try simp only [bne]);cases (aS c.a)<;>cases (c.b.isZ)<;>rfl
     ·unfold awS;simp only [go_sem,simprocAttr,dtf,hk];refine cV ?_;rw [Qt hk,Bool.eq_false_iff];intro hv;simp only [Bool.and_eq_true] at hv;have z:=nt hd;simp_all
     ·unfold awS;simp only [go_sem,simprocAttr,dtf,hk];refine ⟨_,tW _,?_⟩;simp only [go_sem,simprocAttr,dtf,hk];refine brW (b := !cS c) ?_ ⟨fun hs=>?_,fun hs=>?_⟩
      ·exact rC
      ·unfold awS;simp only [go_sem,simprocAttr,dtf,hk];refine cV ?_;have z:=nf hd;rw [Bool.and_eq_true] at z;rw [z.1,cW z.2,Qt hk,z.2];rw [nt hs];simp
      unfold awS;simp only [go_sem,simprocAttr,dtf,hk];refine brW (b := !(c.param==0)) ?_ ⟨fun hp=>?_,fun hp=>?_⟩
      ·exact tE
      ·unfold awS;simp only [go_sem,simprocAttr,dtf,hk];refine cV ?_;have z:=nf hd;rw [Bool.and_eq_true] at z;rw [z.1,cW z.2,Qt hk,z.2];have z2:=nt hp;rw [z2];simp
      unfold awS;simp only [go_sem,simprocAttr,dtf,hk];refine ⟨_,aMu c.text,?_⟩;simp only [go_sem,simprocAttr,dtf,hk];have z:=nf hd;rw [Bool.and_eq_true] at z;rw [z.1,cW z.2,Qt hk,z.2];have z2:=nf hp;rw [nf hs,z2];simp
open Go.RowKit
set_option maxRecDepth 4000
def eG:List ClipR→Int
 | []=>0
 | c::l=>c.len+eG l
theorem pC:∀ (l:List ClipR) (k:Nat),k<l.length→eG (l.take (k+1))=eG (l.take k)+(l.getD k default).len
 | [],k,h=>by simp at h
 | c::l,0,h=>by simp [eG]
 | c::l,k+1,h=>by
  have:=pC l k (by simpa using h);simp only [List.take_succ_cons,eG,List.getD_cons_succ] at this ⊢;omega
theorem Hc:∀ (l:List ClipR),(∀ c∈l,1≤c.len∧c.len≤2147483647)→(l.length:Int)≤eG l∧eG l≤2147483647*l.length
 | [],_=>by simp [eG]
 | c::l,h=>by
  have h1:=Hc l fun d hd=>h d (by simp [hd])
  have h2:=h c (by simp);simp only [eG,List.length_cons];omega
def cC (t:List ClipR):Bool:=decide (t.length≤64)&&t.all bQ&&decide (eG t≤2147483647)
def lenT (t:List ClipR):Int:=if cC t=true then eG t else 0
theorem kQ {c:ClipR} (h:bQ c=true) : 1≤c.len∧c.len≤2147483647:=by
 obtain ⟨h1,h2,_⟩:=eF h;exact ⟨h1,h2⟩
theorem aQ {α : Type} {l:List α} {d : α} {k:Nat} (h:k<l.length):l.getD k d∈l:=by
 rw [List.getD_eq_getElem?_getD,List.getElem?_eq_getElem h];exact List.getElem_mem h
theorem aJf {t:List ClipR} {k:Nat} (hk:k≤t.length) (hi:∀ i,i<k→bQ (t.getD i default)=true):∀ c∈t.take k,1≤c.len∧c.len≤2147483647:=by
 intro c hc;obtain ⟨i,hi2,rfl⟩:=List.mem_iff_getElem.1 hc;have h1:i<k:=by simp at hi2;omega
 have:=kQ (hi i h1);rw [aU (by omega)] at this;simpa using this
theorem wN {t:List ClipR} {k:Nat} (hk:k≤t.length) (h64:t.length≤64) (hi:∀ i,i<k→bQ (t.getD i default)=true) : 0≤eG (t.take k)∧eG (t.take k)≤137438953408:=by
 have h1:=Hc _ (aJf hk hi);have:(t.take k).length=k:=by simp;omega
 omega
theorem Bt (t:List ClipR) (hfit:∀ c∈t,c.fit):aN Tryz.prog 45 [.t (dD t)] (aP (cC t)):=by
 refine aH Tryz.X45 Tryz.func45 rfl Tryz.ntmps45 (by rw [Tryz.results45]) (aD _ ?_);simp only [go_sem,simprocAttr];refine ⟨fun h=>?_,fun h=>?_⟩
 ·simp only [bxx] at h;unfold awS;simp only [go_sem,simprocAttr];unfold cC;rw [decide_eq_false (by omega : ¬ t.length≤64)];rfl
 ·simp only [bxx] at h;unfold awS;simp only [go_sem,simprocAttr];refine aF (fun (k:Nat) σ => bL 3 (aC (eG (t.take k))) (bL 11 (aC k) (aX [6,7,8] σ))) (fun k=>k≤t.length ∧ ∀ i,i<k→bQ (t.getD i default)=true) (fun k=>t.length - k) 0 (aA ?_) ⟨Nat.zero_le _,by omega⟩ ?_
  ·simp only [go_sem,simprocAttr]<;>simp [eG]
  ·rintro k ⟨hk,hi⟩;have hr:=wN hk (by omega) hi;refine aD _ ?_;simp only [go_sem,simprocAttr];refine ⟨fun hlt=>?_,fun hge=>?_⟩
   ·simp only [bxx] at hlt;have hkl:k<t.length:=by omega
    unfold awS;simp only [go_sem,simprocAttr];refine ⟨⟨by omega,by omega⟩,_,aN5 _ (hfit _ (aQ hkl)),?_⟩;simp only [go_sem,simprocAttr];refine brW (b := !bQ (t.getD k default)) ?_ ⟨fun hb=>?_,fun hb=>?_⟩
    ·rfl
    ·unfold awS;simp only [go_sem,simprocAttr];unfold cC;rw [cA (d:=default) (p:=bQ) (k:=k) hkl (nt hb),Bool.and_false];rfl
    ·have hl:=kQ (nf hb);unfold awS;simp only [go_sem,simprocAttr];refine ⟨k+1,aA ?_,⟨by omega,upto hi (nf hb)⟩,by omega⟩;simp only [go_sem,simprocAttr];rw [wrap64 (x:=eG (t.take k)+(t.getD k default).len) (by omega) (by omega),pC t k hkl];simp [bJ (show k<9223372036854775807 by omega)]
   ·simp only [bxx] at hge;unfold awS;simp only [go_sem,simprocAttr];unfold cC;rw [bT (d:=default) (p:=bQ) (fun i h2=>hi i (by omega)),decide_eq_true (by omega:t.length≤64),List.take_of_length_le (by omega)];rfl
theorem aEr (t:List ClipR) (hfit:∀ c∈t,c.fit):aN Tryz.prog 214 [.t (dD t)] (aP (cC t)):=by
 refine aH Tryz.X214 Tryz.func214 rfl Tryz.ntmps214 (by rw [Tryz.results214]) (aD _ ?_);simp only [go_sem,simprocAttr];refine ⟨fun h=>?_,fun h=>?_⟩
 ·simp only [bxx] at h;unfold awS;simp only [go_sem,simprocAttr];unfold cC;rw [decide_eq_false (by omega : ¬ t.length≤64)];rfl
 ·simp only [bxx] at h;unfold awS;simp only [go_sem,simprocAttr];refine aF (fun (k:Nat) σ => bL 3 (aC (eG (t.take k))) (bL 4 (aC k) (aX [5,6,7] σ))) (fun k=>k≤t.length ∧ ∀ i,i<k→bQ (t.getD i default)=true) (fun k=>t.length - k) 0 (aA ?_) ⟨Nat.zero_le _,by omega⟩ ?_
  ·simp only [go_sem,simprocAttr]<;>simp [eG]
  ·rintro k ⟨hk,hi⟩;have hr:=wN hk (by omega) hi;refine aD _ ?_;simp only [go_sem,simprocAttr];refine ⟨fun hlt=>?_,fun hge=>?_⟩
   ·simp only [bxx] at hlt;have hkl:k<t.length:=by omega
    unfold awS;simp only [go_sem,simprocAttr];refine ⟨⟨by omega,by omega⟩,_,cRClip _ (hfit _ (aQ hkl)),?_⟩;simp only [go_sem,simprocAttr];refine brW (b := !bQ (t.getD k default)) ?_ ⟨fun hb=>?_,fun hb=>?_⟩
    ·rfl
    ·unfold awS;simp only [go_sem,simprocAttr];unfold cC;rw [cA (d:=default) (p:=bQ) (k:=k) hkl (nt hb),Bool.and_false];rfl
    ·have hl:=kQ (nf hb);unfold awS;simp only [go_sem,simprocAttr];refine ⟨⟨by omega,by omega⟩,k+1,aA ?_,⟨by omega,upto hi (nf hb)⟩,by omega⟩;simp only [go_sem,simprocAttr];rw [wrap64 (x:=eG (t.take k)+(t.getD k default).len) (by omega) (by omega),pC t k hkl];simp [bJ (show k<9223372036854775807 by omega)]
   ·simp only [bxx] at hge;unfold awS;simp only [go_sem,simprocAttr];unfold cC;rw [bT (d:=default) (p:=bQ) (fun i h2=>hi i (by omega)),decide_eq_true (by omega:t.length≤64),List.take_of_length_le (by omega)];rfl
theorem Nx {t:List ClipR} (h:cC t=true):t.length≤64∧(∀ c∈t,bQ c=true)∧eG t≤2147483647:=by
 unfold cC at h;simp only [Bool.and_eq_true,decide_eq_true_eq,List.all_eq_true] at h;exact ⟨h.1.1,h.1.2,h.2⟩
theorem at_all {t:List ClipR} (h:∀ c∈t,bQ c=true) (k:Nat):∀ i,i<k→k≤t.length→bQ (t.getD i default)=true:=fun i hi hk=>h _ (aQ (by omega))
theorem cPTotal (t:List ClipR) (h64:t.length≤64) (hv:∀ c∈t,bQ c=true):aN Tryz.prog 167 [.t (dD t)] (aC (eG t)):=by
 refine aH Tryz.X167 Tryz.func167 rfl Tryz.ntmps167 (by rw [Tryz.results167]) (aD _ ?_);simp only [go_sem,simprocAttr];refine aF (fun (k:Nat) σ => bL 3 (aC (eG (t.take k))) (bL 8 (aC k) σ)) (fun k=>k≤t.length) (fun k=>t.length - k) 0 (aA ?_) (Nat.zero_le _) ?_
 ·simp only [go_sem,simprocAttr]<;>simp [eG]
 ·rintro k hk;have hr:=wN hk h64 fun i hi=>at_all hv k i hi hk
  refine aD _ ?_;simp only [go_sem,simprocAttr];refine ⟨fun hlt=>?_,fun hge=>?_⟩
  ·simp only [bxx] at hlt;have hkl:k<t.length:=by omega
   have hl:=kQ (hv _ (aQ (d:=default) hkl));unfold awS;simp only [go_sem,simprocAttr];refine ⟨⟨by omega,by omega⟩,k+1,aA ?_,by omega,by omega⟩;simp only [go_sem,simprocAttr];rw [wrap64 (x:=eG (t.take k)+(t.getD k default).len) (by omega) (by omega),pC t k hkl];simp [bJ (show k<9223372036854775807 by omega)]
  ·simp only [bxx] at hge;unfold awS;simp only [go_sem,simprocAttr];rw [List.take_of_length_le (by omega)]
theorem aN3 (t:List ClipR) (hfit:∀ c∈t,c.fit):aN Tryz.prog 90 [.t (dD t)] (aC (lenT t)):=by
 refine aH Tryz.X90 Tryz.func90 rfl Tryz.ntmps90 (by rw [Tryz.results90]) (aD _ ?_);simp only [go_sem,simprocAttr];refine ⟨_,Bt t hfit,?_⟩;simp only [go_sem,simprocAttr];refine brW (b := !cC t) ?_ ⟨fun hb=>?_,fun hb=>?_⟩
 ·rfl
 ·unfold awS;simp only [go_sem,simprocAttr];unfold lenT;rw [nt hb];rfl
 ·unfold awS;simp only [go_sem,simprocAttr];obtain ⟨h1,h2,h3⟩:=Nx (nf hb);refine ⟨_,cPTotal t h1 h2,?_⟩;simp only [go_sem,simprocAttr];unfold lenT;rw [if_pos (nf hb)]
end Go.Proofs.YtbfnemkngoaeeaaGreat
