/- Proved here: Contracts of the functions that make tracks from a tape; conditions stand in each theorem. -/
import Derived.Test.YtbfnemkngoaeeaaGreatQ23
import Derived.Test.YtbfnemkngoaeeaaGreatQ06
import Derived.Test.YtbfnemkngoaeeaaGreatQ21
set_option linter.unusedSimpArgs false
set_option linter.unusedVariables false
set_option linter.unusedSectionVars false
set_option linter.unnecessarySimpa false
namespace Go.Proofs.YtbfnemkngoaeeaaGreat
open Go.RowKit
set_option maxRecDepth 4000
abbrev StT (L:List Int) (c:Nat) (es:List ClipR) (k:Nat) (σ : St):St :=
 {fr:=(σ.fr.set 9 (.own 1)).set 10 (aC c),h:=[(1,qS es),(0, .box [.t (bN L),aC k])],nx:=2 }
open Go.RowKit
set_option maxRecDepth 4000
def eqT:List ClipR→List ClipR→Bool
 | [],[]=>true
 | c::l,d::m=>c.eqb d&&eqT l m
 | _,_=>false
theorem Gd:∀ {a b:List ClipR},eqT a b=true ↔ a=b
 | [],[]=>by simp [eqT]
 | c::l,[]=>by simp [eqT]
 | [],d::m=>by simp [eqT]
 | c::l,d::m=>by simp only [eqT,Bool.and_eq_true,ClipR.eqb_iff,Gd,List.cons.injEq]
theorem aM3 (a:List ClipR):eqT a a=true:=Gd.2 rfl
theorem aM4 {a b:List ClipR} (h:a≠b):eqT a b=false:=by rw [Bool.eq_false_iff,ne_eq,Gd];exact h
theorem eqT_len {a b:List ClipR} (h:a.length≠b.length):eqT a b=false:=aM4 fun e=>h (by rw [e])
theorem eqT_hit {a b:List ClipR} {k:Nat} (h2:(a.getD k default).eqb (b.getD k default)=false):eqT a b=false:=by
 refine aM4 ?_;rintro rfl;rw [Bool.eq_false_iff,ne_eq,ClipR.eqb_iff] at h2;exact h2 rfl
theorem aM5 {a b:List ClipR} (hl:a.length=b.length) (h:∀ i,i<a.length→(a.getD i default).eqb (b.getD i default)=true):eqT a b=true:=by
 rw [Gd];refine List.ext_getElem hl fun i h1 h2=>?_
 have:=ClipR.eqb_iff.1 (h i h1);rw [aU h1,aU h2] at this;exact this
theorem cREqual (a b:List ClipR):aN Tryz.prog 137 [.t (dD a), .t (dD b)] (aP (eqT a b)):=by
 refine aH Tryz.X137 Tryz.func137 rfl Tryz.ntmps137 (by rw [Tryz.results137]) (cE fun hf=>aD _ ?_);simp only [go_sem,simprocAttr,dF] at hf;have hla:a.length≤maxLen:=by first | exact hf.1 | exact hf.1.1 | exact hf.2.1
 simp only [go_sem,simprocAttr];refine ⟨fun h=>?_,fun h=>?_⟩
 ·simp only [bxx] at h;unfold awS;simp only [go_sem,simprocAttr];rw [eqT_len (by omega)]
 ·have hl:a.length=b.length:=by simp only [bne_eq_false_iff_eq] at h;omega
  unfold awS;simp only [go_sem,simprocAttr];refine aF (fun (k:Nat) σ => bL 5 (aC k) σ) (fun k=>k≤a.length ∧ ∀ i,i<k→(a.getD i default).eqb (b.getD i default)=true) (fun k=>a.length - k) 0 (aA ?_) ⟨Nat.zero_le _,by omega⟩ ?_
  ·simp only [go_sem,simprocAttr]<;>rfl
  ·rintro k ⟨hk,hi⟩;refine aD _ ?_;simp only [go_sem,simprocAttr];refine ⟨fun hlt=>?_,fun hge=>?_⟩
   ·simp only [bxx] at hlt;unfold awS;simp only [go_sem,simprocAttr];refine bM [0,1,2,3,4,5,6,7,8,9] .done rfl (by kernel_rfl) (by kernel_rfl) (by decide) ?_;simp only [go_sem,simprocAttr];refine ⟨⟨by omega,by omega⟩,⟨by omega,by omega⟩,?_⟩;refine ⟨_,aHb _ _,?_⟩;simp only [go_sem,simprocAttr];refine ⟨fun h2=>?_,fun h2=>?_⟩
    ·unfold awS;simp only [go_sem,simprocAttr];rw [eqT_hit (k:=k) (by simpa using h2)]
    ·unfold awS;simp only [go_sem,simprocAttr];refine ⟨k+1,aA ?_,⟨by omega,upto hi (by simpa using h2)⟩,by omega⟩;simp only [go_sem,simprocAttr]<;>simp [cY (show k<a.length by omega) hla]
   ·simp only [bxx] at hge;unfold awS;simp only [go_sem,simprocAttr];rw [aM5 hl (fun i h2=>hi i (by omega))]
def sameT (a b:List ClipR):Bool:=cC a&&cC b&&eqT (Qg a) (Qg b)
end Go.Proofs.YtbfnemkngoaeeaaGreat
