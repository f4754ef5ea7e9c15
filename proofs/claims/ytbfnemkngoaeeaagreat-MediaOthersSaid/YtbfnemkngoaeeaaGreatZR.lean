/- Proved here: Contracts of the functions that make tracks from a tape, for use in the proofs of the given statements; conditions stand in each theorem. -/
import Derived.Test.YtbfnemkngoaeeaaGreatZQ
import Derived.Test.YtbfnemkngoaeeaaGreatZG
import Derived.Test.YtbfnemkngoaeeaaGreatZN
set_option linter.unusedSimpArgs false
set_option linter.unusedVariables false
set_option linter.unusedSectionVars false
set_option linter.unnecessarySimpa false
namespace Go.Proofs.YtbfnemkngoaeeaaGreat
open Go.RowKit
set_option maxRecDepth 4000
abbrev StT (L:List Int) (c:Nat) (es:List ClipR) (k:Nat) (σ : St):St :=
 {fr:=(σ.fr.set 9 (.own 1)).set 10 (vint c),h:=[(1,RowC es),(0, .box [.t (tints L),vint k])],nx:=2 }
open Go.RowKit
set_option maxRecDepth 4000
def eqT:List ClipR→List ClipR→Bool
 | [],[]=>true
 | c::l,d::m=>c.eqb d&&eqT l m
 | _,_=>false
theorem eqT_iff:∀ {a b:List ClipR},eqT a b=true ↔ a=b
 | [],[]=>by simp [eqT]
 | c::l,[]=>by simp [eqT]
 | [],d::m=>by simp [eqT]
 | c::l,d::m=>by simp only [eqT,Bool.and_eq_true,ClipR.eqb_iff,eqT_iff,List.cons.injEq]
theorem eqT_self (a:List ClipR):eqT a a=true:=eqT_iff.2 rfl
theorem eqT_ne {a b:List ClipR} (h:a≠b):eqT a b=false:=by rw [Bool.eq_false_iff,ne_eq,eqT_iff];exact h
theorem eqT_len {a b:List ClipR} (h:a.length≠b.length):eqT a b=false:=eqT_ne fun e=>h (by rw [e])
theorem eqT_hit {a b:List ClipR} {k:Nat} (h2:(a.getD k default).eqb (b.getD k default)=false):eqT a b=false:=by
 refine eqT_ne ?_
 rintro rfl
 rw [Bool.eq_false_iff,ne_eq,ClipR.eqb_iff] at h2
 exact h2 rfl
theorem eqT_done {a b:List ClipR} (hl:a.length=b.length) (h:∀ i,i<a.length→(a.getD i default).eqb (b.getD i default)=true):eqT a b=true:=by
 rw [eqT_iff]
 refine List.ext_getElem hl fun i h1 h2=>?_
 have:=ClipR.eqb_iff.1 (h i h1)
 rw [getD_of_lt h1,getD_of_lt h2] at this
 exact this
theorem cREqual (a b:List ClipR):CPure Tryz.prog 137 [.t (tclips a), .t (tclips b)] (vbool (eqT a b)):=by
 refine cpure_of Tryz.xen137 Tryz.func137 rfl Tryz.ntmps137 (by rw [Tryz.results137]) (awp_facts fun hf=>aw_ok _ ?_)
 simp only [go_sem,simprocAttr,factsT] at hf
 have hla:a.length≤maxLen:=by first | exact hf.1 | exact hf.1.1 | exact hf.2.1
 simp only [go_sem,simprocAttr]
 refine ⟨fun h=>?_,fun h=>?_⟩
 ·simp only [bxx] at h
  unfold awS
  simp only [go_sem,simprocAttr]
  rw [eqT_len (by omega)]
 ·have hl:a.length=b.length:=by simp only [bne_eq_false_iff_eq] at h;omega
  unfold awS
  simp only [go_sem,simprocAttr]
  refine awp_loop_f (fun (k:Nat) σ => setS 5 (vint k) σ) (fun k=>k≤a.length ∧ ∀ i,i<k→(a.getD i default).eqb (b.getD i default)=true) (fun k=>a.length - k) 0 (weak_self ?_) ⟨Nat.zero_le _,by omega⟩ ?_
  ·simp only [go_sem,simprocAttr]<;>rfl
  ·rintro k ⟨hk,hi⟩
   refine aw_ok _ ?_
   simp only [go_sem,simprocAttr]
   refine ⟨fun hlt=>?_,fun hge=>?_⟩
   ·simp only [bxx] at hlt
    unfold awS
    simp only [go_sem,simprocAttr]
    refine drawR_of [0,1,2,3,4,5,6,7,8,9] .done rfl (by kernel_rfl) (by kernel_rfl) (by decide) ?_
    simp only [go_sem,simprocAttr]
    refine ⟨⟨by omega,by omega⟩,⟨by omega,by omega⟩,?_⟩
    refine ⟨_,cSameClip _ _,?_⟩
    simp only [go_sem,simprocAttr]
    refine ⟨fun h2=>?_,fun h2=>?_⟩
    ·unfold awS
     simp only [go_sem,simprocAttr]
     rw [eqT_hit (k:=k) (by simpa using h2)]
    ·unfold awS
     simp only [go_sem,simprocAttr]
     refine ⟨k+1,weak_self ?_,⟨by omega,upto hi (by simpa using h2)⟩,by omega⟩
     simp only [go_sem,simprocAttr]<;>simp [wrap_of (show k<a.length by omega) hla]
   ·simp only [bxx] at hge
    unfold awS
    simp only [go_sem,simprocAttr]
    rw [eqT_done hl (fun i h2=>hi i (by omega))]
def sameT (a b:List ClipR):Bool:=vTrack a&&vTrack b&&eqT (normT a) (normT b)
end Go.Proofs.YtbfnemkngoaeeaaGreat
