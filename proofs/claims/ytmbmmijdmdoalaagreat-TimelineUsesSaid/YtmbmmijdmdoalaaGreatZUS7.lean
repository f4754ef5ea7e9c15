/- Proved here: What the statement about used media computes, for use in the proofs of the given statements; conditions stand in each theorem. -/
import Derived.Test.YtmbmmijdmdoalaaGreatZUS6
import Derived.Test.YtmbmmijdmdoalaaGreatZSW2
import Derived.Test.YtmbmmijdmdoalaaGreatZTPj
set_option linter.unusedSimpArgs false
set_option linter.unusedVariables false
set_option linter.unusedSectionVars false
set_option linter.unnecessarySimpa false
namespace Go.Proofs.YtmbmmijdmdoalaaGreat
open Go.RowKit
set_option maxRecDepth 4000
theorem uses23 (raw:ProjR) (L K:List Int) (name:ByteArray) (h:raw.fit):CPure Tryz.prog 3 [vproj raw, .t (tints L), .t (tints K),vstr name] (vbool true):=by
 refine cpure_of Tryz.xen3 Tryz.func3 rfl Tryz.ntmps3 (by rw [Tryz.results3]) (aw_ok _ ?_)
 simp only [go_sem,simprocAttr]
 refine ⟨_,cProject L,?_⟩
 simp only [go_sem,simprocAttr]
 refine ⟨_,cOddT L K,?_⟩
 have hq:=oddT_fit L K
 generalize oddP (projT L) K=q at hq ⊢
 simp only [go_sem,simprocAttr]
 obtain ⟨ns,hns⟩:∃ ns:List ByteArray,ns = [name,⟨#[115,48]⟩,⟨#[115,49]⟩,⟨#[115,50]⟩]:=⟨_,rfl⟩
 have hnl:ns.length=4:=by rw [hns];rfl
 refine awp_loop_f (fun (k:Nat) σ => { setS 27 (vint k) (deadS [11,12,13,14,15,16,17,18,19,28,29,30,31,32,33,34,35,36,37,38,39,40,41,42,43,44,45,46,47,48,49,50,51,52,53,54,55,56,57,58,59,60,61,62,63,64,65,66,67,68,69,70,71,72,73,74] (cleanS σ)) with h := σ.h.set 2 (.row 9 1 (strC ⟨#[]⟩) (tRows (ns.map strC))) }) (fun k=>k≤4) (fun k=>4 - k) 0 (weak_self ?_) (by omega) ?_
 ·simp only [go_sem,simprocAttr]
  rw [hns]
  simp
  exact ⟨rfl,rfl,rfl,rfl⟩
 ·intro k hk
  refine aw_ok _ ?_
  simp only [go_sem,simprocAttr]
  refine ⟨fun hlt=>?_,fun hge=>?_⟩
  ·simp only [bxx] at hlt
   have hk4:k<4:=by omega
   have hkn:k<ns.length:=by omega
   have hsn:=str_nth0 hkn
   generalize ns.getD k default=nm at hsn
   have u1:=cUsesP q hq nm
   have u2:=cRUsesP q hq nm
   have u3:=cUsesP raw h nm
   have u4:=cRUsesP raw h nm
   generalize usesP q nm=x at u1 u2
   generalize usesP raw nm=y at u3 u4
   rcases x with ⟨xs,xe⟩
   rcases y with ⟨ys,ye⟩
   unfold awS
   simp only [go_sem,simprocAttr,hsn,hnl]
   refine ⟨⟨by omega,by omega⟩,by omega,_,u1,?_⟩
   simp only [go_sem,simprocAttr]
   refine ⟨_,u2,?_⟩
   simp only [go_sem,simprocAttr]
   refine ⟨_,u3,?_⟩
   simp only [go_sem,simprocAttr]
   refine ⟨_,u4,?_⟩
   simp only [go_sem,simprocAttr]
   refine ⟨_,cStrings xs xs,?_⟩
   simp only [go_sem,simprocAttr]
   refine ⟨_,fun _=>cStrings ys ys,?_⟩
   have hwk:IntKind.i64.wrap ((k:Int)+1)=((k+1:Nat):Int):=by rw [wrap1 (by omega)];omega
   simp only [go_sem,simprocAttr,decide_true,hwk]
   refine ⟨k+1,weak_self ?_,by omega,by omega⟩
   simp only [go_sem,simprocAttr,hwk]
   all_goals first | rfl | (simp;done) | trace_state
  ·simp only [bxx] at hge
   unfold awS
   simp only [go_sem,simprocAttr]
   refine ⟨_,cAwake,?_⟩
   simp only [go_sem,simprocAttr]
end Go.Proofs.YtmbmmijdmdoalaaGreat
