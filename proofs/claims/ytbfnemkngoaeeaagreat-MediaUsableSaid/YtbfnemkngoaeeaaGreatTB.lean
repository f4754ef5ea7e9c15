/- Proved here: Contracts of the functions that copy captions and lists of media and sequences, for use in the proofs of the given statements; conditions stand in each theorem. -/
import Derived.Test.YtbfnemkngoaeeaaGreatYF
import Derived.Test.YtbfnemkngoaeeaaGreatZL
import Derived.Test.YtbfnemkngoaeeaaGreatZR
set_option linter.unusedSimpArgs false
set_option linter.unusedVariables false
set_option linter.unusedSectionVars false
set_option linter.unnecessarySimpa false
namespace Go.Proofs.YtbfnemkngoaeeaaGreat
open Go.RowKit
set_option maxRecDepth 4000
theorem cCloneStr (xs:List ByteArray) (hl:xs.length≤65536):CPure Tryz.prog 155 [.t (tstrs xs)] (.t (tstrs xs)):=by
 refine cpure_ofW Tryz.xen155 Tryz.func155 rfl Tryz.ntmps155 (by rw [Tryz.results155]) (aw_ok _ ?_)
 simp only [go_sem,simprocAttr]
 intro b hn
 refine ⟨fun hb=>?_,fun hb=>?_⟩
 ·have e:List.map strC xs = []:=hn hb
  unfold awS
  simp only [go_sem,simprocAttr]
  rw [e]
  exact pureW_nil
 ·unfold awS
  simp only [go_sem,simprocAttr]
  refine ⟨⟨Nat.le_trans hl (by decide),by omega⟩,pureW_self ?_ rfl⟩
  simp only [go_sem,simprocAttr]<;>rfl
theorem cCloneQ (l:List CueR) (hl:l.length≤65536):CIO Tryz.prog 154 0 [] [.t (tcues l)] (.own 0) [(0,RowQ l)] 1:=by
 refine cio_of Tryz.xen154 Tryz.func154 rfl Tryz.ntmps154 (by rw [Tryz.results154]) (aw_ok _ ?_)
 simp only [go_sem,simprocAttr]
 intro b hn
 refine ⟨fun hb=>?_,fun hb=>?_⟩
 ·have e:List.map CueR.c l = []:=hn hb
  unfold awS
  simp only [go_sem,simprocAttr]
  refine weak_of [(0,none)] ?_
  simp only [go_sem,simprocAttr]
  rw [e]
  simp [tRows]
 ·unfold awS
  simp only [go_sem,simprocAttr]
  refine ⟨⟨Nat.le_trans hl (by decide),by omega⟩,weak_of [(0,some 1)] ?_⟩
  simp only [go_sem,simprocAttr]<;>simp [tRows]
theorem set_same {α : Type} {l:List α} {k:Nat} {x : α} (h:k<l.length) (hx:l[k]=x):l.set k x=l:=by
 refine List.ext_getElem (by simp) fun i h1 h2=>?_
 rw [List.getElem_set]
 split
 ·rename_i e
  subst e
  exact hx.symm
 ·rfl
theorem cCopiedCues (l:List CueR) (hl:l.length≤65536) (hll:∀ c∈l,c.lines.length≤65536):CPure Tryz.prog 82 [.t (tcues l)] (.t (tcues l)):=by
 refine cpure_of Tryz.xen82 Tryz.func82 rfl Tryz.ntmps82 (by rw [Tryz.results82]) (aw_ok _ ?_)
 simp only [go_sem,simprocAttr]
 refine icall_io (cCloneQ l hl) [] rfl (by omega) (by decide) ?_ rfl rfl rfl rfl ?_
 ·simp only [go_sem,simprocAttr]
 ·simp only [go_sem,simprocAttr,List.getElem?_nil]
  refine awp_loop_f (fun (k:Nat) σ => setS 8 (vint k) (deadS [3,9,10,11,12,13,14,15,16,17,18,19,20,21] (cleanS σ))) (fun k=>k≤l.length) (fun k=>l.length - k) 0 (weak_self ?_) (Nat.zero_le _) ?_
  ·simp only [go_sem,simprocAttr]<;>simp
  ·intro k hk
   refine aw_ok _ ?_
   simp only [go_sem,simprocAttr]
   refine ⟨fun hlt=>?_,fun hge=>?_⟩
   ·simp only [bxx] at hlt
    have hkl:k<l.length:=by omega
    have hn:∀ d,nth d (l.map CueR.c) k=CueR.c (l.getD k default):=fun d=>by
     unfold nth
     rw [List.getElem?_map,List.getElem?_eq_getElem hkl,getD_of_lt hkl]
     rfl
    unfold awS
    simp only [go_sem,simprocAttr,hn]
    refine ⟨⟨by omega,by omega⟩,by omega,icall_pure (cCloneStr _ (hll _ (mem_getD hkl))) rfl ?_⟩
    simp only [go_sem,simprocAttr,hn]
    have e:(List.map CueR.c l).set k [.lit (.int .i64 (l.getD k default).frm), .lit (.int .i64 (l.getD k default).upto), .list 1 (strC ⟨#[]⟩) (List.map strC (l.getD k default).lines)]=List.map CueR.c l:=by
     refine set_same (by rw [List.length_map];exact hkl) ?_
     rw [List.getElem_map,getD_of_lt hkl]
     rfl
    refine ⟨⟨by omega,by omega⟩,by omega,k+1,weak_self ?_,by omega,by omega⟩
    simp only [go_sem,simprocAttr]
    rw [e]
    simp [wrap1 (show k<9223372036854775807 by omega)]
   ·simp only [bxx] at hge
    unfold awS
    simp only [go_sem,simprocAttr]
theorem cCloneM (l:List MediumR) (hl:l.length≤65536):CIO Tryz.prog 81 0 [] [.t (tmedia l)] (.own 0) [(0,RowM l)] 1:=by
 refine cio_of Tryz.xen81 Tryz.func81 rfl Tryz.ntmps81 (by rw [Tryz.results81]) (aw_ok _ ?_)
 simp only [go_sem,simprocAttr]
 intro b hn
 refine ⟨fun hb=>?_,fun hb=>?_⟩
 ·have e:List.map MediumR.c l = []:=hn hb
  unfold awS
  simp only [go_sem,simprocAttr]
  refine weak_of [(0,none)] ?_
  simp only [go_sem,simprocAttr]
  rw [e]
  simp [tRows]
 ·unfold awS
  simp only [go_sem,simprocAttr]
  refine ⟨⟨Nat.le_trans hl (by decide),by omega⟩,weak_of [(0,some 1)] ?_⟩
  simp only [go_sem,simprocAttr]<;>simp [tRows]
theorem cCloneSq (l:List SequenceR) (hl:l.length≤65536):CIO Tryz.prog 83 0 [] [.t (tseqs l)] (.own 0) [(0,RowSq l)] 1:=by
 refine cio_of Tryz.xen83 Tryz.func83 rfl Tryz.ntmps83 (by rw [Tryz.results83]) (aw_ok _ ?_)
 simp only [go_sem,simprocAttr]
 intro b hn
 refine ⟨fun hb=>?_,fun hb=>?_⟩
 ·have e:List.map SequenceR.c l = []:=hn hb
  unfold awS
  simp only [go_sem,simprocAttr]
  refine weak_of [(0,none)] ?_
  simp only [go_sem,simprocAttr]
  rw [e]
  simp [tRows]
 ·unfold awS
  simp only [go_sem,simprocAttr]
  refine ⟨⟨Nat.le_trans hl (by decide),by omega⟩,weak_of [(0,some 1)] ?_⟩
  simp only [go_sem,simprocAttr]<;>simp [tRows]
theorem cCloneTr (l:List (List ClipR)) (hl:l.length≤65536):CIO Tryz.prog 156 0 [] [.t (ttracks l)] (.own 0) [(0,RowT l)] 1:=by
 refine cio_of Tryz.xen156 Tryz.func156 rfl Tryz.ntmps156 (by rw [Tryz.results156]) (aw_ok _ ?_)
 simp only [go_sem,simprocAttr]
 intro b hn
 refine ⟨fun hb=>?_,fun hb=>?_⟩
 ·have e:List.map trackC l = []:=hn hb
  unfold awS
  simp only [go_sem,simprocAttr]
  refine weak_of [(0,none)] ?_
  simp only [go_sem,simprocAttr]
  rw [e]
  simp [tRows]
 ·unfold awS
  simp only [go_sem,simprocAttr]
  refine ⟨⟨Nat.le_trans hl (by decide),by omega⟩,weak_of [(0,some 1)] ?_⟩
  simp only [go_sem,simprocAttr]<;>simp [tRows]
theorem cCloneCl (l:List ClipR) (hl:l.length≤65536):CIO Tryz.prog 111 0 [] [.t (tclips l)] (.own 0) [(0,RowC l)] 1:=by
 refine cio_of Tryz.xen111 Tryz.func111 rfl Tryz.ntmps111 (by rw [Tryz.results111]) (aw_ok _ ?_)
 simp only [go_sem,simprocAttr]
 intro b hn
 refine ⟨fun hb=>?_,fun hb=>?_⟩
 ·have e:List.map ClipR.c l = []:=hn hb
  unfold awS
  simp only [go_sem,simprocAttr]
  refine weak_of [(0,none)] ?_
  simp only [go_sem,simprocAttr]
  rw [e]
  simp [tRows]
 ·unfold awS
  simp only [go_sem,simprocAttr]
  refine ⟨⟨Nat.le_trans hl (by decide),by omega⟩,weak_of [(0,some 1)] ?_⟩
  simp only [go_sem,simprocAttr]<;>simp [tRows]
open Go.RowKit
set_option maxRecDepth 4000
open Go.RowKit
set_option maxRecDepth 4000
def seqLits (s:SeqR):List Value:=[.int .i64 s.w, .int .i64 s.h, .int .i64 s.rate.num, .int .i64 s.rate.den, .bool s.inter, .int .i64 s.bits, .int .i64 s.buf]++(List.range 128).map fun i => .int .u8 (s.q i)
open Go.RowKit
set_option maxRecDepth 4000
end Go.Proofs.YtbfnemkngoaeeaaGreat
