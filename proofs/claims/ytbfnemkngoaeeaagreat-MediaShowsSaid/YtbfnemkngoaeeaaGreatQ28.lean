/- Proved here: Contracts of the functions that copy captions and lists of media and sequences; conditions stand in each theorem. -/
import Derived.Test.YtbfnemkngoaeeaaGreatQ27
import Derived.Test.YtbfnemkngoaeeaaGreatQ20
import Derived.Test.YtbfnemkngoaeeaaGreatQ25
set_option linter.unusedSimpArgs false
set_option linter.unusedVariables false
set_option linter.unusedSectionVars false
set_option linter.unnecessarySimpa false
namespace Go.Proofs.YtbfnemkngoaeeaaGreat
open Go.RowKit
set_option maxRecDepth 4000
theorem Zw (xs:List ByteArray) (hl:xs.length≤65536):aM Tryz.prog 155 [.t (yV xs)] (.t (yV xs)):=by
 refine cR Tryz.X155 Tryz.func155 rfl Tryz.ntmps155 (by rw [Tryz.results155]) (aD _ ?_);simp only [go_sem,simprocAttr];intro b hn;refine ⟨fun hb=>?_,fun hb=>?_⟩
 ·have e:List.map yP xs = []:=hn hb;unfold awS;simp only [go_sem,simprocAttr];rw [e];exact Js
 ·unfold awS;simp only [go_sem,simprocAttr];refine ⟨⟨Nat.le_trans hl (by decide),by omega⟩,aU ?_ rfl⟩;simp only [go_sem,simprocAttr]<;>rfl
theorem aNm (l:List CueR) (hl:l.length≤65536):CIO Tryz.prog 154 0 [] [.t (vQ l)] (.own 0) [(0,RowQ l)] 1:=by
 refine mW Tryz.X154 Tryz.func154 rfl Tryz.ntmps154 (by rw [Tryz.results154]) (aD _ ?_);simp only [go_sem,simprocAttr];intro b hn;refine ⟨fun hb=>?_,fun hb=>?_⟩
 ·have e:List.map CueR.c l = []:=hn hb;unfold awS;simp only [go_sem,simprocAttr];refine aN [(0,none)] ?_;simp only [go_sem,simprocAttr];rw [e];simp [aL]
 ·unfold awS;simp only [go_sem,simprocAttr];refine ⟨⟨Nat.le_trans hl (by decide),by omega⟩,aN [(0,some 1)] ?_⟩;simp only [go_sem,simprocAttr]<;>simp [aL]
theorem zC {α : Type} {l:List α} {k:Nat} {x : α} (h:k<l.length) (hx:l[k]=x):l.set k x=l:=by
 refine List.ext_getElem (by simp) fun i h1 h2=>?_
 rw [List.getElem_set];split
 ·rename_i e;subst e;exact hx.symm
 ·rfl
theorem Mr (l:List CueR) (hl:l.length≤65536) (hll:∀ c∈l,c.lines.length≤65536):aM Tryz.prog 82 [.t (vQ l)] (.t (vQ l)):=by
 refine aH Tryz.X82 Tryz.func82 rfl Tryz.ntmps82 (by rw [Tryz.results82]) (aD _ ?_);simp only [go_sem,simprocAttr];refine cG (aNm l hl) [] rfl (by omega) (by decide) ?_ rfl rfl rfl rfl ?_
 ·simp only [go_sem,simprocAttr]
 ·simp only [go_sem,simprocAttr,List.getElem?_nil];refine aF (fun (k:Nat) σ => cJ 8 (aC k) (bN [3,9,10,11,12,13,14,15,16,17,18,19,20,21] (bK σ))) (fun k=>k≤l.length) (fun k=>l.length - k) 0 (aB ?_) (Nat.zero_le _) ?_
  ·simp only [go_sem,simprocAttr]<;>simp
  ·intro k hk;refine aD _ ?_;simp only [go_sem,simprocAttr];refine ⟨fun hlt=>?_,fun hge=>?_⟩
   ·simp only [bxx] at hlt;have hkl:k<l.length:=by omega
    have hn:∀ d,nth d (l.map CueR.c) k=CueR.c (l.getD k default):=fun d=>by
     unfold nth;rw [List.getElem?_map,List.getElem?_eq_getElem hkl,aJ hkl];rfl
    unfold awS;simp only [go_sem,simprocAttr,hn];refine ⟨⟨by omega,by omega⟩,by omega,kU (Zw _ (hll _ (aW hkl))) rfl ?_⟩;simp only [go_sem,simprocAttr,hn];have e:(List.map CueR.c l).set k [.lit (.int .i64 (l.getD k default).frm), .lit (.int .i64 (l.getD k default).upto), .list 1 (yP ⟨#[]⟩) (List.map yP (l.getD k default).lines)]=List.map CueR.c l:=by
     refine zC (by rw [List.length_map];exact hkl) ?_;rw [List.getElem_map,aJ hkl];rfl
    refine ⟨⟨by omega,by omega⟩,by omega,k+1,aB ?_,by omega,by omega⟩;simp only [go_sem,simprocAttr];rw [e];simp [bX (show k<9223372036854775807 by omega)]
   ·simp only [bxx] at hge;unfold awS;simp only [go_sem,simprocAttr]
theorem aNn (l:List MediumR) (hl:l.length≤65536):CIO Tryz.prog 81 0 [] [.t (Dn l)] (.own 0) [(0,aHm l)] 1:=by
 refine mW Tryz.X81 Tryz.func81 rfl Tryz.ntmps81 (by rw [Tryz.results81]) (aD _ ?_);simp only [go_sem,simprocAttr];intro b hn;refine ⟨fun hb=>?_,fun hb=>?_⟩
 ·have e:List.map MediumR.c l = []:=hn hb;unfold awS;simp only [go_sem,simprocAttr];refine aN [(0,none)] ?_;simp only [go_sem,simprocAttr];rw [e];simp [aL]
 ·unfold awS;simp only [go_sem,simprocAttr];refine ⟨⟨Nat.le_trans hl (by decide),by omega⟩,aN [(0,some 1)] ?_⟩;simp only [go_sem,simprocAttr]<;>simp [aL]
theorem aH9 (l:List SequenceR) (hl:l.length≤65536):CIO Tryz.prog 83 0 [] [.t (Kv l)] (.own 0) [(0,aA0 l)] 1:=by
 refine mW Tryz.X83 Tryz.func83 rfl Tryz.ntmps83 (by rw [Tryz.results83]) (aD _ ?_);simp only [go_sem,simprocAttr];intro b hn;refine ⟨fun hb=>?_,fun hb=>?_⟩
 ·have e:List.map SequenceR.c l = []:=hn hb;unfold awS;simp only [go_sem,simprocAttr];refine aN [(0,none)] ?_;simp only [go_sem,simprocAttr];rw [e];simp [aL]
 ·unfold awS;simp only [go_sem,simprocAttr];refine ⟨⟨Nat.le_trans hl (by decide),by omega⟩,aN [(0,some 1)] ?_⟩;simp only [go_sem,simprocAttr]<;>simp [aL]
theorem aH8 (l:List (List ClipR)) (hl:l.length≤65536):CIO Tryz.prog 156 0 [] [.t (gF l)] (.own 0) [(0,aC9 l)] 1:=by
 refine mW Tryz.X156 Tryz.func156 rfl Tryz.ntmps156 (by rw [Tryz.results156]) (aD _ ?_);simp only [go_sem,simprocAttr];intro b hn;refine ⟨fun hb=>?_,fun hb=>?_⟩
 ·have e:List.map dA l = []:=hn hb;unfold awS;simp only [go_sem,simprocAttr];refine aN [(0,none)] ?_;simp only [go_sem,simprocAttr];rw [e];simp [aL]
 ·unfold awS;simp only [go_sem,simprocAttr];refine ⟨⟨Nat.le_trans hl (by decide),by omega⟩,aN [(0,some 1)] ?_⟩;simp only [go_sem,simprocAttr]<;>simp [aL]
theorem aHa (l:List ClipR) (hl:l.length≤65536):CIO Tryz.prog 111 0 [] [.t (eD l)] (.own 0) [(0,Hu l)] 1:=by
 refine mW Tryz.X111 Tryz.func111 rfl Tryz.ntmps111 (by rw [Tryz.results111]) (aD _ ?_);simp only [go_sem,simprocAttr];intro b hn;refine ⟨fun hb=>?_,fun hb=>?_⟩
 ·have e:List.map ClipR.c l = []:=hn hb;unfold awS;simp only [go_sem,simprocAttr];refine aN [(0,none)] ?_;simp only [go_sem,simprocAttr];rw [e];simp [aL]
 ·unfold awS;simp only [go_sem,simprocAttr];refine ⟨⟨Nat.le_trans hl (by decide),by omega⟩,aN [(0,some 1)] ?_⟩;simp only [go_sem,simprocAttr]<;>simp [aL]
open Go.RowKit
set_option maxRecDepth 4000
open Go.RowKit
set_option maxRecDepth 4000
def seqLits (s:SeqR):List Value:=[.int .i64 s.w, .int .i64 s.h, .int .i64 s.rate.num, .int .i64 s.rate.den, .bool s.inter, .int .i64 s.bits, .int .i64 s.buf]++(List.range 128).map fun i => .int .u8 (s.q i)
open Go.RowKit
set_option maxRecDepth 4000
end Go.Proofs.YtbfnemkngoaeeaaGreat
