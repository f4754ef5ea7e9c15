/- Proved here: Contracts of the functions that copy captions and lists of media and sequences; conditions stand in each theorem. -/
import Derived.Test.YtbfnemkngoaeeaaGreatQ26
import Derived.Test.YtbfnemkngoaeeaaGreatQ19
import Derived.Test.YtbfnemkngoaeeaaGreatQ24
set_option linter.unusedSimpArgs false
set_option linter.unusedVariables false
set_option linter.unusedSectionVars false
set_option linter.unnecessarySimpa false
namespace Go.Proofs.YtbfnemkngoaeeaaGreat
open Go.RowKit
set_option maxRecDepth 4000
theorem aHe (xs:List ByteArray) (hl:xs.length≤65536):aN Tryz.prog 155 [.t (uU xs)] (.t (uU xs)):=by
 refine fQ Tryz.X155 Tryz.func155 rfl Tryz.ntmps155 (by rw [Tryz.results155]) (aD _ ?_);simp only [go_sem,simprocAttr];intro b hn;refine ⟨fun hb=>?_,fun hb=>?_⟩
 ·have e:List.map Ms xs = []:=hn hb;unfold awS;simp only [go_sem,simprocAttr];rw [e];exact Cm
 ·unfold awS;simp only [go_sem,simprocAttr];refine ⟨⟨Nat.le_trans hl (by decide),by omega⟩,dW ?_ rfl⟩;simp only [go_sem,simprocAttr]<;>rfl
theorem cCloneQ (l:List CueR) (hl:l.length≤65536):CIO Tryz.prog 154 0 [] [.t (fA l)] (.own 0) [(0,RowQ l)] 1:=by
 refine zN Tryz.X154 Tryz.func154 rfl Tryz.ntmps154 (by rw [Tryz.results154]) (aD _ ?_);simp only [go_sem,simprocAttr];intro b hn;refine ⟨fun hb=>?_,fun hb=>?_⟩
 ·have e:List.map CueR.c l = []:=hn hb;unfold awS;simp only [go_sem,simprocAttr];refine aW [(0,none)] ?_;simp only [go_sem,simprocAttr];rw [e];simp [aK]
 ·unfold awS;simp only [go_sem,simprocAttr];refine ⟨⟨Nat.le_trans hl (by decide),by omega⟩,aW [(0,some 1)] ?_⟩;simp only [go_sem,simprocAttr]<;>simp [aK]
theorem rZ {α : Type} {l:List α} {k:Nat} {x : α} (h:k<l.length) (hx:l[k]=x):l.set k x=l:=by
 refine List.ext_getElem (by simp) fun i h1 h2=>?_
 rw [List.getElem_set];split
 ·rename_i e;subst e;exact hx.symm
 ·rfl
theorem Fc (l:List CueR) (hl:l.length≤65536) (hll:∀ c∈l,c.lines.length≤65536):aN Tryz.prog 82 [.t (fA l)] (.t (fA l)):=by
 refine aH Tryz.X82 Tryz.func82 rfl Tryz.ntmps82 (by rw [Tryz.results82]) (aD _ ?_);simp only [go_sem,simprocAttr];refine gX (cCloneQ l hl) [] rfl (by omega) (by decide) ?_ rfl rfl rfl rfl ?_
 ·simp only [go_sem,simprocAttr]
 ·simp only [go_sem,simprocAttr,List.getElem?_nil];refine aF (fun (k:Nat) σ => bL 8 (aC k) (aX [3,9,10,11,12,13,14,15,16,17,18,19,20,21] (bF σ))) (fun k=>k≤l.length) (fun k=>l.length - k) 0 (aA ?_) (Nat.zero_le _) ?_
  ·simp only [go_sem,simprocAttr]<;>simp
  ·intro k hk;refine aD _ ?_;simp only [go_sem,simprocAttr];refine ⟨fun hlt=>?_,fun hge=>?_⟩
   ·simp only [bxx] at hlt;have hkl:k<l.length:=by omega
    have hn:∀ d,nth d (l.map CueR.c) k=CueR.c (l.getD k default):=fun d=>by
     unfold nth;rw [List.getElem?_map,List.getElem?_eq_getElem hkl,aU hkl];rfl
    unfold awS;simp only [go_sem,simprocAttr,hn];refine ⟨⟨by omega,by omega⟩,by omega,qE (aHe _ (hll _ (aQ hkl))) rfl ?_⟩;simp only [go_sem,simprocAttr,hn];have e:(List.map CueR.c l).set k [.lit (.int .i64 (l.getD k default).frm), .lit (.int .i64 (l.getD k default).upto), .list 1 (Ms ⟨#[]⟩) (List.map Ms (l.getD k default).lines)]=List.map CueR.c l:=by
     refine rZ (by rw [List.length_map];exact hkl) ?_;rw [List.getElem_map,aU hkl];rfl
    refine ⟨⟨by omega,by omega⟩,by omega,k+1,aA ?_,by omega,by omega⟩;simp only [go_sem,simprocAttr];rw [e];simp [bJ (show k<9223372036854775807 by omega)]
   ·simp only [bxx] at hge;unfold awS;simp only [go_sem,simprocAttr]
theorem cCloneM (l:List MediumR) (hl:l.length≤65536):CIO Tryz.prog 81 0 [] [.t (fC l)] (.own 0) [(0,qR l)] 1:=by
 refine zN Tryz.X81 Tryz.func81 rfl Tryz.ntmps81 (by rw [Tryz.results81]) (aD _ ?_);simp only [go_sem,simprocAttr];intro b hn;refine ⟨fun hb=>?_,fun hb=>?_⟩
 ·have e:List.map MediumR.c l = []:=hn hb;unfold awS;simp only [go_sem,simprocAttr];refine aW [(0,none)] ?_;simp only [go_sem,simprocAttr];rw [e];simp [aK]
 ·unfold awS;simp only [go_sem,simprocAttr];refine ⟨⟨Nat.le_trans hl (by decide),by omega⟩,aW [(0,some 1)] ?_⟩;simp only [go_sem,simprocAttr]<;>simp [aK]
theorem aNb (l:List SequenceR) (hl:l.length≤65536):CIO Tryz.prog 83 0 [] [.t (gV l)] (.own 0) [(0,Ry l)] 1:=by
 refine zN Tryz.X83 Tryz.func83 rfl Tryz.ntmps83 (by rw [Tryz.results83]) (aD _ ?_);simp only [go_sem,simprocAttr];intro b hn;refine ⟨fun hb=>?_,fun hb=>?_⟩
 ·have e:List.map SequenceR.c l = []:=hn hb;unfold awS;simp only [go_sem,simprocAttr];refine aW [(0,none)] ?_;simp only [go_sem,simprocAttr];rw [e];simp [aK]
 ·unfold awS;simp only [go_sem,simprocAttr];refine ⟨⟨Nat.le_trans hl (by decide),by omega⟩,aW [(0,some 1)] ?_⟩;simp only [go_sem,simprocAttr]<;>simp [aK]
theorem aNa (l:List (List ClipR)) (hl:l.length≤65536):CIO Tryz.prog 156 0 [] [.t (cH l)] (.own 0) [(0,Vb l)] 1:=by
 refine zN Tryz.X156 Tryz.func156 rfl Tryz.ntmps156 (by rw [Tryz.results156]) (aD _ ?_);simp only [go_sem,simprocAttr];intro b hn;refine ⟨fun hb=>?_,fun hb=>?_⟩
 ·have e:List.map bS l = []:=hn hb;unfold awS;simp only [go_sem,simprocAttr];refine aW [(0,none)] ?_;simp only [go_sem,simprocAttr];rw [e];simp [aK]
 ·unfold awS;simp only [go_sem,simprocAttr];refine ⟨⟨Nat.le_trans hl (by decide),by omega⟩,aW [(0,some 1)] ?_⟩;simp only [go_sem,simprocAttr]<;>simp [aK]
theorem aNc (l:List ClipR) (hl:l.length≤65536):CIO Tryz.prog 111 0 [] [.t (dD l)] (.own 0) [(0,qS l)] 1:=by
 refine zN Tryz.X111 Tryz.func111 rfl Tryz.ntmps111 (by rw [Tryz.results111]) (aD _ ?_);simp only [go_sem,simprocAttr];intro b hn;refine ⟨fun hb=>?_,fun hb=>?_⟩
 ·have e:List.map ClipR.c l = []:=hn hb;unfold awS;simp only [go_sem,simprocAttr];refine aW [(0,none)] ?_;simp only [go_sem,simprocAttr];rw [e];simp [aK]
 ·unfold awS;simp only [go_sem,simprocAttr];refine ⟨⟨Nat.le_trans hl (by decide),by omega⟩,aW [(0,some 1)] ?_⟩;simp only [go_sem,simprocAttr]<;>simp [aK]
open Go.RowKit
set_option maxRecDepth 4000
theorem Br (X:List (List ClipR)):aN Tryz.prog 67 [.t (cH X), .t (cH X)] (aP true):=by
 refine aH Tryz.X67 Tryz.func67 rfl Tryz.ntmps67 (by rw [Tryz.results67]) (cE fun hf=>aD _ ?_);simp only [go_sem,simprocAttr,dF] at hf;have hla:X.length≤maxLen:=by exact hf.1
 simp only [go_sem,simprocAttr];refine aF (fun (k:Nat) σ => bL 5 (aC k) (aX [11,12,13,14,15,16,17,18,19,20,21,22,23,24,25,26] (bF σ))) (fun k=>k≤X.length) (fun k=>X.length - k) 0 (aA ?_) (Nat.zero_le _) ?_
 ·simp only [go_sem,simprocAttr]<;>simp
 ·intro k hk;refine aD _ ?_;simp only [go_sem,simprocAttr];refine ⟨fun hlt=>?_,fun hge=>?_⟩
  ·simp only [bxx] at hlt;unfold awS;simp only [go_sem,simprocAttr];refine bM [0,1,2,3,4,5,6,7,8,9] .done rfl (by kernel_rfl) (by kernel_rfl) (by decide) ?_;simp only [go_sem,simprocAttr];refine ⟨⟨by omega,by omega⟩,⟨by omega,by omega⟩,_,cREqual _ _,?_⟩;rw [aM3];simp only [go_sem,simprocAttr];refine ⟨k+1,aA ?_,by omega,by omega⟩;simp only [go_sem,simprocAttr]<;>simp [cY (show k<X.length by omega) hla]
  ·simp only [bxx] at hge;unfold awS;simp only [go_sem,simprocAttr]
theorem aMm (a b:List ByteArray):aN Tryz.prog 23 [.t (uU a), .t (uU b)] (aP (decide (a=b))):=by
 refine aH Tryz.X23 Tryz.func23 rfl Tryz.ntmps23 (by rw [Tryz.results23]) (cE fun hf=>aD _ ?_);simp only [go_sem,simprocAttr,dF] at hf;have hla:a.length≤maxLen:=by exact hf.1.1
 simp only [go_sem,simprocAttr];refine brW (b:=decide (a.length≠b.length)) ?_ ⟨fun h0=>?_,fun h0=>?_⟩
 ·rw [Bool.eq_iff_iff];simp only [bxx];omega
 ·have h0:a.length≠b.length:=by simpa using h0
  unfold awS;simp only [go_sem,simprocAttr];rw [decide_eq_false (fun h=>h0 (by rw [h]))]
 ·have h0:a.length=b.length:=by simpa using h0
  unfold awS;simp only [go_sem,simprocAttr];refine aF (fun (k:Nat) σ => bL 5 (aC k) (aX [11,12,13,14,15,16,17,18,19,20,21,22,23,24,25] (bF σ))) (fun k=>k≤a.length ∧ ∀ i,i<k→a.getD i ⟨#[]⟩=b.getD i ⟨#[]⟩) (fun k=>a.length - k) 0 (aA ?_) ⟨Nat.zero_le _,by omega⟩ ?_
  ·simp only [go_sem,simprocAttr]<;>simp
  ·rintro k ⟨hk,hi⟩;refine aD _ ?_;simp only [go_sem,simprocAttr];refine ⟨fun hlt=>?_,fun hge=>?_⟩
   ·simp only [bxx] at hlt;unfold awS;simp only [go_sem,simprocAttr];refine bM [0,1,2,3,4,5,6,7,8] .done rfl (by kernel_rfl) (by kernel_rfl) (by decide) ?_;simp only [go_sem,simprocAttr];refine ⟨⟨by omega,by omega⟩,⟨by omega,by omega⟩,?_⟩;refine ⟨fun hc=>?_,fun hc=>?_⟩
    ·unfold awS;simp only [go_sem,simprocAttr];rw [decide_eq_false];intro h;rw [h] at hc;simp at hc
    ·have hc:a.getD k ⟨#[]⟩=b.getD k ⟨#[]⟩:=sS (by simpa using hc);unfold awS;simp only [go_sem,simprocAttr];refine ⟨k+1,aA ?_,⟨by omega,upto hi hc⟩,by omega⟩;simp only [go_sem,simprocAttr]<;>simp [cY (show k<a.length by omega) hla]
   ·simp only [bxx] at hge;unfold awS;simp only [go_sem,simprocAttr];rw [decide_eq_true];refine List.ext_getElem h0 fun i h1 h2=>?_
    have:=hi i (by omega);rw [List.getD_eq_getElem?_getD,List.getD_eq_getElem?_getD,List.getElem?_eq_getElem h1,List.getElem?_eq_getElem h2] at this;exact this
theorem Me (l:List CueR):aN Tryz.prog 66 [.t (fA l), .t (fA l)] (aP true):=by
 refine aH Tryz.X66 Tryz.func66 rfl Tryz.ntmps66 (by rw [Tryz.results66]) (cE fun hf=>aD _ ?_);simp only [go_sem,simprocAttr,dF] at hf;have hla:l.length≤maxLen:=by first | exact hf.1 | exact hf.1.1
 simp only [go_sem,simprocAttr];refine aF (fun (k:Nat) σ => bL 5 (aC k) (aX [11,12,13,14,15,16,17,18,19,20,21,22,23,24,25,26,27,28,29,30,31,32,33,34,35,36,37,38,39,40,41,42,43,44,45,46,47,48,49,50,51,52,53,54] (bF σ))) (fun k=>k≤l.length) (fun k=>l.length - k) 0 (aA ?_) (Nat.zero_le _) ?_
 ·simp only [go_sem,simprocAttr]<;>simp
 ·intro k hk;refine aD _ ?_;simp only [go_sem,simprocAttr];refine ⟨fun hlt=>?_,fun hge=>?_⟩
  ·simp only [bxx] at hlt;unfold awS;simp only [go_sem,simprocAttr];refine bM [0,1,2,3,4,5,6,7,8,9,10,11,12,13,14,15,16,17,18,19,20,21,22,23,24,25,26,27,28,29,30,31,32,33,34,35,36,37] .done rfl (by kernel_rfl) (by kernel_rfl) (by decide) ?_;simp only [go_sem,simprocAttr];refine ⟨⟨by omega,by omega⟩,⟨by omega,by omega⟩,⟨by omega,by omega⟩,⟨by omega,by omega⟩,⟨by omega,by omega⟩,⟨by omega,by omega⟩,_,aMm _ _,?_⟩;simp only [go_sem,simprocAttr];refine ⟨fun h=>by simp at h,fun _=>?_⟩;unfold awS;simp only [go_sem,simprocAttr];refine ⟨k+1,aA ?_,by omega,by omega⟩;simp only [go_sem,simprocAttr]<;>simp [cY (show k<l.length by omega) hla]
  ·simp only [bxx] at hge;unfold awS;simp only [go_sem,simprocAttr]
open Go.RowKit
set_option maxRecDepth 4000
theorem Qy {P:Program} {w:World} {β : Type} (b : β) (f:Nat → β → Sem (ForInStep β)):∀ (l:List Nat),(∀ i∈l,(f i b).run P w = .ok (.yield b) w)→(forIn l b f).run P w = .ok b w
 | [],_=>by simp [go_sem]
 | i::l,h=>by
  rw [List.forIn_cons,Sem.run_bind,h i (by simp),Result.andThen_ok];exact Qy b f l fun j hj=>h j (by simp [hj])
theorem eqArr (xs:Array Value) (w:World) (d:Nat) (h:∀ i,i<64 → ∃ n,xs[i]? = some (.int .u8 n)):(Op.equalIn (d+2) 77 (.agg xs) (.agg xs)).run Tryz.prog w = .ok true w:=by
 unfold Op.equalIn;simp [go_sem];rw [Qy]
 ·simp [go_sem]
 ·intro i hi;obtain ⟨n,hn⟩:=h i (by simpa [List.mem_range'] using hi);unfold Op.equalIn;simp [go_sem,hn]
def Fr (s:SeqR):List Value:=[.int .i64 s.w, .int .i64 s.h, .int .i64 s.rate.num, .int .i64 s.rate.den, .bool s.inter, .int .i64 s.bits, .int .i64 s.buf]++(List.range 128).map fun i => .int .u8 (s.q i)
theorem Tc {w:World} {E:Env}:∀ {ls l:List Value},RdVs w E (ls.map fun v => .t (.lit v)) l→l=ls
 | [],[],_=>rfl
 | a::ls,[],h=>by simp only [List.map_cons,RdVs] at h
 | [],_::_,h=>by simp only [List.map_nil,RdVs] at h
 | a::ls,b::l,h=>by
  simp only [List.map_cons,RdVs] at h;rw [(aG h.1).1,Tc h.2]
theorem aF9 (s:SeqR):aAp s=(Fr s).map fun v => .t (.lit v):=rfl
theorem Pj (s:SeqR) {i:Nat} (h:i<128):(Fr s)[7+i]? = some (.int .u8 (s.q i)):=by
 unfold Fr;rw [List.getElem?_append_right (by simp)];simp [h]
theorem eqSeqS (s:SeqR):EqV Tryz.prog 79 (aAp s) (aAp s) true:=by
 intro w E vs us h1 h2;rw [aF9] at h1 h2;have e1:=Tc h1;have e2:=Tc h2;have e:us=vs:=by rw [← Array.toList_inj,e1,e2]
 subst e;have g:∀ i,us[i]? = (Fr s)[i]? := fun i=>by rw [← e1,Array.getElem?_toList]
 have hsz:us.size=135:=by rw [← Array.length_toList,e1];rfl
 have g0:us[0]? = some (.int .i64 s.w):=by rw [g];rfl
 have g1:us[1]? = some (.int .i64 s.h):=by rw [g];rfl
 have g2:(us.extract 2 4)[0]? = some (.int .i64 s.rate.num):=by rw [Array.getElem?_extract,if_pos (by omega),g];rfl
 have g3:(us.extract 2 4)[1]? = some (.int .i64 s.rate.den):=by rw [Array.getElem?_extract,if_pos (by omega),g];rfl
 have g4:us[4]? = some (.bool s.inter):=by rw [g];rfl
 have g5:us[5]? = some (.int .i64 s.bits):=by rw [g];rfl
 have g6:us[6]? = some (.int .i64 s.buf):=by rw [g];rfl
 have a1:∀ i,i<64 → ∃ n,(us.extract 7 71)[i]? = some (.int .u8 n):=fun i hi=>⟨s.q i,by rw [Array.getElem?_extract,if_pos (by omega),g,Pj s (by omega)]⟩
 have a2:∀ i,i<64 → ∃ n,(us.extract 71 135)[i]? = some (.int .u8 n):=fun i hi=>⟨s.q (64+i),by rw [Array.getElem?_extract,if_pos (by omega),g,show 71+i=7+(64+i) by omega,Pj s (by omega)]⟩
 constructor
 ·unfold Op.equal;simp [go_sem,Op.maxDepth,g0,g1,g2,g3,g4,g5,g6];rw [eqArr _ w 9997 a1];simp only [Result.andThen_ok,Bool.true_eq_false,if_false];rw [eqArr _ w 9997 a2];rfl
 ·intro p q;unfold eqGuard;simp [Tryz.eqGuardType79]
open Go.RowKit
set_option maxRecDepth 4000
theorem eqRatS (r:RatR):EqV Tryz.prog 30 [aC r.num,aC r.den] [aC r.num,aC r.den] true:=by
 have h:=Zu r r;have e:r.eqb r=true:=by unfold RatR.eqb;simp
 rw [e] at h;exact h
theorem Md (p:ProjR) (hp:p.media.length≤65536) (hq:p.seqs.length≤65536):aN Tryz.prog 22 [eD p,eD p] (aP true):=by
 refine aH Tryz.X22 Tryz.func22 rfl Tryz.ntmps22 (by rw [Tryz.results22]) (aD _ ?_);simp only [go_sem,simprocAttr];refine aF (fun (k:Nat) σ => bL 5 (aC k) (aX [6,7,27,28,29,30,31,32,33,34,35,36,37,38,39,40,41,42,43,44,45,46,47,48,49,50,51,52,53,54,55,56,57,58,59,60,61,62,63,64,65,66,67,68,69,70,71,72,73,74,75,76,77,78,79,80,81,82,83,84,85,86,87,88,89,90,91] (bF σ))) (fun k=>k≤p.media.length) (fun k=>p.media.length - k) 0 (aA ?_) (Nat.zero_le _) ?_
 ·simp only [go_sem,simprocAttr]<;>simp
 ·intro k hk;refine aD _ ?_;simp only [go_sem,simprocAttr];refine ⟨fun hlt=>?_,fun hge=>?_⟩
  ·simp only [bxx] at hlt;unfold awS;simp only [go_sem,simprocAttr];refine aV 14 .done rfl (by kernel_rfl) (by kernel_rfl) (by decide) ?_;simp only [go_sem,simprocAttr];refine ⟨⟨by omega,by omega⟩,⟨by omega,by omega⟩,by kernel_rfl,?_⟩;refine ⟨true,eqSeqS _,_,fun _=>Me _,?_⟩;simp only [go_sem,simprocAttr];refine ⟨k+1,aA ?_,by omega,by omega⟩;simp only [go_sem,simprocAttr]<;>simp [bJ (show k<9223372036854775807 by omega)]
  ·simp only [bxx] at hge;unfold awS;simp only [go_sem,simprocAttr];refine aF (fun (k:Nat) σ => bL 8 (aC k) (aX [9,10,92,93,94,95,96,97,98,99,100,101,102,103,104,105,106,107,108,109,110,111,112,113,114,115,116,117,118,119,120,121,122,123,124,125,126,127,128,129,130,131,132,133,134,135,136,137,138,139,140,141,142,143,144,145,146,147,148,149,150,151,152,153,154,155,156,157,158,159,160,161,162,163,164,165] (bF σ))) (fun k=>k≤p.seqs.length) (fun k=>p.seqs.length - k) 0 (aA ?_) (Nat.zero_le _) ?_
   ·simp only [go_sem,simprocAttr]<;>simp
   ·intro k hk;refine aD _ ?_;simp only [go_sem,simprocAttr];refine ⟨fun hlt=>?_,fun hge=>?_⟩
    ·simp only [bxx] at hlt;unfold awS;simp only [go_sem,simprocAttr];refine aV 14 .done rfl (by kernel_rfl) (by kernel_rfl) (by decide) ?_;simp only [go_sem,simprocAttr];refine ⟨⟨by omega,by omega⟩,⟨by omega,by omega⟩,by kernel_rfl,?_⟩;refine ⟨true,eqRatS _,_,fun _=>Br _,?_⟩;simp only [go_sem,simprocAttr];refine ⟨_,Br _,?_⟩;simp only [go_sem,simprocAttr];refine ⟨_,Me _,?_⟩;simp only [go_sem,simprocAttr];refine ⟨k+1,aA ?_,by omega,by omega⟩;simp only [go_sem,simprocAttr]<;>simp [bJ (show k<9223372036854775807 by omega)]
    ·simp only [bxx] at hge;unfold awS;simp only [go_sem,simprocAttr]
end Go.Proofs.YtbfnemkngoaeeaaGreat
