/- Proved here: How the arguments of the timeline's statements are read by the abstract machine; conditions stand in each theorem. -/
import Derived.Test.YtbfnemkngoaeeaaGreatQ06
import Derived.Test.YtbfnemkngoaeeaaGreatQ08
set_option linter.unusedSimpArgs false
set_option linter.unusedVariables false
set_option linter.unusedSectionVars false
set_option linter.unnecessarySimpa false
namespace Go.Proofs.YtbfnemkngoaeeaaGreat
open Go.RowKit
set_option maxRecDepth 4000
open Go.ChangeShapes Go.WideShapes
abbrev I64s := { n:Int // I64 n }
abbrev RatF := { r:RatR // r.fit }
abbrev SourceF := { s:SourceR // s.fit }
abbrev ClipF := { c:ClipR // c.fit }
theorem oChan:Opens Tryz.prog 3 xQ:=aQb (k := .i64) Tryz.underlying3
theorem oInts:Opens Tryz.prog 22 fun l:List Int=>[bY l]:=aEn (xQ 0) Tryz.underlying22 oChan (by kernel_rfl) (fun _=>rfl) (by decide)
abbrev TrackF := { t:List ClipR // ∀ c∈t,c.fit }
theorem aInts:Ut Tryz.prog 22 fun l:List Int => .t (bY l):=aB3 Tryz.underlying22 oInts
open Go.ChangeShapes Go.WideShapes
abbrev aRr (k:IntKind) := { n:Int // k.min≤n∧n≤k.max }
theorem aJt {P:Program} {t:TypeId} {k:IntKind} (ht:P.underlying t=some (.int k)):Opens P t fun n:aRr k=>[.lit (.int k n.1)]:=by
 intro H enc w spare held n cs x hx;obtain ⟨b,rfl,_,hw⟩:=DataW.trod_int ht hx;simp only [Lit.wf,Bool.and_eq_true,decide_eq_true_eq] at hw;exact ⟨⟨b,hw⟩, .lit _ rfl trivial,trivial⟩
theorem aEq {P:Program} {t:TypeId} {k:IntKind} (ht:P.underlying t=some (.int k)):Ut P t fun n:aRr k => .t (.lit (.int k n.1)):=by
 rintro H enc w spare held val d p hv ⟨n,hn⟩;obtain ⟨b,rfl⟩:=okWide_int ht hv;obtain ⟨a,ha⟩:=aJt ht enc w spare held n _ _ hn;exact ⟨a,aEr rfl ha⟩
theorem u8_b (n:aRr .u8) : 0≤n.1∧n.1≤255:=n.2
theorem aU8:Ut Tryz.prog 5 fun n:aRr .u8 => .t (.lit (.int .u8 n.1)):=aEq Tryz.underlying5
set_option maxHeartbeats 4000000
def chanI (n:Int):Bool:=decide (-1≤n)&&decide (n≤3)
theorem eB {c:ClipR} (h:bB c=true) : 1≤c.len∧c.len≤2147483647∧0≤c.gain∧c.gain≤65536∧gH c.chan=true∧aY c.a=true∧aY c.b=true∧cD c=true:=by
 unfold bB nN at h;simp only [Bool.and_eq_true,decide_eq_true_eq] at h;obtain ⟨⟨⟨⟨⟨⟨⟨q1,q2⟩,q3⟩,q4⟩,q5⟩,q6⟩,q7⟩,q8⟩:=h;exact ⟨q1,q2,q3,q4,q5,q6,q7,q8⟩
theorem aBh {c:ClipR} (h:cD c=true) : 0≤c.kind∧c.kind≤5:=by
 by_cases hk : 0≤c.kind∧c.kind≤5
 ·exact hk
 ·unfold cD at h
  repeat rw [if_neg (by omega)] at h
  cases h
theorem aUu {c:ClipR} (h:c.kind=0):cD c=(c.a.isZ&&c.b.isZ&&dX c&&c.param==0&&emp c.text&&c.gain==0&&c.chan.length==0):=by unfold cD;rw [if_pos h]
theorem kind1 {c:ClipR} (h:c.kind=1):cD c=(c.b.isZ&&dX c&&c.param==0&&emp c.text):=by unfold cD;rw [if_neg (by omega),if_pos h]
theorem kind2 {c:ClipR} (h:c.kind=2):cD c=(dW c&&c.param==0&&emp c.text):=by unfold cD;rw [if_neg (by omega),if_neg (by omega),if_pos h]
theorem kind3 {c:ClipR} (h:c.kind=3):cD c=(dW c&&decide (0≤c.param)&&decide (c.param≤3)&&emp c.text):=by unfold cD;rw [if_neg (by omega),if_neg (by omega),if_neg (by omega),if_pos h]
theorem kind4 {c:ClipR} (h:c.kind=4):cD c=(dX c&&decide (0≤c.param)&&decide (c.param≤255)&&emp c.text):=by unfold cD;rw [if_neg (by omega),if_neg (by omega),if_neg (by omega),if_neg (by omega),if_pos h]
theorem kind5 {c:ClipR} (h:c.kind=5):cD c=(c.b.isZ&&dX c&&c.param==0&&kL c.text):=by unfold cD;rw [if_neg (by omega),if_neg (by omega),if_neg (by omega),if_neg (by omega),if_neg (by omega),if_pos h]
open Go.RowKit
set_option maxRecDepth 4000
def bU:List ClipR→Int
 | []=>0
 | c::l=>c.len+bU l
theorem qR:∀ (l:List ClipR) (k:Nat),k<l.length→bU (l.take (k+1))=bU (l.take k)+(l.getD k default).len
 | [],k,h=>by simp at h
 | c::l,0,h=>by simp [bU]
 | c::l,k+1,h=>by
  have:=qR l k (by simpa using h);simp only [List.take_succ_cons,bU,List.getD_cons_succ] at this ⊢;omega
theorem nH:∀ (l:List ClipR),(∀ c∈l,1≤c.len∧c.len≤2147483647)→(l.length:Int)≤bU l∧bU l≤2147483647*l.length
 | [],_=>by simp [bU]
 | c::l,h=>by
  have h1:=nH l fun d hd=>h d (by simp [hd])
  have h2:=h c (by simp);simp only [bU,List.length_cons];omega
def bC (t:List ClipR):Bool:=decide (t.length≤64)&&t.all bB&&decide (bU t≤2147483647)
def Kd (t:List ClipR):Int:=if bC t=true then bU t else 0
theorem bZ {c:ClipR} (h:bB c=true) : 1≤c.len∧c.len≤2147483647:=by
 obtain ⟨h1,h2,_⟩:=eB h;exact ⟨h1,h2⟩
theorem aW {α : Type} {l:List α} {d : α} {k:Nat} (h:k<l.length):l.getD k d∈l:=by
 rw [List.getD_eq_getElem?_getD,List.getElem?_eq_getElem h];exact List.getElem_mem h
theorem aSe {t:List ClipR} {k:Nat} (hk:k≤t.length) (hi:∀ i,i<k→bB (t.getD i default)=true):∀ c∈t.take k,1≤c.len∧c.len≤2147483647:=by
 intro c hc;obtain ⟨i,hi2,rfl⟩:=List.mem_iff_getElem.1 hc;have h1:i<k:=by simp at hi2;omega
 have:=bZ (hi i h1);rw [aJ (by omega)] at this;simpa using this
theorem Jb {t:List ClipR} {k:Nat} (hk:k≤t.length) (h64:t.length≤64) (hi:∀ i,i<k→bB (t.getD i default)=true) : 0≤bU (t.take k)∧bU (t.take k)≤137438953408:=by
 have h1:=nH _ (aSe hk hi);have:(t.take k).length=k:=by simp;omega
 omega
theorem Np (t:List ClipR) (hfit:∀ c∈t,c.fit):aM Tryz.prog 45 [.t (eD t)] (aS (bC t)):=by
 refine aH Tryz.X45 Tryz.func45 rfl Tryz.ntmps45 (by rw [Tryz.results45]) (aD _ ?_);simp only [go_sem,simprocAttr];refine ⟨fun h=>?_,fun h=>?_⟩
 ·simp only [bxx] at h;unfold awS;simp only [go_sem,simprocAttr];unfold bC;rw [decide_eq_false (by omega : ¬ t.length≤64)];rfl
 ·simp only [bxx] at h;unfold awS;simp only [go_sem,simprocAttr];refine aF (fun (k:Nat) σ => cJ 3 (aC (bU (t.take k))) (cJ 11 (aC k) (bN [6,7,8] σ))) (fun k=>k≤t.length ∧ ∀ i,i<k→bB (t.getD i default)=true) (fun k=>t.length - k) 0 (aB ?_) ⟨Nat.zero_le _,by omega⟩ ?_
  ·simp only [go_sem,simprocAttr]<;>simp [bU]
  ·rintro k ⟨hk,hi⟩;have hr:=Jb hk (by omega) hi;refine aD _ ?_;simp only [go_sem,simprocAttr];refine ⟨fun hlt=>?_,fun hge=>?_⟩
   ·simp only [bxx] at hlt;have hkl:k<t.length:=by omega
    unfold awS;simp only [go_sem,simprocAttr];refine ⟨⟨by omega,by omega⟩,_,cPClip _ (hfit _ (aW hkl)),?_⟩;simp only [go_sem,simprocAttr];refine brW (b := !bB (t.getD k default)) ?_ ⟨fun hb=>?_,fun hb=>?_⟩
    ·rfl
    ·unfold awS;simp only [go_sem,simprocAttr];unfold bC;rw [gG (d:=default) (p:=bB) (k:=k) hkl (nt hb),Bool.and_false];rfl
    ·have hl:=bZ (nf hb);unfold awS;simp only [go_sem,simprocAttr];refine ⟨k+1,aB ?_,⟨by omega,upto hi (nf hb)⟩,by omega⟩;simp only [go_sem,simprocAttr];rw [wrap64 (x:=bU (t.take k)+(t.getD k default).len) (by omega) (by omega),qR t k hkl];simp [bX (show k<9223372036854775807 by omega)]
   ·simp only [bxx] at hge;unfold awS;simp only [go_sem,simprocAttr];unfold bC;rw [dE (d:=default) (p:=bB) (fun i h2=>hi i (by omega)),decide_eq_true (by omega:t.length≤64),List.take_of_length_le (by omega)];rfl
theorem jX {t:List ClipR} (h:bC t=true):t.length≤64∧(∀ c∈t,bB c=true)∧bU t≤2147483647:=by
 unfold bC at h;simp only [Bool.and_eq_true,decide_eq_true_eq,List.all_eq_true] at h;exact ⟨h.1.1,h.1.2,h.2⟩
theorem at_all {t:List ClipR} (h:∀ c∈t,bB c=true) (k:Nat):∀ i,i<k→k≤t.length→bB (t.getD i default)=true:=fun i hi hk=>h _ (aW (by omega))
theorem cPTotal (t:List ClipR) (h64:t.length≤64) (hv:∀ c∈t,bB c=true):aM Tryz.prog 167 [.t (eD t)] (aC (bU t)):=by
 refine aH Tryz.X167 Tryz.func167 rfl Tryz.ntmps167 (by rw [Tryz.results167]) (aD _ ?_);simp only [go_sem,simprocAttr];refine aF (fun (k:Nat) σ => cJ 3 (aC (bU (t.take k))) (cJ 8 (aC k) σ)) (fun k=>k≤t.length) (fun k=>t.length - k) 0 (aB ?_) (Nat.zero_le _) ?_
 ·simp only [go_sem,simprocAttr]<;>simp [bU]
 ·rintro k hk;have hr:=Jb hk h64 fun i hi=>at_all hv k i hi hk
  refine aD _ ?_;simp only [go_sem,simprocAttr];refine ⟨fun hlt=>?_,fun hge=>?_⟩
  ·simp only [bxx] at hlt;have hkl:k<t.length:=by omega
   have hl:=bZ (hv _ (aW (d:=default) hkl));unfold awS;simp only [go_sem,simprocAttr];refine ⟨⟨by omega,by omega⟩,k+1,aB ?_,by omega,by omega⟩;simp only [go_sem,simprocAttr];rw [wrap64 (x:=bU (t.take k)+(t.getD k default).len) (by omega) (by omega),qR t k hkl];simp [bX (show k<9223372036854775807 by omega)]
  ·simp only [bxx] at hge;unfold awS;simp only [go_sem,simprocAttr];rw [List.take_of_length_le (by omega)]
theorem aH5 (t:List ClipR) (hfit:∀ c∈t,c.fit):aM Tryz.prog 90 [.t (eD t)] (aC (Kd t)):=by
 refine aH Tryz.X90 Tryz.func90 rfl Tryz.ntmps90 (by rw [Tryz.results90]) (aD _ ?_);simp only [go_sem,simprocAttr];refine ⟨_,Np t hfit,?_⟩;simp only [go_sem,simprocAttr];refine brW (b := !bC t) ?_ ⟨fun hb=>?_,fun hb=>?_⟩
 ·rfl
 ·unfold awS;simp only [go_sem,simprocAttr];unfold Kd;rw [nt hb];rfl
 ·unfold awS;simp only [go_sem,simprocAttr];obtain ⟨h1,h2,h3⟩:=jX (nf hb);refine ⟨_,cPTotal t h1 h2,?_⟩;simp only [go_sem,simprocAttr];unfold Kd;rw [if_pos (nf hb)]
end Go.Proofs.YtbfnemkngoaeeaaGreat
