/- Proved here: Contracts of the functions that copy clips; conditions stand in each theorem. -/
import Derived.Test.YtbfnemkngoaeeaaGreatQ18
import Derived.Test.YtbfnemkngoaeeaaGreatQ11
set_option linter.unusedSimpArgs false
set_option linter.unusedVariables false
set_option linter.unusedSectionVars false
set_option linter.unnecessarySimpa false
namespace Go.Proofs.YtbfnemkngoaeeaaGreat
open Go.RowKit
set_option maxRecDepth 4000
theorem aNd (xs:List Int) (hl:xs.length≤65536):aN Tryz.prog 119 [.t (bN xs)] (.t (bN xs)):=by
 refine fQ Tryz.X119 Tryz.func119 rfl Tryz.ntmps119 (by rw [Tryz.results119]) (aD _ ?_);simp only [go_sem,simprocAttr];intro b hn;refine ⟨fun hb=>?_,fun hb=>?_⟩
 ·have e:List.map Be xs = []:=hn hb;unfold awS;simp only [go_sem,simprocAttr];rw [e];exact Cm
 ·unfold awS;simp only [go_sem,simprocAttr];refine ⟨⟨Nat.le_trans hl (by decide),by omega⟩,dW ?_ rfl⟩;simp only [go_sem,simprocAttr]<;>rfl
theorem aEw (c:ClipR) (hl:c.chan.length≤65536):aN Tryz.prog 163 [fH c] (fH c):=by
 refine aH Tryz.X163 Tryz.func163 rfl Tryz.ntmps163 (by rw [Tryz.results163]) (aD _ ?_);simp only [go_sem,simprocAttr];refine ⟨_,aNd c.chan hl,?_⟩;simp only [go_sem,simprocAttr]
theorem cCopy (c:ClipR) (hl:c.chan.length≤65536):aN Tryz.prog 193 [fH c] (fH c):=by
 refine aH Tryz.X193 Tryz.func193 rfl Tryz.ntmps193 (by rw [Tryz.results193]) (aD _ ?_);simp only [go_sem,simprocAttr];exact ⟨Nat.le_trans hl (by decide),by omega⟩
open Go.RowKit
set_option maxRecDepth 4000
theorem Ec {s:SourceR} (hf:s.fit) (hv:aS s=true) {n:Int} (hn:n.natAbs≤2147483648):(cF s n).fit∧((cF s n).isZ||Gx (cF s n).pos 1099511627776)=eZ (cF s n):=by
 cases hb:s.isZ with
 | true =>
  have e1:cF s n=s:=by unfold cF;rw [if_pos hb]
  rw [e1];exact ⟨hf,by unfold eZ;rw [hb];rfl⟩
 | false =>
  obtain ⟨p,d,ok⟩:=Hk hv hb;obtain ⟨m3,m4⟩:=As ok hn;have mok:=aL7 ok hn;have hms:cF s n = { s with pos:=ofQ (mC s n) }:=by unfold cF;rw [hb];rfl
  have hlp : 0<Nat.lcm p d:=Nat.lcm_pos ok.p1 ok.d1;have hdl:=Nat.le_trans (Nat.le_of_dvd hlp m4) ok.lcm;have hd0 : 0<(mC s n).den:=(mC s n).den_pos;have hpos:(cF s n).pos=ofQ (mC s n):=by rw [hms]
  refine ⟨by rw [hms];exact ⟨hf.kind,⟨⟨by simp only [xC];omega,by simp only [xC];omega⟩,⟨by simp only [xD];omega,by simp only [xD];omega⟩⟩,hf.speed⟩,?_⟩;unfold eZ;have:Gx (cF s n).pos 1099511627776=eE (cF s n).pos 1099511627776:=by
   rw [hpos];unfold Gx eE;rw [mok,Bool.true_and,xD,xC];rw [Bool.eq_iff_iff];simp only [bxx];omega
  rw [this]
def aCv:ClipR:=⟨0,0,zSource,zSource,0,0,0,⟨#[]⟩,0,[]⟩
def shK (k:Int):Bool:=k==2||k==3
def advR (c:ClipR) (n:Int):ClipR := { c with len:=c.len - n,a:=cF c.a n,b:=cF c.b n,off:=if shK c.kind=true then c.off+n else c.off }
def aF2 (c:ClipR) (n:Int):Bool:=bQ c&&decide (0≤n)&&decide (n<c.len)
def Uz (c:ClipR) (n:Int):ClipR×Int:=if aF2 c n=true then (if (eZ (cF c.a n)&&eZ (cF c.b n))=true then (advR c n,0) else (aCv,2)) else (aCv,1)
abbrev vce (r:ClipR×Int):V := .tup [fH r.1,aC r.2]
theorem Pf {c:ClipR} (h:bQ c=true) (hs:shK c.kind=true) : 0≤c.off∧c.off+c.len≤c.total∧c.total≤2147483647:=by
 obtain ⟨_,_,_,_,_,_,_,hk⟩:=eF h;unfold shK at hs;unfold bZ at hk;have:c.kind=2∨c.kind=3:=by simpa using hs
 rcases this with e | e<;>rw [e] at hk<;>simp [eV] at hk<;>omega
def zVs:List V:=[aC 0,aC 0,aC 0,bP ⟨#[]⟩,aC 0,aC 0,aC 0,aC 0,aP false,aC 0,bP ⟨#[]⟩,aC 0,aC 0,aC 0,aC 0,aP false,aC 0,aC 0,aC 0,bP ⟨#[]⟩,aC 0, .t (.lit (.slice none 0 0))]
theorem zVs_as:aDv zVs [aC 0,aC 0,aC 0,bP ⟨#[]⟩,aC 0,aC 0,aC 0,aC 0,aP false,aC 0,bP ⟨#[]⟩,aC 0,aC 0,aC 0,aC 0,aP false,aC 0,aC 0,aC 0,bP ⟨#[]⟩,aC 0, .t (bN [])] :=
 ⟨.inl rfl, .inl rfl, .inl rfl, .inl rfl, .inl rfl, .inl rfl, .inl rfl, .inl rfl, .inl rfl, .inl rfl, .inl rfl, .inl rfl, .inl rfl, .inl rfl, .inl rfl, .inl rfl, .inl rfl, .inl rfl, .inl rfl, .inl rfl, .inl rfl, .inr ⟨rfl,_,_,rfl⟩,trivial⟩
theorem zA (k:Int) {h:Heap}:Jk (vce (aCv,k)) (.tup [.agg zVs,aC k]) h:=by
 have e:V.lend h (.tup [.agg zVs,aC k]) = .tup [.agg zVs,aC k]:=rfl;refine ⟨by rw [e];rfl,fun w E v hv=>?_⟩;rw [e] at hv;simp only [RdV] at hv ⊢;obtain ⟨vs,rfl,hvs⟩:=hv;refine ⟨vs,rfl,?_⟩;rcases hl:vs.toList with _ | ⟨u,_ | ⟨u2,_ | ⟨u3,us⟩⟩⟩<;>rw [hl] at hvs<;>simp only [RdVs,and_false] at hvs ⊢
 refine ⟨?_,hvs.2⟩;have h1:=hvs.1;simp only [RdV] at h1 ⊢;obtain ⟨vs,rfl,q1,q2⟩:=h1;exact ⟨vs,rfl,Jv zVs_as q1,q2⟩
theorem aNg (c:ClipR) (n:Int) (h:c.fit) (hn:I64 n):aN Tryz.prog 89 [fH c,aC n] (vce (Uz c n)):=by
 refine fQ Tryz.X89 Tryz.func89 rfl Tryz.ntmps89 (by rw [Tryz.results89]) (aD _ ?_);simp only [go_sem,simprocAttr];refine ⟨_,aN5 c h,?_⟩;simp only [go_sem,simprocAttr];refine brW (b := !aF2 c n) ?_ ⟨fun hb=>?_,fun hb=>?_⟩
 ·unfold aF2;cases hv:bQ c with
  | false=>rfl
  | true =>
   obtain ⟨v1,v2,_⟩:=eF hv;rw [wrap64 (x:=c.len - 1) (by omega) (by omega)];simp only [Bool.not_true,Bool.false_or,Bool.true_and];rw [Bool.eq_iff_iff];simp only [bxx];omega
 ·unfold awS;simp only [go_sem,simprocAttr];unfold Uz;rw [nt hb];exact zA 1
 ·have ha:=nf hb;have ha2:=ha;unfold aF2 at ha2;simp only [Bool.and_eq_true,decide_eq_true_eq] at ha2;obtain ⟨⟨hv,n0⟩,n1⟩:=ha2;obtain ⟨v1,v2,_,_,v5,v6,v7,v8⟩:=eF hv;have hch:c.chan.length≤65536:=by unfold dM at v5;simp only [Bool.and_eq_true,decide_eq_true_eq] at v5;omega
  have hna:n.natAbs≤2147483648:=by omega
  obtain ⟨fa,pa⟩:=Ec h.a v6 hna;obtain ⟨fb,pb⟩:=Ec h.b v7 hna;have hso:=Pf hv;unfold awS;simp only [go_sem,simprocAttr];refine ⟨_,aEw c hch,?_⟩;simp only [go_sem,simprocAttr,wrap64 (x:=c.len - n) (by omega) (by omega)];refine aV 12 .done rfl (by kernel_rfl) (by kernel_rfl) (by decide) ?_;simp only [go_sem,simprocAttr];refine ⟨_,Ur c.a n h.a v6 hna,?_⟩;simp only [go_sem,simprocAttr];refine ⟨_,Ur c.b n h.b v7 hna,?_⟩;simp only [go_sem,simprocAttr];refine ⟨by kernel_rfl,_,Rp c.kind,?_⟩;simp only [go_sem,simprocAttr];refine ⟨fun hs=>?_,fun hs=>?_⟩
  ·have hs1:shK c.kind=true:=hs;have hso1:=hso hs1;unfold awS;simp only [go_sem,simprocAttr,wrap64 (x:=c.off+n) (by omega) (by omega)];refine ⟨_,Gg (cF c.a n) fa,?_⟩;rw [pa];simp only [go_sem,simprocAttr];refine ⟨_,fun _=>Gg (cF c.b n) fb,?_⟩;rw [pb];simp only [go_sem,simprocAttr];refine brW (b := !(eZ (cF c.a n)&&eZ (cF c.b n))) ?_ ⟨fun hp=>?_,fun hp=>?_⟩
   ·cases eZ (cF c.a n)<;>cases eZ (cF c.b n)<;>rfl
   ·unfold awS;simp only [go_sem,simprocAttr];unfold Uz;rw [ha,nt hp];exact zA 2
   ·unfold awS;simp only [go_sem,simprocAttr];unfold Uz;rw [ha,nf hp];refine dW ?_ rfl;unfold advR;rw [if_pos hs1];rfl
  ·have hs1:shK c.kind=false:=hs;unfold awS;simp only [go_sem,simprocAttr];refine ⟨_,Gg (cF c.a n) fa,?_⟩;rw [pa];simp only [go_sem,simprocAttr];refine ⟨_,fun _=>Gg (cF c.b n) fb,?_⟩;rw [pb];simp only [go_sem,simprocAttr];refine brW (b := !(eZ (cF c.a n)&&eZ (cF c.b n))) ?_ ⟨fun hp=>?_,fun hp=>?_⟩
   ·cases eZ (cF c.a n)<;>cases eZ (cF c.b n)<;>rfl
   ·unfold awS;simp only [go_sem,simprocAttr];unfold Uz;rw [ha,nt hp];exact zA 2
   ·unfold awS;simp only [go_sem,simprocAttr];unfold Uz;rw [ha,nf hp];refine dW ?_ rfl;unfold advR;rw [hs1];rfl
open Go.RowKit
set_option maxRecDepth 4000
abbrev vcb (c:ClipR) (b:Bool):V := .tup [fH c,aP b]
def aB6 (c:ClipR) (n:Int):ClipR := { c with a:=cF c.a n,b:=cF c.b n,off:=if shK c.kind=true then c.off+n else c.off }
def headOk (c:ClipR) (n:Int):Bool:=bQ c&&decide (1≤n)&&decide (n≤c.len)
def headC (c:ClipR) (n:Int):ClipR×Int:=if headOk c n=true then ({ c with len:=n },0) else (aCv,1)
open Go.RowKit
set_option maxRecDepth 4000
def intsEq (a b:List Int):Bool:=a==b
theorem Kt {a b:List Int} {k:Nat} (h1:k<a.length) (h2:a.getD k 0≠b.getD k 0):(a==b)=false:=by
 rw [beq_eq_false_iff_ne];rintro rfl;exact h2 rfl
theorem Ep {a b:List Int} (hl:a.length=b.length) (h:∀ i,i<a.length→a.getD i 0=b.getD i 0):(a==b)=true:=by
 rw [beq_iff_eq];refine List.ext_getElem hl fun i h1 h2=>?_
 have:=h i h1;rw [List.getD_eq_getElem?_getD,List.getD_eq_getElem?_getD,List.getElem?_eq_getElem h1,List.getElem?_eq_getElem h2] at this;simpa using this
theorem cEqual (a b:List Int):aN Tryz.prog 267 [.t (bN a), .t (bN b)] (aP (a==b)):=by
 refine aH Tryz.X267 Tryz.func267 rfl Tryz.ntmps267 (by rw [Tryz.results267]) (cE fun hf=>aD _ ?_);simp only [go_sem,simprocAttr,dF] at hf;have hla:a.length≤maxLen:=by first | exact hf.1 | exact hf.1.1 | exact hf.2.1
 simp only [go_sem,simprocAttr];refine ⟨fun h=>?_,fun h=>?_⟩
 ·simp only [bxx] at h;unfold awS;simp only [go_sem,simprocAttr];have:(a==b)=false:=by
   rw [beq_eq_false_iff_ne];rintro rfl;exact h rfl
  rw [this]
 ·have hl:a.length=b.length:=by simp only [bne_eq_false_iff_eq] at h;omega
  unfold awS;simp only [go_sem,simprocAttr];refine aF (fun (k:Nat) σ => bL 13 (aC k) σ) (fun k=>k≤a.length ∧ ∀ i,i<k→a.getD i 0=b.getD i 0) (fun k=>a.length - k) 0 (aA ?_) ⟨Nat.zero_le _,by omega⟩ ?_
  ·simp only [go_sem,simprocAttr]<;>rfl
  ·rintro k ⟨hk,hi⟩;refine aD _ ?_;simp only [go_sem,simprocAttr];refine ⟨fun hlt=>?_,fun hge=>?_⟩
   ·simp only [bxx] at hlt;unfold awS;simp only [go_sem,simprocAttr];refine bM [0,1,2,3,4,5,6,7,8] .done rfl (by kernel_rfl) (by kernel_rfl) (by decide) ?_;simp only [go_sem,simprocAttr];refine ⟨⟨by omega,by omega⟩,⟨by omega,by omega⟩,?_⟩;refine ⟨fun h2=>?_,fun h2=>?_⟩
    ·unfold awS;simp only [go_sem,simprocAttr];rw [Kt (k:=k) (by omega) (by simpa using h2)]
    ·unfold awS;simp only [go_sem,simprocAttr];refine ⟨k+1,aA ?_,⟨by omega,upto hi (by simpa using h2)⟩,by omega⟩;simp only [go_sem,simprocAttr]<;>simp [cY (show k<a.length by omega) hla]
   ·simp only [bxx] at hge;unfold awS;simp only [go_sem,simprocAttr];rw [Ep hl (fun i h2=>hi i (by omega))]
def ClipR.eqb (a b:ClipR):Bool:=a.len==b.len&&a.kind==b.kind&&SourceR.eqb a.a b.a&&SourceR.eqb a.b b.b&&a.off==b.off&&a.total==b.total&&a.param==b.param&&(a.text.toList==b.text.toList)&&a.gain==b.gain&&(a.chan==b.chan)
theorem aEu (a b:ClipR):aN Tryz.prog 250 [fH a,fH b] (aP (a.eqb b)):=by
 refine aH Tryz.X250 Tryz.func250 rfl Tryz.ntmps250 (by rw [Tryz.results250]) (aD _ ?_);simp only [go_sem,simprocAttr];simp only [go_sem,simprocAttr,List.append,List.append_eq,List.cons_append,List.nil_append];refine ⟨_,fun _=>gF a.a b.a,_,fun _=>gF a.b b.b,_,fun _=>cEqual a.chan b.chan,?_⟩;simp only [go_sem,simprocAttr,List.append,List.append_eq,List.cons_append,List.nil_append]<;>rfl
theorem ClipR.eqb_chan {a b:ClipR} (h:(a.chan==b.chan)=false):a.eqb b=false:=by
 unfold ClipR.eqb;rw [h,Bool.and_false]
theorem aHb (a b:ClipR):aN Tryz.prog 194 [fH a,fH b] (aP (a.eqb b)):=by
 refine aH Tryz.X194 Tryz.func194 rfl Tryz.ntmps194 (by rw [Tryz.results194]) (cE fun hf=>aD _ ?_);simp only [go_sem,simprocAttr,dF] at hf;have hla:a.chan.length≤maxLen:=hf.1.2.2.2.2.2.2.2.2.2.2.2.2.2.2.2.2.2.2.2.2.2.1;simp only [go_sem,simprocAttr];refine ⟨fun h=>?_,fun h=>?_⟩
 ·simp only [bxx] at h;unfold awS;simp only [go_sem,simprocAttr];rw [ClipR.eqb_chan];rw [beq_eq_false_iff_ne];intro e;rw [e] at h;exact h rfl
 ·have hl:a.chan.length=b.chan.length:=by simp only [bne_eq_false_iff_eq] at h;omega
  unfold awS;simp only [go_sem,simprocAttr];refine aF (fun (k:Nat) σ => bL 5 (aC k) σ) (fun k=>k≤a.chan.length ∧ ∀ i,i<k→a.chan.getD i 0=b.chan.getD i 0) (fun k=>a.chan.length - k) 0 (aA ?_) ⟨Nat.zero_le _,by omega⟩ ?_
  ·simp only [go_sem,simprocAttr]
   first | rfl | simp
  ·rintro k ⟨hk,hi⟩;refine aD _ ?_;simp only [go_sem,simprocAttr];refine ⟨fun hlt=>?_,fun hge=>?_⟩
   ·simp only [bxx] at hlt;unfold awS;simp only [go_sem,simprocAttr];refine bM [0,1,2,3,4,5,6,7,8,9,10] .done rfl (by kernel_rfl) (by kernel_rfl) (by decide) ?_;simp only [go_sem,simprocAttr];refine ⟨⟨by omega,by omega⟩,⟨by omega,by omega⟩,?_⟩;refine ⟨fun h2=>?_,fun h2=>?_⟩
    ·unfold awS;simp only [go_sem,simprocAttr];rw [ClipR.eqb_chan (Kt (k:=k) (by omega) (by simpa using h2))]
    ·unfold awS;simp only [go_sem,simprocAttr];refine ⟨k+1,aA ?_,⟨by omega,upto hi (by simpa using h2)⟩,by omega⟩;simp only [go_sem,simprocAttr]<;>simp [cY (show k<a.chan.length by omega) hla]
   ·simp only [bxx] at hge;have hch:(a.chan==b.chan)=true:=Ep hl (fun i h2=>hi i (by omega));unfold awS;simp only [go_sem,simprocAttr,List.append,List.append_eq,List.cons_append,List.nil_append];refine ⟨_,fun _=>gF a.a b.a,_,fun _=>gF a.b b.b,?_⟩;try simp only [go_sem,simprocAttr,List.append,List.append_eq,List.cons_append,List.nil_append]
    unfold ClipR.eqb;rw [hch,Bool.and_true]
theorem SourceR.eqb_iff {a b:SourceR}:a.eqb b=true ↔ a=b:=by
 unfold SourceR.eqb;simp only [Bool.and_eq_true,beq_iff_eq];refine ⟨fun ⟨⟨⟨⟨⟨⟨h1,h2⟩,h3⟩,h4⟩,h5⟩,h6⟩,h7⟩=>?_,fun h=>by rw [h];exact ⟨⟨⟨⟨⟨⟨rfl,rfl⟩,rfl⟩,rfl⟩,rfl⟩,rfl⟩,rfl⟩⟩;obtain ⟨k,n,⟨p1,p2⟩,⟨q1,q2⟩,m⟩:=a;obtain ⟨k',n',⟨p1',p2'⟩,⟨q1',q2'⟩,m'⟩:=b;simp only at h1 h2 h3 h4 h5 h6 h7;rw [h1,sS h2,h3,h4,h5,h6,h7]
theorem ClipR.eqb_iff {a b:ClipR}:a.eqb b=true ↔ a=b:=by
 unfold ClipR.eqb;simp only [Bool.and_eq_true,beq_iff_eq,SourceR.eqb_iff];refine ⟨fun ⟨⟨⟨⟨⟨⟨⟨⟨⟨h1,h2⟩,h3⟩,h4⟩,h5⟩,h6⟩,h7⟩,h8⟩,h9⟩,h10⟩=>?_,fun h=>by rw [h];exact ⟨⟨⟨⟨⟨⟨⟨⟨⟨rfl,rfl⟩,rfl⟩,rfl⟩,rfl⟩,rfl⟩,rfl⟩,rfl⟩,rfl⟩,rfl⟩⟩;cases a;cases b;simp only at h1 h2 h3 h4 h5 h6 h7 h8 h9 h10;rw [h1,h2,h3,h4,h5,h6,h7,sS h8,h9,h10]
open Go.RowKit
set_option maxRecDepth 4000
structure Mild (c:ClipR):Prop where
 fit:c.fit
 chan:c.chan.length≤65536
 a:aS c.a=true
 b:aS c.b=true
 len : 0≤c.len∧c.len≤2147483647
 off:shK c.kind=true → -2147483648≤c.off∧c.off≤2147483648
theorem mild_of {c:ClipR} (h:c.fit) (hv:bQ c=true):Mild c:=by
 obtain ⟨v1,v2,_,_,v5,v6,v7,v8⟩:=eF hv;have hch:c.chan.length≤65536:=by unfold dM at v5;simp only [Bool.and_eq_true,decide_eq_true_eq] at v5;omega
 exact ⟨h,hch,v6,v7,by omega,fun hs=>by have:=Pf hv hs;omega⟩
def Lu (p q:ClipR):Bool:=if (p.kind==0&&q.kind==0)=true then true else q.eqb { aB6 p p.len with len:=q.len }
theorem aCm (p q:ClipR) (h:Mild p):aN Tryz.prog 225 [fH q,fH p] (aP (Lu p q)):=by
 have hna:p.len.natAbs≤2147483648:=by have:=h.len;omega
 refine aH Tryz.X225 Tryz.func225 rfl Tryz.ntmps225 (by rw [Tryz.results225]) (aD _ ?_);simp only [go_sem,simprocAttr];refine ⟨fun hk=>?_,fun hk=>?_⟩
 ·unfold awS;simp only [go_sem,simprocAttr];unfold Lu;rw [if_pos hk]
 ·unfold awS;simp only [go_sem,simprocAttr];refine aV 14 .done rfl (by kernel_rfl) (by kernel_rfl) (by decide) ?_;simp only [go_sem,simprocAttr];refine ⟨_,Ur p.a p.len h.fit.a h.a hna,?_⟩;simp only [go_sem,simprocAttr];refine ⟨_,Ur p.b p.len h.fit.b h.b hna,?_⟩;simp only [go_sem,simprocAttr];refine ⟨by kernel_rfl,_,Rp p.kind,?_⟩;simp only [go_sem,simprocAttr];refine ⟨fun hs=>?_,fun hs=>?_⟩
  ·have hs1:shK p.kind=true:=hs;have ho:=h.off hs1;have hl:=h.len;unfold awS;simp only [go_sem,simprocAttr,wrap64 (x:=p.off+p.len) (by omega) (by omega)];refine ⟨_,aEu q ⟨q.len,p.kind,cF p.a p.len,cF p.b p.len,p.off+p.len,p.total,p.param,p.text,p.gain,p.chan⟩,?_⟩;simp only [go_sem,simprocAttr];unfold Lu aB6;rw [hk,if_pos hs1];try rfl
  ·have hs1:shK p.kind=false:=hs;unfold awS;simp only [go_sem,simprocAttr];refine ⟨_,aEu q ⟨q.len,p.kind,cF p.a p.len,cF p.b p.len,p.off,p.total,p.param,p.text,p.gain,p.chan⟩,?_⟩;simp only [go_sem,simprocAttr];unfold Lu aB6;rw [hk,hs1];try rfl
end Go.Proofs.YtbfnemkngoaeeaaGreat
