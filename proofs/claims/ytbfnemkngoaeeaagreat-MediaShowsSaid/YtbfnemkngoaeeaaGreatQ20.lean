/- Proved here: Contracts of the functions that make clips from a tape; conditions stand in each theorem. -/
import Derived.Test.YtbfnemkngoaeeaaGreatQ04
import Derived.Test.YtbfnemkngoaeeaaGreatQ08
import Derived.Test.YtbfnemkngoaeeaaGreatQ16
import Derived.Test.YtbfnemkngoaeeaaGreatQ10
set_option linter.unusedSimpArgs false
set_option linter.unusedVariables false
set_option linter.unusedSectionVars false
set_option linter.unnecessarySimpa false
namespace Go.Proofs.YtbfnemkngoaeeaaGreat
open Go.RowKit
set_option maxRecDepth 4000
def aLj (L:List Int) (k:Nat):Int:=if k<L.length then L.getD k 0 else (k:Int)*7+3
def aA (L:List Int) (k:Nat) (n:Int):Int:=((aLj L k).tmod n+n).tmod n
theorem aD1 (v:Int) {n:Int} (h1 : 1≤n) : -n<v.tmod n∧v.tmod n<n:=by
 have h3:=Int.tmod_lt_of_pos v (show 0<n by omega);have h4:=Int.tmod_lt_of_pos (-v) (show 0<n by omega);rw [Int.neg_tmod] at h4;omega
theorem aE {L:List Int} {k:Nat} {n:Int} (h1 : 1≤n) : 0≤aA L k n∧aA L k n<n:=by
 have h3:=aD1 (aLj L k) h1;exact ⟨Int.tmod_nonneg _ (by omega),Int.tmod_lt_of_pos _ (by omega)⟩
theorem Wc {v n:Int} (h1 : 1≤n) (h2:n≤1048576):IntKind.i64.wrap (v.tmod n+n)=v.tmod n+n:=by
 have h3:=aD1 v h1;exact wrap64 (by omega) (by omega)
abbrev tapeB (L:List Int) (k:Nat):List V:=[.t (bY L),aC (k:Int)]
theorem bQ (L:List Int) (k:Nat) (n:Int) (hk:k≤1048576) (h1 : 1≤n) (h2:n≤1048576):wM Tryz.prog 28 [.t (bY L),aC k] [aC n] (aC (aA L k n)) [.t (bY L),aC ((k+1:Nat):Int)]:=by
 refine pZ Tryz.X28 Tryz.func28 rfl Tryz.ntmps28 (by rw [Tryz.results28]) (fD fun hf=>aD _ ?_);have w1:IntKind.i64.wrap ((k:Int)*7)=(k:Int)*7:=wrap64 (by omega) (by omega);have w2:IntKind.i64.wrap ((k:Int)*7+3)=(k:Int)*7+3:=wrap64 (by omega) (by omega);have w3:IntKind.i64.wrap ((k:Int)+1)=(k:Int)+1:=wrap64 (by omega) (by omega);have hn0:n≠0:=by omega
 simp only [go_sem,simprocAttr];refine ⟨fun h=>?_,fun _=>?_⟩
 ·simp only [decide_eq_true_eq] at h;omega
 ·unfold awS;simp only [go_sem,simprocAttr,w1,w2];refine cL [0,1,2,3,4,5,6,7,8,9] .done rfl (by kernel_rfl) (by kernel_rfl) (by decide) ?_;simp only [go_sem,simprocAttr,w1,w2];refine ⟨fun h=>?_,fun h=>?_⟩
  all_goals simp only [decide_eq_true_eq,decide_eq_false_iff_not,Int.ofNat_lt] at h
  ·unfold awS;simp only [go_sem,simprocAttr];refine cL [0,1,2,3,4,5,6,7,8,9,10] .done rfl (by kernel_rfl) (by kernel_rfl) (by decide) ?_;simp only [go_sem,simprocAttr,w3,Wc h1 h2];refine ⟨⟨by omega,by omega⟩,hn0,hn0,?_,?_⟩
   ·simp [aA,aLj,if_pos h]
   ·simp
  ·unfold awS;simp only [go_sem,simprocAttr,w3,Wc h1 h2];refine ⟨hn0,hn0,?_,?_⟩
   ·simp [aA,aLj,if_neg h]
   ·simp
def dens:List Int:=[1,1,1,2,3,1001]
def ratR (p q:Int):RatR:=if p=0 then ⟨0,1⟩ else ⟨p / (Nat.gcd p.natAbs q.natAbs:Nat),q / (Nat.gcd p.natAbs q.natAbs:Nat)⟩
def Qc (L:List Int) (k:Nat) (n:Int):RatR:=ratR (aA L k n) (dens.getD (aA L (k+1) 6).toNat 0)
theorem cRatT (L:List Int) (k:Nat) (n:Int) (hk:k≤1000000) (h1 : 1≤n) (h2:n≤1048576):wM Tryz.prog 175 [.t (bY L),aC k] [aC n] (Cr (Qc L k n)) [.t (bY L),aC ((k+2:Nat):Int)]:=by
 refine pZ Tryz.X175 Tryz.func175 rfl Tryz.ntmps175 (by rw [Tryz.results175]) (aD _ ?_);simp only [go_sem,simprocAttr];refine aK 10 .done rfl (by kernel_rfl) (by kernel_rfl) (by decide) ?_;simp only [go_sem,simprocAttr];refine gC (bQ L k n (by omega) h1 h2) rfl rfl rfl ?_;simp only [go_sem,simprocAttr];refine gC (bQ L (k+1) 6 (by omega) (by omega) (by omega)) rfl rfl rfl ?_;have t6:=aE (L:=L) (k:=k+1) (n:=6) (by omega);have t40:=aE (L:=L) (k:=k) (n:=n) (by omega);obtain ⟨P,hP⟩:∃ P:Nat,aA L k n=P:=⟨(aA L k n).toNat,by omega⟩
 obtain ⟨Q,hQ,hQ1,hQ2⟩:∃ Q:Nat,dens.getD (aA L (k+1) 6).toNat 0=(Q:Int)∧1≤Q∧Q≤1001:=by
  have:(aA L (k+1) 6).toNat=0∨(aA L (k+1) 6).toNat=1∨(aA L (k+1) 6).toNat=2∨(aA L (k+1) 6).toNat=3∨(aA L (k+1) 6).toNat=4∨(aA L (k+1) 6).toNat=5:=by omega
  rcases this with h | h | h | h | h | h<;>rw [h]
  ·exact ⟨1,rfl,by omega,by omega⟩
  ·exact ⟨1,rfl,by omega,by omega⟩
  ·exact ⟨1,rfl,by omega,by omega⟩
  ·exact ⟨2,rfl,by omega,by omega⟩
  ·exact ⟨3,rfl,by omega,by omega⟩
  ·exact ⟨1001,rfl,by omega,by omega⟩
 have hQ':=hQ;unfold dens at hQ';have hr:Qc L k n=ratR P Q:=by unfold Qc;rw [hP,hQ]
 rw [hr];simp only [go_sem,simprocAttr,hQ',hP];refine ⟨⟨by omega,by omega⟩,by omega,by kernel_rfl,?_⟩;refine aF (fun (x:Nat×Nat) σ => cJ 7 (aC x.1) (cJ 8 (aC x.2) σ)) (fun x=>Nat.gcd x.1 x.2=Nat.gcd P Q) (fun x=>x.2) (P,Q) (aB ?_) rfl ?_
 ·simp only [go_sem,simprocAttr]<;>simp
 ·rintro ⟨x,y⟩ hg;simp only at hg;refine aD _ ?_;simp only [go_sem,simprocAttr];refine brW (b := !decide (y=0)) ?_ ⟨fun hb=>?_,fun hb=>?_⟩
  ·rw [Bool.eq_iff_iff];simp only [bxx];omega
  ·unfold awS;simp only [go_sem,simprocAttr];have hy:y≠0:=by simpa using hb
   refine cL [0,1,2,3,4,5] .done rfl (by kernel_rfl) (by kernel_rfl) (by decide) ?_;simp only [go_sem,simprocAttr];refine ⟨by omega,(y,x % y),aB ?_,?_,Nat.mod_lt _ (by omega)⟩
   ·simp only [go_sem,simprocAttr,yW]<;>simp
   ·simp only;rw [← hg,Nat.gcd_comm x y,Nat.gcd_rec y x,Nat.gcd_comm]
  ·unfold awS;simp only [go_sem,simprocAttr];have hy:y=0:=by simpa using hb
   subst hy;rw [Nat.gcd_zero_right] at hg;subst hg;have hg0 : 0<Nat.gcd P Q:=Nat.gcd_pos_of_pos_right _ (by omega);refine brW (b:=decide (P=0)) ?_ ⟨fun h0=>?_,fun h0=>?_⟩
   ·rw [Bool.eq_iff_iff];simp only [bxx];omega
   ·unfold awS;simp only [go_sem,simprocAttr];have hp0:P=0:=by simpa using h0
    subst hp0;rfl
   ·have hp0:P≠0:=by simpa using h0
    have k1:P / Nat.gcd P Q≤P:=Nat.div_le_self _ _;have k2:Q / Nat.gcd P Q≤Q:=Nat.div_le_self _ _;unfold awS;simp only [go_sem,simprocAttr];refine aK 8 .done rfl (by kernel_rfl) (by kernel_rfl) (by decide) ?_;simp only [go_sem,simprocAttr,mY,fG (n:=P / Nat.gcd P Q) (by omega),fG (n:=Q / Nat.gcd P Q) (by omega)];refine ⟨by omega,by omega,by kernel_rfl,?_⟩;unfold ratR;rw [if_neg (by omega)];rfl
def speeds:List (Int×Int):=[(1,1),(1,1),(1,1),(0,1),(-1,1),(1,2),(2,1),(800,1001),(-3,2)]
def Fk (L:List Int) (k:Nat):RatR:=⟨(speeds.getD (aA L k 9).toNat (0,0)).1,(speeds.getD (aA L k 9).toNat (0,0)).2⟩
theorem cSpeed (L:List Int) (k:Nat) (hk:k≤1000000):wM Tryz.prog 39 [.t (bY L),aC k] [] (Cr (Fk L k)) [.t (bY L),aC ((k+1:Nat):Int)]:=by
 refine pZ Tryz.X39 Tryz.func39 rfl Tryz.ntmps39 (by rw [Tryz.results39]) (aD _ ?_);simp only [go_sem,simprocAttr];refine aP (bQ L k 9 (by omega) (by omega) (by omega)) rfl rfl rfl ?_;have t9:=aE (L:=L) (k:=k) (n:=9) (by omega);simp only [go_sem,simprocAttr];exact ⟨⟨by omega,by omega⟩,by omega,rfl⟩
def cX (p:ByteArray) (i:Int):ByteArray:=p++Utf8.encode (48+i)
theorem aNh (p:ByteArray) (i:Int) (h0 : 0≤i) (h1:i<64) (hp:p.size≤1000):aM Tryz.prog 41 [bM p,aC i] (bM (cX p i)):=by
 refine aH Tryz.X41 Tryz.func41 rfl Tryz.ntmps41 (by rw [Tryz.results41]) (aD _ ?_);simp only [go_sem,simprocAttr];have e:IntKind.i32.wrap (IntKind.i64.wrap (48+i))=48+i:=by
  rw [wrap64 (by omega) (by omega)];have e1:(2:Int) ^ IntKind.i32.bits=4294967296:=by decide
  have e2:(2:Int) ^ (IntKind.i32.bits - 1)=2147483648:=by decide
  unfold IntKind.wrap;simp only [IntKind.signed,if_true,e1,e2,Bool.true_and,decide_eq_true_eq];split<;>omega
 have hz:=Me (48+i);rw [e];refine ⟨?_,rfl⟩;have:IntKind.i64.max=9223372036854775807:=by decide
 rw [this];omega
theorem aKz (xs:List Int) (hl:xs.length≤65536):aM Tryz.prog 119 [.t (bY xs)] (.t (bY xs)):=by
 refine cR Tryz.X119 Tryz.func119 rfl Tryz.ntmps119 (by rw [Tryz.results119]) (aD _ ?_);simp only [go_sem,simprocAttr];intro b hn;refine ⟨fun hb=>?_,fun hb=>?_⟩
 ·have e:List.map xQ xs = []:=hn hb;unfold awS;simp only [go_sem,simprocAttr];rw [e];exact Js
 ·unfold awS;simp only [go_sem,simprocAttr];refine ⟨⟨Nat.le_trans hl (by decide),by omega⟩,aU ?_ rfl⟩;simp only [go_sem,simprocAttr]<;>rfl
theorem cCopied (c:ClipR) (hl:c.chan.length≤65536):aM Tryz.prog 163 [qG c] (qG c):=by
 refine aH Tryz.X163 Tryz.func163 rfl Tryz.ntmps163 (by rw [Tryz.results163]) (aD _ ?_);simp only [go_sem,simprocAttr];refine ⟨_,aKz c.chan hl,?_⟩;simp only [go_sem,simprocAttr]
open Go.RowKit
set_option maxRecDepth 4000
def aRt:ClipR:=⟨0,0,zSource,zSource,0,0,0,⟨#[]⟩,0,[]⟩
def shK (k:Int):Bool:=k==2||k==3
def Ur (c:ClipR) (n:Int):ClipR := { c with len:=c.len - n,a:=eG c.a n,b:=eG c.b n,off:=if shK c.kind=true then c.off+n else c.off }
def advOk (c:ClipR) (n:Int):Bool:=bB c&&decide (0≤n)&&decide (n<c.len)
def advC (c:ClipR) (n:Int):ClipR×Int:=if advOk c n=true then (if (Ge (eG c.a n)&&Ge (eG c.b n))=true then (Ur c n,0) else (aRt,2)) else (aRt,1)
abbrev vce (r:ClipR×Int):V := .tup [qG r.1,aC r.2]
theorem Wu {c:ClipR} (h:bB c=true) (hs:shK c.kind=true) : 0≤c.off∧c.off+c.len≤c.total∧c.total≤2147483647:=by
 obtain ⟨_,_,_,_,_,_,_,hk⟩:=eB h;unfold shK at hs;unfold cD at hk;have:c.kind=2∨c.kind=3:=by simpa using hs
 rcases this with e | e<;>rw [e] at hk<;>simp [dW] at hk<;>omega
def zVs:List V:=[aC 0,aC 0,aC 0,bM ⟨#[]⟩,aC 0,aC 0,aC 0,aC 0,aS false,aC 0,bM ⟨#[]⟩,aC 0,aC 0,aC 0,aC 0,aS false,aC 0,aC 0,aC 0,bM ⟨#[]⟩,aC 0, .t (.lit (.slice none 0 0))]
open Go.RowKit
set_option maxRecDepth 4000
abbrev vcb (c:ClipR) (b:Bool):V := .tup [qG c,aS b]
def mS (c:ClipR) (n:Int):ClipR := { c with a:=eG c.a n,b:=eG c.b n,off:=if shK c.kind=true then c.off+n else c.off }
def headOk (c:ClipR) (n:Int):Bool:=bB c&&decide (1≤n)&&decide (n≤c.len)
def headC (c:ClipR) (n:Int):ClipR×Int:=if headOk c n=true then ({ c with len:=n },0) else (aRt,1)
open Go.RowKit
set_option maxRecDepth 4000
def intsEq (a b:List Int):Bool:=a==b
theorem aK5 {a b:List Int} {k:Nat} (h1:k<a.length) (h2:a.getD k 0≠b.getD k 0):(a==b)=false:=by
 rw [beq_eq_false_iff_ne];rintro rfl;exact h2 rfl
theorem aFk {a b:List Int} (hl:a.length=b.length) (h:∀ i,i<a.length→a.getD i 0=b.getD i 0):(a==b)=true:=by
 rw [beq_iff_eq];refine List.ext_getElem hl fun i h1 h2=>?_
 have:=h i h1;rw [List.getD_eq_getElem?_getD,List.getD_eq_getElem?_getD,List.getElem?_eq_getElem h1,List.getElem?_eq_getElem h2] at this;simpa using this
theorem cEqual (a b:List Int):aM Tryz.prog 267 [.t (bY a), .t (bY b)] (aS (a==b)):=by
 refine aH Tryz.X267 Tryz.func267 rfl Tryz.ntmps267 (by rw [Tryz.results267]) (fD fun hf=>aD _ ?_);simp only [go_sem,simprocAttr,kW] at hf;have hla:a.length≤maxLen:=by first | exact hf.1 | exact hf.1.1 | exact hf.2.1
 simp only [go_sem,simprocAttr];refine ⟨fun h=>?_,fun h=>?_⟩
 ·simp only [bxx] at h;unfold awS;simp only [go_sem,simprocAttr];have:(a==b)=false:=by
   rw [beq_eq_false_iff_ne];rintro rfl;exact h rfl
  rw [this]
 ·have hl:a.length=b.length:=by simp only [bne_eq_false_iff_eq] at h;omega
  unfold awS;simp only [go_sem,simprocAttr];refine aF (fun (k:Nat) σ => cJ 13 (aC k) σ) (fun k=>k≤a.length ∧ ∀ i,i<k→a.getD i 0=b.getD i 0) (fun k=>a.length - k) 0 (aB ?_) ⟨Nat.zero_le _,by omega⟩ ?_
  ·simp only [go_sem,simprocAttr]<;>rfl
  ·rintro k ⟨hk,hi⟩;refine aD _ ?_;simp only [go_sem,simprocAttr];refine ⟨fun hlt=>?_,fun hge=>?_⟩
   ·simp only [bxx] at hlt;unfold awS;simp only [go_sem,simprocAttr];refine cL [0,1,2,3,4,5,6,7,8] .done rfl (by kernel_rfl) (by kernel_rfl) (by decide) ?_;simp only [go_sem,simprocAttr];refine ⟨⟨by omega,by omega⟩,⟨by omega,by omega⟩,?_⟩;refine ⟨fun h2=>?_,fun h2=>?_⟩
    ·unfold awS;simp only [go_sem,simprocAttr];rw [aK5 (k:=k) (by omega) (by simpa using h2)]
    ·unfold awS;simp only [go_sem,simprocAttr];refine ⟨k+1,aB ?_,⟨by omega,upto hi (by simpa using h2)⟩,by omega⟩;simp only [go_sem,simprocAttr]<;>simp [dV (show k<a.length by omega) hla]
   ·simp only [bxx] at hge;unfold awS;simp only [go_sem,simprocAttr];rw [aFk hl (fun i h2=>hi i (by omega))]
def ClipR.eqb (a b:ClipR):Bool:=a.len==b.len&&a.kind==b.kind&&SourceR.eqb a.a b.a&&SourceR.eqb a.b b.b&&a.off==b.off&&a.total==b.total&&a.param==b.param&&(a.text.toList==b.text.toList)&&a.gain==b.gain&&(a.chan==b.chan)
theorem aNe (a b:ClipR):aM Tryz.prog 250 [qG a,qG b] (aS (a.eqb b)):=by
 refine aH Tryz.X250 Tryz.func250 rfl Tryz.ntmps250 (by rw [Tryz.results250]) (aD _ ?_);simp only [go_sem,simprocAttr];simp only [go_sem,simprocAttr,List.append,List.append_eq,List.cons_append,List.nil_append];refine ⟨_,fun _=>uC a.a b.a,_,fun _=>uC a.b b.b,_,fun _=>cEqual a.chan b.chan,?_⟩;simp only [go_sem,simprocAttr,List.append,List.append_eq,List.cons_append,List.nil_append]<;>rfl
theorem SourceR.eqb_iff {a b:SourceR}:a.eqb b=true ↔ a=b:=by
 unfold SourceR.eqb;simp only [Bool.and_eq_true,beq_iff_eq];refine ⟨fun ⟨⟨⟨⟨⟨⟨h1,h2⟩,h3⟩,h4⟩,h5⟩,h6⟩,h7⟩=>?_,fun h=>by rw [h];exact ⟨⟨⟨⟨⟨⟨rfl,rfl⟩,rfl⟩,rfl⟩,rfl⟩,rfl⟩,rfl⟩⟩;obtain ⟨k,n,⟨p1,p2⟩,⟨q1,q2⟩,m⟩:=a;obtain ⟨k',n',⟨p1',p2'⟩,⟨q1',q2'⟩,m'⟩:=b;simp only at h1 h2 h3 h4 h5 h6 h7;rw [h1,tE h2,h3,h4,h5,h6,h7]
theorem ClipR.eqb_iff {a b:ClipR}:a.eqb b=true ↔ a=b:=by
 unfold ClipR.eqb;simp only [Bool.and_eq_true,beq_iff_eq,SourceR.eqb_iff];refine ⟨fun ⟨⟨⟨⟨⟨⟨⟨⟨⟨h1,h2⟩,h3⟩,h4⟩,h5⟩,h6⟩,h7⟩,h8⟩,h9⟩,h10⟩=>?_,fun h=>by rw [h];exact ⟨⟨⟨⟨⟨⟨⟨⟨⟨rfl,rfl⟩,rfl⟩,rfl⟩,rfl⟩,rfl⟩,rfl⟩,rfl⟩,rfl⟩,rfl⟩⟩;cases a;cases b;simp only at h1 h2 h3 h4 h5 h6 h7 h8 h9 h10;rw [h1,h2,h3,h4,h5,h6,h7,tE h8,h9,h10]
open Go.RowKit
set_option maxRecDepth 4000
structure Mild (c:ClipR):Prop where
 fit:c.fit
 chan:c.chan.length≤65536
 a:aY c.a=true
 b:aY c.b=true
 len : 0≤c.len∧c.len≤2147483647
 off:shK c.kind=true → -2147483648≤c.off∧c.off≤2147483648
theorem aMg {c:ClipR} (h:c.fit) (hv:bB c=true):Mild c:=by
 obtain ⟨v1,v2,_,_,v5,v6,v7,v8⟩:=eB hv;have hch:c.chan.length≤65536:=by unfold gH at v5;simp only [Bool.and_eq_true,decide_eq_true_eq] at v5;omega
 exact ⟨h,hch,v6,v7,by omega,fun hs=>by have:=Wu hv hs;omega⟩
def gZ (p q:ClipR):Bool:=if (p.kind==0&&q.kind==0)=true then true else q.eqb { mS p p.len with len:=q.len }
theorem aKx (p q:ClipR) (h:Mild p):aM Tryz.prog 225 [qG q,qG p] (aS (gZ p q)):=by
 have hna:p.len.natAbs≤2147483648:=by have:=h.len;omega
 refine aH Tryz.X225 Tryz.func225 rfl Tryz.ntmps225 (by rw [Tryz.results225]) (aD _ ?_);simp only [go_sem,simprocAttr];refine ⟨fun hk=>?_,fun hk=>?_⟩
 ·unfold awS;simp only [go_sem,simprocAttr];unfold gZ;rw [if_pos hk]
 ·unfold awS;simp only [go_sem,simprocAttr];refine aK 14 .done rfl (by kernel_rfl) (by kernel_rfl) (by decide) ?_;simp only [go_sem,simprocAttr];refine ⟨_,aWg p.a p.len h.fit.a h.a hna,?_⟩;simp only [go_sem,simprocAttr];refine ⟨_,aWg p.b p.len h.fit.b h.b hna,?_⟩;simp only [go_sem,simprocAttr];refine ⟨by kernel_rfl,_,aRj p.kind,?_⟩;simp only [go_sem,simprocAttr];refine ⟨fun hs=>?_,fun hs=>?_⟩
  ·have hs1:shK p.kind=true:=hs;have ho:=h.off hs1;have hl:=h.len;unfold awS;simp only [go_sem,simprocAttr,wrap64 (x:=p.off+p.len) (by omega) (by omega)];refine ⟨_,aNe q ⟨q.len,p.kind,eG p.a p.len,eG p.b p.len,p.off+p.len,p.total,p.param,p.text,p.gain,p.chan⟩,?_⟩;simp only [go_sem,simprocAttr];unfold gZ mS;rw [hk,if_pos hs1];try rfl
  ·have hs1:shK p.kind=false:=hs;unfold awS;simp only [go_sem,simprocAttr];refine ⟨_,aNe q ⟨q.len,p.kind,eG p.a p.len,eG p.b p.len,p.off,p.total,p.param,p.text,p.gain,p.chan⟩,?_⟩;simp only [go_sem,simprocAttr];unfold gZ mS;rw [hk,hs1];try rfl
end Go.Proofs.YtbfnemkngoaeeaaGreat
