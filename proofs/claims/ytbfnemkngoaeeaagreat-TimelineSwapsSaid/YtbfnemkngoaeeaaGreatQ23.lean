/- Proved here: Plain laws of moved and shortened clips: they are valid; conditions stand in each theorem. -/
import Derived.Test.YtbfnemkngoaeeaaGreatQ20
import Derived.Test.YtbfnemkngoaeeaaGreatQ22
set_option linter.unusedSimpArgs false
set_option linter.unusedVariables false
set_option linter.unusedSectionVars false
set_option linter.unnecessarySimpa false
namespace Go.Proofs.YtbfnemkngoaeeaaGreat
open Go.RowKit
set_option maxRecDepth 4000
theorem kindOk_cases {c:ClipR} (h:bZ c=true):c.kind=0∨c.kind=1∨c.kind=2∨c.kind=3∨c.kind=4∨c.kind=5:=by have:=Bd h;omega
theorem Yw {c d:ClipR} (h:bZ c=true) (hk:d.kind=c.kind) (ha:c.a.isZ=true→d.a.isZ=true) (hb:c.b.isZ=true→d.b.isZ=true) (hp:d.param=c.param) (ht:d.text=c.text) (hg:d.gain=c.gain) (hc:d.chan=c.chan)
  (hn:shK c.kind=false→cS c=true→cS d=true) (hs:shK c.kind=true→eV c=true→eV d=true):bZ d=true:=by
 rcases kindOk_cases h with e | e | e | e | e | e
 ·rw [Kn e] at h;rw [Kn (hk.trans e),hp,ht,hg,hc];rw [e] at hn hs;simp only [Bool.and_eq_true] at h ⊢;obtain ⟨⟨⟨⟨⟨⟨x1,x2⟩,x3⟩,x4⟩,x5⟩,x6⟩,x7⟩:=h;exact ⟨⟨⟨⟨⟨⟨ha x1,hb x2⟩,hn rfl x3⟩,x4⟩,x5⟩,x6⟩,x7⟩
 ·rw [Qu e] at h;rw [Qu (hk.trans e),hp,ht];rw [e] at hn hs;simp only [Bool.and_eq_true] at h ⊢;obtain ⟨⟨⟨x2,x3⟩,x4⟩,x5⟩:=h;exact ⟨⟨⟨hb x2,hn rfl x3⟩,x4⟩,x5⟩
 ·rw [Yz e] at h;rw [Yz (hk.trans e),hp,ht];rw [e] at hn hs;simp only [Bool.and_eq_true] at h ⊢;obtain ⟨⟨x3,x4⟩,x5⟩:=h;exact ⟨⟨hs rfl x3,x4⟩,x5⟩
 ·rw [Yy e] at h;rw [Yy (hk.trans e),hp,ht];rw [e] at hn hs;simp only [Bool.and_eq_true] at h ⊢;obtain ⟨⟨⟨x3,x4⟩,x5⟩,x6⟩:=h;exact ⟨⟨⟨hs rfl x3,x4⟩,x5⟩,x6⟩
 ·rw [Yx e] at h;rw [Yx (hk.trans e),hp,ht];rw [e] at hn hs;simp only [Bool.and_eq_true] at h ⊢;obtain ⟨⟨⟨x3,x4⟩,x5⟩,x6⟩:=h;exact ⟨⟨⟨hn rfl x3,x4⟩,x5⟩,x6⟩
 ·rw [Qt e] at h;rw [Qt (hk.trans e),hp,ht];rw [e] at hn hs;simp only [Bool.and_eq_true] at h ⊢;obtain ⟨⟨⟨x2,x3⟩,x4⟩,x5⟩:=h;exact ⟨⟨⟨hb x2,hn rfl x3⟩,x4⟩,x5⟩
theorem aJ8 {d:ClipR} (h1 : 1≤d.len) (h2:d.len≤2147483647) (h3 : 0≤d.gain) (h4:d.gain≤65536) (h5:dM d.chan=true) (h6:aS d.a=true) (h7:aS d.b=true) (h8:bZ d=true):bQ d=true:=by
 unfold bQ kJ;rw [h5,h6,h7,h8,decide_eq_true h1,decide_eq_true h2,decide_eq_true h3,decide_eq_true h4];rfl
theorem Xy {c d:ClipR} (h1:d.off=c.off) (h2:d.total=c.total) (h:cS c=true):cS d=true:=by unfold cS at h ⊢; rw [h1,h2];exact h
def aB3 (s:SourceR):Prop:=s.isZ=true∨(s.pos.num.natAbs≤1000000∧s.speed.num.natAbs≤1000000)
open Go.RowKit
set_option maxRecDepth 4000
def pkA (c:ClipR):List ClipR→List ClipR
 | []=>[c]
 | q::l=>if Lu c q=true then pkA { c with len:=c.len+q.len } l else c::pkA q l
def pk:List ClipR→List ClipR
 | []=>[]
 | c::l=>pkA c l
def Src2 (c:ClipR):Prop:=aS c.a=true∧aS c.b=true
def NoC:List ClipR→Prop
 | []=>True
 | [_]=>True
 | c::d::l=>Lu c d=false∧NoC (d::l)
section
variable {t:List ClipR} (hv:cC t=true) (hfit:∀ c∈t,c.fit)
include hv hfit
end
section
variable {t:List ClipR} (hv:cC t=true) (hfit:∀ c∈t,c.fit)
include hv hfit
end
open Go.RowKit
set_option maxRecDepth 4000
def Mp (s:SourceR):Prop:=s.pos.num.natAbs≤100000∧s.pos.den.natAbs≤100000∧s.speed.num.natAbs≤100000
theorem Af:Mp zSource:=⟨by decide,by decide,by decide⟩
theorem Dy {r q:RatR} (h:Pw r q=true) {kd:Int} {nm:ByteArray} {sm:Bool}:Mp ⟨kd,nm,r,q,sm⟩:=by
 unfold Pw at h;simp only [Bool.and_eq_true,decide_eq_true_eq] at h;exact ⟨h.1.1.1.2,h.1.1.2,h.1.2⟩
theorem Dn (L:List Int) (k:Nat) (m s:Int):Mp (bB L k m s).1:=by
 unfold bB;split
 ·exact Af
 ·split
  ·exact Dy (Aa L _ _)
  ·split
   ·exact Dy (Aa L _ _)
   ·exact Af
theorem tU (L:List Int) (k:Nat) (m s:Int):Mp (bU L k m s).1.a∧Mp (bU L k m s).1.b∧1≤(bU L k m s).1.len∧(bU L k m s).1.len≤9:=by
 have n9:=aE (L:=L) (k:=k) (n:=9) (by omega);have hl : 1≤1+aB L k 9∧1+aB L k 9≤9:=by omega
 have h1:=Dn L (k+2) m s;have h2:=Dn L (bB L (k+2) m s).2 m s;unfold bU;simp only;split
 ·exact ⟨Af,Af,hl⟩
 ·split
  ·split<;>exact ⟨h1,h2,hl⟩
  ·split
   ·exact ⟨h1,h2,hl⟩
   ·split<;>exact ⟨h1,Af,hl⟩
def one1:RatR:=⟨1,1⟩
def Cf (c:ClipR):Bool:=(c.kind != 2)&&(c.kind != 3)&&c.a.speed.eqb one1&&c.b.isZ
def eQ (c:ClipR) (n:Int):ClipR := { c with len:=n,a := { c.a with pos := { c.a.pos with num:=c.a.pos.num+c.len*c.a.pos.den } } }
def dU (L:List Int) (k:Nat) (m s:Int):List ClipR×Nat :=
 if aB L (bU L k m s).2 4=0 then
  (if Cf (bU L k m s).1=true then [(bU L k m s).1,eQ (bU L k m s).1 (1+aB L ((bU L k m s).2+1) 4)] else [(bU L k m s).1],(bU L k m s).2+2)
 else ([(bU L k m s).1],(bU L k m s).2+1)
def kL (L:List Int) (m s:Int):Nat→Nat→List ClipR×Nat
 | 0,k=>([],k)
 | n+1,k=>((dU L k m s).1++(kL L m s n (dU L k m s).2).1,(kL L m s n (dU L k m s).2).2)
def mU (L:List Int) (k:Nat) (m s most:Int):List ClipR×Nat:=kL L m s (aB L k (most+1)).toNat (k+1)
def trackT (L:List Int):List ClipR:=(mU L 0 3 2 9).1
structure Nice (c:ClipR):Prop where
 ok:bQ c=true
 fit:c.fit
 sa:aB3 c.a
 sb:aB3 c.b
 l9:c.len≤9
 chan:c.chan = []
theorem aD5 {s:SourceR} (h:Mp s):aB3 s := .inr ⟨by have:=h.1;omega,by have:=h.2.2;omega⟩
theorem aA3 (L:List Int) (k:Nat) (m s:Int) (hm:m≤9) (hs:s≤9):Nice (bU L k m s).1:=by
 obtain ⟨h1,h2⟩:=Rf L k m s hm hs;obtain ⟨h3,h4,h5,h6⟩:=tU L k m s;exact ⟨h1,h2,aD5 h3,aD5 h4,h6,Ev L k m s⟩
theorem aAz {c:ClipR} (h:Cf c=true):c.kind≠2∧c.kind≠3∧c.a.speed=one1∧c.b.isZ=true:=by
 unfold Cf at h;simp only [Bool.and_eq_true,bne_iff_ne,ne_eq] at h;obtain ⟨⟨⟨h1,h2⟩,h3⟩,h4⟩:=h;refine ⟨h1,h2,?_,h4⟩;unfold RatR.eqb at h3;simp only [Bool.and_eq_true,beq_iff_eq] at h3;cases hsp:c.a.speed with
 | mk n d =>
  rw [hsp] at h3;obtain ⟨h5,h6⟩:=h3;simp only [one1] at h5 h6;rw [h5,h6];rfl
theorem aAy {c:ClipR} (h:Nice c) (hs:Mp c.a) (hb:Cf c=true) {n:Int} (n0 : 1≤n) (n1:n≤4):Nice (eQ c n):=by
 obtain ⟨k2,k3,hsp,hbz⟩:=aAz hb;obtain ⟨v1,v2,v3,v4,v5,v6,v7,v8⟩:=eF h.ok;have hz:c.a.isZ=false:=by
  rw [Bool.eq_false_iff];intro hz;have e:=SourceR.eqb_iff.1 hz;rw [e] at hsp;cases hsp
 obtain ⟨p,d,ok⟩:=Hk v6 hz;obtain ⟨q1,q2,q3⟩:=hs;have hl9:=h.l9;have hp:=ok.hp;have p1:=ok.p1;have hpd:c.a.pos.den.natAbs=p:=by rw [hp,Int.natAbs_natCast]
 rw [hpd] at q2;have hb1 : 0≤c.len*c.a.pos.den∧c.len*c.a.pos.den≤900000:=by
  rw [hp];have:c.len*(p:Int)≤9*100000:=Int.mul_le_mul (by omega) (by omega) (by omega) (by omega);exact ⟨Int.mul_nonneg (by omega) (by omega),by omega⟩
 have hk:c.a.kind≠0:=by rcases ok.kind with h | h<;>omega
 have hz2:(eQ c n).a.isZ=false:=aLr hk;have hg:Nat.gcd (c.a.pos.num+c.len*c.a.pos.den).natAbs c.a.pos.den.natAbs=1:=by
  have h1:=ok.pos;unfold dL at h1;simp only [Bool.and_eq_true,decide_eq_true_eq] at h1;have h2:Int.gcd (c.a.pos.num+c.len*c.a.pos.den) c.a.pos.den=Int.gcd c.a.pos.num c.a.pos.den:=Int.gcd_add_mul_right_left _ _ _;exact h2.trans h1.2
 have hva:aS (eQ c n).a=true:=by
  unfold aS;rw [hz2];have e1:dL (eQ c n).a.pos=true:=by
   unfold dL;have f1 : 1≤(eQ c n).a.pos.den:=by show 1≤c.a.pos.den;omega
   have f2 : -9223372036854775808<(eQ c n).a.pos.num:=by show _<c.a.pos.num+c.len*c.a.pos.den;omega
   rw [decide_eq_true f1,decide_eq_true f2];exact decide_eq_true hg
  have e2:eE (eQ c n).a.pos 1099511627776=true:=by
   unfold eE;refine decide_eq_true ?_;show ((c.a.pos.num+c.len*c.a.pos.den).natAbs:Int)≤1099511627776*c.a.pos.den
   omega
  have e3:decide (Fk (eQ c n).a≤65536)=true:=by
   have:Fk (eQ c n).a=Nat.lcm p d:=by unfold Fk eQ;simp only;rw [hpd,ok.hd,Int.natAbs_natCast]
   rw [this];exact decide_eq_true ok.lcm
  have e4:dL (eQ c n).a.speed=true:=ok.speed;have e5:eE (eQ c n).a.speed 1024=true:=ok.wspeed;have e6:cG (eQ c n).a.name=true:=ok.name;rw [e1,e2,e3,e4,e5,e6];have e7:(eQ c n).a.kind=1∨(eQ c n).a.kind=2:=ok.kind;rcases e7 with h | h<;>simp [h]
 have hok:bQ (eQ c n)=true:=by
  refine aJ8 n0 (by show n≤_;omega) v3 v4 v5 hva v7 ?_;refine Yw v8 rfl (fun h=>?_) (fun h=>h) rfl rfl rfl rfl (fun hs hn=>Xy (c:=c) rfl rfl hn) (fun hs hn=>?_)
  ·rw [hz] at h;cases h
  ·unfold shK at hs;have:c.kind=2∨c.kind=3:=by simpa using hs
   omega
 refine ⟨hok,⟨⟨by show _≤n;omega,by show n≤_;omega⟩,h.fit.kind,⟨h.fit.a.kind,⟨⟨?_,?_⟩,h.fit.a.pos.den⟩,h.fit.a.speed⟩,h.fit.b,h.fit.off,h.fit.total,h.fit.param,h.fit.gain⟩, .inr ⟨?_,?_⟩,h.sb,by show n≤9;omega,h.chan⟩
 ·show _≤c.a.pos.num+c.len*c.a.pos.den;omega
 ·show c.a.pos.num+c.len*c.a.pos.den≤_;omega
 ·show (c.a.pos.num+c.len*c.a.pos.den).natAbs≤_;omega
 ·show c.a.speed.num.natAbs≤_;omega
theorem rH (L:List Int) (k:Nat) (m s:Int) (hm:m≤9) (hs:s≤9):(∀ c∈(dU L k m s).1,Nice c)∧(dU L k m s).1.length≤2∧(dU L k m s).2≤k+19∧1≤(dU L k m s).1.length:=by
 have h1:=aA3 L k m s hm hs;have h2:=(tU L k m s).1;have h3:=Rg L k m s;have h4:=aE (L:=L) (k:=(bU L k m s).2+1) (n:=4) (by omega);unfold dU;split
 ·split
  ·rename_i hb;refine ⟨fun c hc=>?_,by simp,by simp only;omega,by simp⟩;simp only [List.mem_cons,List.not_mem_nil,or_false] at hc;rcases hc with rfl | rfl
   ·exact h1
   ·exact aAy h1 h2 hb (by omega) (by omega)
  ·refine ⟨fun c hc=>?_,by simp,by simp only;omega,by simp⟩;simp only [List.mem_cons,List.not_mem_nil,or_false] at hc;rw [hc];exact h1
 ·refine ⟨fun c hc=>?_,by simp,by simp only;omega,by simp⟩;simp only [List.mem_cons,List.not_mem_nil,or_false] at hc;rw [hc];exact h1
theorem Dj (L:List Int) (m s:Int) (hm:m≤9) (hs:s≤9):∀ (n k:Nat),(∀ c∈(kL L m s n k).1,Nice c)∧(kL L m s n k).1.length≤2*n
 | 0,k=>⟨fun c hc=>by simp [kL] at hc,by simp [kL]⟩
 | n+1,k=>by
  obtain ⟨h1,h2⟩:=Dj L m s hm hs n (dU L k m s).2;obtain ⟨h3,h4,_,_⟩:=rH L k m s hm hs;simp only [kL];refine ⟨fun c hc=>?_,by simp only [List.length_append];omega⟩;rcases List.mem_append.1 hc with hc | hc
  ·exact h3 c hc
  ·exact h1 c hc
theorem Cb:∀ (l:List ClipR),(∀ c∈l,c.len≤9)→eG l≤9*l.length
 | [],_=>by simp [eG]
 | c::l,h=>by
  have h1:=Cb l fun d hd=>h d (by simp [hd])
  have h2:=h c (by simp);simp only [eG,List.length_cons];omega
theorem Vt (L:List Int) (k:Nat) (m s most:Int) (hm:m≤9) (hs:s≤9) (h0 : 0≤most) (h9:most≤9):(∀ c∈(mU L k m s most).1,Nice c)∧(mU L k m s most).1.length≤18:=by
 obtain ⟨h1,h2⟩:=Dj L m s hm hs (aB L k (most+1)).toNat (k+1);have h3:=aE (L:=L) (k:=k) (n:=most+1) (by omega);exact ⟨h1,by unfold mU;omega⟩
theorem Vj {t:List ClipR} (h:∀ c∈t,Nice c) (hl:t.length≤64):cC t=true:=by
 have h1:=Cb t fun c hc=>(h c hc).l9
 unfold cC;rw [decide_eq_true hl,decide_eq_true (by omega:eG t≤2147483647),List.all_eq_true.2 fun c hc=>(h c hc).ok];rfl
open Go.RowKit
set_option maxRecDepth 4000
end Go.Proofs.YtbfnemkngoaeeaaGreat
