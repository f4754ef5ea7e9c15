/- Proved here: What the frames of a film are, in plain Lean; conditions stand in each theorem. -/
import Derived.Test.YtbfnemkngoaeeaaGreatQ15
import Derived.Test.YtbfnemkngoaeeaaGreatQ16
import Derived.Test.YtbfnemkngoaeeaaGreatQ18
set_option linter.unusedSimpArgs false
set_option linter.unusedVariables false
set_option linter.unusedSectionVars false
set_option linter.unnecessarySimpa false
namespace Go.Proofs.YtbfnemkngoaeeaaGreat
open Go.RowKit
set_option maxRecDepth 4000
def aKm (s:SourceR):Nat:=s.pos.den.toNat
def aKk (s:SourceR):Nat:=s.speed.den.toNat
def aR (s:SourceR):Nat:=Nat.lcm (aKm s) (aKk s)
def atS (s:SourceR):Int:=s.pos.num*((aR s / aKm s:Nat):Int)
def mZ (s:SourceR):Int:=s.speed.num*((aR s / aKk s:Nat):Int)
def dB (s:SourceR) (k:Int):Int:=atS s+k*mZ s
def Vm (num den:Int):Int:=((Nat.gcd num.natAbs den.natAbs:Nat):Int)
def dM:ExprR→ExprR
 | .mk op media frame num den param text args=>uG op media frame num den param text args
def jB (op param num den:Int) (a b:ExprR):ExprR := .mk op ⟨#[]⟩ 0 (num / Vm num den) (den / Vm num den) param ⟨#[]⟩ [a,b]
def eQ (R:ExprR→ExprR) (F:SourceR→Int→ExprR) (s:SourceR) (k:Int):ExprR :=
 if s.kind=0 then zeroE
 else if s.smooth=true∧dB s k % (aR s:Int)≠0 then
  R (jB 2 0 (dB s k % (aR s:Int)) (aR s) (F s (dB s k / (aR s:Int))) (F s (dB s k / (aR s:Int)+1)))
 else F s (dB s k / (aR s:Int))
def kJ (R:ExprR→ExprR) (F:SourceR→Int→ExprR) (c:ClipR) (k:Int):ExprR :=
 if c.kind=1 then eQ R F c.a k
 else if c.kind=5 then .mk 5 ⟨#[]⟩ 0 0 0 0 c.text [eQ R F c.a k]
 else if c.kind=4 then R (.mk 4 ⟨#[]⟩ 0 0 0 c.param ⟨#[]⟩ [eQ R F c.a k,eQ R F c.b k])
 else R (jB c.kind c.param (c.off+k+1) (c.total+1) (eQ R F c.a k) (eQ R F c.b k))
def Sk (t:List ClipR) (n:Int):Option (ClipR×Int) :=
 if 0≤n∧(gY t 0 n).2.2=true∧(t.getD (gY t 0 n).1.toNat default).kind≠0 then some (t.getD (gY t 0 n).1.toNat default,(gY t 0 n).2.1) else none
def sP (n:Int):List (List ClipR)→Option (ClipR×Int)
 | []=>none
 | t::ts=>match Sk t n with
  | some r=>some r
  | none=>sP n ts
def uW (p:ProjR) (n:ByteArray):Int:=match nC p.media n with
 | some m=>m.frames
 | none=>0
def kH (p:ProjR) (G:ByteArray→Int→ExprR) (s:SourceR) (i:Int):ExprR :=
 if s.kind=2 then G s.name i
 else if i<0∨uW p s.name≤i then zeroE else .mk 1 s.name i 0 0 0 ⟨#[]⟩ []
def zA (R:ExprR→ExprR) (F:SourceR→Int→ExprR):Option (ClipR×Int)→ExprR
 | some x=>kJ R F x.1 x.2
 | none=>zeroE
def pC (p:ProjR) (n:ByteArray):List (List ClipR):=((bL p.seqs n).getD default).video
def fJ (R:ExprR→ExprR) (p:ProjR):Nat→ByteArray→Int→ExprR
 | 0,_,_=>zeroE
 | d+1,name,n=>zA R (kH p (fJ R p d)) (sP n (pC p name).reverse)
theorem aSq (op:Int) (media:ByteArray) (frame num den param:Int) (text:ByteArray) (a b:ExprR):cQ (.mk op media frame num den param text [a,b])=dM (.mk op media frame num den param text [cQ a,cQ b]):=by
 rw [Fq];rfl
theorem Wr (op param num den:Int) (a b:ExprR):cQ (jB op param num den a b)=dM (jB op param num den (cQ a) (cQ b)):=aSq ..
theorem Bh (F:SourceR→Int→ExprR) (s:SourceR) (k:Int):cQ (eQ id F s k)=eQ dM (fun s i=>cQ (F s i)) s k:=by
 unfold eQ;split
 ·exact nQ
 ·split
  ·rw [id,Wr]
  ·rfl
theorem aSs (F:SourceR→Int→ExprR) (c:ClipR) (k:Int):cQ (kJ id F c k)=kJ dM (fun s i=>cQ (F s i)) c k:=by
 unfold kJ;split
 ·exact Bh ..
 ·split
  ·rw [Fr,Bh]
  ·split
   ·rw [id,aSq,Bh,Bh]
   ·rw [id,Wr,Bh,Bh]
theorem sim_src (n:ByteArray) (i:Int):cQ (.mk 1 n i 0 0 0 ⟨#[]⟩ []) = .mk 1 n i 0 0 0 ⟨#[]⟩ []:=by
 simp only [cQ,uP];rfl
theorem aSr (p:ProjR) (G:ByteArray→Int→ExprR) (s:SourceR) (i:Int):cQ (kH p G s i)=kH p (fun n j=>cQ (G n j)) s i:=by
 unfold kH;split
 ·rfl
 ·split
  ·exact nQ
  ·exact sim_src ..
theorem Jh (p:ProjR):∀ (d:Nat) (name:ByteArray) (n:Int),cQ (fJ id p d name n)=fJ dM p d name n
 | 0,_,_=>nQ
 | d+1,name,n=>by
  unfold fJ;cases sP n (pC p name).reverse with
  | none=>exact nQ
  | some x =>
   unfold zA;rw [aSs];congr 1;funext s i;rw [aSr];congr 1;funext m j;exact Jh p d m j
theorem aSw {n d:Int} (h0 : 0<n) (h1:n<d) (h2:d≤2147483648):zB (n / Vm n d) (d / Vm n d)=true:=by
 obtain ⟨a,rfl⟩:∃ a:Nat,n=a:=⟨n.toNat,by omega⟩
 obtain ⟨b,rfl⟩:∃ b:Nat,d=b:=⟨d.toNat,by omega⟩
 have e:Vm (a:Int) (b:Int)=((Nat.gcd a b:Nat):Int):=by unfold Vm;simp
 rw [e, ← Int.natCast_ediv, ← Int.natCast_ediv];have hg : 0<Nat.gcd a b:=Nat.gcd_pos_of_pos_left _ (by omega);have q1 : 0<a / Nat.gcd a b:=Nat.div_pos (Nat.le_of_dvd (by omega) (Nat.gcd_dvd_left a b)) hg;have q2:a / Nat.gcd a b<b / Nat.gcd a b:=by
  refine Nat.lt_of_mul_lt_mul_left (a:=Nat.gcd a b) ?_;rw [Nat.mul_div_cancel' (Nat.gcd_dvd_left a b),Nat.mul_div_cancel' (Nat.gcd_dvd_right a b)];omega
 have q3:b / Nat.gcd a b≤b:=Nat.div_le_self _ _;have q4:Nat.gcd (a / Nat.gcd a b) (b / Nat.gcd a b)=1:=Nat.gcd_div_gcd_div_gcd_of_pos_left (by omega);unfold zB gD;simp only [Int.natAbs_natCast,q4,Bool.and_eq_true,decide_eq_true_eq];refine ⟨⟨⟨by omega,by omega⟩,by omega⟩,⟨by omega,by omega⟩,?_⟩
 first | trivial | rfl
def Ap (e:ExprR):Prop:=bR e=true∧e.fit
theorem xU:Ap zeroE:=⟨Kt,by simp only [zeroE,ExprR.fit,ExprR.fits,I64,and_true,true_and];omega⟩
theorem aPs {a b:Int} (h:zB a b=true) : 0<a∧a<b∧b≤2147483648:=by
 unfold zB at h;simp only [Bool.and_eq_true,decide_eq_true_eq] at h;omega
theorem An {op param n d:Int} {a b:ExprR} (ho:op=2∧param=0∨op=3∧0≤param∧param≤3) (h0 : 0<n) (h1:n<d) (h2:d≤2147483648) (ha:Ap a) (hb:Ap b):Ap (jB op param n d a b):=by
 have hs:=aSw h0 h1 h2;obtain ⟨b1,b2,b3⟩:=aPs hs;refine ⟨qP ?_ ?_,?_⟩
 ·rcases ho with ⟨rfl,rfl⟩ | ⟨rfl,p1,p2⟩
  ·simp [cS,noB,hs]
  ·simp [cS,noB,hs,p1,p2]
 ·intro e he;simp only [List.mem_cons,List.not_mem_nil,or_false] at he;rcases he with rfl | rfl
  ·exact ha.1
  ·exact hb.1
 ·simp only [jB,ExprR.fit,ExprR.fits,I64,and_true];exact ⟨by omega,by omega,by omega,by omega,by omega,ha.2,hb.2⟩
theorem posS_eq {s:SourceR} {p d:Nat} (h:SrcOk s p d) (k:Int):aR s=Nat.lcm p d∧dB s k=numB s k p d:=by
 have e1:aKm s=p:=by unfold aKm;rw [h.hp];rfl
 have e2:aKk s=d:=by unfold aKk;rw [h.hd];rfl
 refine ⟨by unfold aR;rw [e1,e2],?_⟩;unfold dB atS mZ numB aR;rw [e1,e2,Int.mul_assoc]
theorem Ch {s:SourceR} (hv:aY s=true) (h:s.kind≠0):∃ p d,SrcOk s p d:=yX hv (by
 cases hz:s.isZ with
 | false=>rfl
 | true=>exact absurd (Gw hz) h)
theorem Ym {F:SourceR→Int→ExprR} {s:SourceR} {k:Int} (hv:aY s=true) (hF:s.kind≠0 → ∀ i,Ap (F s i)):Ap (eQ id F s k):=by
 unfold eQ;split
 ·exact xU
 ·rename_i hk;split
  ·rename_i hs;obtain ⟨p,d,ok⟩:=Ch hv hk;obtain ⟨e1,e2⟩:=posS_eq ok k;have hb : 0<aR s:=by rw [e1];exact Nat.lcm_pos ok.p1 ok.d1
   have hb2:aR s≤65536:=by rw [e1];exact ok.lcm
   have r1:=Int.emod_nonneg (dB s k) (show (aR s:Int)≠0 by omega);have r2:=Int.emod_lt_of_pos (dB s k) (show (0:Int)<aR s by omega);exact An (.inl ⟨rfl,rfl⟩) (by omega) r2 (by omega) (hF hk _) (hF hk _)
  ·exact hF hk _
theorem aKb {F:SourceR→Int→ExprR} {c:ClipR} {k:Int} (hv:bB c=true) (h0:c.kind≠0) (hk : 0≤k∧k<c.len) (hF:∀ s:SourceR,(s=c.a∨s=c.b)→s.kind≠0 → ∀ i,Ap (F s i)):Ap (kJ id F c k):=by
 obtain ⟨va,vb⟩:=rF hv;have ga:=Ym (k:=k) va (hF c.a (.inl rfl));have gb:=Ym (k:=k) vb (hF c.b (.inr rfl));unfold bB cD at hv;rw [Bool.and_eq_true] at hv;obtain ⟨hb,hv⟩:=hv;unfold nN at hb;simp only [Bool.and_eq_true,decide_eq_true_eq] at hb;rw [if_neg h0] at hv;unfold kJ;split
 ·exact ga
 ·rename_i h1;rw [if_neg h1] at hv;split
  ·rename_i h5;rw [if_neg (by omega),if_neg (by omega),if_neg (by omega),if_pos h5] at hv;simp only [Bool.and_eq_true,beq_iff_eq] at hv;refine ⟨qP ?_ ?_,?_⟩
   ·simp [cS,noB,hv.2]
   ·intro e he;simp only [List.mem_cons,List.not_mem_nil,or_false] at he;subst he;exact ga.1
   ·simp only [ExprR.fit,ExprR.fits,I64,and_true];exact ⟨by omega,by omega,by omega,by omega,by omega,ga.2⟩
  ·rename_i h5;split
   ·rename_i h4;rw [if_neg (by omega),if_neg (by omega),if_pos h4] at hv;simp only [Bool.and_eq_true,decide_eq_true_eq] at hv;refine ⟨qP ?_ ?_,?_⟩
    ·simp [cS,noB,hv.1.1.2,hv.1.2]
    ·intro e he;simp only [List.mem_cons,List.not_mem_nil,or_false] at he;rcases he with rfl | rfl
     ·exact ga.1
     ·exact gb.1
    ·have i0:I64 0:=⟨by decide,by decide⟩
     unfold id ExprR.fit;refine ⟨⟨by decide,by decide⟩,i0,i0,i0,⟨by omega,by omega⟩,?_⟩;simp only [ExprR.fits,and_true];exact ⟨ga.2,gb.2⟩
   ·rename_i h4
    by_cases h2:c.kind=2
    ·rw [if_pos h2] at hv;unfold dW at hv;simp only [Bool.and_eq_true,decide_eq_true_eq,beq_iff_eq] at hv;rw [h2];exact An (.inl ⟨rfl,hv.1.2⟩) (by omega) (by omega) (by omega) ga gb
    ·rw [if_neg h2] at hv
     by_cases h3:c.kind=3
     ·rw [if_pos h3] at hv;unfold dW at hv;simp only [Bool.and_eq_true,decide_eq_true_eq,beq_iff_eq] at hv;rw [h3];exact An (.inr ⟨rfl,hv.1.1.2,hv.1.2⟩) (by omega) (by omega) (by omega) ga gb
     ·rw [if_neg h3,if_neg h4,if_neg h5] at hv;cases hv
theorem aKa {p:ProjR} {G:ByteArray→Int→ExprR} {s:SourceR} {i:Int} (hn:aT s.name=true) (hm:∀ m∈p.media,m.frames≤2147483647) (hG:s.kind=2→Ap (G s.name i)):Ap (kH p G s i):=by
 unfold kH;split
 ·rename_i h;exact hG h
 ·split
  ·exact xU
  ·rename_i h;have hf:uW p s.name≤2147483647:=by
    unfold uW;split
    ·rename_i m hm';exact hm m (cV hm').1
    ·decide
   refine ⟨qP ?_ ?_,?_⟩
   ·simp [cS,noB,hn,show 0≤i by omega,show i≤2147483646 by omega]
   ·intro e he;cases he
   ·simp only [ExprR.fit,ExprR.fits,I64,and_true];omega
theorem aV1 {t:List ClipR} {n:Int} {c:ClipR} {k:Int} (hv:∀ c∈t,1≤c.len) (h:Sk t n=some (c,k)):c∈t∧c.kind≠0∧0≤k∧k<c.len:=by
 have key:∀ (l:List ClipR) (i:Nat) (n:Int),(∀ c∈l,1≤c.len)→0≤n→(gY l i n).2.2=true → ∃ j,j<l.length∧(gY l i n).1=((i+j:Nat):Int)∧0≤(gY l i n).2.1∧(gY l i n).2.1<(l.getD j default).len:=by
  intro l
  induction l with
  | nil=>intro i n _ _ h;cases h
  | cons x l ih =>
   intro i n hl hn h;rw [rE] at h ⊢
   by_cases hx:n<x.len
   ·rw [if_pos hx];exact ⟨0,by simp,rfl,hn,by simpa using hx⟩
   ·rw [if_neg hx] at h ⊢;obtain ⟨j,h1,h2,h3,h4⟩:=ih (i+1) (n - x.len) (fun c hc=>hl c (by simp [hc])) (by omega) h;exact ⟨j+1,by simpa using h1,by rw [h2];congr 1;omega,h3,by simpa using h4⟩
 unfold Sk at h;split at h
 ·rename_i hh;obtain ⟨h0,h1,h2⟩:=hh;obtain ⟨j,q1,q2,q3,q4⟩:=key t 0 n hv h0 h1;have e:(gY t 0 n).1.toNat=j:=by omega
  rw [e] at h h2;injection h with h;injection h with h3 h4;subst h3 h4;exact ⟨aW q1,h2,q3,q4⟩
 ·cases h
theorem Fh {n:Int} {c:ClipR} {k:Int}:∀ {l:List (List ClipR)},(∀ t∈l, ∀ c∈t,1≤c.len)→sP n l=some (c,k)→(∃ t∈l,c∈t)∧c.kind≠0∧0≤k∧k<c.len
 | [],_,h=>by cases h
 | t::l,hv,h=>by
  unfold sP at h;split at h
  ·rename_i r hr;injection h with h;subst h;obtain ⟨h1,h2⟩:=aV1 (hv t (by simp)) hr;exact ⟨⟨t,by simp,h1⟩,h2⟩
  ·obtain ⟨⟨t',h1,h2⟩,h3⟩:=Fh (fun t ht=>hv t (by simp [ht])) h;exact ⟨⟨t',by simp [h1],h2⟩,h3⟩
structure FilmOk (p:ProjR):Prop where
 small:dC p=true
 fit:p.fit
 med:∀ m∈p.media,fC m=true
 seq:∀ s∈p.seqs,dU s=true
 compl:∀ s∈p.seqs,kA p s=true
 uniq:(p.media.map MediumR.name).Nodup∧(p.seqs.map SequenceR.name).Nodup
 wk:∀ s∈p.seqs, ¬ Wk p 5 s.name
open Go.RowKit
set_option maxRecDepth 4000
theorem nY {p:ProjR} (hf:p.fit) (h:bT p=0):FilmOk p:=by
 unfold bT at h;split at h
 ·cases h
 ·rename_i a1;split at h
  ·cases h
  ·rename_i a2;split at h
   ·cases h
   ·rename_i a3;split at h
    ·cases h
    ·rename_i a4;split at h
     ·cases h
     ·rename_i a5;split at h
      ·cases h
      ·rename_i a6;rw [Bool.not_eq_false] at a1 a2 a3 a4 a5 a6;have hO:=a2;rw [Bool.and_eq_true,List.all_eq_true,List.all_eq_true] at a2;have hlen:p.seqs.length≤16:=by
        have:=a1;unfold dC at this;simp only [Bool.and_eq_true,decide_eq_true_eq] at this;omega
       refine ⟨a1,hf,a2.1,a2.2,fun s hs=>List.all_eq_true.1 a4 s hs,(Fa p).1 a3,fun s hs hw=>?_⟩;obtain ⟨c1,c2⟩:=Ay hlen (Fs a1 hO a4) p.seqs [] (fun s hs=>hs) (aFq p) (fun _ h=>absurd h (Int.lt_irrefl 0));obtain ⟨e1,e2,e3⟩:=c2 a5;have hv:=e3 s hs;have hd:=List.all_eq_true.1 a6 s hs;unfold At at hd;rw [decide_eq_true_eq] at hd;exact e1.dn _ hv (aNu (by omega) hw)
theorem jY {p:ProjR} {n:ByteArray} {s:SequenceR} (h:bL p.seqs n=some s):s∈p.seqs∧s.name=n:=cV h
theorem wN {p:ProjR} (h:FilmOk p) (n:ByteArray):∀ t∈pC p n,bC t=true ∧ ∀ c∈t,bB c=true:=by
 intro t ht;unfold pC at ht;cases e:bL p.seqs n with
 | none=>rw [e] at ht;cases ht
 | some s =>
  rw [e] at ht;have hs:=h.seq s (jY e).1;have:=sX hs t (List.mem_append_left _ ht);refine ⟨this,fun c hc=>?_⟩;unfold bC at this;simp only [Bool.and_eq_true] at this;exact List.all_eq_true.1 this.1.2 c hc
theorem clip_in {p:ProjR} {n:ByteArray} {t:List ClipR} {c:ClipR} {s:SequenceR} (hs:bL p.seqs n=some s) (ht:t∈s.video) (hc:c∈t):c∈dF s:=by
 unfold dF;exact List.mem_flatten.2 ⟨t,List.mem_append_left _ ht,hc⟩
theorem aUy {p:ProjR} (h:FilmOk p) {n:ByteArray} {s:SequenceR} (hs:bL p.seqs n=some s) {t:List ClipR} (ht:t∈s.video) {c:ClipR} (hc:c∈t) {x:SourceR} (hx:x=c.a∨x=c.b) (hk:x.kind=2) :
  x.name∈eH p n∧(bL p.seqs x.name).isSome=true:=by
 have hcs:=clip_in hs ht hc;constructor
 ·unfold eH;rw [hs];show x.name∈jE s 2
  rw [jG,Xv];refine ⟨x,?_,hk,rfl⟩;unfold kQ Wm;refine List.mem_filter.2 ⟨List.mem_flatMap.2 ⟨c,hcs,by simpa using hx⟩,?_⟩;cases hz:x.isZ with
  | false=>rfl
  | true=>rw [Gw hz] at hk;cases hk
 ·have:=List.all_eq_true.1 (h.compl s (jY hs).1) c hcs;unfold dP at this;rw [Bool.and_eq_true] at this;have hx2:cW p x=true:=by rcases hx with rfl | rfl;exact this.1;exact this.2
  unfold cW at hx2;rw [hk] at hx2;cases e:bL p.seqs x.name with
  | none=>rw [e] at hx2;cases hx2
  | some _=>rfl
theorem Nu {p:ProjR} {d:Nat} {n m:ByteArray} (h : ¬ Wk p (d+1) n) (hm:m∈eH p n) : ¬ Wk p d m:=fun hw=>h ⟨m,hm,hw⟩
theorem aJy {p:ProjR} (h:FilmOk p):∀ m∈p.media,0≤m.frames∧m.frames≤2147483647:=by
 intro m hm;have:=h.med m hm;unfold fC Hn at this;simp only [Bool.and_eq_true,decide_eq_true_eq] at this;omega
theorem Sp {p:ProjR} (h:FilmOk p):∀ (d:Nat) (name:ByteArray) (n:Int),Ap (fJ id p d name n)
 | 0,_,_=>xU
 | d+1,name,n=>by
  unfold fJ;cases e:sP n (pC p name).reverse with
  | none=>exact xU
  | some x =>
   obtain ⟨c,k⟩:=x;obtain ⟨⟨t,ht,hc⟩,h0,hk⟩:=Fh (fun t ht c hc=>(bZ ((wN h name t (List.mem_reverse.1 ht)).2 c hc)).1) e;have hv:=(wN h name t (List.mem_reverse.1 ht)).2 c hc;unfold zA;refine aKb hv h0 hk fun s hs hs0 i=>?_
   obtain ⟨va,vb⟩:=rF hv;have vs:aY s=true:=by rcases hs with rfl | rfl;exact va;exact vb
   obtain ⟨pp,dd,ok⟩:=Ch vs hs0;exact aKa ok.name (fun m hm=>(aJy h m hm).2) fun _=>Sp h d s.name i
open Go.RowKit
set_option maxRecDepth 4000
theorem mem_at0 {α : Type} [Inhabited α] {l:List α} {x : α} (h:x∈l):∃ i,i<l.length∧l.getD i default=x:=by
 obtain ⟨i,hi,rfl⟩:=List.getElem_of_mem h;exact ⟨i,hi,aJ hi⟩
structure Layered (p:ProjR):Prop where
 small:dC p=true
 ok:(p.media.all fC&&p.seqs.all dU)=true
 nm:(p.media.map MediumR.name).Nodup
 ns:(p.seqs.map SequenceR.name).Nodup
 le:p.seqs.length≤5
 m1:∀ j,j<p.seqs.length → ∀ x∈kQ (p.seqs.getD j default),x.kind=1 → ∃ i,i<p.media.length∧(p.media.getD i default).name=x.name
 s2:∀ j,j<p.seqs.length → ∀ x∈kQ (p.seqs.getD j default),x.kind=2 → ∃ i,i<j∧(p.seqs.getD i default).name=x.name
theorem Lx {p:ProjR} (h:Layered p):NetOk p:=by
 refine ⟨h.ns,fun s hs x hx hk=>?_⟩;obtain ⟨j,hj,rfl⟩:=mem_at0 hs;obtain ⟨i,hi,hn⟩:=h.s2 j hj x hx hk;have e:Fv p (p.seqs.getD i default).name=(i:Int):=nK h.ns (by omega);rw [← hn,e];omega
theorem aBf {p:ProjR} (h:Layered p):∀ (d j:Nat),j<p.seqs.length→Wk p d (p.seqs.getD j default).name→d≤j:=by
 intro d
 induction d with
 | zero=>intro j _ _;omega
 | succ d ih =>
  rintro j hj ⟨m,hm,hw⟩;obtain ⟨x,hx,hk,rfl⟩:=(Jz (Lx h) hj).1 hm;obtain ⟨i,hi,hn⟩:=h.s2 j hj x hx hk;rw [← hn] at hw;have:=ih i (by omega) hw;omega
theorem dY {p:ProjR} (h:Layered p):bT p=0:=by
 have hN:=Lx h;have hC:p.seqs.all (yA p)=true:=by
  refine dE (d:=default) fun j hj=>?_
  unfold yA;refine List.all_eq_true.2 fun x hx=>?_
  unfold Pc
  by_cases k1:x.kind=1
  ·obtain ⟨i,hi,hn⟩:=h.m1 j hj x hx k1;have e:aQg p (p.media.getD i default).name=(i:Int):=nK h.nm hi;rw [← hn,e,k1];have : ¬ (i:Int)<0:=by omega
   simp [this]
  ·by_cases k2:x.kind=2
   ·obtain ⟨i,hi,hn⟩:=h.s2 j hj x hx k2;have e:Fv p (p.seqs.getD i default).name=(i:Int):=nK h.ns (by omega);rw [← hn,e,k2];have : ¬ (i:Int)<0:=by omega
    simp [this]
   ·simp [k1,k2]
 have dep:∀ j,j<p.seqs.length→xZ p (j:Int)≤j+1:=fun j hj=>by
  obtain ⟨d1,_,_⟩:=Et hN hj;rcases Nat.lt_or_ge (j+1) (xZ p (j:Int)) with h1 | h1
  ·have:=aBf h (j+1) j hj (d1 (j+1) h1);omega
  ·exact h1
 have hle:=h.le;exact (refSays p).s0 h.small h.ok (fun i hi=>aCs h.nm hi) (fun i hi=>aCr h.ns hi) hC (fun i hi=>by have:=dep i hi;omega) (fun i hi=>by have:=dep i hi;omega)
def tSeq (n:ByteArray) (ts:List (List ClipR)):SequenceR:=⟨n,⟨25,1⟩,16,16,ts,[],[],0⟩
end Go.Proofs.YtbfnemkngoaeeaaGreat
