/- Proved here: Plain laws of moved and shortened clips: they are valid; conditions stand in each theorem. -/
import Derived.Test.YtbfnemkngoaeeaaGreatQ21
import Derived.Test.YtbfnemkngoaeeaaGreatQ23
set_option linter.unusedSimpArgs false
set_option linter.unusedVariables false
set_option linter.unusedSectionVars false
set_option linter.unnecessarySimpa false
namespace Go.Proofs.YtbfnemkngoaeeaaGreat
open Go.RowKit
set_option maxRecDepth 4000
theorem aU2 {s:SourceR} (h:s.isZ=true) (n:Int):eG s n=s:=by unfold eG;rw [if_pos h]
theorem kindOk_cases {c:ClipR} (h:cD c=true):c.kind=0∨c.kind=1∨c.kind=2∨c.kind=3∨c.kind=4∨c.kind=5:=by have:=aBh h;omega
theorem Lz {c d:ClipR} (h:cD c=true) (hk:d.kind=c.kind) (ha:c.a.isZ=true→d.a.isZ=true) (hb:c.b.isZ=true→d.b.isZ=true) (hp:d.param=c.param) (ht:d.text=c.text) (hg:d.gain=c.gain) (hc:d.chan=c.chan)
  (hn:shK c.kind=false→dX c=true→dX d=true) (hs:shK c.kind=true→dW c=true→dW d=true):cD d=true:=by
 rcases kindOk_cases h with e | e | e | e | e | e
 ·rw [aUu e] at h;rw [aUu (hk.trans e),hp,ht,hg,hc];rw [e] at hn hs;simp only [Bool.and_eq_true] at h ⊢;obtain ⟨⟨⟨⟨⟨⟨x1,x2⟩,x3⟩,x4⟩,x5⟩,x6⟩,x7⟩:=h;exact ⟨⟨⟨⟨⟨⟨ha x1,hb x2⟩,hn rfl x3⟩,x4⟩,x5⟩,x6⟩,x7⟩
 ·rw [kind1 e] at h;rw [kind1 (hk.trans e),hp,ht];rw [e] at hn hs;simp only [Bool.and_eq_true] at h ⊢;obtain ⟨⟨⟨x2,x3⟩,x4⟩,x5⟩:=h;exact ⟨⟨⟨hb x2,hn rfl x3⟩,x4⟩,x5⟩
 ·rw [kind2 e] at h;rw [kind2 (hk.trans e),hp,ht];rw [e] at hn hs;simp only [Bool.and_eq_true] at h ⊢;obtain ⟨⟨x3,x4⟩,x5⟩:=h;exact ⟨⟨hs rfl x3,x4⟩,x5⟩
 ·rw [kind3 e] at h;rw [kind3 (hk.trans e),hp,ht];rw [e] at hn hs;simp only [Bool.and_eq_true] at h ⊢;obtain ⟨⟨⟨x3,x4⟩,x5⟩,x6⟩:=h;exact ⟨⟨⟨hs rfl x3,x4⟩,x5⟩,x6⟩
 ·rw [kind4 e] at h;rw [kind4 (hk.trans e),hp,ht];rw [e] at hn hs;simp only [Bool.and_eq_true] at h ⊢;obtain ⟨⟨⟨x3,x4⟩,x5⟩,x6⟩:=h;exact ⟨⟨⟨hn rfl x3,x4⟩,x5⟩,x6⟩
 ·rw [kind5 e] at h;rw [kind5 (hk.trans e),hp,ht];rw [e] at hn hs;simp only [Bool.and_eq_true] at h ⊢;obtain ⟨⟨⟨x2,x3⟩,x4⟩,x5⟩:=h;exact ⟨⟨⟨hb x2,hn rfl x3⟩,x4⟩,x5⟩
theorem aCp {d:ClipR} (h1 : 1≤d.len) (h2:d.len≤2147483647) (h3 : 0≤d.gain) (h4:d.gain≤65536) (h5:gH d.chan=true) (h6:aY d.a=true) (h7:aY d.b=true) (h8:cD d=true):bB d=true:=by
 unfold bB nN;rw [h5,h6,h7,h8,decide_eq_true h1,decide_eq_true h2,decide_eq_true h3,decide_eq_true h4];rfl
theorem Lq {c d:ClipR} (h1:d.off=c.off) (h2:d.total=c.total) (h:dX c=true):dX d=true:=by unfold dX at h ⊢; rw [h1,h2];exact h
theorem aJc {d:ClipR} (h1 : 0≤d.off) (h2:d.len≤d.total) (h3:d.total≤2147483647) (h4:d.off≤d.total - d.len):dW d=true:=by
 unfold dW;rw [decide_eq_true h1,decide_eq_true h2,decide_eq_true h3,decide_eq_true h4];rfl
theorem aDh {c:ClipR} (h:dW c=true) : 0≤c.off∧c.len≤c.total∧c.total≤2147483647∧c.off≤c.total - c.len:=by
 unfold dW at h;simp only [Bool.and_eq_true,decide_eq_true_eq] at h;exact ⟨h.1.1.1,h.1.1.2,h.1.2,h.2⟩
def aJ9 (s:SourceR):Prop:=s.isZ=true∨(s.pos.num.natAbs≤1000000∧s.speed.num.natAbs≤1000000)
open Go.RowKit
set_option maxRecDepth 4000
def pkA (c:ClipR):List ClipR→List ClipR
 | []=>[c]
 | q::l=>if gZ c q=true then pkA { c with len:=c.len+q.len } l else c::pkA q l
def pk:List ClipR→List ClipR
 | []=>[]
 | c::l=>pkA c l
def Src2 (c:ClipR):Prop:=aY c.a=true∧aY c.b=true
theorem src2_of {c:ClipR} (h:bB c=true):Src2 c:=by
 obtain ⟨v1,v2,v3,v4,v5,v6,v7,v8⟩:=eB h;exact ⟨v6,v7⟩
theorem aR9 (c q:ClipR) (m:Int):gZ c { q with len:=m }=gZ c q:=by
 unfold gZ;simp only;split
 ·rfl
 ·unfold ClipR.eqb;simp only [beq_self_eq_true]
theorem Xn {t:List ClipR} (hv:bC t=true) (hfit:∀ c∈t,c.fit):∀ k,1≤k→k≤t.length → ∃ i c,eE t k=i ++ [c]∧pk t=i++pkA c (t.drop k)
 | 0,h,_=>by omega
 | 1,_,hk=>by
  refine ⟨[],t.getD 0 default,?_,?_⟩
  ·rw [eE,if_neg (by simp [Da])];rfl
  ·conv=>lhs;rw [← List.drop_zero (l:=t),Zb (t:=t) (k:=0) (by omega)]
   rfl
 | k+2,_,hk=>by
  obtain ⟨i,c,h1,h2⟩:=Xn hv hfit (k+1) (by omega) (by omega);have hl:=Lk hv hfit (k+1) (by omega) i c h1 (t.getD (k+1) default);have hp:Da t (k+1)=gZ c (t.getD (k+1) default):=by unfold Da;rw [hl,decide_eq_true (by omega : 0<k+1),Bool.true_and]
  rw [Zb (t:=t) (k:=k+1) (by omega),pkA] at h2;rw [eE,hp,h1];split
  ·rename_i hc;rw [if_pos hc] at h2;exact ⟨i,_,mN _ _ _,h2⟩
  ·rename_i hc;rw [if_neg hc] at h2;exact ⟨i ++ [c],_,rfl,by rw [h2];simp⟩
theorem aEh {t:List ClipR} (hv:bC t=true) (hfit:∀ c∈t,c.fit):Qt t=pk t:=by
 cases t with
 | nil=>rfl
 | cons x l =>
  obtain ⟨i,c,h1,h2⟩:=Xn hv hfit (x::l).length (by simp) (Nat.le_refl _);unfold Qt;rw [h1,h2,List.drop_length];rfl
theorem aEe:∀ (l:List ClipR) (c:ClipR), ∃ n r,pkA c l = { c with len:=n }::r
 | [],c=>⟨c.len,[],rfl⟩
 | q::l,c=>by
  rw [pkA];split
  ·obtain ⟨n,r,h⟩:=aEe l { c with len:=c.len+q.len };exact ⟨n,r,h⟩
  ·exact ⟨c.len,_,rfl⟩
theorem aAz:∀ (l:List ClipR) (c:ClipR),bU (pkA c l)=c.len+bU l
 | [],c=>by simp [pkA,bU]
 | q::l,c=>by
  rw [pkA];split
  ·rw [aAz l];simp only [bU];omega
  ·simp only [bU];rw [aAz l q]
theorem Qq:∀ (l:List ClipR) (c:ClipR),(pkA c l).length≤l.length+1
 | [],c=>by simp [pkA]
 | q::l,c=>by
  rw [pkA];split
  ·have:=Qq l { c with len:=c.len+q.len };simp only [List.length_cons];omega
  ·have:=Qq l q;simp only [List.length_cons];omega
def NoC:List ClipR→Prop
 | []=>True
 | [_]=>True
 | c::d::l=>gZ c d=false∧NoC (d::l)
theorem aB0:∀ (l:List ClipR) (c:ClipR),Src2 c→(∀ d∈l,Src2 d)→NoC (pkA c l)
 | [],c,_,_=>trivial
 | q::l,c,hc,hl=>by
  rw [pkA];split
  ·exact aB0 l _ hc fun d hd=>hl d (by simp [hd])
  ·rename_i hn;obtain ⟨n,r,h⟩:=aEe l q;have ih:=aB0 l q (hl q (by simp)) fun d hd=>hl d (by simp [hd])
   rw [h] at ih ⊢;exact ⟨by rw [aR9];simpa using hn,ih⟩
theorem pk_noC {l:List ClipR} (h:∀ d∈l,Src2 d):NoC (pk l):=by
 cases l with
 | nil=>trivial
 | cons c l=>exact aB0 l c (h c (by simp)) fun d hd=>h d (by simp [hd])
theorem pk_tot (l:List ClipR):bU (pk l)=bU l:=by
 cases l with
 | nil=>rfl
 | cons c l=>exact aAz l c
theorem pk_size (l:List ClipR):(pk l).length≤l.length:=by
 cases l with
 | nil=>exact Nat.le_refl _
 | cons c l=>exact Qq l c
theorem aV8 {c:ClipR} (h:bB c=true) (hk:c.kind=0):c=⟨c.len,0,zSource,zSource,0,0,0,⟨#[]⟩,0,[]⟩:=by
 obtain ⟨v1,v2,v3,v4,v5,v6,v7,v8⟩:=eB h;rw [aUu hk] at v8;simp only [Bool.and_eq_true,beq_iff_eq,dX,emp] at v8;obtain ⟨⟨⟨⟨⟨⟨x1,x2⟩,x3⟩,x4⟩,x5⟩,x6⟩,x7⟩:=v8;have y1:=SourceR.eqb_iff.1 x1;have y2:=SourceR.eqb_iff.1 x2;have y5:c.text=⟨#[]⟩:=tE x5;have y7:c.chan = []:=List.length_eq_zero_iff.1 x7;obtain ⟨len,kind,a,b,off,total,param,text,gain,chan⟩:=c;simp only at *;obtain ⟨x3,x3'⟩:=x3;subst hk y1 y2 x3 x3' x4 y5 x6 y7;rfl
theorem aQz (len n:Int):mS ⟨len,0,zSource,zSource,0,0,0,⟨#[]⟩,0,[]⟩ n=⟨len,0,zSource,zSource,0,0,0,⟨#[]⟩,0,[]⟩:=by
 unfold mS;simp only [aU2 (s:=zSource) (by kernel_rfl)];rfl
theorem Zf {c q:ClipR} (hc:bB c=true) (hq:bB q=true):gZ c q=true ↔ q = { mS c c.len with len:=q.len }:=by
 unfold gZ;split
 ·rename_i hk;simp only [Bool.and_eq_true,beq_iff_eq] at hk;have e1:=aV8 hc hk.1;have e2:=aV8 hq hk.2;constructor
  ·intro _;rw [e1,aQz];exact e2
  ·intro _;rfl
 ·rw [ClipR.eqb_iff]
theorem aMy {c q:ClipR} (hc:bB c=true) (hq:bB q=true) (h:gZ c q=true) (hl:c.len+q.len≤2147483647):bB { c with len:=c.len+q.len }=true:=by
 have e:=(Zf hc hq).1 h;obtain ⟨v1,v2,v3,v4,v5,v6,v7,v8⟩:=eB hc;obtain ⟨w1,w2,w3,w4,w5,w6,w7,w8⟩:=eB hq;refine aCp (by show 1≤c.len+q.len;omega) hl v3 v4 v5 v6 v7 ?_;refine Lz v8 rfl (fun h=>h) (fun h=>h) rfl rfl rfl rfl (fun hs hn=>Lq rfl rfl hn) (fun hs hn=>?_);obtain ⟨s1,s2,s3,s4⟩:=aDh hn;have e1:q.off=c.off+c.len:=by
  rw [e];show (if shK c.kind=true then _ else _)=_
  rw [hs];rfl
 have e2:q.total=c.total:=by rw [e];rfl
 have ek:q.kind=c.kind:=by rw [e];rfl
 have:=Wu hq (by rw [ek];exact hs);refine aJc s1 ?_ s3 ?_<;>simp only<;>omega
theorem fit_len {c:ClipR} (h:c.fit) {n:Int} (h0 : 0≤n) (h1:n≤2147483647):({ c with len:=n }:ClipR).fit:=⟨⟨by simp only;omega,by simp only;omega⟩,h.kind,h.a,h.b,h.off,h.total,h.param,h.gain⟩
theorem aJs:∀ (l:List ClipR) (c:ClipR),(bB c=true∧c.fit)→(∀ d∈l,bB d=true∧d.fit)→c.len+bU l≤2147483647 → ∀ d∈pkA c l,bB d=true∧d.fit
 | [],c,hc,_,_,d,hd=>by
  simp only [pkA,List.mem_cons,List.not_mem_nil,or_false] at hd;rw [hd];exact hc
 | q::l,c,hc,hl,ht,d,hd=>by
  have hq:=hl q (by simp);have hl2:∀ d∈l,bB d=true∧d.fit:=fun d hd=>hl d (by simp [hd])
  have h0:=gU l fun d hd=>(bZ (hl2 d hd).1).1
  have hc1:=bZ hc.1;have hq1:=bZ hq.1;simp only [bU] at ht;rw [pkA] at hd;split at hd
  ·rename_i hcc;exact aJs l _ ⟨aMy hc.1 hq.1 hcc (by omega),fit_len hc.2 (by omega) (by omega)⟩ hl2 (by simp only;omega) d hd
  ·rcases List.mem_cons.1 hd with hd | hd
   ·rw [hd];exact hc
   ·exact aJs l q hq hl2 (by omega) d hd
theorem Vw {t:List ClipR} (h1:t.length≤64) (h2:∀ c∈t,bB c=true) (h3:bU t≤2147483647):bC t=true:=by
 unfold bC;rw [decide_eq_true h1,decide_eq_true h3,List.all_eq_true.2 h2];rfl
theorem pk_ok {t:List ClipR} (h:∀ d∈t,bB d=true∧d.fit) (ht:bU t≤2147483647):∀ d∈pk t,bB d=true∧d.fit:=by
 cases t with
 | nil=>intro d hd;simp [pk] at hd
 | cons c l=>exact aJs l c (h c (by simp)) (fun d hd=>h d (by simp [hd])) (by simpa [bU] using ht)
section
variable {t:List ClipR} (hv:bC t=true) (hfit:∀ c∈t,c.fit)
include hv hfit
theorem aNr:∀ d∈t,bB d=true∧d.fit:=fun d hd=>⟨(jX hv).2.1 d hd,hfit d hd⟩
theorem Qs:pN t=pk t:=by unfold pN;rw [if_pos hv,aEh hv hfit]
theorem aEg:bC (pN t)=true:=by
 rw [Qs hv hfit];obtain ⟨h1,h2,h3⟩:=jX hv;exact Vw (Nat.le_trans (pk_size t) h1) (fun c hc=>(pk_ok (aNr hv hfit) h3 c hc).1) (by rw [pk_tot];exact h3)
theorem aTm:∀ c∈pN t,c.fit:=by
 rw [Qs hv hfit];exact fun c hc=>(pk_ok (aNr hv hfit) (jX hv).2.2 c hc).2
end
theorem aGq (o:List ClipR):∃ k,kX o=o.take k∧o.length≤k+1:=by
 unfold kX;split
 ·exact ⟨o.length - 1,rfl,by omega⟩
 ·exact ⟨o.length,by rw [List.take_length],by omega⟩
theorem aCy {t:List ClipR} (h:∀ c∈t,1≤c.len) (k:Nat):bU (t.take k)≤bU t:=by
 have e:=tJ (t.take k) (t.drop k);rw [List.take_append_drop] at e;have:=gU (t.drop k) fun c hc=>h c (List.mem_of_mem_drop hc)
 omega
theorem aHp:∀ (l:List ClipR) (k:Nat),NoC l→NoC (l.take k)
 | [],k,_=>by simp [NoC]
 | [c],0,_=>trivial
 | [c],k+1,_=>by simp [NoC]
 | c::d::l,0,_=>trivial
 | c::d::l,1,_=>by simp [NoC]
 | c::d::l,k+2,h=>by
  have ih:=aHp (d::l) (k+1) h.2;simp only [List.take_succ_cons] at ih ⊢;exact ⟨h.1,ih⟩
theorem aNv:∀ (l:List ClipR) (c d:ClipR),NoC (l ++ [c,d])→gZ c d=false
 | [],c,d,h=>h.1
 | [x],c,d,h=>h.2.1
 | x::y::l,c,d,h=>aNv (y::l) c d h.2
theorem xV (i:List ClipR) (c:ClipR):nG (i ++ [c])=(c.kind==0):=by
 unfold nG;have:(i ++ [c]).length - 1=i.length:=by simp
 rw [this,Yp];simp
theorem aGp {o:List ClipR} (h:NoC o):nG (kX o)=false∧NoC (kX o):=by
 cases hg:nG o with
 | false =>
  have e:kX o=o:=by unfold kX;rw [hg];rfl
  rw [e];exact ⟨hg,h⟩
 | true =>
  have e:kX o=o.take (o.length - 1):=by unfold kX;rw [if_pos hg]
  rw [e];refine ⟨?_,aHp _ _ h⟩;rcases List.eq_nil_or_concat o with rfl | ⟨i,c,rfl⟩
  ·rfl
  ·rw [List.concat_eq_append] at *;rw [xV] at hg;have e2:(i ++ [c]).take ((i ++ [c]).length - 1)=i:=by simp
   rw [e2];rcases List.eq_nil_or_concat i with rfl | ⟨j,d,rfl⟩
   ·rfl
   ·rw [List.concat_eq_append] at *;rw [xV];have h3:=aNv j d c (by simpa using h);rw [Bool.eq_false_iff];intro hd;unfold gZ at h3;rw [if_pos (by rw [hd,hg];rfl)] at h3;cases h3
theorem aVz {o:List ClipR} (h:nG o=false):kX o=o:=by unfold kX;rw [h];rfl
section
variable {t:List ClipR} (hv:bC t=true) (hfit:∀ c∈t,c.fit)
include hv hfit
theorem Xq:∃ k,jU t=(pN t).take k∧(pN t).length≤k+1:=aGq _
theorem aEv:∀ c∈jU t,c.fit:=by
 obtain ⟨k,e,_⟩:=Xq hv hfit;rw [e];exact fun c hc=>aTm hv hfit c (List.mem_of_mem_take hc)
theorem zS:bC (jU t)=true:=by
 obtain ⟨k,e,_⟩:=Xq hv hfit;obtain ⟨h1,h2,h3⟩:=jX (aEg hv hfit);rw [e];refine Vw (by simp only [List.length_take];omega) (fun c hc=>h2 c (List.mem_of_mem_take hc)) ?_;have:=aCy (t:=pN t) (fun c hc=>(bZ (h2 c hc)).1) k;omega
theorem aJx:nG (jU t)=false∧NoC (jU t):=by
 refine aGp ?_;rw [Qs hv hfit];exact pk_noC fun d hd=>src2_of ((jX hv).2.1 d hd)
end
open Go.RowKit
set_option maxRecDepth 4000
def Us (s:SourceR):Prop:=s.pos.num.natAbs≤100000∧s.pos.den.natAbs≤100000∧s.speed.num.natAbs≤100000
theorem Fp:Us zSource:=⟨by decide,by decide,by decide⟩
theorem Lg {r q:RatR} (h:Xf r q=true) {kd:Int} {nm:ByteArray} {sm:Bool}:Us ⟨kd,nm,r,q,sm⟩:=by
 unfold Xf at h;simp only [Bool.and_eq_true,decide_eq_true_eq] at h;exact ⟨h.1.1.1.2,h.1.1.2,h.1.2⟩
theorem Ky (L:List Int) (k:Nat) (m s:Int):Us (bE L k m s).1:=by
 unfold bE;split
 ·exact Fp
 ·split
  ·exact Lg (Fj L _ _)
  ·split
   ·exact Lg (Fj L _ _)
   ·exact Fp
theorem yB (L:List Int) (k:Nat) (m s:Int):Us (cE L k m s).1.a∧Us (cE L k m s).1.b∧1≤(cE L k m s).1.len∧(cE L k m s).1.len≤9:=by
 have n9:=aE (L:=L) (k:=k) (n:=9) (by omega);have hl : 1≤1+aA L k 9∧1+aA L k 9≤9:=by omega
 have h1:=Ky L (k+2) m s;have h2:=Ky L (bE L (k+2) m s).2 m s;unfold cE;simp only;split
 ·exact ⟨Fp,Fp,hl⟩
 ·split
  ·split<;>exact ⟨h1,h2,hl⟩
  ·split
   ·exact ⟨h1,h2,hl⟩
   ·split<;>exact ⟨h1,Fp,hl⟩
def one1:RatR:=⟨1,1⟩
def Jf (c:ClipR):Bool:=(c.kind != 2)&&(c.kind != 3)&&c.a.speed.eqb one1&&c.b.isZ
def fX (c:ClipR) (n:Int):ClipR := { c with len:=n,a := { c.a with pos := { c.a.pos with num:=c.a.pos.num+c.len*c.a.pos.den } } }
def fB (L:List Int) (k:Nat) (m s:Int):List ClipR×Nat :=
 if aA L (cE L k m s).2 4=0 then
  (if Jf (cE L k m s).1=true then [(cE L k m s).1,fX (cE L k m s).1 (1+aA L ((cE L k m s).2+1) 4)] else [(cE L k m s).1],(cE L k m s).2+2)
 else ([(cE L k m s).1],(cE L k m s).2+1)
def qH (L:List Int) (m s:Int):Nat→Nat→List ClipR×Nat
 | 0,k=>([],k)
 | n+1,k=>((fB L k m s).1++(qH L m s n (fB L k m s).2).1,(qH L m s n (fB L k m s).2).2)
def fH (L:List Int) (k:Nat) (m s most:Int):List ClipR×Nat:=qH L m s (aA L k (most+1)).toNat (k+1)
def trackT (L:List Int):List ClipR:=(fH L 0 3 2 9).1
structure Nice (c:ClipR):Prop where
 ok:bB c=true
 fit:c.fit
 sa:aJ9 c.a
 sb:aJ9 c.b
 l9:c.len≤9
 chan:c.chan = []
theorem aLr {s:SourceR} (h:Us s):aJ9 s := .inr ⟨by have:=h.1;omega,by have:=h.2.2;omega⟩
theorem aGn (L:List Int) (k:Nat) (m s:Int) (hm:m≤9) (hs:s≤9):Nice (cE L k m s).1:=by
 obtain ⟨h1,h2⟩:=aRa L k m s hm hs;obtain ⟨h3,h4,h5,h6⟩:=yB L k m s;exact ⟨h1,h2,aLr h3,aLr h4,h6,Mg L k m s⟩
theorem aJ4 {c:ClipR} (h:Jf c=true):c.kind≠2∧c.kind≠3∧c.a.speed=one1∧c.b.isZ=true:=by
 unfold Jf at h;simp only [Bool.and_eq_true,bne_iff_ne,ne_eq] at h;obtain ⟨⟨⟨h1,h2⟩,h3⟩,h4⟩:=h;refine ⟨h1,h2,?_,h4⟩;unfold RatR.eqb at h3;simp only [Bool.and_eq_true,beq_iff_eq] at h3;cases hsp:c.a.speed with
 | mk n d =>
  rw [hsp] at h3;obtain ⟨h5,h6⟩:=h3;simp only [one1] at h5 h6;rw [h5,h6];rfl
theorem aJ3 {c:ClipR} (h:Nice c) (hs:Us c.a) (hb:Jf c=true) {n:Int} (n0 : 1≤n) (n1:n≤4):Nice (fX c n):=by
 obtain ⟨k2,k3,hsp,hbz⟩:=aJ4 hb;obtain ⟨v1,v2,v3,v4,v5,v6,v7,v8⟩:=eB h.ok;have hz:c.a.isZ=false:=by
  rw [Bool.eq_false_iff];intro hz;have e:=SourceR.eqb_iff.1 hz;rw [e] at hsp;cases hsp
 obtain ⟨p,d,ok⟩:=yX v6 hz;obtain ⟨q1,q2,q3⟩:=hs;have hl9:=h.l9;have hp:=ok.hp;have p1:=ok.p1;have hpd:c.a.pos.den.natAbs=p:=by rw [hp,Int.natAbs_natCast]
 rw [hpd] at q2;have hb1 : 0≤c.len*c.a.pos.den∧c.len*c.a.pos.den≤900000:=by
  rw [hp];have:c.len*(p:Int)≤9*100000:=Int.mul_le_mul (by omega) (by omega) (by omega) (by omega);exact ⟨Int.mul_nonneg (by omega) (by omega),by omega⟩
 have hk:c.a.kind≠0:=by rcases ok.kind with h | h<;>omega
 have hz2:(fX c n).a.isZ=false:=Ah hk;have hg:Nat.gcd (c.a.pos.num+c.len*c.a.pos.den).natAbs c.a.pos.den.natAbs=1:=by
  have h1:=ok.pos;unfold gD at h1;simp only [Bool.and_eq_true,decide_eq_true_eq] at h1;have h2:Int.gcd (c.a.pos.num+c.len*c.a.pos.den) c.a.pos.den=Int.gcd c.a.pos.num c.a.pos.den:=Int.gcd_add_mul_right_left _ _ _;exact h2.trans h1.2
 have hva:aY (fX c n).a=true:=by
  unfold aY;rw [hz2];have e1:gD (fX c n).a.pos=true:=by
   unfold gD;have f1 : 1≤(fX c n).a.pos.den:=by show 1≤c.a.pos.den;omega
   have f2 : -9223372036854775808<(fX c n).a.pos.num:=by show _<c.a.pos.num+c.len*c.a.pos.den;omega
   rw [decide_eq_true f1,decide_eq_true f2];exact decide_eq_true hg
  have e2:pD (fX c n).a.pos 1099511627776=true:=by
   unfold pD;refine decide_eq_true ?_;show ((c.a.pos.num+c.len*c.a.pos.den).natAbs:Int)≤1099511627776*c.a.pos.den
   omega
  have e3:decide (aBe (fX c n).a≤65536)=true:=by
   have:aBe (fX c n).a=Nat.lcm p d:=by unfold aBe fX;simp only;rw [hpd,ok.hd,Int.natAbs_natCast]
   rw [this];exact decide_eq_true ok.lcm
  have e4:gD (fX c n).a.speed=true:=ok.speed;have e5:pD (fX c n).a.speed 1024=true:=ok.wspeed;have e6:aT (fX c n).a.name=true:=ok.name;rw [e1,e2,e3,e4,e5,e6];have e7:(fX c n).a.kind=1∨(fX c n).a.kind=2:=ok.kind;rcases e7 with h | h<;>simp [h]
 have hok:bB (fX c n)=true:=by
  refine aCp n0 (by show n≤_;omega) v3 v4 v5 hva v7 ?_;refine Lz v8 rfl (fun h=>?_) (fun h=>h) rfl rfl rfl rfl (fun hs hn=>Lq (c:=c) rfl rfl hn) (fun hs hn=>?_)
  ·rw [hz] at h;cases h
  ·unfold shK at hs;have:c.kind=2∨c.kind=3:=by simpa using hs
   omega
 refine ⟨hok,⟨⟨by show _≤n;omega,by show n≤_;omega⟩,h.fit.kind,⟨h.fit.a.kind,⟨⟨?_,?_⟩,h.fit.a.pos.den⟩,h.fit.a.speed⟩,h.fit.b,h.fit.off,h.fit.total,h.fit.param,h.fit.gain⟩, .inr ⟨?_,?_⟩,h.sb,by show n≤9;omega,h.chan⟩
 ·show _≤c.a.pos.num+c.len*c.a.pos.den;omega
 ·show c.a.pos.num+c.len*c.a.pos.den≤_;omega
 ·show (c.a.pos.num+c.len*c.a.pos.den).natAbs≤_;omega
 ·show c.a.speed.num.natAbs≤_;omega
theorem vE (L:List Int) (k:Nat) (m s:Int) (hm:m≤9) (hs:s≤9):(∀ c∈(fB L k m s).1,Nice c)∧(fB L k m s).1.length≤2∧(fB L k m s).2≤k+19∧1≤(fB L k m s).1.length:=by
 have h1:=aGn L k m s hm hs;have h2:=(yB L k m s).1;have h3:=Zg L k m s;have h4:=aE (L:=L) (k:=(cE L k m s).2+1) (n:=4) (by omega);unfold fB;split
 ·split
  ·rename_i hb;refine ⟨fun c hc=>?_,by simp,by simp only;omega,by simp⟩;simp only [List.mem_cons,List.not_mem_nil,or_false] at hc;rcases hc with rfl | rfl
   ·exact h1
   ·exact aJ3 h1 h2 hb (by omega) (by omega)
  ·refine ⟨fun c hc=>?_,by simp,by simp only;omega,by simp⟩;simp only [List.mem_cons,List.not_mem_nil,or_false] at hc;rw [hc];exact h1
 ·refine ⟨fun c hc=>?_,by simp,by simp only;omega,by simp⟩;simp only [List.mem_cons,List.not_mem_nil,or_false] at hc;rw [hc];exact h1
theorem Kw (L:List Int) (m s:Int) (hm:m≤9) (hs:s≤9):∀ (n k:Nat),(∀ c∈(qH L m s n k).1,Nice c)∧(qH L m s n k).1.length≤2*n
 | 0,k=>⟨fun c hc=>by simp [qH] at hc,by simp [qH]⟩
 | n+1,k=>by
  obtain ⟨h1,h2⟩:=Kw L m s hm hs n (fB L k m s).2;obtain ⟨h3,h4,_,_⟩:=vE L k m s hm hs;simp only [qH];refine ⟨fun c hc=>?_,by simp only [List.length_append];omega⟩;rcases List.mem_append.1 hc with hc | hc
  ·exact h3 c hc
  ·exact h1 c hc
theorem Jc:∀ (l:List ClipR),(∀ c∈l,c.len≤9)→bU l≤9*l.length
 | [],_=>by simp [bU]
 | c::l,h=>by
  have h1:=Jc l fun d hd=>h d (by simp [hd])
  have h2:=h c (by simp);simp only [bU,List.length_cons];omega
theorem aCx (L:List Int) (k:Nat) (m s most:Int) (hm:m≤9) (hs:s≤9) (h0 : 0≤most) (h9:most≤9):(∀ c∈(fH L k m s most).1,Nice c)∧(fH L k m s most).1.length≤18:=by
 obtain ⟨h1,h2⟩:=Kw L m s hm hs (aA L k (most+1)).toNat (k+1);have h3:=aE (L:=L) (k:=k) (n:=most+1) (by omega);exact ⟨h1,by unfold fH;omega⟩
theorem aCm {t:List ClipR} (h:∀ c∈t,Nice c) (hl:t.length≤64):bC t=true:=by
 have h1:=Jc t fun c hc=>(h c hc).l9
 unfold bC;rw [decide_eq_true hl,decide_eq_true (by omega:bU t≤2147483647),List.all_eq_true.2 fun c hc=>(h c hc).ok];rfl
open Go.RowKit
set_option maxRecDepth 4000
theorem aX7 {c:ClipR} (hv:bB c=true) (n m:Int):Ur (Ur c n) m=Ur c (n+m):=by
 obtain ⟨v1,v2,v3,v4,v5,v6,v7,v8⟩:=eB hv;unfold Ur;simp only [xF v6,xF v7];have e:c.len - n - m=c.len - (n+m):=by omega
 rw [e];cases hs:shK c.kind with
 | true=>simp only [if_true];congr 1;omega
 | false=>simp only [Bool.false_eq_true,if_false]
end Go.Proofs.YtbfnemkngoaeeaaGreat
