/- Proved here: The clips that a tape gives, as functions. -/
import Derived.Test.YtbfnemkngoaeeaaGreatQ07
set_option linter.unusedSimpArgs false
set_option linter.unusedVariables false
set_option linter.unusedSectionVars false
set_option linter.unnecessarySimpa false
namespace Go.Proofs.YtbfnemkngoaeeaaGreat
open Go.RowKit
set_option maxRecDepth 4000
def bG (L:List Int) (k:Nat) (m s:Int):SourceR×Nat :=
 if (aB L k 8==0||m+s==0)=true then (zSource,k+1)
 else if ((aB L k 8==1||m==0)&&decide (s > 0))=true then
  (⟨2,cX ⟨#[115]⟩ (aB L (k+5) s),Nk L (k+1) 40,pW L (k+3),aB L (k+4) 5==0⟩,k+6)
 else if 0<m then (⟨1,cX ⟨#[109]⟩ (aB L (k+5) m),Nk L (k+1) 40,pW L (k+3),aB L (k+4) 5==0⟩,k+6)
 else (zSource,k+5)
theorem fM (L:List Int) (k:Nat) (m s:Int):(bG L k m s).2≤k+6:=by
 unfold bG;split
 ·simp
 ·split
  ·simp
  ·split<;>simp
theorem qA (L:List Int) (k:Nat) (m s:Int) (hk:k≤900000) (hm : 0≤m∧m≤9) (hs : 0≤s∧s≤9) :
  xB Tryz.prog 99 [.t (bS L),aA k] [aA m,aA s] (kW (bG L k m s).1) [.t (bS L),aA ((bG L k m s).2:Int)]:=by
 refine pZ Tryz.X99 Tryz.func99 rfl Tryz.ntmps99 (by rw [Tryz.results99]) (aC _ ?_);simp only [go_sem,simprocAttr];refine aH (bD L k 8 (by omega) (by omega) (by omega)) rfl rfl rfl ?_;simp only [go_sem,simprocAttr,wrap64 (x:=m+s) (by omega) (by omega)];have n8:=aD (L:=L) (k:=k) (n:=8) (by omega);refine ⟨fun h0=>?_,fun h0=>?_⟩
 ·unfold awS;simp only [go_sem,simprocAttr];have e:bG L k m s=(zSource,k+1):=by unfold bG;rw [if_pos h0]
  rw [e];exact ⟨rfl,rfl⟩
 ·have h0' : ¬ (aB L k 8==0||m+s==0)=true:=by rw [h0];simp
  unfold awS;simp only [go_sem,simprocAttr];refine aH (cRatT L (k+1) 40 (by omega) (by omega) (by omega)) rfl rfl rfl ?_;simp only [go_sem,simprocAttr];refine aH (aSe L (k+1+2) (by omega)) rfl rfl rfl ?_;simp only [go_sem,simprocAttr];refine aH (bD L (k+1+2+1) 5 (by omega) (by omega) (by omega)) rfl rfl rfl ?_;simp only [go_sem,simprocAttr];refine ⟨fun h1=>?_,fun h1=>?_⟩
  ·have hs0 : 0<s:=by simp only [Bool.and_eq_true,decide_eq_true_eq] at h1;exact h1.2
   unfold awS;simp only [go_sem,simprocAttr];refine aH (bD L (k+1+2+1+1) s (by omega) (by omega) (by omega)) rfl rfl rfl ?_;have ns:=aD (L:=L) (k:=k+1+2+1+1) (n:=s) (by omega);simp only [go_sem,simprocAttr];refine ⟨_,aJu ⟨#[115]⟩ (aB L (k+1+2+1+1) s) ns.1 (by omega) (by decide),?_⟩;simp only [go_sem,simprocAttr];unfold bG;rw [if_neg h0',if_pos h1];exact ⟨rfl,rfl⟩
  ·have h1' : ¬ ((aB L k 8==1||m==0)&&decide (s > 0))=true:=by rw [h1];simp
   unfold awS;simp only [go_sem,simprocAttr];refine ⟨fun h2=>?_,fun h2=>?_⟩
   ·have hm0 : 0<m:=by simpa using h2
    unfold awS;simp only [go_sem,simprocAttr];refine aH (bD L (k+1+2+1+1) m (by omega) (by omega) (by omega)) rfl rfl rfl ?_;have ns:=aD (L:=L) (k:=k+1+2+1+1) (n:=m) (by omega);simp only [go_sem,simprocAttr];refine ⟨_,aJu ⟨#[109]⟩ (aB L (k+1+2+1+1) m) ns.1 (by omega) (by decide),?_⟩;simp only [go_sem,simprocAttr];unfold bG;rw [if_neg h0',if_neg h1',if_pos hm0];exact ⟨rfl,rfl⟩
   ·have hm0 : ¬ 0<m:=by simpa using h2
    unfold awS;simp only [go_sem,simprocAttr];unfold bG;rw [if_neg h0',if_neg h1',if_neg hm0];exact ⟨rfl,rfl⟩
def kinds:List Int:=[1,1,1,0,2,3,4,5]
def texts:List ByteArray:=[⟨#[65]⟩,⟨#[82,69,69,76,32,55]⟩,⟨#[116,104,101,32,101,110,100,46]⟩,⟨#[49,50,58,51,48]⟩]
def bQ (L:List Int) (k:Nat) (m s:Int):ClipR×Nat :=
 let len:=1+aB L k 9
 let kind:=kinds.getD (aB L (k+1) 8).toNat 0
 if kind=0 then (⟨len,0,zSource,zSource,0,0,0,⟨#[]⟩,0,[]⟩,k+2)
 else
  let a:=bG L (k+2) m s
  if kind=2∨kind=3 then
   let b:=bG L a.2 m s
   let off:=aB L b.2 3
   let total:=off+len+aB L (b.2+1) 3
   if kind=3 then (⟨len,kind,a.1,b.1,off,total,aB L (b.2+2) 4,⟨#[]⟩,0,[]⟩,b.2+3)
   else (⟨len,kind,a.1,b.1,off,total,0,⟨#[]⟩,0,[]⟩,b.2+2)
  else if kind=4 then
   let b:=bG L a.2 m s
   (⟨len,kind,a.1,b.1,0,0,aB L b.2 256,⟨#[]⟩,0,[]⟩,b.2+1)
  else if kind=5 then (⟨len,kind,a.1,zSource,0,0,0,texts.getD (aB L a.2 4).toNat ⟨#[]⟩,0,[]⟩,a.2+1)
  else (⟨len,kind,a.1,zSource,0,0,0,⟨#[]⟩,0,[]⟩,a.2)
abbrev aE6 (c:ClipR):V := .agg [aA c.len,aA c.kind,aA c.a.kind,bY c.a.name,aA c.a.pos.num,aA c.a.pos.den,aA c.a.speed.num,aA c.a.speed.den,aX c.a.smooth,
 aA c.b.kind,bY c.b.name,aA c.b.pos.num,aA c.b.pos.den,aA c.b.speed.num,aA c.b.speed.den,aX c.b.smooth,aA c.off,aA c.total,aA c.param,bY c.text,aA c.gain, .t (.lit (.slice none 0 0))]
theorem cClipZ (L:List Int) (k:Nat) (m s:Int) (hk:k≤800000) (hm : 0≤m∧m≤9) (hs : 0≤s∧s≤9) :
  xB Tryz.prog 38 [.t (bS L),aA k] [aA m,aA s] (aE6 (bQ L k m s).1) [.t (bS L),aA ((bQ L k m s).2:Int)]:=by
 refine pZ Tryz.X38 Tryz.func38 rfl Tryz.ntmps38 (by rw [Tryz.results38]) (aC _ ?_);simp only [go_sem,simprocAttr];refine aH (bD L k 9 (by omega) (by omega) (by omega)) rfl rfl rfl ?_;have n9:=aD (L:=L) (k:=k) (n:=9) (by omega);simp only [go_sem,simprocAttr,wrap64 (x:=1+aB L k 9) (by omega) (by omega)];refine aH (bD L (k+1) 8 (by omega) (by omega) (by omega)) rfl rfl rfl ?_;have n8:=aD (L:=L) (k:=k+1) (n:=8) (by omega);simp only [go_sem,simprocAttr];refine ⟨⟨by omega,by omega⟩,by omega,?_⟩;obtain ⟨kd,hkd⟩:∃ kd,kinds.getD (aB L (k+1) 8).toNat 0=kd:=⟨_,rfl⟩
 have hkd':=hkd;unfold kinds at hkd';rw [hkd'];have hl0 : 1≤1+aB L k 9∧1+aB L k 9≤9:=by omega
 generalize hlen : 1+aB L k 9=len at hl0;refine ⟨fun h0=>?_,fun h0=>?_⟩
 ·have e0:kd=0:=by simpa using h0
  have e:bQ L k m s=(⟨len,0,zSource,zSource,0,0,0,⟨#[]⟩,0,[]⟩,k+2):=by unfold bQ;simp only [hkd,hlen,e0,if_true]
  rw [e];unfold awS;simp only [go_sem,simprocAttr];rw [e0];try exact ⟨rfl,rfl⟩
 ·have e0 : ¬ kd=0:=by simpa using h0
  unfold awS;simp only [go_sem,simprocAttr];refine aH (qA L (k+2) m s (by omega) hm hs) rfl rfl rfl ?_;obtain ⟨⟨a,ka⟩,ha⟩:∃ a,bG L (k+2) m s=a:=⟨_,rfl⟩
  have hka:=fM L (k+2) m s;rw [ha] at hka ⊢;simp only at hka;have hk5:kd=1∨kd=2∨kd=3∨kd=4∨kd=5:=by
   have:(aB L (k+1) 8).toNat=0∨(aB L (k+1) 8).toNat=1∨(aB L (k+1) 8).toNat=2∨(aB L (k+1) 8).toNat=3∨(aB L (k+1) 8).toNat=4∨(aB L (k+1) 8).toNat=5∨(aB L (k+1) 8).toNat=6∨(aB L (k+1) 8).toNat=7:=by omega
   rcases this with h | h | h | h | h | h | h | h<;>rw [h] at hkd'<;>simp at hkd'<;>omega
  clear hkd';rcases hk5 with rfl | rfl | rfl | rfl | rfl
  ·have e:bQ L k m s=(⟨len,1,a,zSource,0,0,0,⟨#[]⟩,0,[]⟩,ka):=by unfold bQ;simp only [hkd,hlen,ha];first | rfl | simp
   rw [e];simp only [go_sem,simprocAttr]
  ·have e:bQ L k m s=(let b:=bG L ka m s; (⟨len,2,a,b.1,aB L b.2 3,aB L b.2 3+len+aB L (b.2+1) 3,0,⟨#[]⟩,0,[]⟩,b.2+2)):=by unfold bQ;simp only [hkd,hlen,ha];first | rfl | simp
   rw [e];simp only [go_sem,simprocAttr];refine aH (qA L ka m s (by omega) hm hs) rfl rfl rfl ?_;obtain ⟨⟨b,kb⟩,hb⟩:∃ b,bG L ka m s=b:=⟨_,rfl⟩
   have hkb:=fM L ka m s;rw [hb] at hkb ⊢;simp only at hkb;simp only [go_sem,simprocAttr];refine aH (bD L kb 3 (by omega) (by omega) (by omega)) rfl rfl rfl ?_;have o3:=aD (L:=L) (k:=kb) (n:=3) (by omega);simp only [go_sem,simprocAttr];refine aQ 10 .done rfl (by kernel_rfl) (by kernel_rfl) (by decide) ?_;simp only [go_sem,simprocAttr];refine gV (bD L (kb+1) 3 (by omega) (by omega) (by omega)) rfl rfl rfl ?_;have p3:=aD (L:=L) (k:=kb+1) (n:=3) (by omega);simp only [go_sem,simprocAttr,wrap64 (x:=aB L kb 3+len) (by omega) (by omega),wrap64 (x:=aB L kb 3+len+aB L (kb+1) 3) (by omega) (by omega)]
   first | (refine id ?_;kernel_rfl) | (change _=_;kernel_rfl) | rfl
  ·have e:bQ L k m s=(let b:=bG L ka m s; (⟨len,3,a,b.1,aB L b.2 3,aB L b.2 3+len+aB L (b.2+1) 3,aB L (b.2+2) 4,⟨#[]⟩,0,[]⟩,b.2+3)):=by unfold bQ;simp only [hkd,hlen,ha];first | rfl | simp
   rw [e];simp only [go_sem,simprocAttr];refine aH (qA L ka m s (by omega) hm hs) rfl rfl rfl ?_;obtain ⟨⟨b,kb⟩,hb⟩:∃ b,bG L ka m s=b:=⟨_,rfl⟩
   have hkb:=fM L ka m s;rw [hb] at hkb ⊢;simp only at hkb;simp only [go_sem,simprocAttr];refine aH (bD L kb 3 (by omega) (by omega) (by omega)) rfl rfl rfl ?_;have o3:=aD (L:=L) (k:=kb) (n:=3) (by omega);simp only [go_sem,simprocAttr];refine aQ 10 .done rfl (by kernel_rfl) (by kernel_rfl) (by decide) ?_;simp only [go_sem,simprocAttr];refine gV (bD L (kb+1) 3 (by omega) (by omega) (by omega)) rfl rfl rfl ?_;have p3:=aD (L:=L) (k:=kb+1) (n:=3) (by omega);simp only [go_sem,simprocAttr,wrap64 (x:=aB L kb 3+len) (by omega) (by omega),wrap64 (x:=aB L kb 3+len+aB L (kb+1) 3) (by omega) (by omega)];refine ⟨by kernel_rfl,?_⟩;refine aH (bD L (kb+1+1) 4 (by omega) (by omega) (by omega)) rfl rfl rfl ?_;simp only [go_sem,simprocAttr]
  ·have e:bQ L k m s=(let b:=bG L ka m s; (⟨len,4,a,b.1,0,0,aB L b.2 256,⟨#[]⟩,0,[]⟩,b.2+1)):=by unfold bQ;simp only [hkd,hlen,ha];first | rfl | simp
   rw [e];simp only [go_sem,simprocAttr];refine aH (qA L ka m s (by omega) hm hs) rfl rfl rfl ?_;obtain ⟨⟨b,kb⟩,hb⟩:∃ b,bG L ka m s=b:=⟨_,rfl⟩
   have hkb:=fM L ka m s;rw [hb] at hkb ⊢;simp only at hkb;simp only [go_sem,simprocAttr];refine aH (bD L kb 256 (by omega) (by omega) (by omega)) rfl rfl rfl ?_;simp only [go_sem,simprocAttr]
  ·have e:bQ L k m s=(⟨len,5,a,zSource,0,0,0,texts.getD (aB L ka 4).toNat ⟨#[]⟩,0,[]⟩,ka+1):=by unfold bQ;simp only [hkd,hlen,ha];first | rfl | simp
   rw [e];simp only [go_sem,simprocAttr];refine aH (bD L ka 4 (by omega) (by omega) (by omega)) rfl rfl rfl ?_;have t4:=aD (L:=L) (k:=ka) (n:=4) (by omega);simp only [go_sem,simprocAttr];exact ⟨⟨by omega,by omega⟩,by omega,rfl⟩
theorem Jp (L:List Int) (k:Nat) (m s:Int):(bQ L k m s).1.chan = []:=by
 unfold bQ;simp only;split
 ·rfl
 ·split
  ·split<;>rfl
  ·split
   ·rfl
   ·split<;>rfl
theorem Gt (L:List Int) (k:Nat) (m s:Int):(bQ L k m s).2≤k+17:=by
 have h1:=fM L (k+2) m s;have h2:=fM L (bG L (k+2) m s).2 m s;unfold bQ;simp only;split
 ·simp
 ·split
  ·split<;>simp only<;>omega
  ·split
   ·simp only;omega
   ·split<;>simp only<;>omega
theorem aDw {c:ClipR} (h:c.chan = []):∀ (w:World) (E:Env) v,RdV w E (aE6 c) v→RdV w E (mF c) v:=by
 refine aTf ?_;refine ⟨.inl rfl, .inl rfl, .inl rfl, .inl rfl, .inl rfl, .inl rfl, .inl rfl, .inl rfl, .inl rfl, .inl rfl, .inl rfl, .inl rfl, .inl rfl, .inl rfl, .inl rfl, .inl rfl, .inl rfl, .inl rfl, .inl rfl, .inl rfl, .inl rfl, .inr ⟨rfl,1,sS 0,?_⟩,trivial⟩;rw [h];rfl
theorem aJx (L:List Int) (k:Nat) (m s:Int) (hk:k≤800000) (hm : 0≤m∧m≤9) (hs : 0≤s∧s≤9) :
  xB Tryz.prog 38 [.t (bS L),aA k] [aA m,aA s] (mF (bQ L k m s).1) [.t (bS L),aA ((bQ L k m s).2:Int)] :=
 Ky (aDw (Jp L k m s)) (cClipZ L k m s hk hm hs)
open Go.RowKit
set_option maxRecDepth 4000
def Nj (r q:RatR):Bool:=fG r&&fG q&&kH r 1099511627776&&kH q 1024&&decide (Nat.lcm r.den.natAbs q.den.natAbs≤65536)&&decide (r.num.natAbs≤100000)&&decide (r.den.natAbs≤100000)&&decide (q.num.natAbs≤100000)&&decide (q.den.natAbs≤100000)
theorem rat_ok:((List.range 40).all fun p=>(List.range 6).all fun j=>(List.range 9).all fun i=>Nj (ratR (p:Int) (dens.getD j 0)) ⟨(speeds.getD i (0,0)).1,(speeds.getD i (0,0)).2⟩)=true:=by kernel_rfl
theorem name_ok:((List.range 9).all fun i=>dS (cX ⟨#[115]⟩ (i:Int))&&dS (cX ⟨#[109]⟩ (i:Int)))=true:=by kernel_rfl
theorem xW (L:List Int) (k k':Nat):Nj (Nk L k 40) (pW L k')=true:=by
 have h1:=aD (L:=L) (k:=k) (n:=40) (by omega);have h2:=aD (L:=L) (k:=k+1) (n:=6) (by omega);have h3:=aD (L:=L) (k:=k') (n:=9) (by omega);have h:=rat_ok;rw [List.all_eq_true] at h;have h4:=h (aB L k 40).toNat (by simp;omega);rw [List.all_eq_true] at h4;have h5:=h4 (aB L (k+1) 6).toNat (by simp;omega);rw [List.all_eq_true] at h5;have h6:=h5 (aB L k' 9).toNat (by simp;omega);unfold Nk pW;rwa [Int.toNat_of_nonneg h1.1] at h6
theorem zP (i:Int) (h0 : 0≤i) (h1:i<9):dS (cX ⟨#[115]⟩ i)=true∧dS (cX ⟨#[109]⟩ i)=true:=by
 have h:=name_ok;rw [List.all_eq_true] at h;have h4:=h i.toNat (by simp;omega);rw [Int.toNat_of_nonneg h0,Bool.and_eq_true] at h4;exact h4
theorem aNu {kd:Int} {nm:ByteArray} {r q:RatR} {sm:Bool} (hk:kd=1∨kd=2) (hn:dS nm=true) (h:Nj r q=true):aY ⟨kd,nm,r,q,sm⟩=true∧(⟨kd,nm,r,q,sm⟩:SourceR).fit:=by
 unfold Nj at h;simp only [Bool.and_eq_true,decide_eq_true_eq] at h;obtain ⟨⟨⟨⟨⟨⟨⟨⟨h1,h2⟩,h3⟩,h4⟩,h5⟩,h6⟩,h7⟩,h8⟩,h9⟩:=h;refine ⟨?_,?_,⟨⟨?_,?_⟩,⟨?_,?_⟩⟩,⟨⟨?_,?_⟩,⟨?_,?_⟩⟩⟩
 ·unfold aY Qa;simp only [h1,h2,h3,h4,hn,decide_eq_true h5,Bool.and_true];rcases hk with rfl | rfl<;>simp
 ·simp only;rcases hk with rfl | rfl<;>exact ⟨by decide,by decide⟩
 all_goals simp only;omega
theorem Ez:zSource.isZ=true:=by kernel_rfl
theorem Uc:aY zSource=true:=by unfold aY;rw [Ez];rfl
theorem fL (L:List Int) (k:Nat) (m s:Int) (hm:m≤9) (hs:s≤9):aY (bG L k m s).1=true∧(bG L k m s).1.fit:=by
 unfold bG;split
 ·exact ⟨Uc,xN⟩
 ·split
  ·rename_i h1;simp only [Bool.and_eq_true,decide_eq_true_eq] at h1;have:=aD (L:=L) (k:=k+5) (n:=s) (by omega);exact aNu (.inr rfl) (zP _ this.1 (by omega)).1 (xW L _ _)
  ·split
   ·rename_i h1;have:=aD (L:=L) (k:=k+5) (n:=m) (by omega);exact aNu (.inl rfl) (zP _ this.1 (by omega)).2 (xW L _ _)
   ·exact ⟨Uc,xN⟩
theorem text_ok:((List.range 4).all fun i=>nU (texts.getD i ⟨#[]⟩))=true:=by kernel_rfl
theorem bL {n:Int} (h0 : -1000000≤n) (h1:n≤1000000):I64 n:=⟨by omega,by omega⟩
theorem aMh (L:List Int) (k:Nat) (m s:Int) (hm:m≤9) (hs:s≤9):aN (bQ L k m s).1=true∧(bQ L k m s).1.fit:=by
 have n9:=aD (L:=L) (k:=k) (n:=9) (by omega);have n8:=aD (L:=L) (k:=k+1) (n:=8) (by omega);obtain ⟨kd,hkd⟩:∃ kd,kinds.getD (aB L (k+1) 8).toNat 0=kd:=⟨_,rfl⟩
 have hk5:kd=0∨kd=1∨kd=2∨kd=3∨kd=4∨kd=5:=by
  have:(aB L (k+1) 8).toNat=0∨(aB L (k+1) 8).toNat=1∨(aB L (k+1) 8).toNat=2∨(aB L (k+1) 8).toNat=3∨(aB L (k+1) 8).toNat=4∨(aB L (k+1) 8).toNat=5∨(aB L (k+1) 8).toNat=6∨(aB L (k+1) 8).toNat=7:=by omega
  unfold kinds at hkd;rcases this with h | h | h | h | h | h | h | h<;>rw [h] at hkd<;>simp at hkd<;>omega
 obtain ⟨len,hlen⟩:∃ len,1+aB L k 9=len:=⟨_,rfl⟩
 have hl : 1≤len∧len≤9:=by omega
 obtain ⟨va,fa⟩:=fL L (k+2) m s hm hs;obtain ⟨vb,fb⟩:=fL L (bG L (k+2) m s).2 m s hm hs;generalize ha:bG L (k+2) m s=a at va fa vb fb;generalize hb:bG L a.2 m s=b at vb fb;have o3:=aD (L:=L) (k:=b.2) (n:=3) (by omega);have p3:=aD (L:=L) (k:=b.2+1) (n:=3) (by omega);have q4:=aD (L:=L) (k:=b.2+2) (n:=4) (by omega);have q256:=aD (L:=L) (k:=b.2) (n:=256) (by omega);have t4:=aD (L:=L) (k:=a.2) (n:=4) (by omega);have ht:=text_ok;rw [List.all_eq_true] at ht;have ht4:=ht (aB L a.2 4).toNat (by simp;omega);have zz:aY zSource=true:=Uc;have ez:zSource.isZ=true:=Ez;have base:∀ (kk:Int) (x y:SourceR) (o t p:Int) (tx:ByteArray),aY x=true→aY y=true→pR ⟨len,kk,x,y,o,t,p,tx,0,[]⟩=true:=fun kk x y o t p tx hx hy=>by
  unfold pR;simp only [hx,hy,decide_eq_true hl.1,decide_eq_true (by omega:len≤2147483647),Bool.and_true];rfl
 have fit:∀ (kk:Int) (x y:SourceR) (o t p:Int) (tx:ByteArray),x.fit→y.fit → -1000000≤kk→kk≤1000000 → -1000000≤o→o≤1000000 → -1000000≤t→t≤1000000 → -1000000≤p→p≤1000000→(⟨len,kk,x,y,o,t,p,tx,0,[]⟩:ClipR).fit:=fun kk x y o t p tx hx hy h1 h2 h3 h4 h5 h6 h7 h8 =>
  ⟨bL (by simp only;omega) (by simp only;omega),bL h1 h2,hx,hy,bL h3 h4,bL h5 h6,bL h7 h8,i0⟩
 unfold bQ;simp only [hkd,hlen,ha,hb];rcases hk5 with rfl | rfl | rfl | rfl | rfl | rfl
 ·refine ⟨?_,fit _ _ _ _ _ _ _ xN xN (by omega) (by omega) (by omega) (by omega) (by omega) (by omega) (by omega) (by omega)⟩;show aN ⟨len,0,zSource,zSource,0,0,0,⟨#[]⟩,0,[]⟩=true
  unfold aN;rw [base _ _ _ _ _ _ _ zz zz];simp [cF,eN,emp,ez]
 ·refine ⟨?_,fit _ _ _ _ _ _ _ fa xN (by omega) (by omega) (by omega) (by omega) (by omega) (by omega) (by omega) (by omega)⟩;show aN ⟨len,1,a.1,zSource,0,0,0,⟨#[]⟩,0,[]⟩=true
  unfold aN;rw [base _ _ _ _ _ _ _ va zz];simp [cF,eN,emp,ez]
 ·refine ⟨?_,fit _ _ _ _ _ _ _ fa fb (by omega) (by omega) (by omega) (by omega) (by omega) (by omega) (by omega) (by omega)⟩;show aN ⟨len,2,a.1,b.1,_,_,0,⟨#[]⟩,0,[]⟩=true
  unfold aN;rw [base _ _ _ _ _ _ _ va vb];simp [cF,fE,emp];omega
 ·refine ⟨?_,fit _ _ _ _ _ _ _ fa fb (by omega) (by omega) (by omega) (by omega) (by omega) (by omega) (by omega) (by omega)⟩;show aN ⟨len,3,a.1,b.1,_,_,_,⟨#[]⟩,0,[]⟩=true
  unfold aN;rw [base _ _ _ _ _ _ _ va vb];simp [cF,fE,emp];omega
 ·refine ⟨?_,fit _ _ _ _ _ _ _ fa fb (by omega) (by omega) (by omega) (by omega) (by omega) (by omega) (by omega) (by omega)⟩;show aN ⟨len,4,a.1,b.1,0,0,_,⟨#[]⟩,0,[]⟩=true
  unfold aN;rw [base _ _ _ _ _ _ _ va vb];simp [cF,eN,emp];omega
 ·refine ⟨?_,fit _ _ _ _ _ _ _ fa xN (by omega) (by omega) (by omega) (by omega) (by omega) (by omega) (by omega) (by omega)⟩;show aN ⟨len,5,a.1,zSource,0,0,0,_,0,[]⟩=true
  unfold aN;rw [base _ _ _ _ _ _ _ va zz];simp only [cF,ez,ht4];rfl
theorem sK {s:SourceR} (h:s.isZ=true) (n:Int):aR s n=s:=by unfold aR;rw [if_pos h]
theorem rR {s:SourceR} (hv:aY s=true) {n:Int} (hn:n.natAbs≤2147483648) (hp:bU (aR s n)=true):aY (aR s n)=true:=by
 cases hb:s.isZ with
 | true=>rw [sK hb];exact hv
 | false =>
  obtain ⟨p,d,ok⟩:=jN hv hb;obtain ⟨m3,m4⟩:=wL ok hn;have mok:=aCa ok hn;have hms:aR s n = { s with pos:=ofQ (bM s n) }:=by unfold aR;rw [hb];rfl
  have hk:s.kind≠0:=by rcases ok.kind with h | h<;>omega
  have hz:SourceR.isZ { s with pos:=ofQ (bM s n) }=false:=Qh hk;rw [hms] at hp ⊢;unfold bU at hp;rw [hz,Bool.false_or] at hp;have hd2:s.speed.den.natAbs=d:=by rw [ok.hd,Int.natAbs_natCast]
  have hl:Qa { s with pos:=ofQ (bM s n) }≤65536:=by
   unfold Qa;simp only [pX,Int.natAbs_natCast];rw [hd2];exact Nat.le_trans (Nat.le_of_dvd (Nat.lcm_pos ok.p1 ok.d1) (Nat.lcm_dvd m4 (Nat.dvd_lcm_right p d))) ok.lcm
  unfold aY;rw [hz];simp only [ok.name,mok,ok.speed,hp,ok.wspeed,decide_eq_true hl,Bool.and_true,Bool.false_or];rcases ok.kind with h | h<;>simp [h]
theorem kindOk_cases {c:ClipR} (h:cF c=true):c.kind=0∨c.kind=1∨c.kind=2∨c.kind=3∨c.kind=4∨c.kind=5:=by have:=Ze h;omega
theorem tX {c d:ClipR} (h:cF c=true) (hk:d.kind=c.kind) (ha:c.a.isZ=true→d.a.isZ=true) (hb:c.b.isZ=true→d.b.isZ=true) (hp:d.param=c.param) (ht:d.text=c.text) (hg:d.gain=c.gain) (hc:d.chan=c.chan)
  (hn:shK c.kind=false→eN c=true→eN d=true) (hs:shK c.kind=true→fE c=true→fE d=true):cF d=true:=by
 rcases kindOk_cases h with e | e | e | e | e | e
 ·rw [aQx e] at h;rw [aQx (hk.trans e),hp,ht,hg,hc];rw [e] at hn hs;simp only [Bool.and_eq_true] at h ⊢;obtain ⟨⟨⟨⟨⟨⟨x1,x2⟩,x3⟩,x4⟩,x5⟩,x6⟩,x7⟩:=h;exact ⟨⟨⟨⟨⟨⟨ha x1,hb x2⟩,hn rfl x3⟩,x4⟩,x5⟩,x6⟩,x7⟩
 ·rw [kind1 e] at h;rw [kind1 (hk.trans e),hp,ht];rw [e] at hn hs;simp only [Bool.and_eq_true] at h ⊢;obtain ⟨⟨⟨x2,x3⟩,x4⟩,x5⟩:=h;exact ⟨⟨⟨hb x2,hn rfl x3⟩,x4⟩,x5⟩
 ·rw [kind2 e] at h;rw [kind2 (hk.trans e),hp,ht];rw [e] at hn hs;simp only [Bool.and_eq_true] at h ⊢;obtain ⟨⟨x3,x4⟩,x5⟩:=h;exact ⟨⟨hs rfl x3,x4⟩,x5⟩
 ·rw [kind3 e] at h;rw [kind3 (hk.trans e),hp,ht];rw [e] at hn hs;simp only [Bool.and_eq_true] at h ⊢;obtain ⟨⟨⟨x3,x4⟩,x5⟩,x6⟩:=h;exact ⟨⟨⟨hs rfl x3,x4⟩,x5⟩,x6⟩
 ·rw [kind4 e] at h;rw [kind4 (hk.trans e),hp,ht];rw [e] at hn hs;simp only [Bool.and_eq_true] at h ⊢;obtain ⟨⟨⟨x3,x4⟩,x5⟩,x6⟩:=h;exact ⟨⟨⟨hn rfl x3,x4⟩,x5⟩,x6⟩
 ·rw [kind5 e] at h;rw [kind5 (hk.trans e),hp,ht];rw [e] at hn hs;simp only [Bool.and_eq_true] at h ⊢;obtain ⟨⟨⟨x2,x3⟩,x4⟩,x5⟩:=h;exact ⟨⟨⟨hb x2,hn rfl x3⟩,x4⟩,x5⟩
theorem Cy {d:ClipR} (h1 : 1≤d.len) (h2:d.len≤2147483647) (h3 : 0≤d.gain) (h4:d.gain≤65536) (h5:fU d.chan=true) (h6:aY d.a=true) (h7:aY d.b=true) (h8:cF d=true):aN d=true:=by
 unfold aN pR;rw [h5,h6,h7,h8,decide_eq_true h1,decide_eq_true h2,decide_eq_true h3,decide_eq_true h4];rfl
theorem tS {c d:ClipR} (h1:d.off=c.off) (h2:d.total=c.total) (h:eN c=true):eN d=true:=by unfold eN at h ⊢; rw [h1,h2];exact h
theorem Bx {d:ClipR} (h1 : 0≤d.off) (h2:d.len≤d.total) (h3:d.total≤2147483647) (h4:d.off≤d.total - d.len):fE d=true:=by
 unfold fE;rw [decide_eq_true h1,decide_eq_true h2,decide_eq_true h3,decide_eq_true h4];rfl
theorem xZ {c:ClipR} (h:fE c=true) : 0≤c.off∧c.len≤c.total∧c.total≤2147483647∧c.off≤c.total - c.len:=by
 unfold fE at h;simp only [Bool.and_eq_true,decide_eq_true_eq] at h;exact ⟨h.1.1.1,h.1.1.2,h.1.2,h.2⟩
theorem advR_ok {c:ClipR} (hv:aN c=true) {n:Int} (h0 : 0≤n) (h1:n<c.len) (hp:bU (aR c.a n)=true) (hq:bU (aR c.b n)=true):aN (cV c n)=true:=by
 obtain ⟨v1,v2,v3,v4,v5,v6,v7,v8⟩:=bF hv;refine Cy (by show 1≤c.len - n;omega) (by show c.len - n≤_;omega) v3 v4 v5 (rR v6 (by omega) hp) (rR v7 (by omega) hq) ?_;refine tX v8 rfl (fun h=>?_) (fun h=>?_) rfl rfl rfl rfl (fun hs hn=>?_) (fun hs hn=>?_)
 ·show (aR c.a n).isZ=true;rw [sK h];exact h
 ·show (aR c.b n).isZ=true;rw [sK h];exact h
 ·refine tS (c:=c) ?_ rfl hn;show (if shK c.kind=true then _ else _)=_
  rw [hs];rfl
 ·obtain ⟨s1,s2,s3,s4⟩:=xZ hn;have e:(cV c n).off=c.off+n:=by show (if shK c.kind=true then _ else _)=_;rw [hs];rfl
  have e2:(cV c n).len=c.len - n:=rfl;have e3:(cV c n).total=c.total:=rfl;refine Bx ?_ ?_ ?_ ?_<;>omega
theorem aR5 {c:ClipR} (hv:aN c=true) {n:Int} (h0 : 1≤n) (h1:n≤c.len):aN { c with len:=n }=true:=by
 obtain ⟨v1,v2,v3,v4,v5,v6,v7,v8⟩:=bF hv;refine Cy h0 (by show n≤_;omega) v3 v4 v5 v6 v7 ?_;refine tX v8 rfl (fun h=>h) (fun h=>h) rfl rfl rfl rfl (fun hs hn=>tS rfl rfl hn) (fun hs hn=>?_);obtain ⟨s1,s2,s3,s4⟩:=xZ hn;refine Bx s1 ?_ s3 ?_<;>simp only<;>omega
def rW (s:SourceR):Prop:=s.isZ=true∨(s.pos.num.natAbs≤1000000∧s.speed.num.natAbs≤1000000)
open Go.RowKit
set_option maxRecDepth 4000
def pkA (c:ClipR):List ClipR→List ClipR
 | []=>[c]
 | q::l=>if eL c q=true then pkA { c with len:=c.len+q.len } l else c::pkA q l
def pk:List ClipR→List ClipR
 | []=>[]
 | c::l=>pkA c l
def Ub (c:ClipR):Prop:=aY c.a=true∧aY c.b=true
theorem Wv (c q:ClipR) (m:Int):eL c { q with len:=m }=eL c q:=by
 unfold eL;simp only;split
 ·rfl
 ·unfold ClipR.eqb;simp only [beq_self_eq_true]
theorem Vt {t:List ClipR} (hv:bB t=true) (hfit:∀ c∈t,c.fit):∀ k,1≤k→k≤t.length → ∃ i c,dE t k=i ++ [c]∧pk t=i++pkA c (t.drop k)
 | 0,h,_=>by omega
 | 1,_,hk=>by
  refine ⟨[],t.getD 0 default,?_,?_⟩
  ·rw [dE,if_neg (by simp [vD])];rfl
  ·conv=>lhs;rw [← List.drop_zero (l:=t),gX (t:=t) (k:=0) (by omega)]
   rfl
 | k+2,_,hk=>by
  obtain ⟨i,c,h1,h2⟩:=Vt hv hfit (k+1) (by omega) (by omega);have hl:=Hr hv hfit (k+1) (by omega) i c h1 (t.getD (k+1) default);have hp:vD t (k+1)=eL c (t.getD (k+1) default):=by unfold vD;rw [hl,decide_eq_true (by omega : 0<k+1),Bool.true_and]
  rw [gX (t:=t) (k:=k+1) (by omega),pkA] at h2;rw [dE,hp,h1];split
  ·rename_i hc;rw [if_pos hc] at h2;exact ⟨i,_,gN _ _ _,h2⟩
  ·rename_i hc;rw [if_neg hc] at h2;exact ⟨i ++ [c],_,rfl,by rw [h2];simp⟩
theorem Ny {t:List ClipR} (hv:bB t=true) (hfit:∀ c∈t,c.fit):sE t=pk t:=by
 cases t with
 | nil=>rfl
 | cons x l =>
  obtain ⟨i,c,h1,h2⟩:=Vt hv hfit (x::l).length (by simp) (Nat.le_refl _);unfold sE;rw [h1,h2,List.drop_length];rfl
theorem aBy:∀ (l:List ClipR) (c:ClipR), ∃ n r,pkA c l = { c with len:=n }::r
 | [],c=>⟨c.len,[],rfl⟩
 | q::l,c=>by
  rw [pkA];split
  ·obtain ⟨n,r,h⟩:=aBy l { c with len:=c.len+q.len };exact ⟨n,r,h⟩
  ·exact ⟨c.len,_,rfl⟩
theorem Yq:∀ (l:List ClipR) (c:ClipR),totL (pkA c l)=c.len+totL l
 | [],c=>by simp [pkA,totL]
 | q::l,c=>by
  rw [pkA];split
  ·rw [Yq l];simp only [totL];omega
  ·simp only [totL];rw [Yq l q]
theorem Nu:∀ (l:List ClipR) (c:ClipR),(pkA c l).length≤l.length+1
 | [],c=>by simp [pkA]
 | q::l,c=>by
  rw [pkA];split
  ·have:=Nu l { c with len:=c.len+q.len };simp only [List.length_cons];omega
  ·have:=Nu l q;simp only [List.length_cons];omega
def NoC:List ClipR→Prop
 | []=>True
 | [_]=>True
 | c::d::l=>eL c d=false∧NoC (d::l)
theorem aHh:∀ (l:List ClipR) (c:ClipR),Ub c→(∀ d∈l,Ub d)→NoC (pkA c l)
 | [],c,_,_=>trivial
 | q::l,c,hc,hl=>by
  rw [pkA];split
  ·exact aHh l _ hc fun d hd=>hl d (by simp [hd])
  ·rename_i hn;obtain ⟨n,r,h⟩:=aBy l q;have ih:=aHh l q (hl q (by simp)) fun d hd=>hl d (by simp [hd])
   rw [h] at ih ⊢;exact ⟨by rw [Wv];simpa using hn,ih⟩
theorem aPr (l:List ClipR):totL (pk l)=totL l:=by
 cases l with
 | nil=>rfl
 | cons c l=>exact Yq l c
theorem eT (l:List ClipR):(pk l).length≤l.length:=by
 cases l with
 | nil=>exact Nat.le_refl _
 | cons c l=>exact Nu l c
theorem aFk {c:ClipR} (h:aN c=true) (hk:c.kind=0):c=⟨c.len,0,zSource,zSource,0,0,0,⟨#[]⟩,0,[]⟩:=by
 obtain ⟨v1,v2,v3,v4,v5,v6,v7,v8⟩:=bF h;rw [aQx hk] at v8;simp only [Bool.and_eq_true,beq_iff_eq,eN,emp] at v8;obtain ⟨⟨⟨⟨⟨⟨x1,x2⟩,x3⟩,x4⟩,x5⟩,x6⟩,x7⟩:=v8;have y1:=SourceR.eqb_iff.1 x1;have y2:=SourceR.eqb_iff.1 x2;have y5:c.text=⟨#[]⟩:=pP x5;have y7:c.chan = []:=List.length_eq_zero_iff.1 x7;obtain ⟨len,kind,a,b,off,total,param,text,gain,chan⟩:=c;simp only at *;obtain ⟨x3,x3'⟩:=x3;subst hk y1 y2 x3 x3' x4 y5 x6 y7;rfl
theorem aM2 (len n:Int):kL ⟨len,0,zSource,zSource,0,0,0,⟨#[]⟩,0,[]⟩ n=⟨len,0,zSource,zSource,0,0,0,⟨#[]⟩,0,[]⟩:=by
 unfold kL;simp only [sK (s:=zSource) (by kernel_rfl)];rfl
theorem Ww {c q:ClipR} (hc:aN c=true) (hq:aN q=true):eL c q=true ↔ q = { kL c c.len with len:=q.len }:=by
 unfold eL;split
 ·rename_i hk;simp only [Bool.and_eq_true,beq_iff_eq] at hk;have e1:=aFk hc hk.1;have e2:=aFk hq hk.2;constructor
  ·intro _;rw [e1,aM2];exact e2
  ·intro _;rfl
 ·rw [ClipR.eqb_iff]
theorem Zg {c q:ClipR} (hc:aN c=true) (hq:aN q=true) (h:eL c q=true) (hl:c.len+q.len≤2147483647):aN { c with len:=c.len+q.len }=true:=by
 have e:=(Ww hc hq).1 h;obtain ⟨v1,v2,v3,v4,v5,v6,v7,v8⟩:=bF hc;obtain ⟨w1,w2,w3,w4,w5,w6,w7,w8⟩:=bF hq;refine Cy (by show 1≤c.len+q.len;omega) hl v3 v4 v5 v6 v7 ?_;refine tX v8 rfl (fun h=>h) (fun h=>h) rfl rfl rfl rfl (fun hs hn=>tS rfl rfl hn) (fun hs hn=>?_);obtain ⟨s1,s2,s3,s4⟩:=xZ hn;have e1:q.off=c.off+c.len:=by
  rw [e];show (if shK c.kind=true then _ else _)=_
  rw [hs];rfl
 have e2:q.total=c.total:=by rw [e];rfl
 have ek:q.kind=c.kind:=by rw [e];rfl
 have:=rN hq (by rw [ek];exact hs);refine Bx s1 ?_ s3 ?_<;>simp only<;>omega
theorem aA0 {c:ClipR} (h:c.fit) {n:Int} (h0 : 0≤n) (h1:n≤2147483647):({ c with len:=n }:ClipR).fit:=⟨⟨by simp only;omega,by simp only;omega⟩,h.kind,h.a,h.b,h.off,h.total,h.param,h.gain⟩
theorem zJ {t:List ClipR} (h1:t.length≤64) (h2:∀ c∈t,aN c=true) (h3:totL t≤2147483647):bB t=true:=by
 unfold bB;rw [decide_eq_true h1,decide_eq_true h3,List.all_eq_true.2 h2];rfl
section
variable {t:List ClipR} (hv:bB t=true) (hfit:∀ c∈t,c.fit)
include hv hfit
end
theorem yY (o:List ClipR):∃ k,jU o=o.take k∧o.length≤k+1:=by
 unfold jU;split
 ·exact ⟨o.length - 1,rfl,by omega⟩
 ·exact ⟨o.length,by rw [List.take_length],by omega⟩
theorem Hb {t:List ClipR} (h:∀ c∈t,1≤c.len) (k:Nat):totL (t.take k)≤totL t:=by
 have e:=gQ (t.take k) (t.drop k);rw [List.take_append_drop] at e;have:=cL (t.drop k) fun c hc=>h c (List.mem_of_mem_drop hc)
 omega
theorem Zu (i:List ClipR) (c:ClipR):nL (i ++ [c])=(c.kind==0):=by
 unfold nL;have:(i ++ [c]).length - 1=i.length:=by simp
 rw [this,pM];simp
theorem aSb {o:List ClipR} (h:nL o=false):jU o=o:=by unfold jU;rw [h];rfl
section
variable {t:List ClipR} (hv:bB t=true) (hfit:∀ c∈t,c.fit)
include hv hfit
end
theorem Fx {a b c:ClipR} {n:Int} (ha:a = { c with len:=n }) (hab:eL a b=true) (hl:a.len+b.len=c.len) (ys:List ClipR):∀ (xs:List ClipR) (e:ClipR),Ub e→(∀ d∈xs,Ub d)→pkA e (xs++a::b::ys)=pkA e (xs++c::ys)
 | [],e,he,_=>by
  have h1:eL e a=eL e c:=by rw [ha,Wv]
  simp only [List.nil_append,pkA];rw [h1];split
  ·rename_i hc;have h2:=Rs he.1 he.2 (h1.trans hc) b;rw [h2,if_pos hab];congr 2;omega
  ·have ec:({ a with len:=a.len+b.len }:ClipR)=c:=by rw [hl,ha]
   rw [ec]
 | x::xs,e,he,hx=>by
  have hx2:∀ d∈xs,Ub d:=fun d hd=>hx d (by simp [hd])
  simp only [List.cons_append,pkA];split
  ·exact Fx ha hab hl ys xs _ he hx2
  ·rw [Fx ha hab hl ys xs x (hx x (by simp)) hx2]
theorem aPs {a b c:ClipR} {n:Int} (ha:a = { c with len:=n }) (hab:eL a b=true) (hl:a.len+b.len=c.len) (ys xs:List ClipR) (hx:∀ d∈xs,Ub d):pk (xs++a::b::ys)=pk (xs++c::ys):=by
 cases xs with
 | nil =>
  simp only [List.nil_append,pk,pkA];rw [if_pos hab];congr 1;rw [hl,ha]
 | cons x xs=>exact Fx ha hab hl ys xs x (hx x (by simp)) fun d hd=>hx d (by simp [hd])
open Go.RowKit
set_option maxRecDepth 4000
def Td (s:SourceR):Prop:=s.pos.num.natAbs≤100000∧s.pos.den.natAbs≤100000∧s.speed.num.natAbs≤100000
theorem Dk:Td zSource:=⟨by decide,by decide,by decide⟩
theorem Hq {r q:RatR} (h:Nj r q=true) {kd:Int} {nm:ByteArray} {sm:Bool}:Td ⟨kd,nm,r,q,sm⟩:=by
 unfold Nj at h;simp only [Bool.and_eq_true,decide_eq_true_eq] at h;exact ⟨h.1.1.1.2,h.1.1.2,h.1.2⟩
theorem He (L:List Int) (k:Nat) (m s:Int):Td (bG L k m s).1:=by
 unfold bG;split
 ·exact Dk
 ·split
  ·exact Hq (xW L _ _)
  ·split
   ·exact Hq (xW L _ _)
   ·exact Dk
theorem rJ (L:List Int) (k:Nat) (m s:Int):Td (bQ L k m s).1.a∧Td (bQ L k m s).1.b∧1≤(bQ L k m s).1.len∧(bQ L k m s).1.len≤9:=by
 have n9:=aD (L:=L) (k:=k) (n:=9) (by omega);have hl : 1≤1+aB L k 9∧1+aB L k 9≤9:=by omega
 have h1:=He L (k+2) m s;have h2:=He L (bG L (k+2) m s).2 m s;unfold bQ;simp only;split
 ·exact ⟨Dk,Dk,hl⟩
 ·split
  ·split<;>exact ⟨h1,h2,hl⟩
  ·split
   ·exact ⟨h1,h2,hl⟩
   ·split<;>exact ⟨h1,Dk,hl⟩
def aQ7:RatR:=⟨1,1⟩
def xX (c:ClipR):Bool:=(c.kind != 2)&&(c.kind != 3)&&c.a.speed.eqb aQ7&&c.b.isZ
def eZ (c:ClipR) (n:Int):ClipR := { c with len:=n,a := { c.a with pos := { c.a.pos with num:=c.a.pos.num+c.len*c.a.pos.den } } }
def dK (L:List Int) (k:Nat) (m s:Int):List ClipR×Nat :=
 if aB L (bQ L k m s).2 4=0 then
  (if xX (bQ L k m s).1=true then [(bQ L k m s).1,eZ (bQ L k m s).1 (1+aB L ((bQ L k m s).2+1) 4)] else [(bQ L k m s).1],(bQ L k m s).2+2)
 else ([(bQ L k m s).1],(bQ L k m s).2+1)
def jK (L:List Int) (m s:Int):Nat→Nat→List ClipR×Nat
 | 0,k=>([],k)
 | n+1,k=>((dK L k m s).1++(jK L m s n (dK L k m s).2).1,(jK L m s n (dK L k m s).2).2)
def bP (L:List Int) (k:Nat) (m s most:Int):List ClipR×Nat:=jK L m s (aB L k (most+1)).toNat (k+1)
def trackT (L:List Int):List ClipR:=(bP L 0 3 2 9).1
structure Nice (c:ClipR):Prop where
 ok:aN c=true
 fit:c.fit
 sa:rW c.a
 sb:rW c.b
 l9:c.len≤9
 chan:c.chan = []
theorem aH1 {s:SourceR} (h:Td s):rW s := .inr ⟨by have:=h.1;omega,by have:=h.2.2;omega⟩
theorem Jn (L:List Int) (k:Nat) (m s:Int) (hm:m≤9) (hs:s≤9):Nice (bQ L k m s).1:=by
 obtain ⟨h1,h2⟩:=aMh L k m s hm hs;obtain ⟨h3,h4,h5,h6⟩:=rJ L k m s;exact ⟨h1,h2,aH1 h3,aH1 h4,h6,Jp L k m s⟩
theorem aEf {c:ClipR} (h:xX c=true):c.kind≠2∧c.kind≠3∧c.a.speed=aQ7∧c.b.isZ=true:=by
 unfold xX at h;simp only [Bool.and_eq_true,bne_iff_ne,ne_eq] at h;obtain ⟨⟨⟨h1,h2⟩,h3⟩,h4⟩:=h;refine ⟨h1,h2,?_,h4⟩;unfold RatR.eqb at h3;simp only [Bool.and_eq_true,beq_iff_eq] at h3;cases hsp:c.a.speed with
 | mk n d =>
  rw [hsp] at h3;obtain ⟨h5,h6⟩:=h3;simp only [aQ7] at h5 h6;rw [h5,h6];rfl
theorem aEe {c:ClipR} (h:Nice c) (hs:Td c.a) (hb:xX c=true) {n:Int} (n0 : 1≤n) (n1:n≤4):Nice (eZ c n):=by
 obtain ⟨k2,k3,hsp,hbz⟩:=aEf hb;obtain ⟨v1,v2,v3,v4,v5,v6,v7,v8⟩:=bF h.ok;have hz:c.a.isZ=false:=by
  rw [Bool.eq_false_iff];intro hz;have e:=SourceR.eqb_iff.1 hz;rw [e] at hsp;cases hsp
 obtain ⟨p,d,ok⟩:=jN v6 hz;obtain ⟨q1,q2,q3⟩:=hs;have hl9:=h.l9;have hp:=ok.hp;have p1:=ok.p1;have hpd:c.a.pos.den.natAbs=p:=by rw [hp,Int.natAbs_natCast]
 rw [hpd] at q2;have hb1 : 0≤c.len*c.a.pos.den∧c.len*c.a.pos.den≤900000:=by
  rw [hp];have:c.len*(p:Int)≤9*100000:=Int.mul_le_mul (by omega) (by omega) (by omega) (by omega);exact ⟨Int.mul_nonneg (by omega) (by omega),by omega⟩
 have hk:c.a.kind≠0:=by rcases ok.kind with h | h<;>omega
 have hz2:(eZ c n).a.isZ=false:=Qh hk;have hg:Nat.gcd (c.a.pos.num+c.len*c.a.pos.den).natAbs c.a.pos.den.natAbs=1:=by
  have h1:=ok.pos;unfold fG at h1;simp only [Bool.and_eq_true,decide_eq_true_eq] at h1;have h2:Int.gcd (c.a.pos.num+c.len*c.a.pos.den) c.a.pos.den=Int.gcd c.a.pos.num c.a.pos.den:=Int.gcd_add_mul_right_left _ _ _;exact h2.trans h1.2
 have hva:aY (eZ c n).a=true:=by
  unfold aY;rw [hz2];have e1:fG (eZ c n).a.pos=true:=by
   unfold fG;have f1 : 1≤(eZ c n).a.pos.den:=by show 1≤c.a.pos.den;omega
   have f2 : -9223372036854775808<(eZ c n).a.pos.num:=by show _<c.a.pos.num+c.len*c.a.pos.den;omega
   rw [decide_eq_true f1,decide_eq_true f2];exact decide_eq_true hg
  have e2:kH (eZ c n).a.pos 1099511627776=true:=by
   unfold kH;refine decide_eq_true ?_;show ((c.a.pos.num+c.len*c.a.pos.den).natAbs:Int)≤1099511627776*c.a.pos.den
   omega
  have e3:decide (Qa (eZ c n).a≤65536)=true:=by
   have:Qa (eZ c n).a=Nat.lcm p d:=by unfold Qa eZ;simp only;rw [hpd,ok.hd,Int.natAbs_natCast]
   rw [this];exact decide_eq_true ok.lcm
  have e4:fG (eZ c n).a.speed=true:=ok.speed;have e5:kH (eZ c n).a.speed 1024=true:=ok.wspeed;have e6:dS (eZ c n).a.name=true:=ok.name;rw [e1,e2,e3,e4,e5,e6];have e7:(eZ c n).a.kind=1∨(eZ c n).a.kind=2:=ok.kind;rcases e7 with h | h<;>simp [h]
 have hok:aN (eZ c n)=true:=by
  refine Cy n0 (by show n≤_;omega) v3 v4 v5 hva v7 ?_;refine tX v8 rfl (fun h=>?_) (fun h=>h) rfl rfl rfl rfl (fun hs hn=>tS (c:=c) rfl rfl hn) (fun hs hn=>?_)
  ·rw [hz] at h;cases h
  ·unfold shK at hs;have:c.kind=2∨c.kind=3:=by simpa using hs
   omega
 refine ⟨hok,⟨⟨by show _≤n;omega,by show n≤_;omega⟩,h.fit.kind,⟨h.fit.a.kind,⟨⟨?_,?_⟩,h.fit.a.pos.den⟩,h.fit.a.speed⟩,h.fit.b,h.fit.off,h.fit.total,h.fit.param,h.fit.gain⟩, .inr ⟨?_,?_⟩,h.sb,by show n≤9;omega,h.chan⟩
 ·show _≤c.a.pos.num+c.len*c.a.pos.den;omega
 ·show c.a.pos.num+c.len*c.a.pos.den≤_;omega
 ·show (c.a.pos.num+c.len*c.a.pos.den).natAbs≤_;omega
 ·show c.a.speed.num.natAbs≤_;omega
theorem pU (L:List Int) (k:Nat) (m s:Int) (hm:m≤9) (hs:s≤9):(∀ c∈(dK L k m s).1,Nice c)∧(dK L k m s).1.length≤2∧(dK L k m s).2≤k+19∧1≤(dK L k m s).1.length:=by
 have h1:=Jn L k m s hm hs;have h2:=(rJ L k m s).1;have h3:=Gt L k m s;have h4:=aD (L:=L) (k:=(bQ L k m s).2+1) (n:=4) (by omega);unfold dK;split
 ·split
  ·rename_i hb;refine ⟨fun c hc=>?_,by simp,by simp only;omega,by simp⟩;simp only [List.mem_cons,List.not_mem_nil,or_false] at hc;rcases hc with rfl | rfl
   ·exact h1
   ·exact aEe h1 h2 hb (by omega) (by omega)
  ·refine ⟨fun c hc=>?_,by simp,by simp only;omega,by simp⟩;simp only [List.mem_cons,List.not_mem_nil,or_false] at hc;rw [hc];exact h1
 ·refine ⟨fun c hc=>?_,by simp,by simp only;omega,by simp⟩;simp only [List.mem_cons,List.not_mem_nil,or_false] at hc;rw [hc];exact h1
theorem xT (L:List Int) (m s:Int) (hm:m≤9) (hs:s≤9):∀ (n k:Nat),(∀ c∈(jK L m s n k).1,Nice c)∧(jK L m s n k).1.length≤2*n
 | 0,k=>⟨fun c hc=>by simp [jK] at hc,by simp [jK]⟩
 | n+1,k=>by
  obtain ⟨h1,h2⟩:=xT L m s hm hs n (dK L k m s).2;obtain ⟨h3,h4,_,_⟩:=pU L k m s hm hs;simp only [jK];refine ⟨fun c hc=>?_,by simp only [List.length_append];omega⟩;rcases List.mem_append.1 hc with hc | hc
  ·exact h3 c hc
  ·exact h1 c hc
theorem zM:∀ (l:List ClipR),(∀ c∈l,c.len≤9)→totL l≤9*l.length
 | [],_=>by simp [totL]
 | c::l,h=>by
  have h1:=zM l fun d hd=>h d (by simp [hd])
  have h2:=h c (by simp);simp only [totL,List.length_cons];omega
theorem qE (L:List Int) (k:Nat) (m s most:Int) (hm:m≤9) (hs:s≤9) (h0 : 0≤most) (h9:most≤9):(∀ c∈(bP L k m s most).1,Nice c)∧(bP L k m s most).1.length≤18:=by
 obtain ⟨h1,h2⟩:=xT L m s hm hs (aB L k (most+1)).toNat (k+1);have h3:=aD (L:=L) (k:=k) (n:=most+1) (by omega);exact ⟨h1,by unfold bP;omega⟩
theorem Gz {t:List ClipR} (h:∀ c∈t,Nice c) (hl:t.length≤64):bB t=true:=by
 have h1:=zM t fun c hc=>(h c hc).l9
 unfold bB;rw [decide_eq_true hl,decide_eq_true (by omega:totL t≤2147483647),List.all_eq_true.2 fun c hc=>(h c hc).ok];rfl
open Go.RowKit
set_option maxRecDepth 4000
theorem advC_ok {c:ClipR} (hv:aN c=true) {n:Int} (h0 : 0≤n) (h1:n<c.len) (hp:bU (aR c.a n)=true) (hq:bU (aR c.b n)=true):Ua c n=(cV c n,0):=by
 unfold Ua aDz;rw [hv,decide_eq_true h0,decide_eq_true h1,hp,hq];rfl
theorem aTj {c:ClipR} (h:c.fit) (hv:aN c=true) {n:Int} (h0 : 0≤n) (h1:n<c.len):(cV c n).fit:=by
 obtain ⟨v1,v2,v3,v4,v5,v6,v7,v8⟩:=bF hv;refine ⟨⟨by show _≤c.len - n;omega,by show c.len - n≤_;omega⟩,h.kind,(gG h.a v6 (by omega)).1,(gG h.b v7 (by omega)).1,?_,h.total,h.param,h.gain⟩;show I64 (if shK c.kind=true then c.off+n else c.off)
 split
 ·rename_i hs;have:=rN hv hs;exact ⟨by omega,by omega⟩
 ·exact h.off
theorem aDy {c:ClipR} (hv:aN c=true) (n m:Int):cV (cV c n) m=cV c (n+m):=by
 obtain ⟨v1,v2,v3,v4,v5,v6,v7,v8⟩:=bF hv;unfold cV;simp only [jQ v6,jQ v7];have e:c.len - n - m=c.len - (n+m):=by omega
 rw [e];cases hs:shK c.kind with
 | true=>simp only [if_true];congr 1;omega
 | false=>simp only [Bool.false_eq_true,if_false]
abbrev StT (L:List Int) (c:Nat) (es:List ClipR) (k:Nat) (σ : St):St :=
 {fr:=(σ.fr.set 9 (.own 1)).set 10 (aA c),h:=[(1,tB es),(0, .box [.t (bS L),aA k])],nx:=2 }
theorem Sg (L:List Int) (k:Nat) (m s most:Int) (hk:k≤100000) (hm : 0≤m∧m≤9) (hs : 0≤s∧s≤9) (h0 : 0≤most) (h9:most≤9):CIO Tryz.prog 37 1 [(0, .box [.t (bS L),aA k])] [.own 0,aA m,aA s,aA most] (.own 1)
  [(1,tB (bP L k m s most).1),(0, .box [.t (bS L),aA ((bP L k m s most).2:Int)])] 2:=by
 refine kQ Tryz.X37 Tryz.func37 rfl Tryz.ntmps37 (by rw [Tryz.results37]) (dV fun hf=>aC _ ?_);have w1:IntKind.i64.wrap (most+1)=most+1:=wrap64 (by omega) (by omega);simp only [go_sem,simprocAttr,w1];refine aH (bD L k (most+1) (by omega) (by omega) (by omega)) rfl rfl rfl ?_;have tn:=aD (L:=L) (k:=k) (n:=most+1) (by omega);obtain ⟨N,hN⟩:∃ N:Nat,aB L k (most+1)=N:=⟨(aB L k (most+1)).toNat,by omega⟩
 simp only [go_sem,simprocAttr,hN];refine aJ (fun (x:Nat×List ClipR×Nat) σ => StT L x.1 x.2.1 x.2.2 σ) (fun x=>x.2.1.length+2*x.1≤18∧x.2.2+19*x.1≤k+200∧x.2.1++(jK L m s x.1 x.2.2).1=(bP L k m s most).1∧(jK L m s x.1 x.2.2).2=(bP L k m s most).2) (fun x=>x.1) (N,[],k+1) (aT [(1,none),(0,some 0)] ?_) ⟨by simp only [List.length_nil];omega,by simp only;omega,?_⟩ ?_
 ·simp only [go_sem,simprocAttr]<;>simp
 ·simp only [bP,hN,Int.toNat_natCast,List.nil_append,and_self]
 ·rintro ⟨c,es,q⟩ ⟨hc,hq,he1,he2⟩;simp only at hc hq he1 he2;refine aC _ ?_;simp only [go_sem,simprocAttr];refine ⟨fun hlt=>?_,fun hge=>?_⟩
  ·simp only [bxx] at hlt;obtain ⟨c,rfl⟩:∃ c',c=c'+1:=⟨c - 1,by omega⟩
   simp only [jK] at he1 he2;have hst:=pU L q m s hm.2 hs.2;unfold awS;simp only [go_sem,simprocAttr];refine aH (aJx L q m s (by omega) hm hs) rfl rfl rfl ?_;have hle:=Gt L q m s;have hsm:=rJ L q m s;generalize hcl:bQ L q m s=C at *;obtain ⟨d,kq⟩:=C;simp only [go_sem,simprocAttr];have ec:∀ d:ClipR,[T.lit (.int .i64 d.len), .lit (.int .i64 d.kind), .lit (.int .i64 d.a.kind), .lit (.string d.a.name), .lit (.int .i64 d.a.pos.num), .lit (.int .i64 d.a.pos.den), .lit (.int .i64 d.a.speed.num), .lit (.int .i64 d.a.speed.den), .lit (.bool d.a.smooth),
    .lit (.int .i64 d.b.kind), .lit (.string d.b.name), .lit (.int .i64 d.b.pos.num), .lit (.int .i64 d.b.pos.den), .lit (.int .i64 d.b.speed.num), .lit (.int .i64 d.b.speed.den), .lit (.bool d.b.smooth), .lit (.int .i64 d.off), .lit (.int .i64 d.total), .lit (.int .i64 d.param), .lit (.string d.text), .lit (.int .i64 d.gain), .list 1 (sS 0) (d.chan.map sS)]=ClipR.c d:=fun _=>rfl
   have es1:es.map ClipR.c ++ [ClipR.c d]=(es ++ [d]).map ClipR.c:=by simp
   simp only [ec,es1];refine ⟨⟨by unfold maxLen;omega,by omega⟩,aH (bD L kq 4 (by omega) (by omega) (by omega)) rfl rfl rfl ?_⟩;have n4:=aD (L:=L) (k:=kq) (n:=4) (by omega);simp only [go_sem,simprocAttr];have hll:((es ++ [d]).length:Int)<64:=by simp only [List.length_append,List.length_cons,List.length_nil];omega
   have wc:IntKind.i64.wrap (((c+1:Nat):Int) - 1)=(c:Int):=by rw [wrap64 (by omega) (by omega)];omega
   refine brW (b:=aB L kq 4==0) ?_ ⟨fun hj=>?_,fun hj=>?_⟩
   ·rw [decide_eq_true hll,Bool.and_true]
   ·unfold awS;simp only [go_sem,simprocAttr];refine aH (bD L (kq+1) 4 (by omega) (by omega) (by omega)) rfl rfl rfl ?_;have m4:=aD (L:=L) (k:=kq+1) (n:=4) (by omega);simp only [go_sem,simprocAttr,wrap64 (x:=1+aB L (kq+1) 4) (by omega) (by omega)];refine ⟨_,fun _=>aJb d.a.speed aQ7,_,fun _=>jT d.b zSource,fun hb=>?_,fun hb=>?_⟩
    ·have hb2:xX d=true:=hb;have hs1:dK L q m s=([d,eZ d (1+aB L (kq+1) 4)],kq+2):=by
      unfold dK;rw [hcl];simp only;rw [if_pos (by simpa using hj),if_pos hb2]
     rw [hs1] at he1 he2;obtain ⟨⟨q1,q2,q3⟩,_,q5,q6⟩:=hsm;simp only at q1 q2 q3 q5 q6;have wm:(d.len*d.a.pos.den).natAbs≤900000:=by
      rw [Int.natAbs_mul];exact Nat.mul_le_mul (show d.len.natAbs≤9 by omega) q2
     unfold awS;simp only [go_sem,simprocAttr,wrap64 (x:=d.len*d.a.pos.den) (by omega) (by omega),wrap64 (x:=d.a.pos.num+d.len*d.a.pos.den) (by omega) (by omega)];have e2:∀ n:Int,[T.lit (.int .i64 n), .lit (.int .i64 d.kind), .lit (.int .i64 d.a.kind), .lit (.string d.a.name), .lit (.int .i64 (d.a.pos.num+d.len*d.a.pos.den)), .lit (.int .i64 d.a.pos.den), .lit (.int .i64 d.a.speed.num), .lit (.int .i64 d.a.speed.den), .lit (.bool d.a.smooth),
      .lit (.int .i64 d.b.kind), .lit (.string d.b.name), .lit (.int .i64 d.b.pos.num), .lit (.int .i64 d.b.pos.den), .lit (.int .i64 d.b.speed.num), .lit (.int .i64 d.b.speed.den), .lit (.bool d.b.smooth), .lit (.int .i64 d.off), .lit (.int .i64 d.total), .lit (.int .i64 d.param), .lit (.string d.text), .lit (.int .i64 d.gain), .list 1 (sS 0) (d.chan.map sS)]=ClipR.c (eZ d n):=fun _=>rfl
     have e3:∀ x:ClipR,(es ++ [d]).map ClipR.c ++ [ClipR.c x]=(es ++ [d,x]).map ClipR.c:=fun x=>by simp
     simp only [e2,e3];refine ⟨⟨by simp only [List.length_append,List.length_cons,List.length_nil];unfold maxLen;omega,by simp only [List.length_append,List.length_cons,List.length_nil];omega⟩,(c,es ++ [d,eZ d (1+aB L (kq+1) 4)],kq+2),aT [(1,some 7),(0,some 0)] ?_,⟨by simp only [List.length_append,List.length_cons,List.length_nil];omega,by simp only;simp only at hle;omega,by rw [← he1];simp,he2⟩,by simp only;omega⟩;simp only [go_sem,simprocAttr,wc];try simp
    ·have hs1:dK L q m s=([d],kq+2):=by
      have hb2:xX d=false:=hb;unfold dK;rw [hcl];simp only;rw [if_pos (by simpa using hj),hb2];rfl
     rw [hs1] at he1 he2;unfold awS;simp only [go_sem,simprocAttr];refine ⟨(c,es ++ [d],kq+2),aT [(1,some 4),(0,some 0)] ?_,⟨by simp only [List.length_append,List.length_cons,List.length_nil];omega,by simp only;simp only at hle;omega,by rw [← he1];simp,he2⟩,by simp only;omega⟩;simp only [go_sem,simprocAttr,wc];try simp
   ·have hs1:dK L q m s=([d],kq+1):=by
     unfold dK;rw [hcl];simp only;rw [if_neg (by simpa using hj)]
    rw [hs1] at he1 he2;unfold awS;simp only [go_sem,simprocAttr];refine ⟨(c,es ++ [d],kq+1),aT [(1,some 4),(0,some 0)] ?_,⟨by simp only [List.length_append,List.length_cons,List.length_nil];omega,by simp only;simp only at hle;omega,by rw [← he1];simp,he2⟩,by simp only;omega⟩;simp only [go_sem,simprocAttr,wc];try simp
  ·simp only [bxx] at hge;unfold awS;simp only [go_sem,simprocAttr];have:c=0:=by omega
   subst this;simp only [jK,List.append_nil] at he1 he2;rw [he1,he2];refine aE ?_;simp only [go_sem,simprocAttr];try simp
open Go.RowKit
set_option maxRecDepth 4000
def eqT:List ClipR→List ClipR→Bool
 | [],[]=>true
 | c::l,d::m=>c.eqb d&&eqT l m
 | _,_=>false
def sameT (a b:List ClipR):Bool:=bB a&&bB b&&eqT (gR a) (gR b)
def cueLines:List ByteArray:=[⟨#[72,101,108,108,111,46]⟩,⟨#[111,110,101,32,116,119,111,32,116,104,114,101,101]⟩,⟨#[120]⟩,⟨#[45,32,87,104,97,116,63,32,45,32,78,111,116,104,105,110,103,44,32,110,111,116,104,105,110,103,32,97,116,32,97,108,108,46]⟩]
def Rr (L:List Int) (k:Nat):ByteArray:=cueLines.getD (aB L k 4).toNat ⟨#[]⟩
def nP (L:List Int) (k:Nat):CueR×Nat :=
 if aB L (k+2) 2=0 then (⟨aB L k 50,aB L k 50+1+aB L (k+1) 20,[Rr L (k+3)]⟩,k+4)
 else (⟨aB L k 50,aB L k 50+1+aB L (k+1) 20,[Rr L (k+3),Rr L (k+4)]⟩,k+5)
theorem cCue (L:List Int) (k:Nat) (hk:k≤900000) :
  xB Tryz.prog 42 [.t (bS L),aA k] [] (vcue (nP L k).1) [.t (bS L),aA ((nP L k).2:Int)]:=by
 refine pZ Tryz.X42 Tryz.func42 rfl Tryz.ntmps42 (by rw [Tryz.results42]) (aC _ ?_);simp only [go_sem,simprocAttr];refine aH (bD L k 50 (by omega) (by omega) (by omega)) rfl rfl rfl ?_;have n50:=aD (L:=L) (k:=k) (n:=50) (by omega);simp only [go_sem,simprocAttr,wrap64 (x:=aB L k 50+1) (by omega) (by omega)];refine aH (bD L (k+1) 20 (by omega) (by omega) (by omega)) rfl rfl rfl ?_;have n20:=aD (L:=L) (k:=k+1) (n:=20) (by omega);simp only [go_sem,simprocAttr,wrap64 (x:=aB L k 50+1+aB L (k+1) 20) (by omega) (by omega)];refine aH (bD L (k+2) 2 (by omega) (by omega) (by omega)) rfl rfl rfl ?_;have n2:=aD (L:=L) (k:=k+2) (n:=2) (by omega);have v1:IntKind.i64.wrap 1=1:=by decide
 have v2:IntKind.i64.wrap 2=2:=by decide
 have m34:decide (34≤maxLen)=true:=by decide
 have v0:IntKind.i64.wrap 0=0:=by decide
 by_cases h2:aB L (k+2) 2=0
 ·have e:nP L k=(⟨aB L k 50,aB L k 50+1+aB L (k+1) 20,[Rr L (k+3)]⟩,k+4):=by unfold nP;rw [if_pos h2]
  rw [e];simp only [go_sem,simprocAttr,h2,v1];refine eJ ?_;refine aZ (aC _ ?_);simp only [go_sem,simprocAttr,decide_true];refine aQ 11 .done rfl (by kernel_rfl) (by kernel_rfl) (by decide) ?_;simp only [go_sem,simprocAttr,m34];refine gV (bD L (k+2+1) 4 (by omega) (by omega) (by omega)) rfl rfl rfl ?_;have c4:=aD (L:=L) (k:=k+2+1) (n:=4) (by omega);simp only [go_sem,simprocAttr];refine ⟨⟨by omega,by omega⟩,by omega,by decide,by kernel_rfl,?_⟩;refine aZ (aC _ ?_);simp only [go_sem,simprocAttr,decide_false,v0]<;>rfl
 ·have h2':aB L (k+2) 2=1:=by omega
  have e:nP L k=(⟨aB L k 50,aB L k 50+1+aB L (k+1) 20,[Rr L (k+3),Rr L (k+4)]⟩,k+5):=by unfold nP;rw [if_neg h2]
  rw [e];simp only [go_sem,simprocAttr,h2',v2];refine eJ ?_;refine aZ (aC _ ?_);simp only [go_sem,simprocAttr,decide_true];refine aQ 11 .done rfl (by kernel_rfl) (by kernel_rfl) (by decide) ?_;simp only [go_sem,simprocAttr,m34];refine gV (bD L (k+2+1) 4 (by omega) (by omega) (by omega)) rfl rfl rfl ?_;have c4:=aD (L:=L) (k:=k+2+1) (n:=4) (by omega);simp only [go_sem,simprocAttr];refine ⟨⟨by omega,by omega⟩,by omega,by decide,by kernel_rfl,?_⟩;refine aZ (aC _ ?_);simp only [go_sem,simprocAttr,decide_true,v1];refine aQ 11 .done rfl (by kernel_rfl) (by kernel_rfl) (by decide) ?_;simp only [go_sem,simprocAttr,m34];refine gV (bD L (k+2+1+1) 4 (by omega) (by omega) (by omega)) rfl rfl rfl ?_;have c4:=aD (L:=L) (k:=k+2+1+1) (n:=4) (by omega);simp only [go_sem,simprocAttr];refine ⟨⟨by omega,by omega⟩,by omega,by decide,by kernel_rfl,?_⟩;refine aZ (aC _ ?_);simp only [go_sem,simprocAttr,decide_false,v0]<;>rfl
open Go.RowKit
set_option maxRecDepth 4000
def sKinds:List Int:=[1,1,0,2]
def sGains:List Int:=[4096,4096,2048,0,8192,5000]
def fW (s:SourceR):SourceR := { s with smooth:=false }
def jA (L:List Int) (k:Nat) (m s:Int):ClipR×Nat :=
 let len:=1+aB L k 9
 let kind:=sKinds.getD (aB L (k+1) 4).toNat 0
 if kind=0 then (⟨len,0,zSource,zSource,0,0,0,⟨#[]⟩,0,[]⟩,k+2)
 else
  let a:=bG L (k+2) m s
  if kind=2 then
   let b:=bG L a.2 m s
   let off:=aB L b.2 3
   let total:=off+len+aB L (b.2+1) 3
   (⟨len,kind,fW a.1,fW b.1,off,total,0,⟨#[]⟩,sGains.getD (aB L (b.2+2) 6).toNat 0,[aB L (b.2+3) 4 - 1,aB L (b.2+4) 4 - 1]⟩,b.2+5)
  else (⟨len,kind,fW a.1,zSource,0,0,0,⟨#[]⟩,sGains.getD (aB L a.2 6).toNat 0,[aB L (a.2+1) 4 - 1,aB L (a.2+2) 4 - 1]⟩,a.2+3)
def Lp (c:ClipR):V:=if c.chan = [] then aE6 c else mF c
theorem Ta (c:ClipR):∀ (w:World) (E:Env) v,RdV w E (Lp c) v→RdV w E (mF c) v:=by
 intro w E v h;unfold Lp at h;split at h
 ·rename_i hc;exact aDw hc w E v h
 ·exact h
theorem cSoundZ (L:List Int) (k:Nat) (m s:Int) (hk:k≤800000) (hm : 0≤m∧m≤9) (hs : 0≤s∧s≤9) :
  xB Tryz.prog 43 [.t (bS L),aA k] [aA m,aA s,aA 2] (Lp (jA L k m s).1) [.t (bS L),aA ((jA L k m s).2:Int)]:=by
 refine pZ Tryz.X43 Tryz.func43 rfl Tryz.ntmps43 (by rw [Tryz.results43]) (aC _ ?_);simp only [go_sem,simprocAttr];refine aH (bD L k 9 (by omega) (by omega) (by omega)) rfl rfl rfl ?_;have n9:=aD (L:=L) (k:=k) (n:=9) (by omega);simp only [go_sem,simprocAttr,wrap64 (x:=1+aB L k 9) (by omega) (by omega)];refine aH (bD L (k+1) 4 (by omega) (by omega) (by omega)) rfl rfl rfl ?_;have n4:=aD (L:=L) (k:=k+1) (n:=4) (by omega);simp only [go_sem,simprocAttr];refine ⟨⟨by omega,by omega⟩,by omega,?_⟩;obtain ⟨kd,hkd⟩:∃ kd,sKinds.getD (aB L (k+1) 4).toNat 0=kd:=⟨_,rfl⟩
 have hkd':=hkd;unfold sKinds at hkd';rw [hkd'];have hl0 : 1≤1+aB L k 9∧1+aB L k 9≤9:=by omega
 generalize hlen : 1+aB L k 9=len at hl0;refine ⟨fun h0=>?_,fun h0=>?_⟩
 ·have e0:kd=0:=by simpa using h0
  have e:jA L k m s=(⟨len,0,zSource,zSource,0,0,0,⟨#[]⟩,0,[]⟩,k+2):=by unfold jA;simp only [hkd,hlen,e0,if_true]
  rw [e];unfold awS;simp only [go_sem,simprocAttr];rw [e0];exact ⟨rfl,rfl⟩
 ·have e0 : ¬ kd=0:=by simpa using h0
  unfold awS;simp only [go_sem,simprocAttr];refine aH (qA L (k+2) m s (by omega) hm hs) rfl rfl rfl ?_;obtain ⟨⟨a,ka⟩,ha⟩:∃ a,bG L (k+2) m s=a:=⟨_,rfl⟩
  have hka:=fM L (k+2) m s;rw [ha] at hka ⊢;simp only at hka;have hk5:kd=1∨kd=2:=by
   have:(aB L (k+1) 4).toNat=0∨(aB L (k+1) 4).toNat=1∨(aB L (k+1) 4).toNat=2∨(aB L (k+1) 4).toNat=3:=by omega
   rcases this with h | h | h | h<;>rw [h] at hkd'<;>simp at hkd'<;>omega
  clear hkd';rcases hk5 with rfl | rfl
  ·have e:jA L k m s=(⟨len,1,fW a,zSource,0,0,0,⟨#[]⟩,sGains.getD (aB L ka 6).toNat 0,[aB L (ka+1) 4 - 1,aB L (ka+2) 4 - 1]⟩,ka+3):=by unfold jA;simp only [hkd,hlen,ha];first | rfl | simp
   rw [e];simp only [go_sem,simprocAttr];have v1:IntKind.i64.wrap 1=1:=by decide
   have v2:IntKind.i64.wrap 2=2:=by decide
   refine aH (bD L ka 6 (by omega) (by omega) (by omega)) rfl rfl rfl ?_;have n6:=aD (L:=L) (k:=ka) (n:=6) (by omega);simp only [go_sem,simprocAttr];refine ⟨⟨by omega,by omega⟩,by omega,?_⟩;have hgn : [4096,4096,2048,0,8192,5000].getD (aB L ka 6).toNat 0=sGains.getD (aB L ka 6).toNat 0:=rfl;rw [hgn];generalize sGains.getD (aB L ka 6).toNat 0=gn;refine eJ ?_;refine aZ (aC _ ?_);simp only [go_sem,simprocAttr,decide_true];refine aQ 9 .done rfl (by kernel_rfl) (by kernel_rfl) (by decide) ?_;simp only [go_sem,simprocAttr];refine gV (bD L (ka+1) 4 (by omega) (by omega) (by omega)) rfl rfl rfl ?_;have c4:=aD (L:=L) (k:=ka+1) (n:=4) (by omega);simp only [go_sem,simprocAttr,wrap64 (x:=aB L (ka+1) 4 - 1) (by omega) (by omega)];refine ⟨by decide,by kernel_rfl,?_⟩;refine aZ (aC _ ?_);simp only [go_sem,simprocAttr,decide_true,v1];refine aQ 9 .done rfl (by kernel_rfl) (by kernel_rfl) (by decide) ?_;simp only [go_sem,simprocAttr];refine gV (bD L (ka+2) 4 (by omega) (by omega) (by omega)) rfl rfl rfl ?_;have d4:=aD (L:=L) (k:=ka+2) (n:=4) (by omega);simp only [go_sem,simprocAttr,wrap64 (x:=aB L (ka+2) 4 - 1) (by omega) (by omega)];refine ⟨by decide,by kernel_rfl,?_⟩;refine aZ (aC _ ?_);simp only [go_sem,simprocAttr,decide_false,v2];exact ⟨rfl,rfl⟩
  ·have e:jA L k m s=(let b:=bG L ka m s; (⟨len,2,fW a,fW b.1,aB L b.2 3,aB L b.2 3+len+aB L (b.2+1) 3,0,⟨#[]⟩,sGains.getD (aB L (b.2+2) 6).toNat 0,[aB L (b.2+3) 4 - 1,aB L (b.2+4) 4 - 1]⟩,b.2+5)):=by unfold jA;simp only [hkd,hlen,ha];first | rfl | simp
   rw [e];simp only [go_sem,simprocAttr];refine aH (qA L ka m s (by omega) hm hs) rfl rfl rfl ?_;obtain ⟨⟨b,kb⟩,hb⟩:∃ b,bG L ka m s=b:=⟨_,rfl⟩
   have hkb:=fM L ka m s;rw [hb] at hkb ⊢;simp only at hkb;simp only [go_sem,simprocAttr];refine aH (bD L kb 3 (by omega) (by omega) (by omega)) rfl rfl rfl ?_;have o3:=aD (L:=L) (k:=kb) (n:=3) (by omega);simp only [go_sem,simprocAttr];refine aQ 10 .done rfl (by kernel_rfl) (by kernel_rfl) (by decide) ?_;simp only [go_sem,simprocAttr];refine gV (bD L (kb+1) 3 (by omega) (by omega) (by omega)) rfl rfl rfl ?_;have p3:=aD (L:=L) (k:=kb+1) (n:=3) (by omega);simp only [go_sem,simprocAttr,wrap64 (x:=aB L kb 3+len) (by omega) (by omega),wrap64 (x:=aB L kb 3+len+aB L (kb+1) 3) (by omega) (by omega)];refine ⟨by kernel_rfl,?_⟩;have v1:IntKind.i64.wrap 1=1:=by decide
   have v2:IntKind.i64.wrap 2=2:=by decide
   refine aH (bD L (kb+2) 6 (by omega) (by omega) (by omega)) rfl rfl rfl ?_;have n6:=aD (L:=L) (k:=(kb+2)) (n:=6) (by omega);simp only [go_sem,simprocAttr];refine ⟨⟨by omega,by omega⟩,by omega,?_⟩;have hgn : [4096,4096,2048,0,8192,5000].getD (aB L (kb+2) 6).toNat 0=sGains.getD (aB L (kb+2) 6).toNat 0:=rfl;rw [hgn];generalize sGains.getD (aB L (kb+2) 6).toNat 0=gn;refine eJ ?_;refine aZ (aC _ ?_);simp only [go_sem,simprocAttr,decide_true];refine aQ 9 .done rfl (by kernel_rfl) (by kernel_rfl) (by decide) ?_;simp only [go_sem,simprocAttr];refine gV (bD L ((kb+2)+1) 4 (by omega) (by omega) (by omega)) rfl rfl rfl ?_;have c4:=aD (L:=L) (k:=(kb+2)+1) (n:=4) (by omega);simp only [go_sem,simprocAttr,wrap64 (x:=aB L ((kb+2)+1) 4 - 1) (by omega) (by omega)];refine ⟨by decide,by kernel_rfl,?_⟩;refine aZ (aC _ ?_);simp only [go_sem,simprocAttr,decide_true,v1];refine aQ 9 .done rfl (by kernel_rfl) (by kernel_rfl) (by decide) ?_;simp only [go_sem,simprocAttr];refine gV (bD L ((kb+2)+2) 4 (by omega) (by omega) (by omega)) rfl rfl rfl ?_;have d4:=aD (L:=L) (k:=(kb+2)+2) (n:=4) (by omega);simp only [go_sem,simprocAttr,wrap64 (x:=aB L ((kb+2)+2) 4 - 1) (by omega) (by omega)];refine ⟨by decide,by kernel_rfl,?_⟩;refine aZ (aC _ ?_);simp only [go_sem,simprocAttr,decide_false,v2];exact ⟨rfl,rfl⟩
theorem aB2 (L:List Int) (k:Nat) (m s:Int) (hm:m≤9) (hs:s≤9):(jA L k m s).1.fit:=by
 have n9:=aD (L:=L) (k:=k) (n:=9) (by omega);obtain ⟨_,fa⟩:=fL L (k+2) m s hm hs;obtain ⟨_,fb⟩:=fL L (bG L (k+2) m s).2 m s hm hs;have o3:=aD (L:=L) (k:=(bG L (bG L (k+2) m s).2 m s).2) (n:=3) (by omega);have p3:=aD (L:=L) (k:=(bG L (bG L (k+2) m s).2 m s).2+1) (n:=3) (by omega);have hk:∀ i:Nat, -1000000≤sKinds.getD i 0∧sKinds.getD i 0≤1000000:=fun i=>by
  rcases i with _ | _ | _ | _ | i<;>simp [sKinds]
 have hg:∀ i:Nat, -1000000≤sGains.getD i 0∧sGains.getD i 0≤1000000:=fun i=>by
  rcases i with _ | _ | _ | _ | _ | _ | i<;>simp [sGains]
 have hl:I64 (1+aB L k 9):=bL (by omega) (by omega);have qf:∀ s:SourceR,s.fit→(fW s).fit:=fun s h=>⟨h.kind,h.pos,h.speed⟩
 unfold jA;simp only;split
 ·exact ⟨hl,i0,xN,xN,i0,i0,i0,i0⟩
 ·split
  ·exact ⟨hl,bL (hk _).1 (hk _).2,qf _ fa,qf _ fb,bL (by simp only;omega) (by simp only;omega),bL (by simp only;omega) (by simp only;omega),i0,bL (hg _).1 (hg _).2⟩
  ·exact ⟨hl,bL (hk _).1 (hk _).2,qf _ fa,xN,i0,i0,i0,bL (hg _).1 (hg _).2⟩
open Go.RowKit
set_option maxRecDepth 4000
def fP (L:List Int) (k:Nat) (m s:Int):ClipR×Nat :=
 let len:=1+aB L k 9
 let kind:=sKinds.getD (aB L (k+1) 4).toNat 0
 if kind=0 then (⟨len,0,zSource,zSource,0,0,0,⟨#[]⟩,0,[]⟩,k+2)
 else
  let a:=bG L (k+2) m s
  if kind=2 then
   let b:=bG L a.2 m s
   let off:=aB L b.2 3
   let total:=off+len+aB L (b.2+1) 3
   (⟨len,kind,fW a.1,fW b.1,off,total,0,⟨#[]⟩,sGains.getD (aB L (b.2+2) 6).toNat 0,[]⟩,b.2+3)
  else (⟨len,kind,fW a.1,zSource,0,0,0,⟨#[]⟩,sGains.getD (aB L a.2 6).toNat 0,[]⟩,a.2+1)
theorem aSg (L:List Int) (k:Nat) (m s:Int) (hk:k≤800000) (hm : 0≤m∧m≤9) (hs : 0≤s∧s≤9) :
  xB Tryz.prog 43 [.t (bS L),aA k] [aA m,aA s,aA 0] (Lp (fP L k m s).1) [.t (bS L),aA ((fP L k m s).2:Int)]:=by
 refine pZ Tryz.X43 Tryz.func43 rfl Tryz.ntmps43 (by rw [Tryz.results43]) (aC _ ?_);simp only [go_sem,simprocAttr];refine aH (bD L k 9 (by omega) (by omega) (by omega)) rfl rfl rfl ?_;have n9:=aD (L:=L) (k:=k) (n:=9) (by omega);simp only [go_sem,simprocAttr,wrap64 (x:=1+aB L k 9) (by omega) (by omega)];refine aH (bD L (k+1) 4 (by omega) (by omega) (by omega)) rfl rfl rfl ?_;have n4:=aD (L:=L) (k:=k+1) (n:=4) (by omega);simp only [go_sem,simprocAttr];refine ⟨⟨by omega,by omega⟩,by omega,?_⟩;obtain ⟨kd,hkd⟩:∃ kd,sKinds.getD (aB L (k+1) 4).toNat 0=kd:=⟨_,rfl⟩
 have hkd':=hkd;unfold sKinds at hkd';rw [hkd'];have hl0 : 1≤1+aB L k 9∧1+aB L k 9≤9:=by omega
 generalize hlen : 1+aB L k 9=len at hl0;refine ⟨fun h0=>?_,fun h0=>?_⟩
 ·have e0:kd=0:=by simpa using h0
  have e:fP L k m s=(⟨len,0,zSource,zSource,0,0,0,⟨#[]⟩,0,[]⟩,k+2):=by unfold fP;simp only [hkd,hlen,e0,if_true]
  rw [e];unfold awS;simp only [go_sem,simprocAttr];rw [e0];exact ⟨rfl,rfl⟩
 ·have e0 : ¬ kd=0:=by simpa using h0
  unfold awS;simp only [go_sem,simprocAttr];refine aH (qA L (k+2) m s (by omega) hm hs) rfl rfl rfl ?_;obtain ⟨⟨a,ka⟩,ha⟩:∃ a,bG L (k+2) m s=a:=⟨_,rfl⟩
  have hka:=fM L (k+2) m s;rw [ha] at hka ⊢;simp only at hka;have hk5:kd=1∨kd=2:=by
   have:(aB L (k+1) 4).toNat=0∨(aB L (k+1) 4).toNat=1∨(aB L (k+1) 4).toNat=2∨(aB L (k+1) 4).toNat=3:=by omega
   rcases this with h | h | h | h<;>rw [h] at hkd'<;>simp at hkd'<;>omega
  clear hkd';rcases hk5 with rfl | rfl
  ·have e:fP L k m s=(⟨len,1,fW a,zSource,0,0,0,⟨#[]⟩,sGains.getD (aB L ka 6).toNat 0,[]⟩,ka+1):=by unfold fP;simp only [hkd,hlen,ha];first | rfl | simp
   rw [e];simp only [go_sem,simprocAttr];have v1:IntKind.i64.wrap 1=1:=by decide
   have v2:IntKind.i64.wrap 2=2:=by decide
   refine aH (bD L ka 6 (by omega) (by omega) (by omega)) rfl rfl rfl ?_;have n6:=aD (L:=L) (k:=ka) (n:=6) (by omega);simp only [go_sem,simprocAttr];refine ⟨⟨by omega,by omega⟩,by omega,?_⟩;have hgn : [4096,4096,2048,0,8192,5000].getD (aB L ka 6).toNat 0=sGains.getD (aB L ka 6).toNat 0:=rfl;rw [hgn];generalize sGains.getD (aB L ka 6).toNat 0=gn;refine eJ ?_;refine aZ (aC _ ?_);simp only [go_sem,simprocAttr,decide_false];exact ⟨rfl,rfl⟩
  ·have e:fP L k m s=(let b:=bG L ka m s; (⟨len,2,fW a,fW b.1,aB L b.2 3,aB L b.2 3+len+aB L (b.2+1) 3,0,⟨#[]⟩,sGains.getD (aB L (b.2+2) 6).toNat 0,[]⟩,b.2+3)):=by unfold fP;simp only [hkd,hlen,ha];first | rfl | simp
   rw [e];simp only [go_sem,simprocAttr];refine aH (qA L ka m s (by omega) hm hs) rfl rfl rfl ?_;obtain ⟨⟨b,kb⟩,hb⟩:∃ b,bG L ka m s=b:=⟨_,rfl⟩
   have hkb:=fM L ka m s;rw [hb] at hkb ⊢;simp only at hkb;simp only [go_sem,simprocAttr];refine aH (bD L kb 3 (by omega) (by omega) (by omega)) rfl rfl rfl ?_;have o3:=aD (L:=L) (k:=kb) (n:=3) (by omega);simp only [go_sem,simprocAttr];refine aQ 10 .done rfl (by kernel_rfl) (by kernel_rfl) (by decide) ?_;simp only [go_sem,simprocAttr];refine gV (bD L (kb+1) 3 (by omega) (by omega) (by omega)) rfl rfl rfl ?_;have p3:=aD (L:=L) (k:=kb+1) (n:=3) (by omega);simp only [go_sem,simprocAttr,wrap64 (x:=aB L kb 3+len) (by omega) (by omega),wrap64 (x:=aB L kb 3+len+aB L (kb+1) 3) (by omega) (by omega)];refine ⟨by kernel_rfl,?_⟩;have v1:IntKind.i64.wrap 1=1:=by decide
   have v2:IntKind.i64.wrap 2=2:=by decide
   refine aH (bD L (kb+2) 6 (by omega) (by omega) (by omega)) rfl rfl rfl ?_;have n6:=aD (L:=L) (k:=(kb+2)) (n:=6) (by omega);simp only [go_sem,simprocAttr];refine ⟨⟨by omega,by omega⟩,by omega,?_⟩;have hgn : [4096,4096,2048,0,8192,5000].getD (aB L (kb+2) 6).toNat 0=sGains.getD (aB L (kb+2) 6).toNat 0:=rfl;rw [hgn];generalize sGains.getD (aB L (kb+2) 6).toNat 0=gn;refine eJ ?_;refine aZ (aC _ ?_);simp only [go_sem,simprocAttr,decide_false];exact ⟨rfl,rfl⟩
theorem Xz (L:List Int) (k:Nat) (m s:Int) (hm:m≤9) (hs:s≤9):(fP L k m s).1.fit:=by
 have n9:=aD (L:=L) (k:=k) (n:=9) (by omega);obtain ⟨_,fa⟩:=fL L (k+2) m s hm hs;obtain ⟨_,fb⟩:=fL L (bG L (k+2) m s).2 m s hm hs;have o3:=aD (L:=L) (k:=(bG L (bG L (k+2) m s).2 m s).2) (n:=3) (by omega);have p3:=aD (L:=L) (k:=(bG L (bG L (k+2) m s).2 m s).2+1) (n:=3) (by omega);have hk:∀ i:Nat, -1000000≤sKinds.getD i 0∧sKinds.getD i 0≤1000000:=fun i=>by
  rcases i with _ | _ | _ | _ | i<;>simp [sKinds]
 have hg:∀ i:Nat, -1000000≤sGains.getD i 0∧sGains.getD i 0≤1000000:=fun i=>by
  rcases i with _ | _ | _ | _ | _ | _ | i<;>simp [sGains]
 have hl:I64 (1+aB L k 9):=bL (by omega) (by omega);have qf:∀ s:SourceR,s.fit→(fW s).fit:=fun s h=>⟨h.kind,h.pos,h.speed⟩
 unfold fP;simp only;split
 ·exact ⟨hl,i0,xN,xN,i0,i0,i0,i0⟩
 ·split
  ·exact ⟨hl,bL (hk _).1 (hk _).2,qf _ fa,qf _ fb,bL (by simp only;omega) (by simp only;omega),bL (by simp only;omega) (by simp only;omega),i0,bL (hg _).1 (hg _).2⟩
  ·exact ⟨hl,bL (hk _).1 (hk _).2,qf _ fa,xN,i0,i0,i0,bL (hg _).1 (hg _).2⟩
def fN (L:List Int) (k:Nat) (m s:Int):ClipR×Nat :=
 let len:=1+aB L k 9
 let kind:=sKinds.getD (aB L (k+1) 4).toNat 0
 if kind=0 then (⟨len,0,zSource,zSource,0,0,0,⟨#[]⟩,0,[]⟩,k+2)
 else
  let a:=bG L (k+2) m s
  if kind=2 then
   let b:=bG L a.2 m s
   let off:=aB L b.2 3
   let total:=off+len+aB L (b.2+1) 3
   (⟨len,kind,fW a.1,fW b.1,off,total,0,⟨#[]⟩,sGains.getD (aB L (b.2+2) 6).toNat 0,[aB L (b.2+3) 4 - 1]⟩,b.2+4)
  else (⟨len,kind,fW a.1,zSource,0,0,0,⟨#[]⟩,sGains.getD (aB L a.2 6).toNat 0,[aB L (a.2+1) 4 - 1]⟩,a.2+2)
theorem aSf (L:List Int) (k:Nat) (m s:Int) (hk:k≤800000) (hm : 0≤m∧m≤9) (hs : 0≤s∧s≤9) :
  xB Tryz.prog 43 [.t (bS L),aA k] [aA m,aA s,aA 1] (Lp (fN L k m s).1) [.t (bS L),aA ((fN L k m s).2:Int)]:=by
 refine pZ Tryz.X43 Tryz.func43 rfl Tryz.ntmps43 (by rw [Tryz.results43]) (aC _ ?_);simp only [go_sem,simprocAttr];refine aH (bD L k 9 (by omega) (by omega) (by omega)) rfl rfl rfl ?_;have n9:=aD (L:=L) (k:=k) (n:=9) (by omega);simp only [go_sem,simprocAttr,wrap64 (x:=1+aB L k 9) (by omega) (by omega)];refine aH (bD L (k+1) 4 (by omega) (by omega) (by omega)) rfl rfl rfl ?_;have n4:=aD (L:=L) (k:=k+1) (n:=4) (by omega);simp only [go_sem,simprocAttr];refine ⟨⟨by omega,by omega⟩,by omega,?_⟩;obtain ⟨kd,hkd⟩:∃ kd,sKinds.getD (aB L (k+1) 4).toNat 0=kd:=⟨_,rfl⟩
 have hkd':=hkd;unfold sKinds at hkd';rw [hkd'];have hl0 : 1≤1+aB L k 9∧1+aB L k 9≤9:=by omega
 generalize hlen : 1+aB L k 9=len at hl0;refine ⟨fun h0=>?_,fun h0=>?_⟩
 ·have e0:kd=0:=by simpa using h0
  have e:fN L k m s=(⟨len,0,zSource,zSource,0,0,0,⟨#[]⟩,0,[]⟩,k+2):=by unfold fN;simp only [hkd,hlen,e0,if_true]
  rw [e];unfold awS;simp only [go_sem,simprocAttr];rw [e0];exact ⟨rfl,rfl⟩
 ·have e0 : ¬ kd=0:=by simpa using h0
  unfold awS;simp only [go_sem,simprocAttr];refine aH (qA L (k+2) m s (by omega) hm hs) rfl rfl rfl ?_;obtain ⟨⟨a,ka⟩,ha⟩:∃ a,bG L (k+2) m s=a:=⟨_,rfl⟩
  have hka:=fM L (k+2) m s;rw [ha] at hka ⊢;simp only at hka;have hk5:kd=1∨kd=2:=by
   have:(aB L (k+1) 4).toNat=0∨(aB L (k+1) 4).toNat=1∨(aB L (k+1) 4).toNat=2∨(aB L (k+1) 4).toNat=3:=by omega
   rcases this with h | h | h | h<;>rw [h] at hkd'<;>simp at hkd'<;>omega
  clear hkd';rcases hk5 with rfl | rfl
  ·have e:fN L k m s=(⟨len,1,fW a,zSource,0,0,0,⟨#[]⟩,sGains.getD (aB L ka 6).toNat 0,[aB L (ka+1) 4 - 1]⟩,ka+2):=by unfold fN;simp only [hkd,hlen,ha];first | rfl | simp
   rw [e];simp only [go_sem,simprocAttr];have v1:IntKind.i64.wrap 1=1:=by decide
   have v2:IntKind.i64.wrap 2=2:=by decide
   refine aH (bD L ka 6 (by omega) (by omega) (by omega)) rfl rfl rfl ?_;have n6:=aD (L:=L) (k:=ka) (n:=6) (by omega);simp only [go_sem,simprocAttr];refine ⟨⟨by omega,by omega⟩,by omega,?_⟩;have hgn : [4096,4096,2048,0,8192,5000].getD (aB L ka 6).toNat 0=sGains.getD (aB L ka 6).toNat 0:=rfl;rw [hgn];generalize sGains.getD (aB L ka 6).toNat 0=gn;refine eJ ?_;refine aZ (aC _ ?_);simp only [go_sem,simprocAttr,decide_true];refine aQ 9 .done rfl (by kernel_rfl) (by kernel_rfl) (by decide) ?_;simp only [go_sem,simprocAttr];refine gV (bD L (ka+1) 4 (by omega) (by omega) (by omega)) rfl rfl rfl ?_;have c4:=aD (L:=L) (k:=ka+1) (n:=4) (by omega);simp only [go_sem,simprocAttr,wrap64 (x:=aB L (ka+1) 4 - 1) (by omega) (by omega)];refine ⟨by decide,by kernel_rfl,?_⟩;refine aZ (aC _ ?_);simp only [go_sem,simprocAttr,decide_false,v1];exact ⟨rfl,rfl⟩
  ·have e:fN L k m s=(let b:=bG L ka m s; (⟨len,2,fW a,fW b.1,aB L b.2 3,aB L b.2 3+len+aB L (b.2+1) 3,0,⟨#[]⟩,sGains.getD (aB L (b.2+2) 6).toNat 0,[aB L (b.2+3) 4 - 1]⟩,b.2+4)):=by unfold fN;simp only [hkd,hlen,ha];first | rfl | simp
   rw [e];simp only [go_sem,simprocAttr];refine aH (qA L ka m s (by omega) hm hs) rfl rfl rfl ?_;obtain ⟨⟨b,kb⟩,hb⟩:∃ b,bG L ka m s=b:=⟨_,rfl⟩
   have hkb:=fM L ka m s;rw [hb] at hkb ⊢;simp only at hkb;simp only [go_sem,simprocAttr];refine aH (bD L kb 3 (by omega) (by omega) (by omega)) rfl rfl rfl ?_;have o3:=aD (L:=L) (k:=kb) (n:=3) (by omega);simp only [go_sem,simprocAttr];refine aQ 10 .done rfl (by kernel_rfl) (by kernel_rfl) (by decide) ?_;simp only [go_sem,simprocAttr];refine gV (bD L (kb+1) 3 (by omega) (by omega) (by omega)) rfl rfl rfl ?_;have p3:=aD (L:=L) (k:=kb+1) (n:=3) (by omega);simp only [go_sem,simprocAttr,wrap64 (x:=aB L kb 3+len) (by omega) (by omega),wrap64 (x:=aB L kb 3+len+aB L (kb+1) 3) (by omega) (by omega)];refine ⟨by kernel_rfl,?_⟩;have v1:IntKind.i64.wrap 1=1:=by decide
   have v2:IntKind.i64.wrap 2=2:=by decide
   refine aH (bD L (kb+2) 6 (by omega) (by omega) (by omega)) rfl rfl rfl ?_;have n6:=aD (L:=L) (k:=(kb+2)) (n:=6) (by omega);simp only [go_sem,simprocAttr];refine ⟨⟨by omega,by omega⟩,by omega,?_⟩;have hgn : [4096,4096,2048,0,8192,5000].getD (aB L (kb+2) 6).toNat 0=sGains.getD (aB L (kb+2) 6).toNat 0:=rfl;rw [hgn];generalize sGains.getD (aB L (kb+2) 6).toNat 0=gn;refine eJ ?_;refine aZ (aC _ ?_);simp only [go_sem,simprocAttr,decide_true];refine aQ 9 .done rfl (by kernel_rfl) (by kernel_rfl) (by decide) ?_;simp only [go_sem,simprocAttr];refine gV (bD L ((kb+2)+1) 4 (by omega) (by omega) (by omega)) rfl rfl rfl ?_;have c4:=aD (L:=L) (k:=(kb+2)+1) (n:=4) (by omega);simp only [go_sem,simprocAttr,wrap64 (x:=aB L ((kb+2)+1) 4 - 1) (by omega) (by omega)];refine ⟨by decide,by kernel_rfl,?_⟩;refine aZ (aC _ ?_);simp only [go_sem,simprocAttr,decide_false,v1];exact ⟨rfl,rfl⟩
theorem Xx (L:List Int) (k:Nat) (m s:Int) (hm:m≤9) (hs:s≤9):(fN L k m s).1.fit:=by
 have n9:=aD (L:=L) (k:=k) (n:=9) (by omega);obtain ⟨_,fa⟩:=fL L (k+2) m s hm hs;obtain ⟨_,fb⟩:=fL L (bG L (k+2) m s).2 m s hm hs;have o3:=aD (L:=L) (k:=(bG L (bG L (k+2) m s).2 m s).2) (n:=3) (by omega);have p3:=aD (L:=L) (k:=(bG L (bG L (k+2) m s).2 m s).2+1) (n:=3) (by omega);have hk:∀ i:Nat, -1000000≤sKinds.getD i 0∧sKinds.getD i 0≤1000000:=fun i=>by
  rcases i with _ | _ | _ | _ | i<;>simp [sKinds]
 have hg:∀ i:Nat, -1000000≤sGains.getD i 0∧sGains.getD i 0≤1000000:=fun i=>by
  rcases i with _ | _ | _ | _ | _ | _ | i<;>simp [sGains]
 have hl:I64 (1+aB L k 9):=bL (by omega) (by omega);have qf:∀ s:SourceR,s.fit→(fW s).fit:=fun s h=>⟨h.kind,h.pos,h.speed⟩
 unfold fN;simp only;split
 ·exact ⟨hl,i0,xN,xN,i0,i0,i0,i0⟩
 ·split
  ·exact ⟨hl,bL (hk _).1 (hk _).2,qf _ fa,qf _ fb,bL (by simp only;omega) (by simp only;omega),bL (by simp only;omega) (by simp only;omega),i0,bL (hg _).1 (hg _).2⟩
  ·exact ⟨hl,bL (hk _).1 (hk _).2,qf _ fa,xN,i0,i0,i0,bL (hg _).1 (hg _).2⟩
def mX (L:List Int) (k:Nat) (m s:Int) (ch:Int):ClipR×Nat:=if ch=0 then fP L k m s else if ch=1 then fN L k m s else jA L k m s
theorem cSoundC (L:List Int) (k:Nat) (m s ch:Int) (hk:k≤800000) (hm : 0≤m∧m≤9) (hs : 0≤s∧s≤9) (hc : 0≤ch∧ch≤2) :
  xB Tryz.prog 43 [.t (bS L),aA k] [aA m,aA s,aA ch] (mF (mX L k m s ch).1) [.t (bS L),aA ((mX L k m s ch).2:Int)]:=by
 have:ch=0∨ch=1∨ch=2:=by omega
 rcases this with rfl | rfl | rfl
 ·exact Ky (Ta _) (aSg L k m s hk hm hs)
 ·exact Ky (Ta _) (aSf L k m s hk hm hs)
 ·exact Ky (Ta _) (cSoundZ L k m s hk hm hs)
theorem aEh (L:List Int) (k:Nat) (m s ch:Int) (hm:m≤9) (hs:s≤9):(mX L k m s ch).1.fit:=by
 unfold mX;split
 ·exact Xz L k m s hm hs
 ·split
  ·exact Xx L k m s hm hs
  ·exact aB2 L k m s hm hs
open Go.RowKit
set_option maxRecDepth 4000
theorem cTrackB (L:List Int) (k:Nat) (m s most:Int) (hk:k≤100000) (hm : 0≤m∧m≤9) (hs : 0≤s∧s≤9) (h0 : 0≤most) (h9:most≤9):xB Tryz.prog 37 [.t (bS L),aA k] [aA m,aA s,aA most] (.t (aM (bP L k m s most).1)) [.t (bS L),aA ((bP L k m s most).2:Int)]:=by
 refine pZ Tryz.X37 Tryz.func37 rfl Tryz.ntmps37 (by rw [Tryz.results37]) (dV fun hf=>aC _ ?_);have w1:IntKind.i64.wrap (most+1)=most+1:=wrap64 (by omega) (by omega);simp only [go_sem,simprocAttr,w1];refine aH (bD L k (most+1) (by omega) (by omega) (by omega)) rfl rfl rfl ?_;have tn:=aD (L:=L) (k:=k) (n:=most+1) (by omega);obtain ⟨N,hN⟩:∃ N:Nat,aB L k (most+1)=N:=⟨(aB L k (most+1)).toNat,by omega⟩
 simp only [go_sem,simprocAttr,hN];refine aJ (fun (x:Nat×List ClipR×Nat) σ => StT L x.1 x.2.1 x.2.2 σ) (fun x=>x.2.1.length+2*x.1≤18∧x.2.2+19*x.1≤k+200∧x.2.1++(jK L m s x.1 x.2.2).1=(bP L k m s most).1∧(jK L m s x.1 x.2.2).2=(bP L k m s most).2) (fun x=>x.1) (N,[],k+1) (aT [(1,none),(0,some 0)] ?_) ⟨by simp only [List.length_nil];omega,by simp only;omega,?_⟩ ?_
 ·simp only [go_sem,simprocAttr]<;>simp
 ·simp only [bP,hN,Int.toNat_natCast,List.nil_append,and_self]
 ·rintro ⟨c,es,q⟩ ⟨hc,hq,he1,he2⟩;simp only at hc hq he1 he2;refine aC _ ?_;simp only [go_sem,simprocAttr];refine ⟨fun hlt=>?_,fun hge=>?_⟩
  ·simp only [bxx] at hlt;obtain ⟨c,rfl⟩:∃ c',c=c'+1:=⟨c - 1,by omega⟩
   simp only [jK] at he1 he2;have hst:=pU L q m s hm.2 hs.2;unfold awS;simp only [go_sem,simprocAttr];refine aH (aJx L q m s (by omega) hm hs) rfl rfl rfl ?_;have hle:=Gt L q m s;have hsm:=rJ L q m s;generalize hcl:bQ L q m s=C at *;obtain ⟨d,kq⟩:=C;simp only [go_sem,simprocAttr];have ec:∀ d:ClipR,[T.lit (.int .i64 d.len), .lit (.int .i64 d.kind), .lit (.int .i64 d.a.kind), .lit (.string d.a.name), .lit (.int .i64 d.a.pos.num), .lit (.int .i64 d.a.pos.den), .lit (.int .i64 d.a.speed.num), .lit (.int .i64 d.a.speed.den), .lit (.bool d.a.smooth),
    .lit (.int .i64 d.b.kind), .lit (.string d.b.name), .lit (.int .i64 d.b.pos.num), .lit (.int .i64 d.b.pos.den), .lit (.int .i64 d.b.speed.num), .lit (.int .i64 d.b.speed.den), .lit (.bool d.b.smooth), .lit (.int .i64 d.off), .lit (.int .i64 d.total), .lit (.int .i64 d.param), .lit (.string d.text), .lit (.int .i64 d.gain), .list 1 (sS 0) (d.chan.map sS)]=ClipR.c d:=fun _=>rfl
   have es1:es.map ClipR.c ++ [ClipR.c d]=(es ++ [d]).map ClipR.c:=by simp
   simp only [ec,es1];refine ⟨⟨by unfold maxLen;omega,by omega⟩,aH (bD L kq 4 (by omega) (by omega) (by omega)) rfl rfl rfl ?_⟩;have n4:=aD (L:=L) (k:=kq) (n:=4) (by omega);simp only [go_sem,simprocAttr];have hll:((es ++ [d]).length:Int)<64:=by simp only [List.length_append,List.length_cons,List.length_nil];omega
   have wc:IntKind.i64.wrap (((c+1:Nat):Int) - 1)=(c:Int):=by rw [wrap64 (by omega) (by omega)];omega
   refine brW (b:=aB L kq 4==0) ?_ ⟨fun hj=>?_,fun hj=>?_⟩
   ·rw [decide_eq_true hll,Bool.and_true]
   ·unfold awS;simp only [go_sem,simprocAttr];refine aH (bD L (kq+1) 4 (by omega) (by omega) (by omega)) rfl rfl rfl ?_;have m4:=aD (L:=L) (k:=kq+1) (n:=4) (by omega);simp only [go_sem,simprocAttr,wrap64 (x:=1+aB L (kq+1) 4) (by omega) (by omega)];refine ⟨_,fun _=>aJb d.a.speed aQ7,_,fun _=>jT d.b zSource,fun hb=>?_,fun hb=>?_⟩
    ·have hb2:xX d=true:=hb;have hs1:dK L q m s=([d,eZ d (1+aB L (kq+1) 4)],kq+2):=by
      unfold dK;rw [hcl];simp only;rw [if_pos (by simpa using hj),if_pos hb2]
     rw [hs1] at he1 he2;obtain ⟨⟨q1,q2,q3⟩,_,q5,q6⟩:=hsm;simp only at q1 q2 q3 q5 q6;have wm:(d.len*d.a.pos.den).natAbs≤900000:=by
      rw [Int.natAbs_mul];exact Nat.mul_le_mul (show d.len.natAbs≤9 by omega) q2
     unfold awS;simp only [go_sem,simprocAttr,wrap64 (x:=d.len*d.a.pos.den) (by omega) (by omega),wrap64 (x:=d.a.pos.num+d.len*d.a.pos.den) (by omega) (by omega)];have e2:∀ n:Int,[T.lit (.int .i64 n), .lit (.int .i64 d.kind), .lit (.int .i64 d.a.kind), .lit (.string d.a.name), .lit (.int .i64 (d.a.pos.num+d.len*d.a.pos.den)), .lit (.int .i64 d.a.pos.den), .lit (.int .i64 d.a.speed.num), .lit (.int .i64 d.a.speed.den), .lit (.bool d.a.smooth),
      .lit (.int .i64 d.b.kind), .lit (.string d.b.name), .lit (.int .i64 d.b.pos.num), .lit (.int .i64 d.b.pos.den), .lit (.int .i64 d.b.speed.num), .lit (.int .i64 d.b.speed.den), .lit (.bool d.b.smooth), .lit (.int .i64 d.off), .lit (.int .i64 d.total), .lit (.int .i64 d.param), .lit (.string d.text), .lit (.int .i64 d.gain), .list 1 (sS 0) (d.chan.map sS)]=ClipR.c (eZ d n):=fun _=>rfl
     have e3:∀ x:ClipR,(es ++ [d]).map ClipR.c ++ [ClipR.c x]=(es ++ [d,x]).map ClipR.c:=fun x=>by simp
     simp only [e2,e3];refine ⟨⟨by simp only [List.length_append,List.length_cons,List.length_nil];unfold maxLen;omega,by simp only [List.length_append,List.length_cons,List.length_nil];omega⟩,(c,es ++ [d,eZ d (1+aB L (kq+1) 4)],kq+2),aT [(1,some 7),(0,some 0)] ?_,⟨by simp only [List.length_append,List.length_cons,List.length_nil];omega,by simp only;simp only at hle;omega,by rw [← he1];simp,he2⟩,by simp only;omega⟩;simp only [go_sem,simprocAttr,wc];try simp
    ·have hs1:dK L q m s=([d],kq+2):=by
      have hb2:xX d=false:=hb;unfold dK;rw [hcl];simp only;rw [if_pos (by simpa using hj),hb2];rfl
     rw [hs1] at he1 he2;unfold awS;simp only [go_sem,simprocAttr];refine ⟨(c,es ++ [d],kq+2),aT [(1,some 4),(0,some 0)] ?_,⟨by simp only [List.length_append,List.length_cons,List.length_nil];omega,by simp only;simp only at hle;omega,by rw [← he1];simp,he2⟩,by simp only;omega⟩;simp only [go_sem,simprocAttr,wc];try simp
   ·have hs1:dK L q m s=([d],kq+1):=by
     unfold dK;rw [hcl];simp only;rw [if_neg (by simpa using hj)]
    rw [hs1] at he1 he2;unfold awS;simp only [go_sem,simprocAttr];refine ⟨(c,es ++ [d],kq+1),aT [(1,some 4),(0,some 0)] ?_,⟨by simp only [List.length_append,List.length_cons,List.length_nil];omega,by simp only;simp only at hle;omega,by rw [← he1];simp,he2⟩,by simp only;omega⟩;simp only [go_sem,simprocAttr,wc];try simp
  ·simp only [bxx] at hge;unfold awS;simp only [go_sem,simprocAttr];have:c=0:=by omega
   subst this;simp only [jK,List.append_nil] at he1 he2;rw [he1,he2];exact ⟨rfl,rfl⟩
def yM (m:MediumR):List T:=[fZ m.name,tu m.sum]++m.seq.c ++ [ti m.frames,ti m.channels,ti m.samples]
def gP (m:MediumR) (x:V):List V:=(yM m).map V.t ++ [x]
@[go_sem] theorem aKg (m:MediumR) (x:V):(gP m x).length=141:=rfl
@[go_sem] theorem vmedX_140 (m:MediumR) (x:V):(gP m x)[140]? = some x:=rfl
@[go_sem] theorem vmedX_all (m:MediumR) (x:V):List.take 141 (gP m x)=gP m x:=List.take_of_length_le (by rw [aKg];exact Nat.le_refl _)
@[go_sem] theorem vmedX_put (m:MediumR) (x y:V):List.take 140 (gP m x) ++ [y]=gP m y:=rfl
@[go_sem] theorem vmedX_drop (m:MediumR) (x:V):List.drop 141 (gP m x) = []:=rfl
@[go_sem] theorem vmedX_put9 (m:MediumR) (x:V) (n:Int):List.take 139 (gP m x) ++ [.t (.lit (.int .i64 n))]++List.drop 140 (gP m x)=gP { m with samples:=n } x:=rfl
@[go_sem] theorem vmedX_cell (m:MediumR) (x:V):(gP m x).all V.isCell=V.isCell x:=by
 unfold gP;rw [List.all_append];have:((yM m).map V.t).all V.isCell=true:=by
  rw [List.all_eq_true];intro x hx;obtain ⟨t,_,rfl⟩:=List.mem_map.1 hx;rfl
 rw [this];simp
def aQn (m:MediumR) (o:Option T):Option (List T) :=
 match o with
 | some t=>some (yM m ++ [t])
 | none=>none
@[go_sem] theorem vmedX_lend (h:Heap) (n:Nat) (m:MediumR) (x:V):Go.Proofs.YtbfnemkngoaeeaaGreat.lendCs (bC h n) (gP m x)=aQn m (bC h n x):=by
 unfold gP;cases e:bC h n x with
 | some t=>exact uR (yP _ (nJ h n) _) (by unfold lendCs lendCs;rw [e])
 | none =>
  unfold aQn;generalize yM m=l
  induction l with
  | nil=>simp only [List.map_nil,List.nil_append,lendCs,e]
  | cons a l ih=>simp only [List.map_cons,List.cons_append,lendCs,ih,nJ]
@[go_sem] theorem vmedX_reach (h:Heap) (n:Nat) (m:MediumR) (x:V):Go.Proofs.YtbfnemkngoaeeaaGreat.reachL (nC h n) (gP m x)=nC h n x:=by
 unfold gP;generalize yM m=l
 induction l with
 | nil=>simp only [List.map_nil,List.nil_append,reachL,List.append_nil]
 | cons a l ih=>simp only [List.map_cons,List.cons_append,reachL,ih,Yg,List.nil_append]
attribute [go_sem] aQn
@[go_sem] theorem vmedX_tCells (m:MediumR) (i:Nat):Go.Proofs.YtbfnemkngoaeeaaGreat.tCells (gP m (.own i))=none:=by
 unfold gP;generalize yM m=l
 induction l with
 | nil=>rfl
 | cons a l ih=>simp only [List.map_cons,List.cons_append,tCells,ih,Option.map_none]
@[go_sem] theorem aCp (h:Heap) (n:Nat) (ys:List (List V)):∀ xs:List (List T),Go.Proofs.YtbfnemkngoaeeaaGreat.lendRs (bC h n) (aS xs++ys)=match Go.Proofs.YtbfnemkngoaeeaaGreat.lendRs (bC h n) ys with | some ts=>some (xs++ts) | none=>none
 | []=>by
  simp only [aS,List.map_nil,List.nil_append];cases lendRs (bC h n) ys<;>rfl
 | x::xs=>by
  have ih:=aCp h n ys xs;unfold aS at ih ⊢;simp only [List.map_cons,List.cons_append,lendRs,ih,yP _ (nJ h n)];cases lendRs (bC h n) ys<;>rfl
@[go_sem] theorem Yh (h:Heap) (n:Nat) (ys:List (List V)):∀ xs:List (List T),Go.Proofs.YtbfnemkngoaeeaaGreat.reachRs (nC h n) (aS xs++ys)=Go.Proofs.YtbfnemkngoaeeaaGreat.reachRs (nC h n) ys
 | []=>rfl
 | x::xs=>by
  have ih:=Yh h n ys xs;unfold aS at ih ⊢;simp only [List.map_cons,List.cons_append,reachRs,ih,Nd _ (Yg h n),List.nil_append]
theorem aKf {ρ : Ren} {h:Heap} {m:MediumR} {x y:V}:wkVs ρ h (gP m x) (gP m y) ↔ wkV ρ h x y:=by
 unfold gP;generalize yM m=l
 induction l with
 | nil=>simp only [List.map_nil,List.nil_append,wkVs,and_true]
 | cons a l ih =>
  simp only [List.map_cons,List.cons_append,wkVs,ih];exact ⟨fun q=>q.2,fun q=>⟨by simp only [wkV,wkT];exact aAf _,q⟩⟩
@[go_sem] theorem vmedX_wk {ρ : Ren} {h:Heap} {m:MediumR} {x y:V}:Go.Proofs.YtbfnemkngoaeeaaGreat.wkVs ρ h (gP m x) (gP m y)=wkV ρ h x y:=propext aKf
open Go.RowKit
set_option maxRecDepth 4000
theorem aDf (L:List Int) (k:Nat):(nP L k).2≤k+5:=by
 unfold nP;split<;>simp
def eV (L:List Int):Nat→Nat→List CueR×Nat
 | 0,k=>([],k)
 | n+1,k=>((nP L k).1::(eV L n (nP L k).2).1,(eV L n (nP L k).2).2)
def mJ (L:List Int) (k:Nat):RatR:=⟨(([(25,1),(24,1),(30000,1001)]:List (Int×Int)).getD (aB L k 3).toNat (0,0)).1,(([(25,1),(24,1),(30000,1001)]:List (Int×Int)).getD (aB L k 3).toNat (0,0)).2⟩
def Wg (r:RatR):SeqR:=⟨16,16,r,false,400000,400000,fun _=>0⟩
def sL (L:List Int) (i k:Nat):MediumR×Nat :=
 (⟨cX ⟨#[109]⟩ i,IntKind.u64.wrap (aB L k 99),Wg (mJ L (k+1)),5+aB L (k+2) 40,aB L (k+3) 3,aB L (k+4) 20000,(eV L (aB L (k+5) 3).toNat (k+6)).1⟩,(eV L (aB L (k+5) 3).toNat (k+6)).2)
def kM (L:List Int):Nat→Nat→Nat→List MediumR×Nat
 | 0,_,k=>([],k)
 | n+1,i,k=>((sL L i k).1::(kM L n (i+1) (sL L i k).2).1,(kM L n (i+1) (sL L i k).2).2)
abbrev RowQ (l:List CueR):Blk := .row 110 3 (CueR.c default) (aS (l.map CueR.c))
def jG (L:List Int) (m s:Int):Nat→Nat→List (List ClipR)×Nat
 | 0,k=>([],k)
 | n+1,k=>((bP L k m s 5).1::(jG L m s n (bP L k m s 5).2).1,(jG L m s n (bP L k m s 5).2).2)
def fQ (L:List Int) (m s ch:Int):Nat→Nat→List ClipR×Nat
 | 0,k=>([],k)
 | n+1,k=>((mX L k m s ch).1::(fQ L m s ch n (mX L k m s ch).2).1,(fQ L m s ch n (mX L k m s ch).2).2)
def Mg (L:List Int) (m s ch:Int) (k:Nat):List ClipR×Nat:=fQ L m s ch (aB L k 4).toNat (k+1)
def mY (L:List Int) (m s ch:Int):Nat→Nat→List (List ClipR)×Nat
 | 0,k=>([],k)
 | n+1,k=>((Mg L m s ch k).1::(mY L m s ch n (Mg L m s ch k).2).1,(mY L m s ch n (Mg L m s ch k).2).2)
def Bd (L:List Int) (m:Int) (i k:Nat):SequenceR×Nat :=
 let ch:=aB L (k+1) 3
 let v:=jG L m i (1+aB L (k+2) 2).toNat (k+3)
 let a:=mY L m i ch (aB L v.2 3).toNat (v.2+1)
 let c:=eV L (aB L a.2 3).toNat (a.2+1)
 (⟨cX ⟨#[115]⟩ i,mJ L k,16,16,v.1,a.1,c.1,ch⟩,c.2)
def nA (L:List Int) (m:Int):Nat→Nat→Nat→List SequenceR×Nat
 | 0,_,k=>([],k)
 | n+1,i,k=>((Bd L m i k).1::(nA L m n (i+1) (Bd L m i k).2).1,(nA L m n (i+1) (Bd L m i k).2).2)
def dH (L:List Int):ProjR :=
 ⟨(kM L (1+aB L 0 3).toNat 0 2).1,(nA L (1+aB L 0 3).toNat (1+aB L 1 3).toNat 0 (kM L (1+aB L 0 3).toNat 0 2).2).1⟩
theorem aEb (L:List Int) (k:Nat) (m s:Int) (hm:m≤9) (hs:s≤9):(dK L k m s).2≤k+19:=by
 have h:=pU L k m s hm hs;omega
theorem Ly (L:List Int) (m s:Int) (hm:m≤9) (hs:s≤9):∀ (n k:Nat),(jK L m s n k).2≤k+19*n
 | 0,k=>by simp [jK]
 | n+1,k=>by
  have h1:=aEb L k m s hm hs;have h2:=Ly L m s hm hs n (dK L k m s).2;simp only [jK];omega
theorem aNm (L:List Int) (k:Nat) (m s:Int) (hm:m≤9) (hs:s≤9):(bP L k m s 5).2≤k+150:=by
 have t:=aD (L:=L) (k:=k) (n:=5+1) (by omega);have h:=Ly L m s hm hs (aB L k (5+1)).toNat (k+1);unfold bP;omega
theorem aKv (L:List Int) (k:Nat) (m s ch:Int):(mX L k m s ch).2≤k+19:=by
 have h1:=fM L (k+2) m s;have h2:=fM L (bG L (k+2) m s).2 m s;unfold mX;split
 ·unfold fP;simp only;split
  ·simp
  ·split<;>simp only<;>omega
 ·split
  ·unfold fN;simp only;split
   ·simp
   ·split<;>simp only<;>omega
  ·unfold jA;simp only;split
   ·simp
   ·split<;>simp only<;>omega
abbrev aGg (l:List (List ClipR)):Blk := .row 27 1 (jL []) (aS (l.map jL))
abbrev aE4 (l:List SequenceR):Blk := .row 114 9 (SequenceR.c default) (aS (l.map SequenceR.c))
abbrev aGh (l:List MediumR):Blk := .row 82 141 (MediumR.c default) (aS (l.map MediumR.c))
theorem fill70 (a b:Int):qZ (fun i=>[(0,1),(1,1),(2,2),(4,1),(5,1),(6,1),(7,64),(71,64)][i]?) (qY Tryz.z79) [(0, .t (.lit (.int .i64 16))),(1, .t (.lit (.int .i64 16))),(2, .agg [.t (.lit (.int .i64 a)), .t (.lit (.int .i64 b))]),(4, .t (.lit (.int .i64 400000))),(5, .t (.lit (.int .i64 400000)))]=some (vseq (Wg ⟨a,b⟩)):=by
 rfl
theorem fill73 (s:SeqR) (n:ByteArray) (u f c:Int):qZ (fun i=>[(0,1),(1,1),(2,135),(137,1),(138,1),(139,1),(140,1)][i]?) (qY Tryz.z82) [(0, .t (.lit (.string n))),(1, .t (.lit (.int .u64 u))),(2, .agg (vseq s)),(3, .t (.lit (.int .i64 f))),(4, .t (.lit (.int .i64 c)))]=some (gP ⟨n,u,s,f,c,0,[]⟩ (.t (.lit (.slice none 0 0)))):=by
 rfl
set_option maxHeartbeats 8000000 in
theorem Sm (L:List Int):aK Tryz.prog 13 [.t (bS L)] (uV (dH L)):=by
 refine aG Tryz.X13 Tryz.func13 rfl Tryz.ntmps13 (by rw [Tryz.results13]) (aC _ ?_);simp only [go_sem,simprocAttr];refine aH (bD L 0 3 (by omega) (by omega) (by omega)) rfl rfl rfl ?_;have n1:=aD (L:=L) (k:=0) (n:=3) (by omega);simp only [go_sem,simprocAttr,wrap64 (x:=1+aB L 0 3) (by omega) (by omega)];refine aH (bD L 1 3 (by omega) (by omega) (by omega)) rfl rfl rfl ?_;have n2:=aD (L:=L) (k:=1) (n:=3) (by omega);simp only [go_sem,simprocAttr,wrap64 (x:=1+aB L 1 3) (by omega) (by omega)];obtain ⟨M,hM⟩:∃ M:Nat,1+aB L 0 3=M:=⟨(1+aB L 0 3).toNat,by omega⟩
 obtain ⟨N,hN⟩:∃ N:Nat,1+aB L 1 3=N:=⟨(1+aB L 1 3).toNat,by omega⟩
 rw [hM,hN];refine aJ (fun (x:Nat×List MediumR×Nat) σ => { fr:=(dD [9,10,11,12,13,14,15,16,17,18,19,20,21,22,23,24,25,26,27,28,29,30,31,32,33,34,35,36,37,38,39,40,41,42,43,44,45,46,47,48,49,50,51,52,53,54,55,56,57,58,59,60,61,62,63,64,65,66,67,68,69,70,71,72,73,74,75,76,77,78] σ).fr.set 8 (aA x.1),h:=[(4,aGh x.2.1),(3, .row 30 2 [.lit (.int .i64 0), .lit (.int .i64 0)] (aS [[.lit (.int .i64 25), .lit (.int .i64 1)],[.lit (.int .i64 24), .lit (.int .i64 1)],[.lit (.int .i64 30000), .lit (.int .i64 1001)]])),(2, .box [.own 4, .t (.lit (.slice none 0 0))]),(1, .box [.t (bS L),aA x.2.2]),(0, .box [.t (.lit (.slice none 0 0)), .t (.lit (.slice none 0 0))])],nx:=5 })
  (fun x=>x.1≤M∧x.2.1.length=x.1∧x.2.2≤2+20*x.1∧x.2.1++(kM L (M - x.1) x.1 x.2.2).1=(kM L M 0 2).1∧(kM L (M - x.1) x.1 x.2.2).2=(kM L M 0 2).2) (fun x=>M - x.1) (0,[],2) (aT [(4,none),(3,some 3),(2,some 2),(1,some 1),(0,some 0)] ?_) ⟨Nat.zero_le _,rfl,Nat.le_refl _,rfl,rfl⟩ ?_
 ·simp only [go_sem,simprocAttr]<;>simp [aS]
 ·rintro ⟨i,ms,q⟩ ⟨hi,hms,hq,he1,he2⟩;simp only at hi hms hq he1 he2;refine aC _ ?_;simp only [go_sem,simprocAttr];refine ⟨fun hlt=>?_,fun hge=>?_⟩
  ·simp only [bxx] at hlt;unfold awS;simp only [go_sem,simprocAttr];refine aQ 19 .done rfl (by kernel_rfl) (by kernel_rfl) (by decide) ?_;simp only [go_sem,simprocAttr];refine ⟨_,aJu ⟨#[109]⟩ i (by omega) (by omega) (by decide),?_⟩;simp only [go_sem,simprocAttr];refine gV (bD L q 99 (by omega) (by omega) (by omega)) rfl rfl rfl ?_;have c99:=aD (L:=L) (k:=q) (n:=99) (by omega);simp only [go_sem,simprocAttr];refine gV (bD L (q+1) 3 (by omega) (by omega) (by omega)) rfl rfl rfl ?_;have c3:=aD (L:=L) (k:=q+1) (n:=3) (by omega);simp only [go_sem,simprocAttr,↓fill70];refine ⟨⟨by omega,by omega⟩,by omega,?_⟩;refine gV (bD L (q+1+1) 40 (by omega) (by omega) (by omega)) rfl rfl rfl ?_;have c40:=aD (L:=L) (k:=q+1+1) (n:=40) (by omega);simp only [go_sem,simprocAttr,wrap64 (x:=5+aB L (q+1+1) 40) (by omega) (by omega)];refine gV (bD L (q+1+1+1) 3 (by omega) (by omega) (by omega)) rfl rfl rfl ?_;have d3:=aD (L:=L) (k:=q+1+1+1) (n:=3) (by omega);simp only [go_sem,simprocAttr,↓fill73];refine ⟨by kernel_rfl,?_⟩;refine aH (bD L (q+1+1+1+1) 20000 (by omega) (by omega) (by omega)) rfl rfl rfl ?_;simp only [go_sem,simprocAttr];refine aH (bD L (q+1+1+1+1+1) 3 (by omega) (by omega) (by omega)) rfl rfl rfl ?_;have e3:=aD (L:=L) (k:=q+1+1+1+1+1) (n:=3) (by omega);simp only [go_sem,simprocAttr];obtain ⟨m0,hm0⟩:∃ m0:MediumR,m0=⟨cX ⟨#[109]⟩ i,IntKind.u64.wrap (aB L q 99),Wg (mJ L (q+1)),5+aB L (q+1+1) 40,aB L (q+1+1+1) 3,aB L (q+1+1+1+1) 20000,[]⟩:=⟨_,rfl⟩
   obtain ⟨C,hC⟩:∃ C:Nat,aB L (q+1+1+1+1+1) 3=C:=⟨(aB L (q+1+1+1+1+1) 3).toNat,by omega⟩
   have hmed:sL L i q=({ m0 with cues:=(eV L C (q+6)).1 },(eV L C (q+6)).2):=by
    unfold sL;rw [hm0,show (aB L (q+5) 3).toNat=C by rw [show q+5=q+1+1+1+1+1 by omega,hC];rfl]
   generalize hhd:Wg _=hd;have hhd':hd=Wg (mJ L (q+1)):=by rw [← hhd];rfl
   rw [← hhd'] at hm0;rw [← hm0,hC];refine aJ (fun (x:Nat×List CueR×Nat) σ => { fr:=((dD [36,37,38,39,40,41,42,43,44,45,46,47,48,49,50,51,52,53,54,55,56,57,58,59,60,61,62,63,64,65,66,67,68,69,70,71,72,73,74,75,76,77,78] σ).fr.set 9 (.own 5)).set 10 (aA x.1),h:=[(6,RowQ x.2.1),(5, .box (gP m0 (.own 6))),(4,aGh ms),(3, .row 30 2 [.lit (.int .i64 0), .lit (.int .i64 0)] (aS [[.lit (.int .i64 25), .lit (.int .i64 1)],[.lit (.int .i64 24), .lit (.int .i64 1)],[.lit (.int .i64 30000), .lit (.int .i64 1001)]])),(2, .box [.own 4, .t (.lit (.slice none 0 0))]),(1, .box [.t (bS L),aA x.2.2]),(0, .box [.t (.lit (.slice none 0 0)), .t (.lit (.slice none 0 0))])],nx:=7 })
    (fun x=>x.2.1.length+x.1≤3∧x.2.2+5*x.1≤q+16∧x.2.1++(eV L x.1 x.2.2).1=(eV L C (q+6)).1∧(eV L x.1 x.2.2).2=(eV L C (q+6)).2) (fun x=>x.1) (C,[],q+6) (aT [(6,none),(5,some 22),(4,some 4),(3,some 3),(2,some 2),(1,some 1),(0,some 0)] ?_) ⟨by simp only [List.length_nil];omega,by simp only;omega,rfl,rfl⟩ ?_
   ·simp only [go_sem,simprocAttr]<;>simp [aS]
   ·rintro ⟨c,es,q'⟩ ⟨hc,hq',hf1,hf2⟩;simp only at hc hq' hf1 hf2;refine aC _ ?_;simp only [go_sem,simprocAttr];refine ⟨fun hlt2=>?_,fun hge2=>?_⟩
    ·simp only [bxx] at hlt2;obtain ⟨c,rfl⟩:∃ c',c=c'+1:=⟨c - 1,by omega⟩
     simp only [eV] at hf1 hf2;unfold awS;simp only [go_sem,simprocAttr];refine aQ 8 .done rfl (by kernel_rfl) (by kernel_rfl) (by decide) ?_;simp only [go_sem,simprocAttr];refine gV (cCue L q' (by omega)) rfl rfl rfl ?_;have hle:=aDf L q';simp only [go_sem,simprocAttr];have wc:IntKind.i64.wrap (((c+1:Nat):Int) - 1)=(c:Int):=by rw [wrap64 (by omega) (by omega)];omega
     refine ⟨⟨by unfold maxLen;omega,by omega⟩,by kernel_rfl,(c,es ++ [(nP L q').1],(nP L q').2),aT [(6,some 12),(5,some 5),(4,some 4),(3,some 3),(2,some 2),(1,some 1),(0,some 0)] ?_,⟨by simp only [List.length_append,List.length_cons,List.length_nil];omega,by simp only;omega,by rw [← hf1];simp,hf2⟩,by simp only;omega⟩;simp only [go_sem,simprocAttr,wc]<;>simp
     rfl
    ·simp only [bxx] at hge2;have:c=0:=by omega
     subst this;simp only [eV,List.append_nil] at hf1 hf2;unfold awS;simp only [go_sem,simprocAttr];refine ⟨⟨by unfold maxLen;omega,by omega⟩,(i+1,ms ++ [{ m0 with cues:=es }],q'),aT [(4,some 8),(3,some 3),(2,some 2),(1,some 1),(0,some 0)] ?_,⟨by simp only;omega,by simp only [List.length_append,List.length_cons,List.length_nil];omega,by simp only;omega,?_,?_⟩,by simp only;omega⟩
     ·simp only [go_sem,simprocAttr];have e:List.map MediumR.c ms ++ [yM m0 ++ [T.list 3 (CueR.c default) (List.map CueR.c es)]]=List.map MediumR.c (ms ++ [{ m0 with cues:=es }]):=by rw [List.map_append];rfl
      rw [e];simp [dC (show i<9223372036854775807 by omega)]
     ·have hM1:M - i=(M - (i+1))+1:=by omega
      rw [hM1] at he1;simp only [kM,hmed, ← hf1] at he1;simp only;rw [← he1,hf2];simp
     ·have hM1:M - i=(M - (i+1))+1:=by omega
      rw [hM1] at he2;simp only [kM,hmed] at he2;simp only;rw [← he2,hf2]
  ·simp only [bxx] at hge;have:i=M:=by omega
   subst this;simp only [Nat.sub_self,kM,List.append_nil] at he1 he2;unfold awS;simp only [go_sem,simprocAttr];refine aJ (fun (x:Nat×List SequenceR×Nat) σ => { fr:=(dD [9,10,12,13,14,15,16,17,18,19,20,21,22,23,24,25,26,27,28,29,30,31,32,33,34,35,36,37,38,39,40,41,42,43,44,45,46,47,48,49,50,51,52,53,54,55,56,57,58,59,60,61,62,63,64,65,66,67,68,69,70,71,72,73,74,75,76,77,78,79,80,81,82,83,84,85,86,87,88,89,90,91,92,93,94,95,96,97,98,99,100,101,102,103,104,105,106,107,108,109,110,111,112,113,114,115,116,117,118,119,120,121,122,123,124,125,126,127,128,129,130,131,132,133,134,135,136,137,138,139,140,141,142,143,144,145,146,147,148,149,150,151] σ).fr.set 11 (aA x.1),h:=[(5,aE4 x.2.1),(4,aGh ms),(3, .row 30 2 [.lit (.int .i64 0), .lit (.int .i64 0)] (aS [[.lit (.int .i64 25), .lit (.int .i64 1)],[.lit (.int .i64 24), .lit (.int .i64 1)],[.lit (.int .i64 30000), .lit (.int .i64 1001)]])),(2, .box [.own 4, .own 5]),(1, .box [.t (bS L),aA x.2.2]),(0, .box [.t (.lit (.slice none 0 0)), .t (.lit (.slice none 0 0))])],nx:=6 })
    (fun x=>x.1≤N∧x.2.1.length=x.1∧x.2.2≤q+1000*x.1∧x.2.1++(nA L i (N - x.1) x.1 x.2.2).1=(nA L i N 0 q).1∧(nA L i (N - x.1) x.1 x.2.2).2=(nA L i N 0 q).2) (fun x=>N - x.1) (0,[],q) (aT [(5,none),(4,some 4),(3,some 3),(2,some 2),(1,some 1),(0,some 0)] ?_) ⟨Nat.zero_le _,rfl,by simp only;omega,rfl,rfl⟩ ?_
   ·simp only [go_sem,simprocAttr]<;>simp [aS]
   ·rintro ⟨j,ss,k⟩ ⟨hj,hss,hk,hg1,hg2⟩;simp only at hj hss hk hg1 hg2;refine aC _ ?_;simp only [go_sem,simprocAttr];refine ⟨fun hlt=>?_,fun hge=>?_⟩
    ·simp only [bxx] at hlt;unfold awS;simp only [go_sem,simprocAttr];refine aQ 12 .done rfl (by kernel_rfl) (by kernel_rfl) (by decide) ?_;simp only [go_sem,simprocAttr];refine ⟨_,aJu ⟨#[115]⟩ j (by omega) (by omega) (by decide),?_⟩;simp only [go_sem,simprocAttr];refine gV (bD L k 3 (by omega) (by omega) (by omega)) rfl rfl rfl ?_;have c3:=aD (L:=L) (k:=k) (n:=3) (by omega);simp only [go_sem,simprocAttr];refine ⟨⟨by omega,by omega⟩,by omega,?_⟩;refine gV (bD L (k+1) 3 (by omega) (by omega) (by omega)) rfl rfl rfl ?_;have d3:=aD (L:=L) (k:=k+1) (n:=3) (by omega);simp only [go_sem,simprocAttr];refine ⟨by kernel_rfl,?_⟩;refine aH (bD L (k+1+1) 2 (by omega) (by omega) (by omega)) rfl rfl rfl ?_;have c2:=aD (L:=L) (k:=k+1+1) (n:=2) (by omega);simp only [go_sem,simprocAttr,wrap64 (x:=1+aB L (k+1+1) 2) (by omega) (by omega)];obtain ⟨Vn,hV⟩:∃ Vn:Nat,1+aB L (k+1+1) 2=Vn:=⟨(1+aB L (k+1+1) 2).toNat,by omega⟩
     rw [hV];refine aJ (fun (x:Nat×List (List ClipR)×Nat) σ => { fr:=((dD [80,81,82,83,84,85,86,87,88,89,90,91,92,93,94,95,96,97,98,99,100,101,102,103,104,105,106,107,108,109,110,111,112,113,114,115,116,117,118,119,120,121,122,123,124,125,126,127,128,129,130,131,132,133,134,135,136,137,138,139,140,141,142,143,144,145,146,147,148,149,150,151] σ).fr.set 12 (.own 6)).set 13 (aA x.1),h:=[(7,aGg x.2.1),(6, .box [bY (cX ⟨#[115]⟩ j),aA (mJ L k).num,aA (mJ L k).den,aA 16,aA 16, .own 7, .t (.lit (.slice none 0 0)), .t (.lit (.slice none 0 0)),aA (aB L (k+1) 3)]),(5,aE4 ss),(4,aGh ms),(3, .row 30 2 [.lit (.int .i64 0), .lit (.int .i64 0)] (aS [[.lit (.int .i64 25), .lit (.int .i64 1)],[.lit (.int .i64 24), .lit (.int .i64 1)],[.lit (.int .i64 30000), .lit (.int .i64 1001)]])),(2, .box [.own 4, .own 5]),(1, .box [.t (bS L),aA x.2.2]),(0, .box [.t (.lit (.slice none 0 0)), .t (.lit (.slice none 0 0))])],nx:=8 })
      (fun x=>x.2.1.length+x.1≤3∧x.2.2+150*x.1≤k+303∧x.2.1++(jG L i j x.1 x.2.2).1=(jG L i j Vn (k+3)).1∧(jG L i j x.1 x.2.2).2=(jG L i j Vn (k+3)).2) (fun x=>x.1) (Vn,[],k+3) (aT [(7,none),(6,some 16),(5,some 5),(4,some 4),(3,some 3),(2,some 2),(1,some 1),(0,some 0)] ?_) ⟨by simp only [List.length_nil];omega,by simp only;omega,rfl,rfl⟩ ?_
     ·simp only [go_sem,simprocAttr];simp [aS];exact ⟨rfl,rfl⟩
     ·rintro ⟨c,vs,q'⟩ ⟨hc,hq',hf1,hf2⟩;simp only at hc hq' hf1 hf2;refine aC _ ?_;simp only [go_sem,simprocAttr];refine ⟨fun hlt2=>?_,fun hge2=>?_⟩
      ·simp only [bxx] at hlt2;obtain ⟨c,rfl⟩:∃ c',c=c'+1:=⟨c - 1,by omega⟩
       simp only [jG] at hf1 hf2;have wc:IntKind.i64.wrap (((c+1:Nat):Int) - 1)=(c:Int):=by rw [wrap64 (by omega) (by omega)];omega
       have hle:=aNm L q' i j (by omega) (by omega);unfold awS;simp only [go_sem,simprocAttr];refine aQ 10 .done rfl (by kernel_rfl) (by kernel_rfl) (by decide) ?_;simp only [go_sem,simprocAttr];refine gV (cTrackB L q' i j 5 (by omega) (by omega) (by omega) (by omega) (by omega)) rfl rfl rfl ?_;simp only [go_sem,simprocAttr];refine ⟨⟨by unfold maxLen;omega,by omega⟩,by kernel_rfl,(c,vs ++ [(bP L q' i j 5).1],(bP L q' i j 5).2),aT [(7,some 15),(6,some 6),(5,some 5),(4,some 4),(3,some 3),(2,some 2),(1,some 1),(0,some 0)] ?_,⟨by simp only [List.length_append,List.length_cons,List.length_nil];omega,by simp only;omega,by rw [← hf1];simp,hf2⟩,by simp only;omega⟩;simp only [go_sem,simprocAttr,wc]<;>simp
       rfl
      ·simp only [bxx] at hge2;have:c=0:=by omega
       subst this;simp only [jG,List.append_nil] at hf1 hf2;unfold awS;simp only [go_sem,simprocAttr];refine aH (bD L q' 3 (by omega) (by omega) (by omega)) rfl rfl rfl ?_;have s3:=aD (L:=L) (k:=q') (n:=3) (by omega);simp only [go_sem,simprocAttr];obtain ⟨Sn,hSn⟩:∃ Sn:Nat,aB L q' 3=Sn:=⟨(aB L q' 3).toNat,by omega⟩
       rw [hSn];refine aJ (fun (x:Nat×List (List ClipR)×Nat) σ => { fr:=((dD [15,16,97,98,99,100,101,102,103,104,105,106,107,108,109,110,111,112,113,114,115,116,117,118,119,120,121,122,123,124,125,126,127,128,129,130,131,132,133,134,135,136,137,138,139,140,141,142,143,144,145,146,147,148,149,150,151] σ).fr.set 12 (.own 6)).set 14 (aA x.1),h:=[(8,aGg x.2.1),(7,aGg vs),(6, .box [bY (cX ⟨#[115]⟩ j),aA (mJ L k).num,aA (mJ L k).den,aA 16,aA 16, .own 7, .own 8, .t (.lit (.slice none 0 0)),aA (aB L (k+1) 3)]),(5,aE4 ss),(4,aGh ms),(3, .row 30 2 [.lit (.int .i64 0), .lit (.int .i64 0)] (aS [[.lit (.int .i64 25), .lit (.int .i64 1)],[.lit (.int .i64 24), .lit (.int .i64 1)],[.lit (.int .i64 30000), .lit (.int .i64 1001)]])),(2, .box [.own 4, .own 5]),(1, .box [.t (bS L),aA x.2.2]),(0, .box [.t (.lit (.slice none 0 0)), .t (.lit (.slice none 0 0))])],nx:=9 })
        (fun x=>x.2.1.length+x.1≤3∧x.2.2+60*x.1≤q'+200∧x.2.1++(mY L i j (aB L (k+1) 3) x.1 x.2.2).1=(mY L i j (aB L (k+1) 3) Sn (q'+1)).1∧(mY L i j (aB L (k+1) 3) x.1 x.2.2).2=(mY L i j (aB L (k+1) 3) Sn (q'+1)).2) (fun x=>x.1) (Sn,[],q'+1) (aT [(8,none),(7,some 7),(6,some 6),(5,some 5),(4,some 4),(3,some 3),(2,some 2),(1,some 1),(0,some 0)] ?_) ⟨by simp only [List.length_nil];omega,by simp only;omega,rfl,rfl⟩ ?_
       ·simp only [go_sem,simprocAttr]<;>simp [aS]
       ·rintro ⟨c,as1,q2⟩ ⟨hc,hq2,hh1,hh2⟩;simp only at hc hq2 hh1 hh2;refine aC _ ?_;simp only [go_sem,simprocAttr];refine ⟨fun hlt3=>?_,fun hge3=>?_⟩
        ·simp only [bxx] at hlt3;obtain ⟨c,rfl⟩:∃ c',c=c'+1:=⟨c - 1,by omega⟩
         simp only [mY] at hh1 hh2;have wc:IntKind.i64.wrap (((c+1:Nat):Int) - 1)=(c:Int):=by rw [wrap64 (by omega) (by omega)];omega
         unfold awS;simp only [go_sem,simprocAttr];refine aH (bD L q2 4 (by omega) (by omega) (by omega)) rfl rfl rfl ?_;have s4:=aD (L:=L) (k:=q2) (n:=4) (by omega);simp only [go_sem,simprocAttr];obtain ⟨Tn,hTn⟩:∃ Tn:Nat,aB L q2 4=Tn:=⟨(aB L q2 4).toNat,by omega⟩
         have hstk:Mg L i j (aB L (k+1) 3) q2=fQ L i j (aB L (k+1) 3) Tn (q2+1):=by unfold Mg;rw [hTn];rfl
         rw [hstk] at hh1 hh2;rw [hTn];refine aJ (fun (x:Nat×List ClipR×Nat) σ => { fr:=(((dD [114,115,116,117,118,119,120,121,122,123,124,125,126,127,128,129,130,131,132,133,134,135,136,137,138,139,140,141,142,143,144,145,146,147,148,149,150,151] σ).fr.set 12 (.own 6)).set 15 (.own 9)).set 16 (aA x.1),h:=[(9,tB x.2.1),(8,aGg as1),(7,aGg vs),(6, .box [bY (cX ⟨#[115]⟩ j),aA (mJ L k).num,aA (mJ L k).den,aA 16,aA 16, .own 7, .own 8, .t (.lit (.slice none 0 0)),aA (aB L (k+1) 3)]),(5,aE4 ss),(4,aGh ms),(3, .row 30 2 [.lit (.int .i64 0), .lit (.int .i64 0)] (aS [[.lit (.int .i64 25), .lit (.int .i64 1)],[.lit (.int .i64 24), .lit (.int .i64 1)],[.lit (.int .i64 30000), .lit (.int .i64 1001)]])),(2, .box [.own 4, .own 5]),(1, .box [.t (bS L),aA x.2.2]),(0, .box [.t (.lit (.slice none 0 0)), .t (.lit (.slice none 0 0))])],nx:=10 })
          (fun x=>x.2.1.length+x.1≤4∧x.2.2+19*x.1≤q2+58∧x.2.1++(fQ L i j (aB L (k+1) 3) x.1 x.2.2).1=(fQ L i j (aB L (k+1) 3) Tn (q2+1)).1∧(fQ L i j (aB L (k+1) 3) x.1 x.2.2).2=(fQ L i j (aB L (k+1) 3) Tn (q2+1)).2) (fun x=>x.1) (Tn,[],q2+1) (aT [(9,none),(8,some 8),(7,some 7),(6,some 6),(5,some 5),(4,some 4),(3,some 3),(2,some 2),(1,some 1),(0,some 0)] ?_) ⟨by simp only [List.length_nil];omega,by simp only;omega,rfl,rfl⟩ ?_
         ·simp only [go_sem,simprocAttr]<;>simp [aS]
         ·rintro ⟨d,cs,q4⟩ ⟨hd,hq4,hk1,hk2⟩;simp only at hd hq4 hk1 hk2;refine aC _ ?_;simp only [go_sem,simprocAttr];refine ⟨fun hlt4=>?_,fun hge4=>?_⟩
          ·simp only [bxx] at hlt4;obtain ⟨d,rfl⟩:∃ d',d=d'+1:=⟨d - 1,by omega⟩
           simp only [fQ] at hk1 hk2;have wd:IntKind.i64.wrap (((d+1:Nat):Int) - 1)=(d:Int):=by rw [wrap64 (by omega) (by omega)];omega
           have hle:=aKv L q4 i j (aB L (k+1) 3);unfold awS;simp only [go_sem,simprocAttr];refine aH (cSoundC L q4 i j (aB L (k+1) 3) (by omega) (by omega) (by omega) (by omega)) rfl rfl rfl ?_;simp only [go_sem,simprocAttr];refine ⟨⟨by unfold maxLen;omega,by omega⟩,(d,cs ++ [(mX L q4 i j (aB L (k+1) 3)).1],(mX L q4 i j (aB L (k+1) 3)).2),aT [(9,some 11),(8,some 8),(7,some 7),(6,some 6),(5,some 5),(4,some 4),(3,some 3),(2,some 2),(1,some 1),(0,some 0)] ?_,⟨by simp only [List.length_append,List.length_cons,List.length_nil];omega,by simp only;omega,by rw [← hk1];simp,hk2⟩,by simp only;omega⟩;simp only [go_sem,simprocAttr,wd]<;>simp
           rfl
          ·simp only [bxx] at hge4;have:d=0:=by omega
           subst this;simp only [fQ,List.append_nil] at hk1 hk2;unfold awS;simp only [go_sem,simprocAttr];refine ⟨⟨by unfold maxLen;omega,by omega⟩,(c,as1 ++ [cs],q4),aT [(8,some 11),(7,some 7),(6,some 6),(5,some 5),(4,some 4),(3,some 3),(2,some 2),(1,some 1),(0,some 0)] ?_,⟨by simp only [List.length_append,List.length_cons,List.length_nil];omega,by simp only;omega,by rw [← hh1, ← hk1,hk2];simp,by rw [← hh2,hk2]⟩,by simp only;omega⟩;simp only [go_sem,simprocAttr,wc];have e:List.map jL as1 ++ [[T.list 22 (ClipR.c default) (List.map ClipR.c cs)]]=List.map jL (as1 ++ [cs]):=by rw [List.map_append];rfl
           rw [e];simp
        ·simp only [bxx] at hge3;have:c=0:=by omega
         subst this;simp only [mY,List.append_nil] at hh1 hh2;unfold awS;simp only [go_sem,simprocAttr];refine aH (bD L q2 3 (by omega) (by omega) (by omega)) rfl rfl rfl ?_;have u3:=aD (L:=L) (k:=q2) (n:=3) (by omega);simp only [go_sem,simprocAttr];obtain ⟨Qn,hQn⟩:∃ Qn:Nat,aB L q2 3=Qn:=⟨(aB L q2 3).toNat,by omega⟩
         rw [hQn];refine aJ (fun (x:Nat×List CueR×Nat) σ => { fr:=((dD [15,16,108,109,110,111,112,113,114,115,116,117,118,119,120,121,122,123,124,125,126,127,128,129,130,131,132,133,134,135,136,137,138,139,140,141,142,143,144,145,146,147,148,149,150,151] σ).fr.set 12 (.own 6)).set 17 (aA x.1),h:=[(9,RowQ x.2.1),(8,aGg as1),(7,aGg vs),(6, .box [bY (cX ⟨#[115]⟩ j),aA (mJ L k).num,aA (mJ L k).den,aA 16,aA 16, .own 7, .own 8, .own 9,aA (aB L (k+1) 3)]),(5,aE4 ss),(4,aGh ms),(3, .row 30 2 [.lit (.int .i64 0), .lit (.int .i64 0)] (aS [[.lit (.int .i64 25), .lit (.int .i64 1)],[.lit (.int .i64 24), .lit (.int .i64 1)],[.lit (.int .i64 30000), .lit (.int .i64 1001)]])),(2, .box [.own 4, .own 5]),(1, .box [.t (bS L),aA x.2.2]),(0, .box [.t (.lit (.slice none 0 0)), .t (.lit (.slice none 0 0))])],nx:=10 })
          (fun x=>x.2.1.length+x.1≤3∧x.2.2+5*x.1≤q2+11∧x.2.1++(eV L x.1 x.2.2).1=(eV L Qn (q2+1)).1∧(eV L x.1 x.2.2).2=(eV L Qn (q2+1)).2) (fun x=>x.1) (Qn,[],q2+1) (aT [(9,none),(8,some 8),(7,some 7),(6,some 6),(5,some 5),(4,some 4),(3,some 3),(2,some 2),(1,some 1),(0,some 0)] ?_) ⟨by simp only [List.length_nil];omega,by simp only;omega,rfl,rfl⟩ ?_
         ·simp only [go_sem,simprocAttr]<;>simp [aS]
         ·rintro ⟨d,es,q4⟩ ⟨hd,hq4,hk1,hk2⟩;simp only at hd hq4 hk1 hk2;refine aC _ ?_;simp only [go_sem,simprocAttr];refine ⟨fun hlt4=>?_,fun hge4=>?_⟩
          ·simp only [bxx] at hlt4;obtain ⟨d,rfl⟩:∃ d',d=d'+1:=⟨d - 1,by omega⟩
           simp only [eV] at hk1 hk2;have wd:IntKind.i64.wrap (((d+1:Nat):Int) - 1)=(d:Int):=by rw [wrap64 (by omega) (by omega)];omega
           have hle:=aDf L q4;unfold awS;simp only [go_sem,simprocAttr];refine aQ 8 .done rfl (by kernel_rfl) (by kernel_rfl) (by decide) ?_;simp only [go_sem,simprocAttr];refine gV (cCue L q4 (by omega)) rfl rfl rfl ?_;simp only [go_sem,simprocAttr];refine ⟨⟨by unfold maxLen;omega,by omega⟩,by kernel_rfl,(d,es ++ [(nP L q4).1],(nP L q4).2),aT [(9,some 15),(8,some 8),(7,some 7),(6,some 6),(5,some 5),(4,some 4),(3,some 3),(2,some 2),(1,some 1),(0,some 0)] ?_,⟨by simp only [List.length_append,List.length_cons,List.length_nil];omega,by simp only;omega,by rw [← hk1];simp,hk2⟩,by simp only;omega⟩;simp only [go_sem,simprocAttr,wd]<;>simp
           rfl
          ·simp only [bxx] at hge4;have:d=0:=by omega
           subst this;simp only [eV,List.append_nil] at hk1 hk2;have hseq:Bd L i j k=(⟨cX ⟨#[115]⟩ j,mJ L k,16,16,vs,as1,es,(aB L (k+1) 3)⟩,q4):=by
            have e1:(1+aB L (k+2) 2).toNat=Vn:=by rw [show k+2=k+1+1 from rfl,hV];rfl
            unfold Bd;simp only [e1, ← hf1, ← hf2,hSn,Int.toNat_natCast, ← hh1, ← hh2,hQn, ← hk1, ← hk2]
           unfold awS;simp only [go_sem,simprocAttr];refine ⟨⟨by unfold maxLen;omega,by omega⟩,(j+1,ss ++ [(Bd L i j k).1],q4),aT [(5,some 11),(4,some 4),(3,some 3),(2,some 2),(1,some 1),(0,some 0)] ?_,⟨by simp only;omega,by simp only [List.length_append,List.length_cons,List.length_nil];omega,by simp only;omega,?_,?_⟩,by simp only;omega⟩
           ·simp only [go_sem,simprocAttr];rw [hseq];have e:List.map SequenceR.c ss ++ [[T.lit (Value.string (cX ⟨#[115]⟩ j)),T.lit (Value.int IntKind.i64 (mJ L k).num),T.lit (Value.int IntKind.i64 (mJ L k).den),T.lit (Value.int IntKind.i64 16),T.lit (Value.int IntKind.i64 16),T.list 1 (jL []) (List.map jL vs),T.list 1 (jL []) (List.map jL as1),T.list 3 (CueR.c default) (List.map CueR.c es),T.lit (Value.int IntKind.i64 (aB L (k+1) 3))]]=List.map SequenceR.c (ss ++ [⟨cX ⟨#[115]⟩ j,mJ L k,16,16,vs,as1,es,aB L (k+1) 3⟩]):=by rw [List.map_append];rfl
            simp only;rw [e];simp [dC (show j<9223372036854775807 by omega)]
           ·have hN1:N - j=(N - (j+1))+1:=by omega
            rw [hN1] at hg1;simp only [nA] at hg1;simp only;rw [← hg1,hseq];simp
           ·have hN1:N - j=(N - (j+1))+1:=by omega
            rw [hN1] at hg2;simp only [nA,hseq] at hg2;simp only;rw [← hg2]
    ·simp only [bxx] at hge;have:j=N:=by omega
     subst this;simp only [Nat.sub_self,nA,List.append_nil] at hg1 hg2;unfold awS;simp only [go_sem,simprocAttr];have hp:dH L=⟨ms,ss⟩:=by
      unfold dH;simp only [hM,hN,Int.toNat_natCast, ← he1, ← he2, ← hg1]
     rw [hp]
