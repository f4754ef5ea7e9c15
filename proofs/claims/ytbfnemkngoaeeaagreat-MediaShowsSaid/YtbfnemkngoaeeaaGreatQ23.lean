/- Proved here: The clips that a tape gives, as functions; conditions stand in each theorem. -/
import Derived.Test.YtbfnemkngoaeeaaGreatQ20
import Derived.Test.YtbfnemkngoaeeaaGreatQ10
import Derived.Test.YtbfnemkngoaeeaaGreatQ22
set_option linter.unusedSimpArgs false
set_option linter.unusedVariables false
set_option linter.unusedSectionVars false
set_option linter.unnecessarySimpa false
namespace Go.Proofs.YtbfnemkngoaeeaaGreat
open Go.RowKit
set_option maxRecDepth 4000
def bE (L:List Int) (k:Nat) (m s:Int):SourceR×Nat :=
 if (aA L k 8==0||m+s==0)=true then (zSource,k+1)
 else if ((aA L k 8==1||m==0)&&decide (s > 0))=true then
  (⟨2,cX ⟨#[115]⟩ (aA L (k+5) s),Qc L (k+1) 40,Fk L (k+3),aA L (k+4) 5==0⟩,k+6)
 else if 0<m then (⟨1,cX ⟨#[109]⟩ (aA L (k+5) m),Qc L (k+1) 40,Fk L (k+3),aA L (k+4) 5==0⟩,k+6)
 else (zSource,k+5)
theorem fP (L:List Int) (k:Nat) (m s:Int):(bE L k m s).2≤k+6:=by
 unfold bE;split
 ·simp
 ·split
  ·simp
  ·split<;>simp
theorem rL (L:List Int) (k:Nat) (m s:Int) (hk:k≤900000) (hm : 0≤m∧m≤9) (hs : 0≤s∧s≤9) :
  wM Tryz.prog 99 [.t (bY L),aC k] [aC m,aC s] (uL (bE L k m s).1) [.t (bY L),aC ((bE L k m s).2:Int)]:=by
 refine pZ Tryz.X99 Tryz.func99 rfl Tryz.ntmps99 (by rw [Tryz.results99]) (aD _ ?_);simp only [go_sem,simprocAttr];refine aP (bQ L k 8 (by omega) (by omega) (by omega)) rfl rfl rfl ?_;simp only [go_sem,simprocAttr,wrap64 (x:=m+s) (by omega) (by omega)];have n8:=aE (L:=L) (k:=k) (n:=8) (by omega);refine ⟨fun h0=>?_,fun h0=>?_⟩
 ·unfold awS;simp only [go_sem,simprocAttr];have e:bE L k m s=(zSource,k+1):=by unfold bE;rw [if_pos h0]
  rw [e];exact ⟨rfl,rfl⟩
 ·have h0' : ¬ (aA L k 8==0||m+s==0)=true:=by rw [h0];simp
  unfold awS;simp only [go_sem,simprocAttr];refine aP (cRatT L (k+1) 40 (by omega) (by omega) (by omega)) rfl rfl rfl ?_;simp only [go_sem,simprocAttr];refine aP (cSpeed L (k+1+2) (by omega)) rfl rfl rfl ?_;simp only [go_sem,simprocAttr];refine aP (bQ L (k+1+2+1) 5 (by omega) (by omega) (by omega)) rfl rfl rfl ?_;simp only [go_sem,simprocAttr];refine ⟨fun h1=>?_,fun h1=>?_⟩
  ·have hs0 : 0<s:=by simp only [Bool.and_eq_true,decide_eq_true_eq] at h1;exact h1.2
   unfold awS;simp only [go_sem,simprocAttr];refine aP (bQ L (k+1+2+1+1) s (by omega) (by omega) (by omega)) rfl rfl rfl ?_;have ns:=aE (L:=L) (k:=k+1+2+1+1) (n:=s) (by omega);simp only [go_sem,simprocAttr];refine ⟨_,aNh ⟨#[115]⟩ (aA L (k+1+2+1+1) s) ns.1 (by omega) (by decide),?_⟩;simp only [go_sem,simprocAttr];unfold bE;rw [if_neg h0',if_pos h1];exact ⟨rfl,rfl⟩
  ·have h1' : ¬ ((aA L k 8==1||m==0)&&decide (s > 0))=true:=by rw [h1];simp
   unfold awS;simp only [go_sem,simprocAttr];refine ⟨fun h2=>?_,fun h2=>?_⟩
   ·have hm0 : 0<m:=by simpa using h2
    unfold awS;simp only [go_sem,simprocAttr];refine aP (bQ L (k+1+2+1+1) m (by omega) (by omega) (by omega)) rfl rfl rfl ?_;have ns:=aE (L:=L) (k:=k+1+2+1+1) (n:=m) (by omega);simp only [go_sem,simprocAttr];refine ⟨_,aNh ⟨#[109]⟩ (aA L (k+1+2+1+1) m) ns.1 (by omega) (by decide),?_⟩;simp only [go_sem,simprocAttr];unfold bE;rw [if_neg h0',if_neg h1',if_pos hm0];exact ⟨rfl,rfl⟩
   ·have hm0 : ¬ 0<m:=by simpa using h2
    unfold awS;simp only [go_sem,simprocAttr];unfold bE;rw [if_neg h0',if_neg h1',if_neg hm0];exact ⟨rfl,rfl⟩
def kinds:List Int:=[1,1,1,0,2,3,4,5]
def texts:List ByteArray:=[⟨#[65]⟩,⟨#[82,69,69,76,32,55]⟩,⟨#[116,104,101,32,101,110,100,46]⟩,⟨#[49,50,58,51,48]⟩]
def cE (L:List Int) (k:Nat) (m s:Int):ClipR×Nat :=
 let len:=1+aA L k 9
 let kind:=kinds.getD (aA L (k+1) 8).toNat 0
 if kind=0 then (⟨len,0,zSource,zSource,0,0,0,⟨#[]⟩,0,[]⟩,k+2)
 else
  let a:=bE L (k+2) m s
  if kind=2∨kind=3 then
   let b:=bE L a.2 m s
   let off:=aA L b.2 3
   let total:=off+len+aA L (b.2+1) 3
   if kind=3 then (⟨len,kind,a.1,b.1,off,total,aA L (b.2+2) 4,⟨#[]⟩,0,[]⟩,b.2+3)
   else (⟨len,kind,a.1,b.1,off,total,0,⟨#[]⟩,0,[]⟩,b.2+2)
  else if kind=4 then
   let b:=bE L a.2 m s
   (⟨len,kind,a.1,b.1,0,0,aA L b.2 256,⟨#[]⟩,0,[]⟩,b.2+1)
  else if kind=5 then (⟨len,kind,a.1,zSource,0,0,0,texts.getD (aA L a.2 4).toNat ⟨#[]⟩,0,[]⟩,a.2+1)
  else (⟨len,kind,a.1,zSource,0,0,0,⟨#[]⟩,0,[]⟩,a.2)
abbrev aHu (c:ClipR):V := .agg [aC c.len,aC c.kind,aC c.a.kind,bM c.a.name,aC c.a.pos.num,aC c.a.pos.den,aC c.a.speed.num,aC c.a.speed.den,aS c.a.smooth,
 aC c.b.kind,bM c.b.name,aC c.b.pos.num,aC c.b.pos.den,aC c.b.speed.num,aC c.b.speed.den,aS c.b.smooth,aC c.off,aC c.total,aC c.param,bM c.text,aC c.gain, .t (.lit (.slice none 0 0))]
theorem cClipZ (L:List Int) (k:Nat) (m s:Int) (hk:k≤800000) (hm : 0≤m∧m≤9) (hs : 0≤s∧s≤9) :
  wM Tryz.prog 38 [.t (bY L),aC k] [aC m,aC s] (aHu (cE L k m s).1) [.t (bY L),aC ((cE L k m s).2:Int)]:=by
 refine pZ Tryz.X38 Tryz.func38 rfl Tryz.ntmps38 (by rw [Tryz.results38]) (aD _ ?_);simp only [go_sem,simprocAttr];refine aP (bQ L k 9 (by omega) (by omega) (by omega)) rfl rfl rfl ?_;have n9:=aE (L:=L) (k:=k) (n:=9) (by omega);simp only [go_sem,simprocAttr,wrap64 (x:=1+aA L k 9) (by omega) (by omega)];refine aP (bQ L (k+1) 8 (by omega) (by omega) (by omega)) rfl rfl rfl ?_;have n8:=aE (L:=L) (k:=k+1) (n:=8) (by omega);simp only [go_sem,simprocAttr];refine ⟨⟨by omega,by omega⟩,by omega,?_⟩;obtain ⟨kd,hkd⟩:∃ kd,kinds.getD (aA L (k+1) 8).toNat 0=kd:=⟨_,rfl⟩
 have hkd':=hkd;unfold kinds at hkd';rw [hkd'];have hl0 : 1≤1+aA L k 9∧1+aA L k 9≤9:=by omega
 generalize hlen : 1+aA L k 9=len at hl0;refine ⟨fun h0=>?_,fun h0=>?_⟩
 ·have e0:kd=0:=by simpa using h0
  have e:cE L k m s=(⟨len,0,zSource,zSource,0,0,0,⟨#[]⟩,0,[]⟩,k+2):=by unfold cE;simp only [hkd,hlen,e0,if_true]
  rw [e];unfold awS;simp only [go_sem,simprocAttr];rw [e0];try exact ⟨rfl,rfl⟩
 ·have e0 : ¬ kd=0:=by simpa using h0
  unfold awS;simp only [go_sem,simprocAttr];refine aP (rL L (k+2) m s (by omega) hm hs) rfl rfl rfl ?_;obtain ⟨⟨a,ka⟩,ha⟩:∃ a,bE L (k+2) m s=a:=⟨_,rfl⟩
  have hka:=fP L (k+2) m s;rw [ha] at hka ⊢;simp only at hka;have hk5:kd=1∨kd=2∨kd=3∨kd=4∨kd=5:=by
   have:(aA L (k+1) 8).toNat=0∨(aA L (k+1) 8).toNat=1∨(aA L (k+1) 8).toNat=2∨(aA L (k+1) 8).toNat=3∨(aA L (k+1) 8).toNat=4∨(aA L (k+1) 8).toNat=5∨(aA L (k+1) 8).toNat=6∨(aA L (k+1) 8).toNat=7:=by omega
   rcases this with h | h | h | h | h | h | h | h<;>rw [h] at hkd'<;>simp at hkd'<;>omega
  clear hkd';rcases hk5 with rfl | rfl | rfl | rfl | rfl
  ·have e:cE L k m s=(⟨len,1,a,zSource,0,0,0,⟨#[]⟩,0,[]⟩,ka):=by unfold cE;simp only [hkd,hlen,ha];first | rfl | simp
   rw [e];simp only [go_sem,simprocAttr,dtf]
  ·have e:cE L k m s=(let b:=bE L ka m s; (⟨len,2,a,b.1,aA L b.2 3,aA L b.2 3+len+aA L (b.2+1) 3,0,⟨#[]⟩,0,[]⟩,b.2+2)):=by unfold cE;simp only [hkd,hlen,ha];first | rfl | simp
   rw [e];simp only [go_sem,simprocAttr,dtf];refine aP (rL L ka m s (by omega) hm hs) rfl rfl rfl ?_;obtain ⟨⟨b,kb⟩,hb⟩:∃ b,bE L ka m s=b:=⟨_,rfl⟩
   have hkb:=fP L ka m s;rw [hb] at hkb ⊢;simp only at hkb;simp only [go_sem,simprocAttr,dtf];refine aP (bQ L kb 3 (by omega) (by omega) (by omega)) rfl rfl rfl ?_;have o3:=aE (L:=L) (k:=kb) (n:=3) (by omega);simp only [go_sem,simprocAttr,dtf];refine aK 10 .done rfl (by kernel_rfl) (by kernel_rfl) (by decide) ?_;simp only [go_sem,simprocAttr,dtf];refine gC (bQ L (kb+1) 3 (by omega) (by omega) (by omega)) rfl rfl rfl ?_;have p3:=aE (L:=L) (k:=kb+1) (n:=3) (by omega);simp only [go_sem,simprocAttr,dtf,wrap64 (x:=aA L kb 3+len) (by omega) (by omega),wrap64 (x:=aA L kb 3+len+aA L (kb+1) 3) (by omega) (by omega)]
   first | (refine id ?_;kernel_rfl) | (change _=_;kernel_rfl) | rfl
  ·have e:cE L k m s=(let b:=bE L ka m s; (⟨len,3,a,b.1,aA L b.2 3,aA L b.2 3+len+aA L (b.2+1) 3,aA L (b.2+2) 4,⟨#[]⟩,0,[]⟩,b.2+3)):=by unfold cE;simp only [hkd,hlen,ha];first | rfl | simp
   rw [e];simp only [go_sem,simprocAttr,dtf];refine aP (rL L ka m s (by omega) hm hs) rfl rfl rfl ?_;obtain ⟨⟨b,kb⟩,hb⟩:∃ b,bE L ka m s=b:=⟨_,rfl⟩
   have hkb:=fP L ka m s;rw [hb] at hkb ⊢;simp only at hkb;simp only [go_sem,simprocAttr,dtf];refine aP (bQ L kb 3 (by omega) (by omega) (by omega)) rfl rfl rfl ?_;have o3:=aE (L:=L) (k:=kb) (n:=3) (by omega);simp only [go_sem,simprocAttr,dtf];refine aK 10 .done rfl (by kernel_rfl) (by kernel_rfl) (by decide) ?_;simp only [go_sem,simprocAttr,dtf];refine gC (bQ L (kb+1) 3 (by omega) (by omega) (by omega)) rfl rfl rfl ?_;have p3:=aE (L:=L) (k:=kb+1) (n:=3) (by omega);simp only [go_sem,simprocAttr,dtf,wrap64 (x:=aA L kb 3+len) (by omega) (by omega),wrap64 (x:=aA L kb 3+len+aA L (kb+1) 3) (by omega) (by omega)];refine ⟨by kernel_rfl,?_⟩;refine aP (bQ L (kb+1+1) 4 (by omega) (by omega) (by omega)) rfl rfl rfl ?_;simp only [go_sem,simprocAttr,dtf]
  ·have e:cE L k m s=(let b:=bE L ka m s; (⟨len,4,a,b.1,0,0,aA L b.2 256,⟨#[]⟩,0,[]⟩,b.2+1)):=by unfold cE;simp only [hkd,hlen,ha];first | rfl | simp
   rw [e];simp only [go_sem,simprocAttr,dtf];refine aP (rL L ka m s (by omega) hm hs) rfl rfl rfl ?_;obtain ⟨⟨b,kb⟩,hb⟩:∃ b,bE L ka m s=b:=⟨_,rfl⟩
   have hkb:=fP L ka m s;rw [hb] at hkb ⊢;simp only at hkb;simp only [go_sem,simprocAttr,dtf];refine aP (bQ L kb 256 (by omega) (by omega) (by omega)) rfl rfl rfl ?_;simp only [go_sem,simprocAttr,dtf]
  ·have e:cE L k m s=(⟨len,5,a,zSource,0,0,0,texts.getD (aA L ka 4).toNat ⟨#[]⟩,0,[]⟩,ka+1):=by unfold cE;simp only [hkd,hlen,ha];first | rfl | simp
   rw [e];simp only [go_sem,simprocAttr,dtf];refine aP (bQ L ka 4 (by omega) (by omega) (by omega)) rfl rfl rfl ?_;have t4:=aE (L:=L) (k:=ka) (n:=4) (by omega);simp only [go_sem,simprocAttr,dtf];exact ⟨⟨by omega,by omega⟩,by omega,rfl⟩
theorem Mg (L:List Int) (k:Nat) (m s:Int):(cE L k m s).1.chan = []:=by
 unfold cE;simp only;split
 ·rfl
 ·split
  ·split<;>rfl
  ·split
   ·rfl
   ·split<;>rfl
theorem Zg (L:List Int) (k:Nat) (m s:Int):(cE L k m s).2≤k+17:=by
 have h1:=fP L (k+2) m s;have h2:=fP L (bE L (k+2) m s).2 m s;unfold cE;simp only;split
 ·simp
 ·split
  ·split<;>simp only<;>omega
  ·split
   ·simp only;omega
   ·split<;>simp only<;>omega
theorem aHg {c:ClipR} (h:c.chan = []):∀ (w:World) (E:Env) v,RdV w E (aHu c) v→RdV w E (qG c) v:=by
 refine aL3 ?_;refine ⟨.inl rfl, .inl rfl, .inl rfl, .inl rfl, .inl rfl, .inl rfl, .inl rfl, .inl rfl, .inl rfl, .inl rfl, .inl rfl, .inl rfl, .inl rfl, .inl rfl, .inl rfl, .inl rfl, .inl rfl, .inl rfl, .inl rfl, .inl rfl, .inl rfl, .inr ⟨rfl,1,xQ 0,?_⟩,trivial⟩;rw [h];rfl
theorem cClip (L:List Int) (k:Nat) (m s:Int) (hk:k≤800000) (hm : 0≤m∧m≤9) (hs : 0≤s∧s≤9) :
  wM Tryz.prog 38 [.t (bY L),aC k] [aC m,aC s] (qG (cE L k m s).1) [.t (bY L),aC ((cE L k m s).2:Int)] :=
 Nn (aHg (Mg L k m s)) (cClipZ L k m s hk hm hs)
open Go.RowKit
set_option maxRecDepth 4000
def Xf (r q:RatR):Bool:=gD r&&gD q&&pD r 1099511627776&&pD q 1024&&decide (Nat.lcm r.den.natAbs q.den.natAbs≤65536)&&decide (r.num.natAbs≤100000)&&decide (r.den.natAbs≤100000)&&decide (q.num.natAbs≤100000)&&decide (q.den.natAbs≤100000)
theorem rat_ok:((List.range 40).all fun p=>(List.range 6).all fun j=>(List.range 9).all fun i=>Xf (ratR (p:Int) (dens.getD j 0)) ⟨(speeds.getD i (0,0)).1,(speeds.getD i (0,0)).2⟩)=true:=by kernel_rfl
theorem name_ok:((List.range 9).all fun i=>aT (cX ⟨#[115]⟩ (i:Int))&&aT (cX ⟨#[109]⟩ (i:Int)))=true:=by kernel_rfl
theorem Fj (L:List Int) (k k':Nat):Xf (Qc L k 40) (Fk L k')=true:=by
 have h1:=aE (L:=L) (k:=k) (n:=40) (by omega);have h2:=aE (L:=L) (k:=k+1) (n:=6) (by omega);have h3:=aE (L:=L) (k:=k') (n:=9) (by omega);have h:=rat_ok;rw [List.all_eq_true] at h;have h4:=h (aA L k 40).toNat (by simp;omega);rw [List.all_eq_true] at h4;have h5:=h4 (aA L (k+1) 6).toNat (by simp;omega);rw [List.all_eq_true] at h5;have h6:=h5 (aA L k' 9).toNat (by simp;omega);unfold Qc Fk;rwa [Int.toNat_of_nonneg h1.1] at h6
theorem Bf (i:Int) (h0 : 0≤i) (h1:i<9):aT (cX ⟨#[115]⟩ i)=true∧aT (cX ⟨#[109]⟩ i)=true:=by
 have h:=name_ok;rw [List.all_eq_true] at h;have h4:=h i.toNat (by simp;omega);rw [Int.toNat_of_nonneg h0,Bool.and_eq_true] at h4;exact h4
theorem aSj {kd:Int} {nm:ByteArray} {r q:RatR} {sm:Bool} (hk:kd=1∨kd=2) (hn:aT nm=true) (h:Xf r q=true):aY ⟨kd,nm,r,q,sm⟩=true∧(⟨kd,nm,r,q,sm⟩:SourceR).fit:=by
 unfold Xf at h;simp only [Bool.and_eq_true,decide_eq_true_eq] at h;obtain ⟨⟨⟨⟨⟨⟨⟨⟨h1,h2⟩,h3⟩,h4⟩,h5⟩,h6⟩,h7⟩,h8⟩,h9⟩:=h;refine ⟨?_,?_,⟨⟨?_,?_⟩,⟨?_,?_⟩⟩,⟨⟨?_,?_⟩,⟨?_,?_⟩⟩⟩
 ·unfold aY aBe;simp only [h1,h2,h3,h4,hn,decide_eq_true h5,Bool.and_true];rcases hk with rfl | rfl<;>simp
 ·simp only;rcases hk with rfl | rfl<;>exact ⟨by decide,by decide⟩
 all_goals simp only;omega
theorem aA1:zSource.isZ=true:=by kernel_rfl
theorem aCc:aY zSource=true:=by unfold aY;rw [aA1];rfl
theorem fN (L:List Int) (k:Nat) (m s:Int) (hm:m≤9) (hs:s≤9):aY (bE L k m s).1=true∧(bE L k m s).1.fit:=by
 unfold bE;split
 ·exact ⟨aCc,Dm⟩
 ·split
  ·rename_i h1;simp only [Bool.and_eq_true,decide_eq_true_eq] at h1;have:=aE (L:=L) (k:=k+5) (n:=s) (by omega);exact aSj (.inr rfl) (Bf _ this.1 (by omega)).1 (Fj L _ _)
  ·split
   ·rename_i h1;have:=aE (L:=L) (k:=k+5) (n:=m) (by omega);exact aSj (.inl rfl) (Bf _ this.1 (by omega)).2 (Fj L _ _)
   ·exact ⟨aCc,Dm⟩
theorem text_ok:((List.range 4).all fun i=>kL (texts.getD i ⟨#[]⟩))=true:=by kernel_rfl
theorem bG {n:Int} (h0 : -1000000≤n) (h1:n≤1000000):I64 n:=⟨by omega,by omega⟩
theorem aRa (L:List Int) (k:Nat) (m s:Int) (hm:m≤9) (hs:s≤9):bB (cE L k m s).1=true∧(cE L k m s).1.fit:=by
 have n9:=aE (L:=L) (k:=k) (n:=9) (by omega);have n8:=aE (L:=L) (k:=k+1) (n:=8) (by omega);obtain ⟨kd,hkd⟩:∃ kd,kinds.getD (aA L (k+1) 8).toNat 0=kd:=⟨_,rfl⟩
 have hk5:kd=0∨kd=1∨kd=2∨kd=3∨kd=4∨kd=5:=by
  have:(aA L (k+1) 8).toNat=0∨(aA L (k+1) 8).toNat=1∨(aA L (k+1) 8).toNat=2∨(aA L (k+1) 8).toNat=3∨(aA L (k+1) 8).toNat=4∨(aA L (k+1) 8).toNat=5∨(aA L (k+1) 8).toNat=6∨(aA L (k+1) 8).toNat=7:=by omega
  unfold kinds at hkd;rcases this with h | h | h | h | h | h | h | h<;>rw [h] at hkd<;>simp at hkd<;>omega
 obtain ⟨len,hlen⟩:∃ len,1+aA L k 9=len:=⟨_,rfl⟩
 have hl : 1≤len∧len≤9:=by omega
 obtain ⟨va,fa⟩:=fN L (k+2) m s hm hs;obtain ⟨vb,fb⟩:=fN L (bE L (k+2) m s).2 m s hm hs;generalize ha:bE L (k+2) m s=a at va fa vb fb;generalize hb:bE L a.2 m s=b at vb fb;have o3:=aE (L:=L) (k:=b.2) (n:=3) (by omega);have p3:=aE (L:=L) (k:=b.2+1) (n:=3) (by omega);have q4:=aE (L:=L) (k:=b.2+2) (n:=4) (by omega);have q256:=aE (L:=L) (k:=b.2) (n:=256) (by omega);have t4:=aE (L:=L) (k:=a.2) (n:=4) (by omega);have ht:=text_ok;rw [List.all_eq_true] at ht;have ht4:=ht (aA L a.2 4).toNat (by simp;omega);have zz:aY zSource=true:=aCc;have ez:zSource.isZ=true:=aA1;have base:∀ (kk:Int) (x y:SourceR) (o t p:Int) (tx:ByteArray),aY x=true→aY y=true→nN ⟨len,kk,x,y,o,t,p,tx,0,[]⟩=true:=fun kk x y o t p tx hx hy=>by
  unfold nN;simp only [hx,hy,decide_eq_true hl.1,decide_eq_true (by omega:len≤2147483647),Bool.and_true];rfl
 have fit:∀ (kk:Int) (x y:SourceR) (o t p:Int) (tx:ByteArray),x.fit→y.fit → -1000000≤kk→kk≤1000000 → -1000000≤o→o≤1000000 → -1000000≤t→t≤1000000 → -1000000≤p→p≤1000000→(⟨len,kk,x,y,o,t,p,tx,0,[]⟩:ClipR).fit:=fun kk x y o t p tx hx hy h1 h2 h3 h4 h5 h6 h7 h8 =>
  ⟨bG (by simp only;omega) (by simp only;omega),bG h1 h2,hx,hy,bG h3 h4,bG h5 h6,bG h7 h8,i0⟩
 unfold cE;simp only [hkd,hlen,ha,hb];rcases hk5 with rfl | rfl | rfl | rfl | rfl | rfl
 ·refine ⟨?_,fit _ _ _ _ _ _ _ Dm Dm (by omega) (by omega) (by omega) (by omega) (by omega) (by omega) (by omega) (by omega)⟩;show bB ⟨len,0,zSource,zSource,0,0,0,⟨#[]⟩,0,[]⟩=true
  unfold bB;rw [base _ _ _ _ _ _ _ zz zz];simp [cD,dX,emp,ez]
 ·refine ⟨?_,fit _ _ _ _ _ _ _ fa Dm (by omega) (by omega) (by omega) (by omega) (by omega) (by omega) (by omega) (by omega)⟩;show bB ⟨len,1,a.1,zSource,0,0,0,⟨#[]⟩,0,[]⟩=true
  unfold bB;rw [base _ _ _ _ _ _ _ va zz];simp [cD,dX,emp,ez]
 ·refine ⟨?_,fit _ _ _ _ _ _ _ fa fb (by omega) (by omega) (by omega) (by omega) (by omega) (by omega) (by omega) (by omega)⟩;show bB ⟨len,2,a.1,b.1,_,_,0,⟨#[]⟩,0,[]⟩=true
  unfold bB;rw [base _ _ _ _ _ _ _ va vb];simp [cD,dW,emp];omega
 ·refine ⟨?_,fit _ _ _ _ _ _ _ fa fb (by omega) (by omega) (by omega) (by omega) (by omega) (by omega) (by omega) (by omega)⟩;show bB ⟨len,3,a.1,b.1,_,_,_,⟨#[]⟩,0,[]⟩=true
  unfold bB;rw [base _ _ _ _ _ _ _ va vb];simp [cD,dW,emp];omega
 ·refine ⟨?_,fit _ _ _ _ _ _ _ fa fb (by omega) (by omega) (by omega) (by omega) (by omega) (by omega) (by omega) (by omega)⟩;show bB ⟨len,4,a.1,b.1,0,0,_,⟨#[]⟩,0,[]⟩=true
  unfold bB;rw [base _ _ _ _ _ _ _ va vb];simp [cD,dX,emp];omega
 ·refine ⟨?_,fit _ _ _ _ _ _ _ fa Dm (by omega) (by omega) (by omega) (by omega) (by omega) (by omega) (by omega) (by omega)⟩;show bB ⟨len,5,a.1,zSource,0,0,0,_,0,[]⟩=true
  unfold bB;rw [base _ _ _ _ _ _ _ va zz];simp only [cD,ez,ht4];rfl
end Go.Proofs.YtbfnemkngoaeeaaGreat
