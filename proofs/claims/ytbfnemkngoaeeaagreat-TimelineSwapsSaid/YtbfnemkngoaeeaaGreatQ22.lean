/- Proved here: The clips that a tape gives, as functions; conditions stand in each theorem. -/
import Derived.Test.YtbfnemkngoaeeaaGreatQ16
import Derived.Test.YtbfnemkngoaeeaaGreatQ11
import Derived.Test.YtbfnemkngoaeeaaGreatQ21
set_option linter.unusedSimpArgs false
set_option linter.unusedVariables false
set_option linter.unusedSectionVars false
set_option linter.unnecessarySimpa false
namespace Go.Proofs.YtbfnemkngoaeeaaGreat
open Go.RowKit
set_option maxRecDepth 4000
def bB (L:List Int) (k:Nat) (m s:Int):SourceR×Nat :=
 if (aB L k 8==0||m+s==0)=true then (zSource,k+1)
 else if ((aB L k 8==1||m==0)&&decide (s > 0))=true then
  (⟨2,dZ ⟨#[115]⟩ (aB L (k+5) s),Jf L (k+1) 40,Ae L (k+3),aB L (k+4) 5==0⟩,k+6)
 else if 0<m then (⟨1,dZ ⟨#[109]⟩ (aB L (k+5) m),Jf L (k+1) 40,Ae L (k+3),aB L (k+4) 5==0⟩,k+6)
 else (zSource,k+5)
theorem eJ (L:List Int) (k:Nat) (m s:Int):(bB L k m s).2≤k+6:=by
 unfold bB;split
 ·simp
 ·split
  ·simp
  ·split<;>simp
theorem mS (L:List Int) (k:Nat) (m s:Int) (hk:k≤900000) (hm : 0≤m∧m≤9) (hs : 0≤s∧s≤9) :
  uA Tryz.prog 99 [.t (bN L),aC k] [aC m,aC s] (mM (bB L k m s).1) [.t (bN L),aC ((bB L k m s).2:Int)]:=by
 refine mR Tryz.X99 Tryz.func99 rfl Tryz.ntmps99 (by rw [Tryz.results99]) (aD _ ?_);simp only [go_sem,simprocAttr];refine aL (bG L k 8 (by omega) (by omega) (by omega)) rfl rfl rfl ?_;simp only [go_sem,simprocAttr,wrap64 (x:=m+s) (by omega) (by omega)];have n8:=aE (L:=L) (k:=k) (n:=8) (by omega);refine ⟨fun h0=>?_,fun h0=>?_⟩
 ·unfold awS;simp only [go_sem,simprocAttr];have e:bB L k m s=(zSource,k+1):=by unfold bB;rw [if_pos h0]
  rw [e];exact ⟨rfl,rfl⟩
 ·have h0' : ¬ (aB L k 8==0||m+s==0)=true:=by rw [h0];simp
  unfold awS;simp only [go_sem,simprocAttr];refine aL (cRatT L (k+1) 40 (by omega) (by omega) (by omega)) rfl rfl rfl ?_;simp only [go_sem,simprocAttr];refine aL (cSpeed L (k+1+2) (by omega)) rfl rfl rfl ?_;simp only [go_sem,simprocAttr];refine aL (bG L (k+1+2+1) 5 (by omega) (by omega) (by omega)) rfl rfl rfl ?_;simp only [go_sem,simprocAttr];refine ⟨fun h1=>?_,fun h1=>?_⟩
  ·have hs0 : 0<s:=by simp only [Bool.and_eq_true,decide_eq_true_eq] at h1;exact h1.2
   unfold awS;simp only [go_sem,simprocAttr];refine aL (bG L (k+1+2+1+1) s (by omega) (by omega) (by omega)) rfl rfl rfl ?_;have ns:=aE (L:=L) (k:=k+1+2+1+1) (n:=s) (by omega);simp only [go_sem,simprocAttr];refine ⟨_,Mf ⟨#[115]⟩ (aB L (k+1+2+1+1) s) ns.1 (by omega) (by decide),?_⟩;simp only [go_sem,simprocAttr];unfold bB;rw [if_neg h0',if_pos h1];exact ⟨rfl,rfl⟩
  ·have h1' : ¬ ((aB L k 8==1||m==0)&&decide (s > 0))=true:=by rw [h1];simp
   unfold awS;simp only [go_sem,simprocAttr];refine ⟨fun h2=>?_,fun h2=>?_⟩
   ·have hm0 : 0<m:=by simpa using h2
    unfold awS;simp only [go_sem,simprocAttr];refine aL (bG L (k+1+2+1+1) m (by omega) (by omega) (by omega)) rfl rfl rfl ?_;have ns:=aE (L:=L) (k:=k+1+2+1+1) (n:=m) (by omega);simp only [go_sem,simprocAttr];refine ⟨_,Mf ⟨#[109]⟩ (aB L (k+1+2+1+1) m) ns.1 (by omega) (by decide),?_⟩;simp only [go_sem,simprocAttr];unfold bB;rw [if_neg h0',if_neg h1',if_pos hm0];exact ⟨rfl,rfl⟩
   ·have hm0 : ¬ 0<m:=by simpa using h2
    unfold awS;simp only [go_sem,simprocAttr];unfold bB;rw [if_neg h0',if_neg h1',if_neg hm0];exact ⟨rfl,rfl⟩
def kinds:List Int:=[1,1,1,0,2,3,4,5]
def texts:List ByteArray:=[⟨#[65]⟩,⟨#[82,69,69,76,32,55]⟩,⟨#[116,104,101,32,101,110,100,46]⟩,⟨#[49,50,58,51,48]⟩]
def bU (L:List Int) (k:Nat) (m s:Int):ClipR×Nat :=
 let len:=1+aB L k 9
 let kind:=kinds.getD (aB L (k+1) 8).toNat 0
 if kind=0 then (⟨len,0,zSource,zSource,0,0,0,⟨#[]⟩,0,[]⟩,k+2)
 else
  let a:=bB L (k+2) m s
  if kind=2∨kind=3 then
   let b:=bB L a.2 m s
   let off:=aB L b.2 3
   let total:=off+len+aB L (b.2+1) 3
   if kind=3 then (⟨len,kind,a.1,b.1,off,total,aB L (b.2+2) 4,⟨#[]⟩,0,[]⟩,b.2+3)
   else (⟨len,kind,a.1,b.1,off,total,0,⟨#[]⟩,0,[]⟩,b.2+2)
  else if kind=4 then
   let b:=bB L a.2 m s
   (⟨len,kind,a.1,b.1,0,0,aB L b.2 256,⟨#[]⟩,0,[]⟩,b.2+1)
  else if kind=5 then (⟨len,kind,a.1,zSource,0,0,0,texts.getD (aB L a.2 4).toNat ⟨#[]⟩,0,[]⟩,a.2+1)
  else (⟨len,kind,a.1,zSource,0,0,0,⟨#[]⟩,0,[]⟩,a.2)
abbrev aAq (c:ClipR):V := .agg [aC c.len,aC c.kind,aC c.a.kind,bP c.a.name,aC c.a.pos.num,aC c.a.pos.den,aC c.a.speed.num,aC c.a.speed.den,aP c.a.smooth,
 aC c.b.kind,bP c.b.name,aC c.b.pos.num,aC c.b.pos.den,aC c.b.speed.num,aC c.b.speed.den,aP c.b.smooth,aC c.off,aC c.total,aC c.param,bP c.text,aC c.gain, .t (.lit (.slice none 0 0))]
theorem cClipZ (L:List Int) (k:Nat) (m s:Int) (hk:k≤800000) (hm : 0≤m∧m≤9) (hs : 0≤s∧s≤9) :
  uA Tryz.prog 38 [.t (bN L),aC k] [aC m,aC s] (aAq (bU L k m s).1) [.t (bN L),aC ((bU L k m s).2:Int)]:=by
 refine mR Tryz.X38 Tryz.func38 rfl Tryz.ntmps38 (by rw [Tryz.results38]) (aD _ ?_);simp only [go_sem,simprocAttr];refine aL (bG L k 9 (by omega) (by omega) (by omega)) rfl rfl rfl ?_;have n9:=aE (L:=L) (k:=k) (n:=9) (by omega);simp only [go_sem,simprocAttr,wrap64 (x:=1+aB L k 9) (by omega) (by omega)];refine aL (bG L (k+1) 8 (by omega) (by omega) (by omega)) rfl rfl rfl ?_;have n8:=aE (L:=L) (k:=k+1) (n:=8) (by omega);simp only [go_sem,simprocAttr];refine ⟨⟨by omega,by omega⟩,by omega,?_⟩;obtain ⟨kd,hkd⟩:∃ kd,kinds.getD (aB L (k+1) 8).toNat 0=kd:=⟨_,rfl⟩
 have hkd':=hkd;unfold kinds at hkd';rw [hkd'];have hl0 : 1≤1+aB L k 9∧1+aB L k 9≤9:=by omega
 generalize hlen : 1+aB L k 9=len at hl0;refine ⟨fun h0=>?_,fun h0=>?_⟩
 ·have e0:kd=0:=by simpa using h0
  have e:bU L k m s=(⟨len,0,zSource,zSource,0,0,0,⟨#[]⟩,0,[]⟩,k+2):=by unfold bU;simp only [hkd,hlen,e0,if_true]
  rw [e];unfold awS;simp only [go_sem,simprocAttr];rw [e0];try exact ⟨rfl,rfl⟩
 ·have e0 : ¬ kd=0:=by simpa using h0
  unfold awS;simp only [go_sem,simprocAttr];refine aL (mS L (k+2) m s (by omega) hm hs) rfl rfl rfl ?_;obtain ⟨⟨a,ka⟩,ha⟩:∃ a,bB L (k+2) m s=a:=⟨_,rfl⟩
  have hka:=eJ L (k+2) m s;rw [ha] at hka ⊢;simp only at hka;have hk5:kd=1∨kd=2∨kd=3∨kd=4∨kd=5:=by
   have:(aB L (k+1) 8).toNat=0∨(aB L (k+1) 8).toNat=1∨(aB L (k+1) 8).toNat=2∨(aB L (k+1) 8).toNat=3∨(aB L (k+1) 8).toNat=4∨(aB L (k+1) 8).toNat=5∨(aB L (k+1) 8).toNat=6∨(aB L (k+1) 8).toNat=7:=by omega
   rcases this with h | h | h | h | h | h | h | h<;>rw [h] at hkd'<;>simp at hkd'<;>omega
  clear hkd';rcases hk5 with rfl | rfl | rfl | rfl | rfl
  ·have e:bU L k m s=(⟨len,1,a,zSource,0,0,0,⟨#[]⟩,0,[]⟩,ka):=by unfold bU;simp only [hkd,hlen,ha];first | rfl | simp
   rw [e];simp only [go_sem,simprocAttr,dtf]
  ·have e:bU L k m s=(let b:=bB L ka m s; (⟨len,2,a,b.1,aB L b.2 3,aB L b.2 3+len+aB L (b.2+1) 3,0,⟨#[]⟩,0,[]⟩,b.2+2)):=by unfold bU;simp only [hkd,hlen,ha];first | rfl | simp
   rw [e];simp only [go_sem,simprocAttr,dtf];refine aL (mS L ka m s (by omega) hm hs) rfl rfl rfl ?_;obtain ⟨⟨b,kb⟩,hb⟩:∃ b,bB L ka m s=b:=⟨_,rfl⟩
   have hkb:=eJ L ka m s;rw [hb] at hkb ⊢;simp only at hkb;simp only [go_sem,simprocAttr,dtf];refine aL (bG L kb 3 (by omega) (by omega) (by omega)) rfl rfl rfl ?_;have o3:=aE (L:=L) (k:=kb) (n:=3) (by omega);simp only [go_sem,simprocAttr,dtf];refine aV 10 .done rfl (by kernel_rfl) (by kernel_rfl) (by decide) ?_;simp only [go_sem,simprocAttr,dtf];refine fL (bG L (kb+1) 3 (by omega) (by omega) (by omega)) rfl rfl rfl ?_;have p3:=aE (L:=L) (k:=kb+1) (n:=3) (by omega);simp only [go_sem,simprocAttr,dtf,wrap64 (x:=aB L kb 3+len) (by omega) (by omega),wrap64 (x:=aB L kb 3+len+aB L (kb+1) 3) (by omega) (by omega)]
   first | (refine id ?_;kernel_rfl) | (change _=_;kernel_rfl) | rfl
  ·have e:bU L k m s=(let b:=bB L ka m s; (⟨len,3,a,b.1,aB L b.2 3,aB L b.2 3+len+aB L (b.2+1) 3,aB L (b.2+2) 4,⟨#[]⟩,0,[]⟩,b.2+3)):=by unfold bU;simp only [hkd,hlen,ha];first | rfl | simp
   rw [e];simp only [go_sem,simprocAttr,dtf];refine aL (mS L ka m s (by omega) hm hs) rfl rfl rfl ?_;obtain ⟨⟨b,kb⟩,hb⟩:∃ b,bB L ka m s=b:=⟨_,rfl⟩
   have hkb:=eJ L ka m s;rw [hb] at hkb ⊢;simp only at hkb;simp only [go_sem,simprocAttr,dtf];refine aL (bG L kb 3 (by omega) (by omega) (by omega)) rfl rfl rfl ?_;have o3:=aE (L:=L) (k:=kb) (n:=3) (by omega);simp only [go_sem,simprocAttr,dtf];refine aV 10 .done rfl (by kernel_rfl) (by kernel_rfl) (by decide) ?_;simp only [go_sem,simprocAttr,dtf];refine fL (bG L (kb+1) 3 (by omega) (by omega) (by omega)) rfl rfl rfl ?_;have p3:=aE (L:=L) (k:=kb+1) (n:=3) (by omega);simp only [go_sem,simprocAttr,dtf,wrap64 (x:=aB L kb 3+len) (by omega) (by omega),wrap64 (x:=aB L kb 3+len+aB L (kb+1) 3) (by omega) (by omega)];refine ⟨by kernel_rfl,?_⟩;refine aL (bG L (kb+1+1) 4 (by omega) (by omega) (by omega)) rfl rfl rfl ?_;simp only [go_sem,simprocAttr,dtf]
  ·have e:bU L k m s=(let b:=bB L ka m s; (⟨len,4,a,b.1,0,0,aB L b.2 256,⟨#[]⟩,0,[]⟩,b.2+1)):=by unfold bU;simp only [hkd,hlen,ha];first | rfl | simp
   rw [e];simp only [go_sem,simprocAttr,dtf];refine aL (mS L ka m s (by omega) hm hs) rfl rfl rfl ?_;obtain ⟨⟨b,kb⟩,hb⟩:∃ b,bB L ka m s=b:=⟨_,rfl⟩
   have hkb:=eJ L ka m s;rw [hb] at hkb ⊢;simp only at hkb;simp only [go_sem,simprocAttr,dtf];refine aL (bG L kb 256 (by omega) (by omega) (by omega)) rfl rfl rfl ?_;simp only [go_sem,simprocAttr,dtf]
  ·have e:bU L k m s=(⟨len,5,a,zSource,0,0,0,texts.getD (aB L ka 4).toNat ⟨#[]⟩,0,[]⟩,ka+1):=by unfold bU;simp only [hkd,hlen,ha];first | rfl | simp
   rw [e];simp only [go_sem,simprocAttr,dtf];refine aL (bG L ka 4 (by omega) (by omega) (by omega)) rfl rfl rfl ?_;have t4:=aE (L:=L) (k:=ka) (n:=4) (by omega);simp only [go_sem,simprocAttr,dtf];exact ⟨⟨by omega,by omega⟩,by omega,rfl⟩
theorem Ev (L:List Int) (k:Nat) (m s:Int):(bU L k m s).1.chan = []:=by
 unfold bU;simp only;split
 ·rfl
 ·split
  ·split<;>rfl
  ·split
   ·rfl
   ·split<;>rfl
theorem Rg (L:List Int) (k:Nat) (m s:Int):(bU L k m s).2≤k+17:=by
 have h1:=eJ L (k+2) m s;have h2:=eJ L (bB L (k+2) m s).2 m s;unfold bU;simp only;split
 ·simp
 ·split
  ·split<;>simp only<;>omega
  ·split
   ·simp only;omega
   ·split<;>simp only<;>omega
theorem aAc {c:ClipR} (h:c.chan = []):∀ (w:World) (E:Env) v,RdV w E (aAq c) v→RdV w E (fH c) v:=by
 refine aCr ?_;refine ⟨.inl rfl, .inl rfl, .inl rfl, .inl rfl, .inl rfl, .inl rfl, .inl rfl, .inl rfl, .inl rfl, .inl rfl, .inl rfl, .inl rfl, .inl rfl, .inl rfl, .inl rfl, .inl rfl, .inl rfl, .inl rfl, .inl rfl, .inl rfl, .inl rfl, .inr ⟨rfl,1,Be 0,?_⟩,trivial⟩;rw [h];rfl
theorem cClip (L:List Int) (k:Nat) (m s:Int) (hk:k≤800000) (hm : 0≤m∧m≤9) (hs : 0≤s∧s≤9) :
  uA Tryz.prog 38 [.t (bN L),aC k] [aC m,aC s] (fH (bU L k m s).1) [.t (bN L),aC ((bU L k m s).2:Int)] :=
 Gf (aAc (Ev L k m s)) (cClipZ L k m s hk hm hs)
open Go.RowKit
set_option maxRecDepth 4000
def Pw (r q:RatR):Bool:=dL r&&dL q&&eE r 1099511627776&&eE q 1024&&decide (Nat.lcm r.den.natAbs q.den.natAbs≤65536)&&decide (r.num.natAbs≤100000)&&decide (r.den.natAbs≤100000)&&decide (q.num.natAbs≤100000)&&decide (q.den.natAbs≤100000)
theorem rat_ok:((List.range 40).all fun p=>(List.range 6).all fun j=>(List.range 9).all fun i=>Pw (ratR (p:Int) (dens.getD j 0)) ⟨(speeds.getD i (0,0)).1,(speeds.getD i (0,0)).2⟩)=true:=by kernel_rfl
theorem name_ok:((List.range 9).all fun i=>cG (dZ ⟨#[115]⟩ (i:Int))&&cG (dZ ⟨#[109]⟩ (i:Int)))=true:=by kernel_rfl
theorem Aa (L:List Int) (k k':Nat):Pw (Jf L k 40) (Ae L k')=true:=by
 have h1:=aE (L:=L) (k:=k) (n:=40) (by omega);have h2:=aE (L:=L) (k:=k+1) (n:=6) (by omega);have h3:=aE (L:=L) (k:=k') (n:=9) (by omega);have h:=rat_ok;rw [List.all_eq_true] at h;have h4:=h (aB L k 40).toNat (by simp;omega);rw [List.all_eq_true] at h4;have h5:=h4 (aB L (k+1) 6).toNat (by simp;omega);rw [List.all_eq_true] at h5;have h6:=h5 (aB L k' 9).toNat (by simp;omega);unfold Jf Ae;rwa [Int.toNat_of_nonneg h1.1] at h6
theorem wQ (i:Int) (h0 : 0≤i) (h1:i<9):cG (dZ ⟨#[115]⟩ i)=true∧cG (dZ ⟨#[109]⟩ i)=true:=by
 have h:=name_ok;rw [List.all_eq_true] at h;have h4:=h i.toNat (by simp;omega);rw [Int.toNat_of_nonneg h0,Bool.and_eq_true] at h4;exact h4
theorem aJp {kd:Int} {nm:ByteArray} {r q:RatR} {sm:Bool} (hk:kd=1∨kd=2) (hn:cG nm=true) (h:Pw r q=true):aS ⟨kd,nm,r,q,sm⟩=true∧(⟨kd,nm,r,q,sm⟩:SourceR).fit:=by
 unfold Pw at h;simp only [Bool.and_eq_true,decide_eq_true_eq] at h;obtain ⟨⟨⟨⟨⟨⟨⟨⟨h1,h2⟩,h3⟩,h4⟩,h5⟩,h6⟩,h7⟩,h8⟩,h9⟩:=h;refine ⟨?_,?_,⟨⟨?_,?_⟩,⟨?_,?_⟩⟩,⟨⟨?_,?_⟩,⟨?_,?_⟩⟩⟩
 ·unfold aS Fk;simp only [h1,h2,h3,h4,hn,decide_eq_true h5,Bool.and_true];rcases hk with rfl | rfl<;>simp
 ·simp only;rcases hk with rfl | rfl<;>exact ⟨by decide,by decide⟩
 all_goals simp only;omega
theorem Rz:zSource.isZ=true:=by kernel_rfl
theorem Ve:aS zSource=true:=by unfold aS;rw [Rz];rfl
theorem eH (L:List Int) (k:Nat) (m s:Int) (hm:m≤9) (hs:s≤9):aS (bB L k m s).1=true∧(bB L k m s).1.fit:=by
 unfold bB;split
 ·exact ⟨Ve,uJ⟩
 ·split
  ·rename_i h1;simp only [Bool.and_eq_true,decide_eq_true_eq] at h1;have:=aE (L:=L) (k:=k+5) (n:=s) (by omega);exact aJp (.inr rfl) (wQ _ this.1 (by omega)).1 (Aa L _ _)
  ·split
   ·rename_i h1;have:=aE (L:=L) (k:=k+5) (n:=m) (by omega);exact aJp (.inl rfl) (wQ _ this.1 (by omega)).2 (Aa L _ _)
   ·exact ⟨Ve,uJ⟩
theorem text_ok:((List.range 4).all fun i=>fS (texts.getD i ⟨#[]⟩))=true:=by kernel_rfl
theorem bE {n:Int} (h0 : -1000000≤n) (h1:n≤1000000):I64 n:=⟨by omega,by omega⟩
theorem Rf (L:List Int) (k:Nat) (m s:Int) (hm:m≤9) (hs:s≤9):bQ (bU L k m s).1=true∧(bU L k m s).1.fit:=by
 have n9:=aE (L:=L) (k:=k) (n:=9) (by omega);have n8:=aE (L:=L) (k:=k+1) (n:=8) (by omega);obtain ⟨kd,hkd⟩:∃ kd,kinds.getD (aB L (k+1) 8).toNat 0=kd:=⟨_,rfl⟩
 have hk5:kd=0∨kd=1∨kd=2∨kd=3∨kd=4∨kd=5:=by
  have:(aB L (k+1) 8).toNat=0∨(aB L (k+1) 8).toNat=1∨(aB L (k+1) 8).toNat=2∨(aB L (k+1) 8).toNat=3∨(aB L (k+1) 8).toNat=4∨(aB L (k+1) 8).toNat=5∨(aB L (k+1) 8).toNat=6∨(aB L (k+1) 8).toNat=7:=by omega
  unfold kinds at hkd;rcases this with h | h | h | h | h | h | h | h<;>rw [h] at hkd<;>simp at hkd<;>omega
 obtain ⟨len,hlen⟩:∃ len,1+aB L k 9=len:=⟨_,rfl⟩
 have hl : 1≤len∧len≤9:=by omega
 obtain ⟨va,fa⟩:=eH L (k+2) m s hm hs;obtain ⟨vb,fb⟩:=eH L (bB L (k+2) m s).2 m s hm hs;generalize ha:bB L (k+2) m s=a at va fa vb fb;generalize hb:bB L a.2 m s=b at vb fb;have o3:=aE (L:=L) (k:=b.2) (n:=3) (by omega);have p3:=aE (L:=L) (k:=b.2+1) (n:=3) (by omega);have q4:=aE (L:=L) (k:=b.2+2) (n:=4) (by omega);have q256:=aE (L:=L) (k:=b.2) (n:=256) (by omega);have t4:=aE (L:=L) (k:=a.2) (n:=4) (by omega);have ht:=text_ok;rw [List.all_eq_true] at ht;have ht4:=ht (aB L a.2 4).toNat (by simp;omega);have zz:aS zSource=true:=Ve;have ez:zSource.isZ=true:=Rz;have base:∀ (kk:Int) (x y:SourceR) (o t p:Int) (tx:ByteArray),aS x=true→aS y=true→kJ ⟨len,kk,x,y,o,t,p,tx,0,[]⟩=true:=fun kk x y o t p tx hx hy=>by
  unfold kJ;simp only [hx,hy,decide_eq_true hl.1,decide_eq_true (by omega:len≤2147483647),Bool.and_true];rfl
 have fit:∀ (kk:Int) (x y:SourceR) (o t p:Int) (tx:ByteArray),x.fit→y.fit → -1000000≤kk→kk≤1000000 → -1000000≤o→o≤1000000 → -1000000≤t→t≤1000000 → -1000000≤p→p≤1000000→(⟨len,kk,x,y,o,t,p,tx,0,[]⟩:ClipR).fit:=fun kk x y o t p tx hx hy h1 h2 h3 h4 h5 h6 h7 h8 =>
  ⟨bE (by simp only;omega) (by simp only;omega),bE h1 h2,hx,hy,bE h3 h4,bE h5 h6,bE h7 h8,i0⟩
 unfold bU;simp only [hkd,hlen,ha,hb];rcases hk5 with rfl | rfl | rfl | rfl | rfl | rfl
 ·refine ⟨?_,fit _ _ _ _ _ _ _ uJ uJ (by omega) (by omega) (by omega) (by omega) (by omega) (by omega) (by omega) (by omega)⟩;show bQ ⟨len,0,zSource,zSource,0,0,0,⟨#[]⟩,0,[]⟩=true
  unfold bQ;rw [base _ _ _ _ _ _ _ zz zz];simp [bZ,cS,emp,ez]
 ·refine ⟨?_,fit _ _ _ _ _ _ _ fa uJ (by omega) (by omega) (by omega) (by omega) (by omega) (by omega) (by omega) (by omega)⟩;show bQ ⟨len,1,a.1,zSource,0,0,0,⟨#[]⟩,0,[]⟩=true
  unfold bQ;rw [base _ _ _ _ _ _ _ va zz];simp [bZ,cS,emp,ez]
 ·refine ⟨?_,fit _ _ _ _ _ _ _ fa fb (by omega) (by omega) (by omega) (by omega) (by omega) (by omega) (by omega) (by omega)⟩;show bQ ⟨len,2,a.1,b.1,_,_,0,⟨#[]⟩,0,[]⟩=true
  unfold bQ;rw [base _ _ _ _ _ _ _ va vb];simp [bZ,eV,emp];omega
 ·refine ⟨?_,fit _ _ _ _ _ _ _ fa fb (by omega) (by omega) (by omega) (by omega) (by omega) (by omega) (by omega) (by omega)⟩;show bQ ⟨len,3,a.1,b.1,_,_,_,⟨#[]⟩,0,[]⟩=true
  unfold bQ;rw [base _ _ _ _ _ _ _ va vb];simp [bZ,eV,emp];omega
 ·refine ⟨?_,fit _ _ _ _ _ _ _ fa fb (by omega) (by omega) (by omega) (by omega) (by omega) (by omega) (by omega) (by omega)⟩;show bQ ⟨len,4,a.1,b.1,0,0,_,⟨#[]⟩,0,[]⟩=true
  unfold bQ;rw [base _ _ _ _ _ _ _ va vb];simp [bZ,cS,emp];omega
 ·refine ⟨?_,fit _ _ _ _ _ _ _ fa uJ (by omega) (by omega) (by omega) (by omega) (by omega) (by omega) (by omega) (by omega)⟩;show bQ ⟨len,5,a.1,zSource,0,0,0,_,0,[]⟩=true
  unfold bQ;rw [base _ _ _ _ _ _ _ va zz];simp only [bZ,ez,ht4];rfl
end Go.Proofs.YtbfnemkngoaeeaaGreat
