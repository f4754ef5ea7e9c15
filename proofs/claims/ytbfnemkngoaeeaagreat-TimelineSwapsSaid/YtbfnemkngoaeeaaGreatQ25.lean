/- Proved here: The caption that a tape gives; conditions stand in each theorem. -/
import Derived.Test.YtbfnemkngoaeeaaGreatQ22
import Derived.Test.YtbfnemkngoaeeaaGreatQ11
import Derived.Test.YtbfnemkngoaeeaaGreatQ23
import Derived.Test.YtbfnemkngoaeeaaGreatQ24
set_option linter.unusedSimpArgs false
set_option linter.unusedVariables false
set_option linter.unusedSectionVars false
set_option linter.unnecessarySimpa false
namespace Go.Proofs.YtbfnemkngoaeeaaGreat
open Go.RowKit
set_option maxRecDepth 4000
def cueLines:List ByteArray:=[⟨#[72,101,108,108,111,46]⟩,⟨#[111,110,101,32,116,119,111,32,116,104,114,101,101]⟩,⟨#[120]⟩,⟨#[45,32,87,104,97,116,63,32,45,32,78,111,116,104,105,110,103,44,32,110,111,116,104,105,110,103,32,97,116,32,97,108,108,46]⟩]
def Lt (L:List Int) (k:Nat):ByteArray:=cueLines.getD (aB L k 4).toNat ⟨#[]⟩
def kF (L:List Int) (k:Nat):CueR×Nat :=
 if aB L (k+2) 2=0 then (⟨aB L k 50,aB L k 50+1+aB L (k+1) 20,[Lt L (k+3)]⟩,k+4)
 else (⟨aB L k 50,aB L k 50+1+aB L (k+1) 20,[Lt L (k+3),Lt L (k+4)]⟩,k+5)
theorem cCue (L:List Int) (k:Nat) (hk:k≤900000) :
  uA Tryz.prog 42 [.t (bN L),aC k] [] (vcue (kF L k).1) [.t (bN L),aC ((kF L k).2:Int)]:=by
 refine mR Tryz.X42 Tryz.func42 rfl Tryz.ntmps42 (by rw [Tryz.results42]) (aD _ ?_);simp only [go_sem,simprocAttr,dtf];refine aL (bG L k 50 (by omega) (by omega) (by omega)) rfl rfl rfl ?_;have n50:=aE (L:=L) (k:=k) (n:=50) (by omega);simp only [go_sem,simprocAttr,dtf,wrap64 (x:=aB L k 50+1) (by omega) (by omega)];refine aL (bG L (k+1) 20 (by omega) (by omega) (by omega)) rfl rfl rfl ?_;have n20:=aE (L:=L) (k:=k+1) (n:=20) (by omega);simp only [go_sem,simprocAttr,dtf,wrap64 (x:=aB L k 50+1) (by omega) (by omega),wrap64 (x:=aB L k 50+1+aB L (k+1) 20) (by omega) (by omega)];refine aL (bG L (k+2) 2 (by omega) (by omega) (by omega)) rfl rfl rfl ?_;have n2:=aE (L:=L) (k:=k+2) (n:=2) (by omega);have v1:IntKind.i64.wrap 1=1:=by decide
 have v2:IntKind.i64.wrap 2=2:=by decide
 have m34:decide (34≤maxLen)=true:=by decide
 have v0:IntKind.i64.wrap 0=0:=by decide
 by_cases h2:aB L (k+2) 2=0
 ·have e:kF L k=(⟨aB L k 50,aB L k 50+1+aB L (k+1) 20,[Lt L (k+3)]⟩,k+4):=by unfold kF;rw [if_pos h2]
  rw [e];simp only [go_sem,simprocAttr,dtf,h2,v1,v2];refine eC ?_;refine aZ (aD _ ?_);simp only [go_sem,simprocAttr,dtf,v1,v2,v0];refine aV 11 .done rfl (by kernel_rfl) (by kernel_rfl) (by decide) ?_;simp only [go_sem,simprocAttr,dtf,m34];refine fL (bG L (k+2+1) 4 (by omega) (by omega) (by omega)) rfl rfl rfl ?_;have c4:=aE (L:=L) (k:=k+2+1) (n:=4) (by omega);simp only [go_sem,simprocAttr,dtf];refine ⟨⟨by omega,by omega⟩,by omega,by decide,by kernel_rfl,?_⟩;refine aZ (aD _ ?_);simp only [go_sem,simprocAttr,dtf,v1,v2,v0]<;>rfl
 ·have h2':aB L (k+2) 2=1:=by omega
  have e:kF L k=(⟨aB L k 50,aB L k 50+1+aB L (k+1) 20,[Lt L (k+3),Lt L (k+4)]⟩,k+5):=by unfold kF;rw [if_neg h2]
  rw [e];simp only [go_sem,simprocAttr,dtf,h2',v1,v2];refine eC ?_;refine aZ (aD _ ?_);simp only [go_sem,simprocAttr,dtf,v1,v2,v0];refine aV 11 .done rfl (by kernel_rfl) (by kernel_rfl) (by decide) ?_;simp only [go_sem,simprocAttr,dtf,m34];refine fL (bG L (k+2+1) 4 (by omega) (by omega) (by omega)) rfl rfl rfl ?_;have c4:=aE (L:=L) (k:=k+2+1) (n:=4) (by omega);simp only [go_sem,simprocAttr,dtf];refine ⟨⟨by omega,by omega⟩,by omega,by decide,by kernel_rfl,?_⟩;refine aZ (aD _ ?_);simp only [go_sem,simprocAttr,dtf,v1,v2,v0];refine aV 11 .done rfl (by kernel_rfl) (by kernel_rfl) (by decide) ?_;simp only [go_sem,simprocAttr,dtf,m34];refine fL (bG L (k+2+1+1) 4 (by omega) (by omega) (by omega)) rfl rfl rfl ?_;have c4:=aE (L:=L) (k:=k+2+1+1) (n:=4) (by omega);simp only [go_sem,simprocAttr,dtf];refine ⟨⟨by omega,by omega⟩,by omega,by decide,by kernel_rfl,?_⟩;refine aZ (aD _ ?_);simp only [go_sem,simprocAttr,dtf,v1,v2,v0]<;>rfl
open Go.RowKit
set_option maxRecDepth 4000
def sKinds:List Int:=[1,1,0,2]
def sGains:List Int:=[4096,4096,2048,0,8192,5000]
def eS (s:SourceR):SourceR := { s with smooth:=false }
def fU (L:List Int) (k:Nat) (m s:Int):ClipR×Nat :=
 let len:=1+aB L k 9
 let kind:=sKinds.getD (aB L (k+1) 4).toNat 0
 if kind=0 then (⟨len,0,zSource,zSource,0,0,0,⟨#[]⟩,0,[]⟩,k+2)
 else
  let a:=bB L (k+2) m s
  if kind=2 then
   let b:=bB L a.2 m s
   let off:=aB L b.2 3
   let total:=off+len+aB L (b.2+1) 3
   (⟨len,kind,eS a.1,eS b.1,off,total,0,⟨#[]⟩,sGains.getD (aB L (b.2+2) 6).toNat 0,[aB L (b.2+3) 4 - 1,aB L (b.2+4) 4 - 1]⟩,b.2+5)
  else (⟨len,kind,eS a.1,zSource,0,0,0,⟨#[]⟩,sGains.getD (aB L a.2 6).toNat 0,[aB L (a.2+1) 4 - 1,aB L (a.2+2) 4 - 1]⟩,a.2+3)
def Gw (c:ClipR):V:=if c.chan = [] then aAq c else fH c
theorem Mm (c:ClipR):∀ (w:World) (E:Env) v,RdV w E (Gw c) v→RdV w E (fH c) v:=by
 intro w E v h;unfold Gw at h;split at h
 ·rename_i hc;exact aAc hc w E v h
 ·exact h
theorem cSoundZ (L:List Int) (k:Nat) (m s:Int) (hk:k≤800000) (hm : 0≤m∧m≤9) (hs : 0≤s∧s≤9) :
  uA Tryz.prog 43 [.t (bN L),aC k] [aC m,aC s,aC 2] (Gw (fU L k m s).1) [.t (bN L),aC ((fU L k m s).2:Int)]:=by
 refine mR Tryz.X43 Tryz.func43 rfl Tryz.ntmps43 (by rw [Tryz.results43]) (aD _ ?_);simp only [go_sem,simprocAttr];refine aL (bG L k 9 (by omega) (by omega) (by omega)) rfl rfl rfl ?_;have n9:=aE (L:=L) (k:=k) (n:=9) (by omega);simp only [go_sem,simprocAttr,wrap64 (x:=1+aB L k 9) (by omega) (by omega)];refine aL (bG L (k+1) 4 (by omega) (by omega) (by omega)) rfl rfl rfl ?_;have n4:=aE (L:=L) (k:=k+1) (n:=4) (by omega);simp only [go_sem,simprocAttr];refine ⟨⟨by omega,by omega⟩,by omega,?_⟩;obtain ⟨kd,hkd⟩:∃ kd,sKinds.getD (aB L (k+1) 4).toNat 0=kd:=⟨_,rfl⟩
 have hkd':=hkd;unfold sKinds at hkd';rw [hkd'];have hl0 : 1≤1+aB L k 9∧1+aB L k 9≤9:=by omega
 generalize hlen : 1+aB L k 9=len at hl0;refine ⟨fun h0=>?_,fun h0=>?_⟩
 ·have e0:kd=0:=by simpa using h0
  have e:fU L k m s=(⟨len,0,zSource,zSource,0,0,0,⟨#[]⟩,0,[]⟩,k+2):=by unfold fU;simp only [hkd,hlen,e0,if_true]
  rw [e];unfold awS;simp only [go_sem,simprocAttr];rw [e0];exact ⟨rfl,rfl⟩
 ·have e0 : ¬ kd=0:=by simpa using h0
  unfold awS;simp only [go_sem,simprocAttr];refine aL (mS L (k+2) m s (by omega) hm hs) rfl rfl rfl ?_;obtain ⟨⟨a,ka⟩,ha⟩:∃ a,bB L (k+2) m s=a:=⟨_,rfl⟩
  have hka:=eJ L (k+2) m s;rw [ha] at hka ⊢;simp only at hka;have hk5:kd=1∨kd=2:=by
   have:(aB L (k+1) 4).toNat=0∨(aB L (k+1) 4).toNat=1∨(aB L (k+1) 4).toNat=2∨(aB L (k+1) 4).toNat=3:=by omega
   rcases this with h | h | h | h<;>rw [h] at hkd'<;>simp at hkd'<;>omega
  clear hkd';rcases hk5 with rfl | rfl
  ·have e:fU L k m s=(⟨len,1,eS a,zSource,0,0,0,⟨#[]⟩,sGains.getD (aB L ka 6).toNat 0,[aB L (ka+1) 4 - 1,aB L (ka+2) 4 - 1]⟩,ka+3):=by unfold fU;simp only [hkd,hlen,ha];first | rfl | simp
   rw [e];simp only [go_sem,simprocAttr,dtf];have v1:IntKind.i64.wrap 1=1:=by decide
   have v2:IntKind.i64.wrap 2=2:=by decide
   refine aL (bG L ka 6 (by omega) (by omega) (by omega)) rfl rfl rfl ?_;have n6:=aE (L:=L) (k:=ka) (n:=6) (by omega);simp only [go_sem,simprocAttr,dtf];refine ⟨⟨by omega,by omega⟩,by omega,?_⟩;have hgn : [4096,4096,2048,0,8192,5000].getD (aB L ka 6).toNat 0=sGains.getD (aB L ka 6).toNat 0:=rfl;rw [hgn];generalize sGains.getD (aB L ka 6).toNat 0=gn;refine eC ?_;refine aZ (aD _ ?_);simp only [go_sem,simprocAttr,dtf,v1,v2];refine aV 9 .done rfl (by kernel_rfl) (by kernel_rfl) (by decide) ?_;simp only [go_sem,simprocAttr,dtf];refine fL (bG L (ka+1) 4 (by omega) (by omega) (by omega)) rfl rfl rfl ?_;have c4:=aE (L:=L) (k:=ka+1) (n:=4) (by omega);simp only [go_sem,simprocAttr,dtf,wrap64 (x:=aB L (ka+1) 4 - 1) (by omega) (by omega)];refine ⟨by decide,by kernel_rfl,?_⟩;refine aZ (aD _ ?_);simp only [go_sem,simprocAttr,dtf,v1,v2];refine aV 9 .done rfl (by kernel_rfl) (by kernel_rfl) (by decide) ?_;simp only [go_sem,simprocAttr,dtf];refine fL (bG L (ka+2) 4 (by omega) (by omega) (by omega)) rfl rfl rfl ?_;have d4:=aE (L:=L) (k:=ka+2) (n:=4) (by omega);simp only [go_sem,simprocAttr,dtf,wrap64 (x:=aB L (ka+2) 4 - 1) (by omega) (by omega)];refine ⟨by decide,by kernel_rfl,?_⟩;refine aZ (aD _ ?_);simp only [go_sem,simprocAttr,dtf,v1,v2];exact ⟨rfl,rfl⟩
  ·have e:fU L k m s=(let b:=bB L ka m s; (⟨len,2,eS a,eS b.1,aB L b.2 3,aB L b.2 3+len+aB L (b.2+1) 3,0,⟨#[]⟩,sGains.getD (aB L (b.2+2) 6).toNat 0,[aB L (b.2+3) 4 - 1,aB L (b.2+4) 4 - 1]⟩,b.2+5)):=by unfold fU;simp only [hkd,hlen,ha];first | rfl | simp
   rw [e];simp only [go_sem,simprocAttr,dtf];refine aL (mS L ka m s (by omega) hm hs) rfl rfl rfl ?_;obtain ⟨⟨b,kb⟩,hb⟩:∃ b,bB L ka m s=b:=⟨_,rfl⟩
   have hkb:=eJ L ka m s;rw [hb] at hkb ⊢;simp only at hkb;simp only [go_sem,simprocAttr,dtf];refine aL (bG L kb 3 (by omega) (by omega) (by omega)) rfl rfl rfl ?_;have o3:=aE (L:=L) (k:=kb) (n:=3) (by omega);simp only [go_sem,simprocAttr,dtf];refine aV 10 .done rfl (by kernel_rfl) (by kernel_rfl) (by decide) ?_;simp only [go_sem,simprocAttr,dtf];refine fL (bG L (kb+1) 3 (by omega) (by omega) (by omega)) rfl rfl rfl ?_;have p3:=aE (L:=L) (k:=kb+1) (n:=3) (by omega);simp only [go_sem,simprocAttr,dtf,wrap64 (x:=aB L kb 3+len) (by omega) (by omega),wrap64 (x:=aB L kb 3+len+aB L (kb+1) 3) (by omega) (by omega)];refine ⟨by kernel_rfl,?_⟩;have v1:IntKind.i64.wrap 1=1:=by decide
   have v2:IntKind.i64.wrap 2=2:=by decide
   refine aL (bG L (kb+2) 6 (by omega) (by omega) (by omega)) rfl rfl rfl ?_;have n6:=aE (L:=L) (k:=(kb+2)) (n:=6) (by omega);simp only [go_sem,simprocAttr,dtf];refine ⟨⟨by omega,by omega⟩,by omega,?_⟩;have hgn : [4096,4096,2048,0,8192,5000].getD (aB L (kb+2) 6).toNat 0=sGains.getD (aB L (kb+2) 6).toNat 0:=rfl;rw [hgn];generalize sGains.getD (aB L (kb+2) 6).toNat 0=gn;refine eC ?_;refine aZ (aD _ ?_);simp only [go_sem,simprocAttr,dtf,v1,v2];refine aV 9 .done rfl (by kernel_rfl) (by kernel_rfl) (by decide) ?_;simp only [go_sem,simprocAttr,dtf];refine fL (bG L ((kb+2)+1) 4 (by omega) (by omega) (by omega)) rfl rfl rfl ?_;have c4:=aE (L:=L) (k:=(kb+2)+1) (n:=4) (by omega);simp only [go_sem,simprocAttr,dtf,wrap64 (x:=aB L ((kb+2)+1) 4 - 1) (by omega) (by omega)];refine ⟨by decide,by kernel_rfl,?_⟩;refine aZ (aD _ ?_);simp only [go_sem,simprocAttr,dtf,v1,v2];refine aV 9 .done rfl (by kernel_rfl) (by kernel_rfl) (by decide) ?_;simp only [go_sem,simprocAttr,dtf];refine fL (bG L ((kb+2)+2) 4 (by omega) (by omega) (by omega)) rfl rfl rfl ?_;have d4:=aE (L:=L) (k:=(kb+2)+2) (n:=4) (by omega);simp only [go_sem,simprocAttr,dtf,wrap64 (x:=aB L ((kb+2)+2) 4 - 1) (by omega) (by omega)];refine ⟨by decide,by kernel_rfl,?_⟩;refine aZ (aD _ ?_);simp only [go_sem,simprocAttr,dtf,v1,v2];exact ⟨rfl,rfl⟩
theorem Wc (L:List Int) (k:Nat) (m s:Int) (hm:m≤9) (hs:s≤9):(fU L k m s).1.fit:=by
 have n9:=aE (L:=L) (k:=k) (n:=9) (by omega);obtain ⟨_,fa⟩:=eH L (k+2) m s hm hs;obtain ⟨_,fb⟩:=eH L (bB L (k+2) m s).2 m s hm hs;have o3:=aE (L:=L) (k:=(bB L (bB L (k+2) m s).2 m s).2) (n:=3) (by omega);have p3:=aE (L:=L) (k:=(bB L (bB L (k+2) m s).2 m s).2+1) (n:=3) (by omega);have hk:∀ i:Nat, -1000000≤sKinds.getD i 0∧sKinds.getD i 0≤1000000:=fun i=>by
  rcases i with _ | _ | _ | _ | i<;>simp [sKinds]
 have hg:∀ i:Nat, -1000000≤sGains.getD i 0∧sGains.getD i 0≤1000000:=fun i=>by
  rcases i with _ | _ | _ | _ | _ | _ | i<;>simp [sGains]
 have hl:I64 (1+aB L k 9):=bE (by omega) (by omega);have qf:∀ s:SourceR,s.fit→(eS s).fit:=fun s h=>⟨h.kind,h.pos,h.speed⟩
 unfold fU;simp only;split
 ·exact ⟨hl,i0,uJ,uJ,i0,i0,i0,i0⟩
 ·split
  ·exact ⟨hl,bE (hk _).1 (hk _).2,qf _ fa,qf _ fb,bE (by simp only;omega) (by simp only;omega),bE (by simp only;omega) (by simp only;omega),i0,bE (hg _).1 (hg _).2⟩
  ·exact ⟨hl,bE (hk _).1 (hk _).2,qf _ fa,uJ,i0,i0,i0,bE (hg _).1 (hg _).2⟩
open Go.RowKit
set_option maxRecDepth 4000
def eL (L:List Int) (k:Nat) (m s:Int):ClipR×Nat :=
 let len:=1+aB L k 9
 let kind:=sKinds.getD (aB L (k+1) 4).toNat 0
 if kind=0 then (⟨len,0,zSource,zSource,0,0,0,⟨#[]⟩,0,[]⟩,k+2)
 else
  let a:=bB L (k+2) m s
  if kind=2 then
   let b:=bB L a.2 m s
   let off:=aB L b.2 3
   let total:=off+len+aB L (b.2+1) 3
   (⟨len,kind,eS a.1,eS b.1,off,total,0,⟨#[]⟩,sGains.getD (aB L (b.2+2) 6).toNat 0,[]⟩,b.2+3)
  else (⟨len,kind,eS a.1,zSource,0,0,0,⟨#[]⟩,sGains.getD (aB L a.2 6).toNat 0,[]⟩,a.2+1)
theorem aMp (L:List Int) (k:Nat) (m s:Int) (hk:k≤800000) (hm : 0≤m∧m≤9) (hs : 0≤s∧s≤9) :
  uA Tryz.prog 43 [.t (bN L),aC k] [aC m,aC s,aC 0] (Gw (eL L k m s).1) [.t (bN L),aC ((eL L k m s).2:Int)]:=by
 refine mR Tryz.X43 Tryz.func43 rfl Tryz.ntmps43 (by rw [Tryz.results43]) (aD _ ?_);simp only [go_sem,simprocAttr];refine aL (bG L k 9 (by omega) (by omega) (by omega)) rfl rfl rfl ?_;have n9:=aE (L:=L) (k:=k) (n:=9) (by omega);simp only [go_sem,simprocAttr,wrap64 (x:=1+aB L k 9) (by omega) (by omega)];refine aL (bG L (k+1) 4 (by omega) (by omega) (by omega)) rfl rfl rfl ?_;have n4:=aE (L:=L) (k:=k+1) (n:=4) (by omega);simp only [go_sem,simprocAttr];refine ⟨⟨by omega,by omega⟩,by omega,?_⟩;obtain ⟨kd,hkd⟩:∃ kd,sKinds.getD (aB L (k+1) 4).toNat 0=kd:=⟨_,rfl⟩
 have hkd':=hkd;unfold sKinds at hkd';rw [hkd'];have hl0 : 1≤1+aB L k 9∧1+aB L k 9≤9:=by omega
 generalize hlen : 1+aB L k 9=len at hl0;refine ⟨fun h0=>?_,fun h0=>?_⟩
 ·have e0:kd=0:=by simpa using h0
  have e:eL L k m s=(⟨len,0,zSource,zSource,0,0,0,⟨#[]⟩,0,[]⟩,k+2):=by unfold eL;simp only [hkd,hlen,e0,if_true]
  rw [e];unfold awS;simp only [go_sem,simprocAttr];rw [e0];exact ⟨rfl,rfl⟩
 ·have e0 : ¬ kd=0:=by simpa using h0
  unfold awS;simp only [go_sem,simprocAttr];refine aL (mS L (k+2) m s (by omega) hm hs) rfl rfl rfl ?_;obtain ⟨⟨a,ka⟩,ha⟩:∃ a,bB L (k+2) m s=a:=⟨_,rfl⟩
  have hka:=eJ L (k+2) m s;rw [ha] at hka ⊢;simp only at hka;have hk5:kd=1∨kd=2:=by
   have:(aB L (k+1) 4).toNat=0∨(aB L (k+1) 4).toNat=1∨(aB L (k+1) 4).toNat=2∨(aB L (k+1) 4).toNat=3:=by omega
   rcases this with h | h | h | h<;>rw [h] at hkd'<;>simp at hkd'<;>omega
  clear hkd';rcases hk5 with rfl | rfl
  ·have e:eL L k m s=(⟨len,1,eS a,zSource,0,0,0,⟨#[]⟩,sGains.getD (aB L ka 6).toNat 0,[]⟩,ka+1):=by unfold eL;simp only [hkd,hlen,ha];first | rfl | simp
   rw [e];simp only [go_sem,simprocAttr,dtf];have v1:IntKind.i64.wrap 1=1:=by decide
   have v2:IntKind.i64.wrap 2=2:=by decide
   refine aL (bG L ka 6 (by omega) (by omega) (by omega)) rfl rfl rfl ?_;have n6:=aE (L:=L) (k:=ka) (n:=6) (by omega);simp only [go_sem,simprocAttr,dtf];refine ⟨⟨by omega,by omega⟩,by omega,?_⟩;have hgn : [4096,4096,2048,0,8192,5000].getD (aB L ka 6).toNat 0=sGains.getD (aB L ka 6).toNat 0:=rfl;rw [hgn];generalize sGains.getD (aB L ka 6).toNat 0=gn;refine eC ?_;refine aZ (aD _ ?_);simp only [go_sem,simprocAttr,dtf,v1,v2];exact ⟨rfl,rfl⟩
  ·have e:eL L k m s=(let b:=bB L ka m s; (⟨len,2,eS a,eS b.1,aB L b.2 3,aB L b.2 3+len+aB L (b.2+1) 3,0,⟨#[]⟩,sGains.getD (aB L (b.2+2) 6).toNat 0,[]⟩,b.2+3)):=by unfold eL;simp only [hkd,hlen,ha];first | rfl | simp
   rw [e];simp only [go_sem,simprocAttr,dtf];refine aL (mS L ka m s (by omega) hm hs) rfl rfl rfl ?_;obtain ⟨⟨b,kb⟩,hb⟩:∃ b,bB L ka m s=b:=⟨_,rfl⟩
   have hkb:=eJ L ka m s;rw [hb] at hkb ⊢;simp only at hkb;simp only [go_sem,simprocAttr,dtf];refine aL (bG L kb 3 (by omega) (by omega) (by omega)) rfl rfl rfl ?_;have o3:=aE (L:=L) (k:=kb) (n:=3) (by omega);simp only [go_sem,simprocAttr,dtf];refine aV 10 .done rfl (by kernel_rfl) (by kernel_rfl) (by decide) ?_;simp only [go_sem,simprocAttr,dtf];refine fL (bG L (kb+1) 3 (by omega) (by omega) (by omega)) rfl rfl rfl ?_;have p3:=aE (L:=L) (k:=kb+1) (n:=3) (by omega);simp only [go_sem,simprocAttr,dtf,wrap64 (x:=aB L kb 3+len) (by omega) (by omega),wrap64 (x:=aB L kb 3+len+aB L (kb+1) 3) (by omega) (by omega)];refine ⟨by kernel_rfl,?_⟩;have v1:IntKind.i64.wrap 1=1:=by decide
   have v2:IntKind.i64.wrap 2=2:=by decide
   refine aL (bG L (kb+2) 6 (by omega) (by omega) (by omega)) rfl rfl rfl ?_;have n6:=aE (L:=L) (k:=(kb+2)) (n:=6) (by omega);simp only [go_sem,simprocAttr,dtf];refine ⟨⟨by omega,by omega⟩,by omega,?_⟩;have hgn : [4096,4096,2048,0,8192,5000].getD (aB L (kb+2) 6).toNat 0=sGains.getD (aB L (kb+2) 6).toNat 0:=rfl;rw [hgn];generalize sGains.getD (aB L (kb+2) 6).toNat 0=gn;refine eC ?_;refine aZ (aD _ ?_);simp only [go_sem,simprocAttr,dtf,v1,v2];exact ⟨rfl,rfl⟩
theorem Sp (L:List Int) (k:Nat) (m s:Int) (hm:m≤9) (hs:s≤9):(eL L k m s).1.fit:=by
 have n9:=aE (L:=L) (k:=k) (n:=9) (by omega);obtain ⟨_,fa⟩:=eH L (k+2) m s hm hs;obtain ⟨_,fb⟩:=eH L (bB L (k+2) m s).2 m s hm hs;have o3:=aE (L:=L) (k:=(bB L (bB L (k+2) m s).2 m s).2) (n:=3) (by omega);have p3:=aE (L:=L) (k:=(bB L (bB L (k+2) m s).2 m s).2+1) (n:=3) (by omega);have hk:∀ i:Nat, -1000000≤sKinds.getD i 0∧sKinds.getD i 0≤1000000:=fun i=>by
  rcases i with _ | _ | _ | _ | i<;>simp [sKinds]
 have hg:∀ i:Nat, -1000000≤sGains.getD i 0∧sGains.getD i 0≤1000000:=fun i=>by
  rcases i with _ | _ | _ | _ | _ | _ | i<;>simp [sGains]
 have hl:I64 (1+aB L k 9):=bE (by omega) (by omega);have qf:∀ s:SourceR,s.fit→(eS s).fit:=fun s h=>⟨h.kind,h.pos,h.speed⟩
 unfold eL;simp only;split
 ·exact ⟨hl,i0,uJ,uJ,i0,i0,i0,i0⟩
 ·split
  ·exact ⟨hl,bE (hk _).1 (hk _).2,qf _ fa,qf _ fb,bE (by simp only;omega) (by simp only;omega),bE (by simp only;omega) (by simp only;omega),i0,bE (hg _).1 (hg _).2⟩
  ·exact ⟨hl,bE (hk _).1 (hk _).2,qf _ fa,uJ,i0,i0,i0,bE (hg _).1 (hg _).2⟩
def eK (L:List Int) (k:Nat) (m s:Int):ClipR×Nat :=
 let len:=1+aB L k 9
 let kind:=sKinds.getD (aB L (k+1) 4).toNat 0
 if kind=0 then (⟨len,0,zSource,zSource,0,0,0,⟨#[]⟩,0,[]⟩,k+2)
 else
  let a:=bB L (k+2) m s
  if kind=2 then
   let b:=bB L a.2 m s
   let off:=aB L b.2 3
   let total:=off+len+aB L (b.2+1) 3
   (⟨len,kind,eS a.1,eS b.1,off,total,0,⟨#[]⟩,sGains.getD (aB L (b.2+2) 6).toNat 0,[aB L (b.2+3) 4 - 1]⟩,b.2+4)
  else (⟨len,kind,eS a.1,zSource,0,0,0,⟨#[]⟩,sGains.getD (aB L a.2 6).toNat 0,[aB L (a.2+1) 4 - 1]⟩,a.2+2)
theorem aMn (L:List Int) (k:Nat) (m s:Int) (hk:k≤800000) (hm : 0≤m∧m≤9) (hs : 0≤s∧s≤9) :
  uA Tryz.prog 43 [.t (bN L),aC k] [aC m,aC s,aC 1] (Gw (eK L k m s).1) [.t (bN L),aC ((eK L k m s).2:Int)]:=by
 refine mR Tryz.X43 Tryz.func43 rfl Tryz.ntmps43 (by rw [Tryz.results43]) (aD _ ?_);simp only [go_sem,simprocAttr];refine aL (bG L k 9 (by omega) (by omega) (by omega)) rfl rfl rfl ?_;have n9:=aE (L:=L) (k:=k) (n:=9) (by omega);simp only [go_sem,simprocAttr,wrap64 (x:=1+aB L k 9) (by omega) (by omega)];refine aL (bG L (k+1) 4 (by omega) (by omega) (by omega)) rfl rfl rfl ?_;have n4:=aE (L:=L) (k:=k+1) (n:=4) (by omega);simp only [go_sem,simprocAttr];refine ⟨⟨by omega,by omega⟩,by omega,?_⟩;obtain ⟨kd,hkd⟩:∃ kd,sKinds.getD (aB L (k+1) 4).toNat 0=kd:=⟨_,rfl⟩
 have hkd':=hkd;unfold sKinds at hkd';rw [hkd'];have hl0 : 1≤1+aB L k 9∧1+aB L k 9≤9:=by omega
 generalize hlen : 1+aB L k 9=len at hl0;refine ⟨fun h0=>?_,fun h0=>?_⟩
 ·have e0:kd=0:=by simpa using h0
  have e:eK L k m s=(⟨len,0,zSource,zSource,0,0,0,⟨#[]⟩,0,[]⟩,k+2):=by unfold eK;simp only [hkd,hlen,e0,if_true]
  rw [e];unfold awS;simp only [go_sem,simprocAttr];rw [e0];exact ⟨rfl,rfl⟩
 ·have e0 : ¬ kd=0:=by simpa using h0
  unfold awS;simp only [go_sem,simprocAttr];refine aL (mS L (k+2) m s (by omega) hm hs) rfl rfl rfl ?_;obtain ⟨⟨a,ka⟩,ha⟩:∃ a,bB L (k+2) m s=a:=⟨_,rfl⟩
  have hka:=eJ L (k+2) m s;rw [ha] at hka ⊢;simp only at hka;have hk5:kd=1∨kd=2:=by
   have:(aB L (k+1) 4).toNat=0∨(aB L (k+1) 4).toNat=1∨(aB L (k+1) 4).toNat=2∨(aB L (k+1) 4).toNat=3:=by omega
   rcases this with h | h | h | h<;>rw [h] at hkd'<;>simp at hkd'<;>omega
  clear hkd';rcases hk5 with rfl | rfl
  ·have e:eK L k m s=(⟨len,1,eS a,zSource,0,0,0,⟨#[]⟩,sGains.getD (aB L ka 6).toNat 0,[aB L (ka+1) 4 - 1]⟩,ka+2):=by unfold eK;simp only [hkd,hlen,ha];first | rfl | simp
   rw [e];simp only [go_sem,simprocAttr,dtf];have v1:IntKind.i64.wrap 1=1:=by decide
   have v2:IntKind.i64.wrap 2=2:=by decide
   refine aL (bG L ka 6 (by omega) (by omega) (by omega)) rfl rfl rfl ?_;have n6:=aE (L:=L) (k:=ka) (n:=6) (by omega);simp only [go_sem,simprocAttr,dtf];refine ⟨⟨by omega,by omega⟩,by omega,?_⟩;have hgn : [4096,4096,2048,0,8192,5000].getD (aB L ka 6).toNat 0=sGains.getD (aB L ka 6).toNat 0:=rfl;rw [hgn];generalize sGains.getD (aB L ka 6).toNat 0=gn;refine eC ?_;refine aZ (aD _ ?_);simp only [go_sem,simprocAttr,dtf,v1,v2];refine aV 9 .done rfl (by kernel_rfl) (by kernel_rfl) (by decide) ?_;simp only [go_sem,simprocAttr,dtf];refine fL (bG L (ka+1) 4 (by omega) (by omega) (by omega)) rfl rfl rfl ?_;have c4:=aE (L:=L) (k:=ka+1) (n:=4) (by omega);simp only [go_sem,simprocAttr,dtf,wrap64 (x:=aB L (ka+1) 4 - 1) (by omega) (by omega)];refine ⟨by decide,by kernel_rfl,?_⟩;refine aZ (aD _ ?_);simp only [go_sem,simprocAttr,dtf,v1,v2];exact ⟨rfl,rfl⟩
  ·have e:eK L k m s=(let b:=bB L ka m s; (⟨len,2,eS a,eS b.1,aB L b.2 3,aB L b.2 3+len+aB L (b.2+1) 3,0,⟨#[]⟩,sGains.getD (aB L (b.2+2) 6).toNat 0,[aB L (b.2+3) 4 - 1]⟩,b.2+4)):=by unfold eK;simp only [hkd,hlen,ha];first | rfl | simp
   rw [e];simp only [go_sem,simprocAttr,dtf];refine aL (mS L ka m s (by omega) hm hs) rfl rfl rfl ?_;obtain ⟨⟨b,kb⟩,hb⟩:∃ b,bB L ka m s=b:=⟨_,rfl⟩
   have hkb:=eJ L ka m s;rw [hb] at hkb ⊢;simp only at hkb;simp only [go_sem,simprocAttr,dtf];refine aL (bG L kb 3 (by omega) (by omega) (by omega)) rfl rfl rfl ?_;have o3:=aE (L:=L) (k:=kb) (n:=3) (by omega);simp only [go_sem,simprocAttr,dtf];refine aV 10 .done rfl (by kernel_rfl) (by kernel_rfl) (by decide) ?_;simp only [go_sem,simprocAttr,dtf];refine fL (bG L (kb+1) 3 (by omega) (by omega) (by omega)) rfl rfl rfl ?_;have p3:=aE (L:=L) (k:=kb+1) (n:=3) (by omega);simp only [go_sem,simprocAttr,dtf,wrap64 (x:=aB L kb 3+len) (by omega) (by omega),wrap64 (x:=aB L kb 3+len+aB L (kb+1) 3) (by omega) (by omega)];refine ⟨by kernel_rfl,?_⟩;have v1:IntKind.i64.wrap 1=1:=by decide
   have v2:IntKind.i64.wrap 2=2:=by decide
   refine aL (bG L (kb+2) 6 (by omega) (by omega) (by omega)) rfl rfl rfl ?_;have n6:=aE (L:=L) (k:=(kb+2)) (n:=6) (by omega);simp only [go_sem,simprocAttr,dtf];refine ⟨⟨by omega,by omega⟩,by omega,?_⟩;have hgn : [4096,4096,2048,0,8192,5000].getD (aB L (kb+2) 6).toNat 0=sGains.getD (aB L (kb+2) 6).toNat 0:=rfl;rw [hgn];generalize sGains.getD (aB L (kb+2) 6).toNat 0=gn;refine eC ?_;refine aZ (aD _ ?_);simp only [go_sem,simprocAttr,dtf,v1,v2];refine aV 9 .done rfl (by kernel_rfl) (by kernel_rfl) (by decide) ?_;simp only [go_sem,simprocAttr,dtf];refine fL (bG L ((kb+2)+1) 4 (by omega) (by omega) (by omega)) rfl rfl rfl ?_;have c4:=aE (L:=L) (k:=(kb+2)+1) (n:=4) (by omega);simp only [go_sem,simprocAttr,dtf,wrap64 (x:=aB L ((kb+2)+1) 4 - 1) (by omega) (by omega)];refine ⟨by decide,by kernel_rfl,?_⟩;refine aZ (aD _ ?_);simp only [go_sem,simprocAttr,dtf,v1,v2];exact ⟨rfl,rfl⟩
theorem Sk (L:List Int) (k:Nat) (m s:Int) (hm:m≤9) (hs:s≤9):(eK L k m s).1.fit:=by
 have n9:=aE (L:=L) (k:=k) (n:=9) (by omega);obtain ⟨_,fa⟩:=eH L (k+2) m s hm hs;obtain ⟨_,fb⟩:=eH L (bB L (k+2) m s).2 m s hm hs;have o3:=aE (L:=L) (k:=(bB L (bB L (k+2) m s).2 m s).2) (n:=3) (by omega);have p3:=aE (L:=L) (k:=(bB L (bB L (k+2) m s).2 m s).2+1) (n:=3) (by omega);have hk:∀ i:Nat, -1000000≤sKinds.getD i 0∧sKinds.getD i 0≤1000000:=fun i=>by
  rcases i with _ | _ | _ | _ | i<;>simp [sKinds]
 have hg:∀ i:Nat, -1000000≤sGains.getD i 0∧sGains.getD i 0≤1000000:=fun i=>by
  rcases i with _ | _ | _ | _ | _ | _ | i<;>simp [sGains]
 have hl:I64 (1+aB L k 9):=bE (by omega) (by omega);have qf:∀ s:SourceR,s.fit→(eS s).fit:=fun s h=>⟨h.kind,h.pos,h.speed⟩
 unfold eK;simp only;split
 ·exact ⟨hl,i0,uJ,uJ,i0,i0,i0,i0⟩
 ·split
  ·exact ⟨hl,bE (hk _).1 (hk _).2,qf _ fa,qf _ fb,bE (by simp only;omega) (by simp only;omega),bE (by simp only;omega) (by simp only;omega),i0,bE (hg _).1 (hg _).2⟩
  ·exact ⟨hl,bE (hk _).1 (hk _).2,qf _ fa,uJ,i0,i0,i0,bE (hg _).1 (hg _).2⟩
def jM (L:List Int) (k:Nat) (m s:Int) (ch:Int):ClipR×Nat:=if ch=0 then eL L k m s else if ch=1 then eK L k m s else fU L k m s
theorem cSoundC (L:List Int) (k:Nat) (m s ch:Int) (hk:k≤800000) (hm : 0≤m∧m≤9) (hs : 0≤s∧s≤9) (hc : 0≤ch∧ch≤2) :
  uA Tryz.prog 43 [.t (bN L),aC k] [aC m,aC s,aC ch] (fH (jM L k m s ch).1) [.t (bN L),aC ((jM L k m s ch).2:Int)]:=by
 have:ch=0∨ch=1∨ch=2:=by omega
 rcases this with rfl | rfl | rfl
 ·exact Gf (Mm _) (aMp L k m s hk hm hs)
 ·exact Gf (Mm _) (aMn L k m s hk hm hs)
 ·exact Gf (Mm _) (cSoundZ L k m s hk hm hs)
theorem aB1 (L:List Int) (k:Nat) (m s ch:Int) (hm:m≤9) (hs:s≤9):(jM L k m s ch).1.fit:=by
 unfold jM;split
 ·exact Sp L k m s hm hs
 ·split
  ·exact Sk L k m s hm hs
  ·exact Wc L k m s hm hs
open Go.RowKit
set_option maxRecDepth 4000
theorem cTrackB (L:List Int) (k:Nat) (m s most:Int) (hk:k≤100000) (hm : 0≤m∧m≤9) (hs : 0≤s∧s≤9) (h0 : 0≤most) (h9:most≤9):uA Tryz.prog 37 [.t (bN L),aC k] [aC m,aC s,aC most] (.t (dD (mU L k m s most).1)) [.t (bN L),aC ((mU L k m s most).2:Int)]:=by
 refine mR Tryz.X37 Tryz.func37 rfl Tryz.ntmps37 (by rw [Tryz.results37]) (cE fun hf=>aD _ ?_);have w1:IntKind.i64.wrap (most+1)=most+1:=wrap64 (by omega) (by omega);simp only [go_sem,simprocAttr,w1];refine aL (bG L k (most+1) (by omega) (by omega) (by omega)) rfl rfl rfl ?_;have tn:=aE (L:=L) (k:=k) (n:=most+1) (by omega);obtain ⟨N,hN⟩:∃ N:Nat,aB L k (most+1)=N:=⟨(aB L k (most+1)).toNat,by omega⟩
 simp only [go_sem,simprocAttr,hN];refine aF (fun (x:Nat×List ClipR×Nat) σ => StT L x.1 x.2.1 x.2.2 σ) (fun x=>x.2.1.length+2*x.1≤18∧x.2.2+19*x.1≤k+200∧x.2.1++(kL L m s x.1 x.2.2).1=(mU L k m s most).1∧(kL L m s x.1 x.2.2).2=(mU L k m s most).2) (fun x=>x.1) (N,[],k+1) (aW [(1,none),(0,some 0)] ?_) ⟨by simp only [List.length_nil];omega,by simp only;omega,?_⟩ ?_
 ·simp only [go_sem,simprocAttr]<;>simp
 ·simp only [mU,hN,Int.toNat_natCast,List.nil_append,and_self]
 ·rintro ⟨c,es,q⟩ ⟨hc,hq,he1,he2⟩;simp only at hc hq he1 he2;refine aD _ ?_;simp only [go_sem,simprocAttr];refine ⟨fun hlt=>?_,fun hge=>?_⟩
  ·simp only [bxx] at hlt;obtain ⟨c,rfl⟩:∃ c',c=c'+1:=⟨c - 1,by omega⟩
   simp only [kL] at he1 he2;have hst:=rH L q m s hm.2 hs.2;unfold awS;simp only [go_sem,simprocAttr];refine aL (cClip L q m s (by omega) hm hs) rfl rfl rfl ?_;have hle:=Rg L q m s;have hsm:=tU L q m s;generalize hcl:bU L q m s=C at *;obtain ⟨d,kq⟩:=C;simp only [go_sem,simprocAttr];have ec:∀ d:ClipR,[T.lit (.int .i64 d.len), .lit (.int .i64 d.kind), .lit (.int .i64 d.a.kind), .lit (.string d.a.name), .lit (.int .i64 d.a.pos.num), .lit (.int .i64 d.a.pos.den), .lit (.int .i64 d.a.speed.num), .lit (.int .i64 d.a.speed.den), .lit (.bool d.a.smooth),
    .lit (.int .i64 d.b.kind), .lit (.string d.b.name), .lit (.int .i64 d.b.pos.num), .lit (.int .i64 d.b.pos.den), .lit (.int .i64 d.b.speed.num), .lit (.int .i64 d.b.speed.den), .lit (.bool d.b.smooth), .lit (.int .i64 d.off), .lit (.int .i64 d.total), .lit (.int .i64 d.param), .lit (.string d.text), .lit (.int .i64 d.gain), .list 1 (Be 0) (d.chan.map Be)]=ClipR.c d:=fun _=>rfl
   have es1:es.map ClipR.c ++ [ClipR.c d]=(es ++ [d]).map ClipR.c:=by simp
   simp only [ec,es1];refine ⟨⟨by unfold maxLen;omega,by omega⟩,aL (bG L kq 4 (by omega) (by omega) (by omega)) rfl rfl rfl ?_⟩;have n4:=aE (L:=L) (k:=kq) (n:=4) (by omega);simp only [go_sem,simprocAttr];have hll:((es ++ [d]).length:Int)<64:=by simp only [List.length_append,List.length_cons,List.length_nil];omega
   have wc:IntKind.i64.wrap (((c+1:Nat):Int) - 1)=(c:Int):=by rw [wrap64 (by omega) (by omega)];omega
   refine brW (b:=aB L kq 4==0) ?_ ⟨fun hj=>?_,fun hj=>?_⟩
   ·rw [decide_eq_true hll,Bool.and_true]
   ·unfold awS;simp only [go_sem,simprocAttr];refine aL (bG L (kq+1) 4 (by omega) (by omega) (by omega)) rfl rfl rfl ?_;have m4:=aE (L:=L) (k:=kq+1) (n:=4) (by omega);simp only [go_sem,simprocAttr,wrap64 (x:=1+aB L (kq+1) 4) (by omega) (by omega)];refine ⟨_,fun _=>Zu d.a.speed one1,_,fun _=>gF d.b zSource,fun hb=>?_,fun hb=>?_⟩
    ·have hb2:Cf d=true:=hb;have hs1:dU L q m s=([d,eQ d (1+aB L (kq+1) 4)],kq+2):=by
      unfold dU;rw [hcl];simp only;rw [if_pos (by simpa using hj),if_pos hb2]
     rw [hs1] at he1 he2;obtain ⟨⟨q1,q2,q3⟩,_,q5,q6⟩:=hsm;simp only at q1 q2 q3 q5 q6;have wm:(d.len*d.a.pos.den).natAbs≤900000:=by
      rw [Int.natAbs_mul];exact Nat.mul_le_mul (show d.len.natAbs≤9 by omega) q2
     unfold awS;simp only [go_sem,simprocAttr,wrap64 (x:=d.len*d.a.pos.den) (by omega) (by omega),wrap64 (x:=d.a.pos.num+d.len*d.a.pos.den) (by omega) (by omega)];have e2:∀ n:Int,[T.lit (.int .i64 n), .lit (.int .i64 d.kind), .lit (.int .i64 d.a.kind), .lit (.string d.a.name), .lit (.int .i64 (d.a.pos.num+d.len*d.a.pos.den)), .lit (.int .i64 d.a.pos.den), .lit (.int .i64 d.a.speed.num), .lit (.int .i64 d.a.speed.den), .lit (.bool d.a.smooth),
      .lit (.int .i64 d.b.kind), .lit (.string d.b.name), .lit (.int .i64 d.b.pos.num), .lit (.int .i64 d.b.pos.den), .lit (.int .i64 d.b.speed.num), .lit (.int .i64 d.b.speed.den), .lit (.bool d.b.smooth), .lit (.int .i64 d.off), .lit (.int .i64 d.total), .lit (.int .i64 d.param), .lit (.string d.text), .lit (.int .i64 d.gain), .list 1 (Be 0) (d.chan.map Be)]=ClipR.c (eQ d n):=fun _=>rfl
     have e3:∀ x:ClipR,(es ++ [d]).map ClipR.c ++ [ClipR.c x]=(es ++ [d,x]).map ClipR.c:=fun x=>by simp
     simp only [e2,e3];refine ⟨⟨by simp only [List.length_append,List.length_cons,List.length_nil];unfold maxLen;omega,by simp only [List.length_append,List.length_cons,List.length_nil];omega⟩,(c,es ++ [d,eQ d (1+aB L (kq+1) 4)],kq+2),aW [(1,some 7),(0,some 0)] ?_,⟨by simp only [List.length_append,List.length_cons,List.length_nil];omega,by simp only;simp only at hle;omega,by rw [← he1];simp,he2⟩,by simp only;omega⟩;simp only [go_sem,simprocAttr,wc];try simp
    ·have hs1:dU L q m s=([d],kq+2):=by
      have hb2:Cf d=false:=hb;unfold dU;rw [hcl];simp only;rw [if_pos (by simpa using hj),hb2];rfl
     rw [hs1] at he1 he2;unfold awS;simp only [go_sem,simprocAttr];refine ⟨(c,es ++ [d],kq+2),aW [(1,some 4),(0,some 0)] ?_,⟨by simp only [List.length_append,List.length_cons,List.length_nil];omega,by simp only;simp only at hle;omega,by rw [← he1];simp,he2⟩,by simp only;omega⟩;simp only [go_sem,simprocAttr,wc];try simp
   ·have hs1:dU L q m s=([d],kq+1):=by
     unfold dU;rw [hcl];simp only;rw [if_neg (by simpa using hj)]
    rw [hs1] at he1 he2;unfold awS;simp only [go_sem,simprocAttr];refine ⟨(c,es ++ [d],kq+1),aW [(1,some 4),(0,some 0)] ?_,⟨by simp only [List.length_append,List.length_cons,List.length_nil];omega,by simp only;simp only at hle;omega,by rw [← he1];simp,he2⟩,by simp only;omega⟩;simp only [go_sem,simprocAttr,wc];try simp
  ·simp only [bxx] at hge;unfold awS;simp only [go_sem,simprocAttr];have:c=0:=by omega
   subst this;simp only [kL,List.append_nil] at he1 he2;rw [he1,he2];exact ⟨rfl,rfl⟩
end Go.Proofs.YtbfnemkngoaeeaaGreat
