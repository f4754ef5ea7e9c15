/- Proved here: The caption that a tape gives, for use in the proofs of the given statements; conditions stand in each theorem. -/
import Derived.Test.YtkjdkbmfaamhaaaGreatY8
import Derived.Test.YtkjdkbmfaamhaaaGreatZS
import Derived.Test.YtkjdkbmfaamhaaaGreatZQ
import Derived.Test.YtkjdkbmfaamhaaaGreatZR
set_option linter.unusedSimpArgs false
set_option linter.unusedVariables false
set_option linter.unusedSectionVars false
set_option linter.unnecessarySimpa false
namespace Go.Proofs.YtkjdkbmfaamhaaaGreat
open Go.RowKit
set_option maxRecDepth 4000
def cueLines:List ByteArray:=[⟨#[72,101,108,108,111,46]⟩,⟨#[111,110,101,32,116,119,111,32,116,104,114,101,101]⟩,⟨#[120]⟩,⟨#[45,32,87,104,97,116,63,32,45,32,78,111,116,104,105,110,103,44,32,110,111,116,104,105,110,103,32,97,116,32,97,108,108,46]⟩]
def cueLn (L:List Int) (k:Nat):ByteArray:=cueLines.getD (tapeN L k 4).toNat ⟨#[]⟩
def cueAt (L:List Int) (k:Nat):CueR×Nat :=
 if tapeN L (k+2) 2=0 then (⟨tapeN L k 50,tapeN L k 50+1+tapeN L (k+1) 20,[cueLn L (k+3)]⟩,k+4)
 else (⟨tapeN L k 50,tapeN L k 50+1+tapeN L (k+1) 20,[cueLn L (k+3),cueLn L (k+4)]⟩,k+5)
theorem cCue (L:List Int) (k:Nat) (hk:k≤900000) :
  CBox Tryz.prog 16 [.t (tints L),vint k] [] (vcue (cueAt L k).1) [.t (tints L),vint ((cueAt L k).2:Int)]:=by
 refine cbox_of Tryz.xen16 Tryz.func16 rfl Tryz.ntmps16 (by rw [Tryz.results16]) (aw_ok _ ?_)
 simp only [go_sem,simprocAttr,decide_true,decide_false]
 refine icall_box (cNext L k 50 (by omega) (by omega) (by omega)) rfl rfl rfl ?_
 have n50:=tapeN_lt (L:=L) (k:=k) (n:=50) (by omega)
 simp only [go_sem,simprocAttr,decide_true,decide_false,wrap64 (x:=tapeN L k 50+1) (by omega) (by omega)]
 refine icall_box (cNext L (k+1) 20 (by omega) (by omega) (by omega)) rfl rfl rfl ?_
 have n20:=tapeN_lt (L:=L) (k:=k+1) (n:=20) (by omega)
 simp only [go_sem,simprocAttr,decide_true,decide_false,wrap64 (x:=tapeN L k 50+1) (by omega) (by omega),wrap64 (x:=tapeN L k 50+1+tapeN L (k+1) 20) (by omega) (by omega)]
 refine icall_box (cNext L (k+2) 2 (by omega) (by omega) (by omega)) rfl rfl rfl ?_
 have n2:=tapeN_lt (L:=L) (k:=k+2) (n:=2) (by omega)
 have v1:IntKind.i64.wrap 1=1:=by decide
 have v2:IntKind.i64.wrap 2=2:=by decide
 have m34:decide (34≤maxLen)=true:=by decide
 have v0:IntKind.i64.wrap 0=0:=by decide
 by_cases h2:tapeN L (k+2) 2=0
 ·have e:cueAt L k=(⟨tapeN L k 50,tapeN L k 50+1+tapeN L (k+1) 20,[cueLn L (k+3)]⟩,k+4):=by unfold cueAt;rw [if_pos h2]
  rw [e]
  simp only [go_sem,simprocAttr,decide_true,decide_false,h2,v1,v2]
  refine awp_loopL ?_
  refine awpL_step (aw_ok _ ?_)
  simp only [go_sem,simprocAttr,decide_true,decide_false,v1,v2,v0]
  refine drawC_of 11 .done rfl (by kernel_rfl) (by kernel_rfl) (by decide) ?_
  simp only [go_sem,simprocAttr,decide_true,decide_false,m34]
  refine bcall (cNext L (k+2+1) 4 (by omega) (by omega) (by omega)) rfl rfl rfl ?_
  have c4:=tapeN_lt (L:=L) (k:=k+2+1) (n:=4) (by omega)
  simp only [go_sem,simprocAttr,decide_true,decide_false]
  refine ⟨⟨by omega,by omega⟩,by omega,by decide,by kernel_rfl,?_⟩
  refine awpL_step (aw_ok _ ?_)
  simp only [go_sem,simprocAttr,decide_true,decide_false,v1,v2,v0]<;>rfl
 ·have h2':tapeN L (k+2) 2=1:=by omega
  have e:cueAt L k=(⟨tapeN L k 50,tapeN L k 50+1+tapeN L (k+1) 20,[cueLn L (k+3),cueLn L (k+4)]⟩,k+5):=by unfold cueAt;rw [if_neg h2]
  rw [e]
  simp only [go_sem,simprocAttr,decide_true,decide_false,h2',v1,v2]
  refine awp_loopL ?_
  refine awpL_step (aw_ok _ ?_)
  simp only [go_sem,simprocAttr,decide_true,decide_false,v1,v2,v0]
  refine drawC_of 11 .done rfl (by kernel_rfl) (by kernel_rfl) (by decide) ?_
  simp only [go_sem,simprocAttr,decide_true,decide_false,m34]
  refine bcall (cNext L (k+2+1) 4 (by omega) (by omega) (by omega)) rfl rfl rfl ?_
  have c4:=tapeN_lt (L:=L) (k:=k+2+1) (n:=4) (by omega)
  simp only [go_sem,simprocAttr,decide_true,decide_false]
  refine ⟨⟨by omega,by omega⟩,by omega,by decide,by kernel_rfl,?_⟩
  refine awpL_step (aw_ok _ ?_)
  simp only [go_sem,simprocAttr,decide_true,decide_false,v1,v2,v0]
  refine drawC_of 11 .done rfl (by kernel_rfl) (by kernel_rfl) (by decide) ?_
  simp only [go_sem,simprocAttr,decide_true,decide_false,m34]
  refine bcall (cNext L (k+2+1+1) 4 (by omega) (by omega) (by omega)) rfl rfl rfl ?_
  have c4:=tapeN_lt (L:=L) (k:=k+2+1+1) (n:=4) (by omega)
  simp only [go_sem,simprocAttr,decide_true,decide_false]
  refine ⟨⟨by omega,by omega⟩,by omega,by decide,by kernel_rfl,?_⟩
  refine awpL_step (aw_ok _ ?_)
  simp only [go_sem,simprocAttr,decide_true,decide_false,v1,v2,v0]<;>rfl
open Go.RowKit
set_option maxRecDepth 4000
def sKinds:List Int:=[1,1,0,2]
def sGains:List Int:=[4096,4096,2048,0,8192,5000]
def quiet (s:SourceR):SourceR := { s with smooth:=false }
def soundAt (L:List Int) (k:Nat) (m s:Int):ClipR×Nat :=
 let len:=1+tapeN L k 9
 let kind:=sKinds.getD (tapeN L (k+1) 4).toNat 0
 if kind=0 then (⟨len,0,zSource,zSource,0,0,0,⟨#[]⟩,0,[]⟩,k+2)
 else
  let a:=srcAt L (k+2) m s
  if kind=2 then
   let b:=srcAt L a.2 m s
   let off:=tapeN L b.2 3
   let total:=off+len+tapeN L (b.2+1) 3
   (⟨len,kind,quiet a.1,quiet b.1,off,total,0,⟨#[]⟩,sGains.getD (tapeN L (b.2+2) 6).toNat 0,[tapeN L (b.2+3) 4 - 1,tapeN L (b.2+4) 4 - 1]⟩,b.2+5)
  else (⟨len,kind,quiet a.1,zSource,0,0,0,⟨#[]⟩,sGains.getD (tapeN L a.2 6).toNat 0,[tapeN L (a.2+1) 4 - 1,tapeN L (a.2+2) 4 - 1]⟩,a.2+3)
def vclipN (c:ClipR):V:=if c.chan = [] then vclipZ c else vclip c
theorem as_clipN (c:ClipR):∀ (w:World) (E:Env) v,RdV w E (vclipN c) v→RdV w E (vclip c) v:=by
 intro w E v h
 unfold vclipN at h
 split at h
 ·rename_i hc;exact as_clipZ hc w E v h
 ·exact h
theorem cSoundZ (L:List Int) (k:Nat) (m s:Int) (hk:k≤800000) (hm : 0≤m∧m≤9) (hs : 0≤s∧s≤9) :
  CBox Tryz.prog 18 [.t (tints L),vint k] [vint m,vint s,vint 2] (vclipN (soundAt L k m s).1) [.t (tints L),vint ((soundAt L k m s).2:Int)]:=by
 refine cbox_of Tryz.xen18 Tryz.func18 rfl Tryz.ntmps18 (by rw [Tryz.results18]) (aw_ok _ ?_)
 simp only [go_sem,simprocAttr]
 refine icall_box (cNext L k 9 (by omega) (by omega) (by omega)) rfl rfl rfl ?_
 have n9:=tapeN_lt (L:=L) (k:=k) (n:=9) (by omega)
 simp only [go_sem,simprocAttr,wrap64 (x:=1+tapeN L k 9) (by omega) (by omega)]
 refine icall_box (cNext L (k+1) 4 (by omega) (by omega) (by omega)) rfl rfl rfl ?_
 have n4:=tapeN_lt (L:=L) (k:=k+1) (n:=4) (by omega)
 simp only [go_sem,simprocAttr]
 refine ⟨⟨by omega,by omega⟩,by omega,?_⟩
 obtain ⟨kd,hkd⟩:∃ kd,sKinds.getD (tapeN L (k+1) 4).toNat 0=kd:=⟨_,rfl⟩
 have hkd':=hkd
 unfold sKinds at hkd'
 rw [hkd']
 have hl0 : 1≤1+tapeN L k 9∧1+tapeN L k 9≤9:=by omega
 generalize hlen : 1+tapeN L k 9=len at hl0
 refine ⟨fun h0=>?_,fun h0=>?_⟩
 ·have e0:kd=0:=by simpa using h0
  have e:soundAt L k m s=(⟨len,0,zSource,zSource,0,0,0,⟨#[]⟩,0,[]⟩,k+2):=by unfold soundAt;simp only [hkd,hlen,e0,if_true]
  rw [e]
  unfold awS
  simp only [go_sem,simprocAttr]
  rw [e0]
  exact ⟨rfl,rfl⟩
 ·have e0 : ¬ kd=0:=by simpa using h0
  unfold awS
  simp only [go_sem,simprocAttr]
  refine icall_box (cSource L (k+2) m s (by omega) hm hs) rfl rfl rfl ?_
  obtain ⟨⟨a,ka⟩,ha⟩:∃ a,srcAt L (k+2) m s=a:=⟨_,rfl⟩
  have hka:=srcAt_le L (k+2) m s
  rw [ha] at hka ⊢
  simp only at hka
  have hk5:kd=1∨kd=2:=by
   have:(tapeN L (k+1) 4).toNat=0∨(tapeN L (k+1) 4).toNat=1∨(tapeN L (k+1) 4).toNat=2∨(tapeN L (k+1) 4).toNat=3:=by omega
   rcases this with h | h | h | h<;>rw [h] at hkd'<;>simp at hkd'<;>omega
  clear hkd'
  rcases hk5 with rfl | rfl
  ·have e:soundAt L k m s=(⟨len,1,quiet a,zSource,0,0,0,⟨#[]⟩,sGains.getD (tapeN L ka 6).toNat 0,[tapeN L (ka+1) 4 - 1,tapeN L (ka+2) 4 - 1]⟩,ka+3):=by unfold soundAt;simp only [hkd,hlen,ha];first | rfl | simp
   rw [e]
   simp only [go_sem,simprocAttr,decide_true,decide_false]
   have v1:IntKind.i64.wrap 1=1:=by decide
   have v2:IntKind.i64.wrap 2=2:=by decide
   refine icall_box (cNext L ka 6 (by omega) (by omega) (by omega)) rfl rfl rfl ?_
   have n6:=tapeN_lt (L:=L) (k:=ka) (n:=6) (by omega)
   simp only [go_sem,simprocAttr,decide_true,decide_false]
   refine ⟨⟨by omega,by omega⟩,by omega,?_⟩
   have hgn : [4096,4096,2048,0,8192,5000].getD (tapeN L ka 6).toNat 0=sGains.getD (tapeN L ka 6).toNat 0:=rfl
   rw [hgn]
   generalize sGains.getD (tapeN L ka 6).toNat 0=gn
   refine awp_loopL ?_
   refine awpL_step (aw_ok _ ?_)
   simp only [go_sem,simprocAttr,decide_true,decide_false,v1,v2]
   refine drawC_of 9 .done rfl (by kernel_rfl) (by kernel_rfl) (by decide) ?_
   simp only [go_sem,simprocAttr,decide_true,decide_false]
   refine bcall (cNext L (ka+1) 4 (by omega) (by omega) (by omega)) rfl rfl rfl ?_
   have c4:=tapeN_lt (L:=L) (k:=ka+1) (n:=4) (by omega)
   simp only [go_sem,simprocAttr,decide_true,decide_false,wrap64 (x:=tapeN L (ka+1) 4 - 1) (by omega) (by omega)]
   refine ⟨by decide,by kernel_rfl,?_⟩
   refine awpL_step (aw_ok _ ?_)
   simp only [go_sem,simprocAttr,decide_true,decide_false,v1,v2]
   refine drawC_of 9 .done rfl (by kernel_rfl) (by kernel_rfl) (by decide) ?_
   simp only [go_sem,simprocAttr,decide_true,decide_false]
   refine bcall (cNext L (ka+2) 4 (by omega) (by omega) (by omega)) rfl rfl rfl ?_
   have d4:=tapeN_lt (L:=L) (k:=ka+2) (n:=4) (by omega)
   simp only [go_sem,simprocAttr,decide_true,decide_false,wrap64 (x:=tapeN L (ka+2) 4 - 1) (by omega) (by omega)]
   refine ⟨by decide,by kernel_rfl,?_⟩
   refine awpL_step (aw_ok _ ?_)
   simp only [go_sem,simprocAttr,decide_true,decide_false,v1,v2]
   exact ⟨rfl,rfl⟩
  ·have e:soundAt L k m s=(let b:=srcAt L ka m s; (⟨len,2,quiet a,quiet b.1,tapeN L b.2 3,tapeN L b.2 3+len+tapeN L (b.2+1) 3,0,⟨#[]⟩,sGains.getD (tapeN L (b.2+2) 6).toNat 0,[tapeN L (b.2+3) 4 - 1,tapeN L (b.2+4) 4 - 1]⟩,b.2+5)):=by unfold soundAt;simp only [hkd,hlen,ha];first | rfl | simp
   rw [e]
   simp only [go_sem,simprocAttr,decide_true,decide_false]
   refine icall_box (cSource L ka m s (by omega) hm hs) rfl rfl rfl ?_
   obtain ⟨⟨b,kb⟩,hb⟩:∃ b,srcAt L ka m s=b:=⟨_,rfl⟩
   have hkb:=srcAt_le L ka m s
   rw [hb] at hkb ⊢
   simp only at hkb
   simp only [go_sem,simprocAttr,decide_true,decide_false]
   refine icall_box (cNext L kb 3 (by omega) (by omega) (by omega)) rfl rfl rfl ?_
   have o3:=tapeN_lt (L:=L) (k:=kb) (n:=3) (by omega)
   simp only [go_sem,simprocAttr,decide_true,decide_false]
   refine drawC_of 10 .done rfl (by kernel_rfl) (by kernel_rfl) (by decide) ?_
   simp only [go_sem,simprocAttr,decide_true,decide_false]
   refine bcall (cNext L (kb+1) 3 (by omega) (by omega) (by omega)) rfl rfl rfl ?_
   have p3:=tapeN_lt (L:=L) (k:=kb+1) (n:=3) (by omega)
   simp only [go_sem,simprocAttr,decide_true,decide_false,wrap64 (x:=tapeN L kb 3+len) (by omega) (by omega),wrap64 (x:=tapeN L kb 3+len+tapeN L (kb+1) 3) (by omega) (by omega)]
   refine ⟨by kernel_rfl,?_⟩
   have v1:IntKind.i64.wrap 1=1:=by decide
   have v2:IntKind.i64.wrap 2=2:=by decide
   refine icall_box (cNext L (kb+2) 6 (by omega) (by omega) (by omega)) rfl rfl rfl ?_
   have n6:=tapeN_lt (L:=L) (k:=(kb+2)) (n:=6) (by omega)
   simp only [go_sem,simprocAttr,decide_true,decide_false]
   refine ⟨⟨by omega,by omega⟩,by omega,?_⟩
   have hgn : [4096,4096,2048,0,8192,5000].getD (tapeN L (kb+2) 6).toNat 0=sGains.getD (tapeN L (kb+2) 6).toNat 0:=rfl
   rw [hgn]
   generalize sGains.getD (tapeN L (kb+2) 6).toNat 0=gn
   refine awp_loopL ?_
   refine awpL_step (aw_ok _ ?_)
   simp only [go_sem,simprocAttr,decide_true,decide_false,v1,v2]
   refine drawC_of 9 .done rfl (by kernel_rfl) (by kernel_rfl) (by decide) ?_
   simp only [go_sem,simprocAttr,decide_true,decide_false]
   refine bcall (cNext L ((kb+2)+1) 4 (by omega) (by omega) (by omega)) rfl rfl rfl ?_
   have c4:=tapeN_lt (L:=L) (k:=(kb+2)+1) (n:=4) (by omega)
   simp only [go_sem,simprocAttr,decide_true,decide_false,wrap64 (x:=tapeN L ((kb+2)+1) 4 - 1) (by omega) (by omega)]
   refine ⟨by decide,by kernel_rfl,?_⟩
   refine awpL_step (aw_ok _ ?_)
   simp only [go_sem,simprocAttr,decide_true,decide_false,v1,v2]
   refine drawC_of 9 .done rfl (by kernel_rfl) (by kernel_rfl) (by decide) ?_
   simp only [go_sem,simprocAttr,decide_true,decide_false]
   refine bcall (cNext L ((kb+2)+2) 4 (by omega) (by omega) (by omega)) rfl rfl rfl ?_
   have d4:=tapeN_lt (L:=L) (k:=(kb+2)+2) (n:=4) (by omega)
   simp only [go_sem,simprocAttr,decide_true,decide_false,wrap64 (x:=tapeN L ((kb+2)+2) 4 - 1) (by omega) (by omega)]
   refine ⟨by decide,by kernel_rfl,?_⟩
   refine awpL_step (aw_ok _ ?_)
   simp only [go_sem,simprocAttr,decide_true,decide_false,v1,v2]
   exact ⟨rfl,rfl⟩
theorem soundAt_fit (L:List Int) (k:Nat) (m s:Int) (hm:m≤9) (hs:s≤9):(soundAt L k m s).1.fit:=by
 have n9:=tapeN_lt (L:=L) (k:=k) (n:=9) (by omega)
 obtain ⟨_,fa⟩:=srcAt_ok L (k+2) m s hm hs
 obtain ⟨_,fb⟩:=srcAt_ok L (srcAt L (k+2) m s).2 m s hm hs
 have o3:=tapeN_lt (L:=L) (k:=(srcAt L (srcAt L (k+2) m s).2 m s).2) (n:=3) (by omega)
 have p3:=tapeN_lt (L:=L) (k:=(srcAt L (srcAt L (k+2) m s).2 m s).2+1) (n:=3) (by omega)
 have hk:∀ i:Nat, -1000000≤sKinds.getD i 0∧sKinds.getD i 0≤1000000:=fun i=>by
  rcases i with _ | _ | _ | _ | i<;>simp [sKinds]
 have hg:∀ i:Nat, -1000000≤sGains.getD i 0∧sGains.getD i 0≤1000000:=fun i=>by
  rcases i with _ | _ | _ | _ | _ | _ | i<;>simp [sGains]
 have hl:I64 (1+tapeN L k 9):=small64 (by omega) (by omega)
 have qf:∀ s:SourceR,s.fit→(quiet s).fit:=fun s h=>⟨h.kind,h.pos,h.speed⟩
 unfold soundAt
 simp only
 split
 ·exact ⟨hl,i0,zfit,zfit,i0,i0,i0,i0⟩
 ·split
  ·exact ⟨hl,small64 (hk _).1 (hk _).2,qf _ fa,qf _ fb,small64 (by simp only;omega) (by simp only;omega),small64 (by simp only;omega) (by simp only;omega),i0,small64 (hg _).1 (hg _).2⟩
  ·exact ⟨hl,small64 (hk _).1 (hk _).2,qf _ fa,zfit,i0,i0,i0,small64 (hg _).1 (hg _).2⟩
open Go.RowKit
set_option maxRecDepth 4000
def soundAt0 (L:List Int) (k:Nat) (m s:Int):ClipR×Nat :=
 let len:=1+tapeN L k 9
 let kind:=sKinds.getD (tapeN L (k+1) 4).toNat 0
 if kind=0 then (⟨len,0,zSource,zSource,0,0,0,⟨#[]⟩,0,[]⟩,k+2)
 else
  let a:=srcAt L (k+2) m s
  if kind=2 then
   let b:=srcAt L a.2 m s
   let off:=tapeN L b.2 3
   let total:=off+len+tapeN L (b.2+1) 3
   (⟨len,kind,quiet a.1,quiet b.1,off,total,0,⟨#[]⟩,sGains.getD (tapeN L (b.2+2) 6).toNat 0,[]⟩,b.2+3)
  else (⟨len,kind,quiet a.1,zSource,0,0,0,⟨#[]⟩,sGains.getD (tapeN L a.2 6).toNat 0,[]⟩,a.2+1)
theorem cSoundZ0 (L:List Int) (k:Nat) (m s:Int) (hk:k≤800000) (hm : 0≤m∧m≤9) (hs : 0≤s∧s≤9) :
  CBox Tryz.prog 18 [.t (tints L),vint k] [vint m,vint s,vint 0] (vclipN (soundAt0 L k m s).1) [.t (tints L),vint ((soundAt0 L k m s).2:Int)]:=by
 refine cbox_of Tryz.xen18 Tryz.func18 rfl Tryz.ntmps18 (by rw [Tryz.results18]) (aw_ok _ ?_)
 simp only [go_sem,simprocAttr]
 refine icall_box (cNext L k 9 (by omega) (by omega) (by omega)) rfl rfl rfl ?_
 have n9:=tapeN_lt (L:=L) (k:=k) (n:=9) (by omega)
 simp only [go_sem,simprocAttr,wrap64 (x:=1+tapeN L k 9) (by omega) (by omega)]
 refine icall_box (cNext L (k+1) 4 (by omega) (by omega) (by omega)) rfl rfl rfl ?_
 have n4:=tapeN_lt (L:=L) (k:=k+1) (n:=4) (by omega)
 simp only [go_sem,simprocAttr]
 refine ⟨⟨by omega,by omega⟩,by omega,?_⟩
 obtain ⟨kd,hkd⟩:∃ kd,sKinds.getD (tapeN L (k+1) 4).toNat 0=kd:=⟨_,rfl⟩
 have hkd':=hkd
 unfold sKinds at hkd'
 rw [hkd']
 have hl0 : 1≤1+tapeN L k 9∧1+tapeN L k 9≤9:=by omega
 generalize hlen : 1+tapeN L k 9=len at hl0
 refine ⟨fun h0=>?_,fun h0=>?_⟩
 ·have e0:kd=0:=by simpa using h0
  have e:soundAt0 L k m s=(⟨len,0,zSource,zSource,0,0,0,⟨#[]⟩,0,[]⟩,k+2):=by unfold soundAt0;simp only [hkd,hlen,e0,if_true]
  rw [e]
  unfold awS
  simp only [go_sem,simprocAttr]
  rw [e0]
  exact ⟨rfl,rfl⟩
 ·have e0 : ¬ kd=0:=by simpa using h0
  unfold awS
  simp only [go_sem,simprocAttr]
  refine icall_box (cSource L (k+2) m s (by omega) hm hs) rfl rfl rfl ?_
  obtain ⟨⟨a,ka⟩,ha⟩:∃ a,srcAt L (k+2) m s=a:=⟨_,rfl⟩
  have hka:=srcAt_le L (k+2) m s
  rw [ha] at hka ⊢
  simp only at hka
  have hk5:kd=1∨kd=2:=by
   have:(tapeN L (k+1) 4).toNat=0∨(tapeN L (k+1) 4).toNat=1∨(tapeN L (k+1) 4).toNat=2∨(tapeN L (k+1) 4).toNat=3:=by omega
   rcases this with h | h | h | h<;>rw [h] at hkd'<;>simp at hkd'<;>omega
  clear hkd'
  rcases hk5 with rfl | rfl
  ·have e:soundAt0 L k m s=(⟨len,1,quiet a,zSource,0,0,0,⟨#[]⟩,sGains.getD (tapeN L ka 6).toNat 0,[]⟩,ka+1):=by unfold soundAt0;simp only [hkd,hlen,ha];first | rfl | simp
   rw [e]
   simp only [go_sem,simprocAttr,decide_true,decide_false]
   have v1:IntKind.i64.wrap 1=1:=by decide
   have v2:IntKind.i64.wrap 2=2:=by decide
   refine icall_box (cNext L ka 6 (by omega) (by omega) (by omega)) rfl rfl rfl ?_
   have n6:=tapeN_lt (L:=L) (k:=ka) (n:=6) (by omega)
   simp only [go_sem,simprocAttr,decide_true,decide_false]
   refine ⟨⟨by omega,by omega⟩,by omega,?_⟩
   have hgn : [4096,4096,2048,0,8192,5000].getD (tapeN L ka 6).toNat 0=sGains.getD (tapeN L ka 6).toNat 0:=rfl
   rw [hgn]
   generalize sGains.getD (tapeN L ka 6).toNat 0=gn
   refine awp_loopL ?_
   refine awpL_step (aw_ok _ ?_)
   simp only [go_sem,simprocAttr,decide_true,decide_false,v1,v2]
   exact ⟨rfl,rfl⟩
  ·have e:soundAt0 L k m s=(let b:=srcAt L ka m s; (⟨len,2,quiet a,quiet b.1,tapeN L b.2 3,tapeN L b.2 3+len+tapeN L (b.2+1) 3,0,⟨#[]⟩,sGains.getD (tapeN L (b.2+2) 6).toNat 0,[]⟩,b.2+3)):=by unfold soundAt0;simp only [hkd,hlen,ha];first | rfl | simp
   rw [e]
   simp only [go_sem,simprocAttr,decide_true,decide_false]
   refine icall_box (cSource L ka m s (by omega) hm hs) rfl rfl rfl ?_
   obtain ⟨⟨b,kb⟩,hb⟩:∃ b,srcAt L ka m s=b:=⟨_,rfl⟩
   have hkb:=srcAt_le L ka m s
   rw [hb] at hkb ⊢
   simp only at hkb
   simp only [go_sem,simprocAttr,decide_true,decide_false]
   refine icall_box (cNext L kb 3 (by omega) (by omega) (by omega)) rfl rfl rfl ?_
   have o3:=tapeN_lt (L:=L) (k:=kb) (n:=3) (by omega)
   simp only [go_sem,simprocAttr,decide_true,decide_false]
   refine drawC_of 10 .done rfl (by kernel_rfl) (by kernel_rfl) (by decide) ?_
   simp only [go_sem,simprocAttr,decide_true,decide_false]
   refine bcall (cNext L (kb+1) 3 (by omega) (by omega) (by omega)) rfl rfl rfl ?_
   have p3:=tapeN_lt (L:=L) (k:=kb+1) (n:=3) (by omega)
   simp only [go_sem,simprocAttr,decide_true,decide_false,wrap64 (x:=tapeN L kb 3+len) (by omega) (by omega),wrap64 (x:=tapeN L kb 3+len+tapeN L (kb+1) 3) (by omega) (by omega)]
   refine ⟨by kernel_rfl,?_⟩
   have v1:IntKind.i64.wrap 1=1:=by decide
   have v2:IntKind.i64.wrap 2=2:=by decide
   refine icall_box (cNext L (kb+2) 6 (by omega) (by omega) (by omega)) rfl rfl rfl ?_
   have n6:=tapeN_lt (L:=L) (k:=(kb+2)) (n:=6) (by omega)
   simp only [go_sem,simprocAttr,decide_true,decide_false]
   refine ⟨⟨by omega,by omega⟩,by omega,?_⟩
   have hgn : [4096,4096,2048,0,8192,5000].getD (tapeN L (kb+2) 6).toNat 0=sGains.getD (tapeN L (kb+2) 6).toNat 0:=rfl
   rw [hgn]
   generalize sGains.getD (tapeN L (kb+2) 6).toNat 0=gn
   refine awp_loopL ?_
   refine awpL_step (aw_ok _ ?_)
   simp only [go_sem,simprocAttr,decide_true,decide_false,v1,v2]
   exact ⟨rfl,rfl⟩
theorem soundAt0_fit (L:List Int) (k:Nat) (m s:Int) (hm:m≤9) (hs:s≤9):(soundAt0 L k m s).1.fit:=by
 have n9:=tapeN_lt (L:=L) (k:=k) (n:=9) (by omega)
 obtain ⟨_,fa⟩:=srcAt_ok L (k+2) m s hm hs
 obtain ⟨_,fb⟩:=srcAt_ok L (srcAt L (k+2) m s).2 m s hm hs
 have o3:=tapeN_lt (L:=L) (k:=(srcAt L (srcAt L (k+2) m s).2 m s).2) (n:=3) (by omega)
 have p3:=tapeN_lt (L:=L) (k:=(srcAt L (srcAt L (k+2) m s).2 m s).2+1) (n:=3) (by omega)
 have hk:∀ i:Nat, -1000000≤sKinds.getD i 0∧sKinds.getD i 0≤1000000:=fun i=>by
  rcases i with _ | _ | _ | _ | i<;>simp [sKinds]
 have hg:∀ i:Nat, -1000000≤sGains.getD i 0∧sGains.getD i 0≤1000000:=fun i=>by
  rcases i with _ | _ | _ | _ | _ | _ | i<;>simp [sGains]
 have hl:I64 (1+tapeN L k 9):=small64 (by omega) (by omega)
 have qf:∀ s:SourceR,s.fit→(quiet s).fit:=fun s h=>⟨h.kind,h.pos,h.speed⟩
 unfold soundAt0
 simp only
 split
 ·exact ⟨hl,i0,zfit,zfit,i0,i0,i0,i0⟩
 ·split
  ·exact ⟨hl,small64 (hk _).1 (hk _).2,qf _ fa,qf _ fb,small64 (by simp only;omega) (by simp only;omega),small64 (by simp only;omega) (by simp only;omega),i0,small64 (hg _).1 (hg _).2⟩
  ·exact ⟨hl,small64 (hk _).1 (hk _).2,qf _ fa,zfit,i0,i0,i0,small64 (hg _).1 (hg _).2⟩
def soundAt1 (L:List Int) (k:Nat) (m s:Int):ClipR×Nat :=
 let len:=1+tapeN L k 9
 let kind:=sKinds.getD (tapeN L (k+1) 4).toNat 0
 if kind=0 then (⟨len,0,zSource,zSource,0,0,0,⟨#[]⟩,0,[]⟩,k+2)
 else
  let a:=srcAt L (k+2) m s
  if kind=2 then
   let b:=srcAt L a.2 m s
   let off:=tapeN L b.2 3
   let total:=off+len+tapeN L (b.2+1) 3
   (⟨len,kind,quiet a.1,quiet b.1,off,total,0,⟨#[]⟩,sGains.getD (tapeN L (b.2+2) 6).toNat 0,[tapeN L (b.2+3) 4 - 1]⟩,b.2+4)
  else (⟨len,kind,quiet a.1,zSource,0,0,0,⟨#[]⟩,sGains.getD (tapeN L a.2 6).toNat 0,[tapeN L (a.2+1) 4 - 1]⟩,a.2+2)
theorem cSoundZ1 (L:List Int) (k:Nat) (m s:Int) (hk:k≤800000) (hm : 0≤m∧m≤9) (hs : 0≤s∧s≤9) :
  CBox Tryz.prog 18 [.t (tints L),vint k] [vint m,vint s,vint 1] (vclipN (soundAt1 L k m s).1) [.t (tints L),vint ((soundAt1 L k m s).2:Int)]:=by
 refine cbox_of Tryz.xen18 Tryz.func18 rfl Tryz.ntmps18 (by rw [Tryz.results18]) (aw_ok _ ?_)
 simp only [go_sem,simprocAttr]
 refine icall_box (cNext L k 9 (by omega) (by omega) (by omega)) rfl rfl rfl ?_
 have n9:=tapeN_lt (L:=L) (k:=k) (n:=9) (by omega)
 simp only [go_sem,simprocAttr,wrap64 (x:=1+tapeN L k 9) (by omega) (by omega)]
 refine icall_box (cNext L (k+1) 4 (by omega) (by omega) (by omega)) rfl rfl rfl ?_
 have n4:=tapeN_lt (L:=L) (k:=k+1) (n:=4) (by omega)
 simp only [go_sem,simprocAttr]
 refine ⟨⟨by omega,by omega⟩,by omega,?_⟩
 obtain ⟨kd,hkd⟩:∃ kd,sKinds.getD (tapeN L (k+1) 4).toNat 0=kd:=⟨_,rfl⟩
 have hkd':=hkd
 unfold sKinds at hkd'
 rw [hkd']
 have hl0 : 1≤1+tapeN L k 9∧1+tapeN L k 9≤9:=by omega
 generalize hlen : 1+tapeN L k 9=len at hl0
 refine ⟨fun h0=>?_,fun h0=>?_⟩
 ·have e0:kd=0:=by simpa using h0
  have e:soundAt1 L k m s=(⟨len,0,zSource,zSource,0,0,0,⟨#[]⟩,0,[]⟩,k+2):=by unfold soundAt1;simp only [hkd,hlen,e0,if_true]
  rw [e]
  unfold awS
  simp only [go_sem,simprocAttr]
  rw [e0]
  exact ⟨rfl,rfl⟩
 ·have e0 : ¬ kd=0:=by simpa using h0
  unfold awS
  simp only [go_sem,simprocAttr]
  refine icall_box (cSource L (k+2) m s (by omega) hm hs) rfl rfl rfl ?_
  obtain ⟨⟨a,ka⟩,ha⟩:∃ a,srcAt L (k+2) m s=a:=⟨_,rfl⟩
  have hka:=srcAt_le L (k+2) m s
  rw [ha] at hka ⊢
  simp only at hka
  have hk5:kd=1∨kd=2:=by
   have:(tapeN L (k+1) 4).toNat=0∨(tapeN L (k+1) 4).toNat=1∨(tapeN L (k+1) 4).toNat=2∨(tapeN L (k+1) 4).toNat=3:=by omega
   rcases this with h | h | h | h<;>rw [h] at hkd'<;>simp at hkd'<;>omega
  clear hkd'
  rcases hk5 with rfl | rfl
  ·have e:soundAt1 L k m s=(⟨len,1,quiet a,zSource,0,0,0,⟨#[]⟩,sGains.getD (tapeN L ka 6).toNat 0,[tapeN L (ka+1) 4 - 1]⟩,ka+2):=by unfold soundAt1;simp only [hkd,hlen,ha];first | rfl | simp
   rw [e]
   simp only [go_sem,simprocAttr,decide_true,decide_false]
   have v1:IntKind.i64.wrap 1=1:=by decide
   have v2:IntKind.i64.wrap 2=2:=by decide
   refine icall_box (cNext L ka 6 (by omega) (by omega) (by omega)) rfl rfl rfl ?_
   have n6:=tapeN_lt (L:=L) (k:=ka) (n:=6) (by omega)
   simp only [go_sem,simprocAttr,decide_true,decide_false]
   refine ⟨⟨by omega,by omega⟩,by omega,?_⟩
   have hgn : [4096,4096,2048,0,8192,5000].getD (tapeN L ka 6).toNat 0=sGains.getD (tapeN L ka 6).toNat 0:=rfl
   rw [hgn]
   generalize sGains.getD (tapeN L ka 6).toNat 0=gn
   refine awp_loopL ?_
   refine awpL_step (aw_ok _ ?_)
   simp only [go_sem,simprocAttr,decide_true,decide_false,v1,v2]
   refine drawC_of 9 .done rfl (by kernel_rfl) (by kernel_rfl) (by decide) ?_
   simp only [go_sem,simprocAttr,decide_true,decide_false]
   refine bcall (cNext L (ka+1) 4 (by omega) (by omega) (by omega)) rfl rfl rfl ?_
   have c4:=tapeN_lt (L:=L) (k:=ka+1) (n:=4) (by omega)
   simp only [go_sem,simprocAttr,decide_true,decide_false,wrap64 (x:=tapeN L (ka+1) 4 - 1) (by omega) (by omega)]
   refine ⟨by decide,by kernel_rfl,?_⟩
   refine awpL_step (aw_ok _ ?_)
   simp only [go_sem,simprocAttr,decide_true,decide_false,v1,v2]
   exact ⟨rfl,rfl⟩
  ·have e:soundAt1 L k m s=(let b:=srcAt L ka m s; (⟨len,2,quiet a,quiet b.1,tapeN L b.2 3,tapeN L b.2 3+len+tapeN L (b.2+1) 3,0,⟨#[]⟩,sGains.getD (tapeN L (b.2+2) 6).toNat 0,[tapeN L (b.2+3) 4 - 1]⟩,b.2+4)):=by unfold soundAt1;simp only [hkd,hlen,ha];first | rfl | simp
   rw [e]
   simp only [go_sem,simprocAttr,decide_true,decide_false]
   refine icall_box (cSource L ka m s (by omega) hm hs) rfl rfl rfl ?_
   obtain ⟨⟨b,kb⟩,hb⟩:∃ b,srcAt L ka m s=b:=⟨_,rfl⟩
   have hkb:=srcAt_le L ka m s
   rw [hb] at hkb ⊢
   simp only at hkb
   simp only [go_sem,simprocAttr,decide_true,decide_false]
   refine icall_box (cNext L kb 3 (by omega) (by omega) (by omega)) rfl rfl rfl ?_
   have o3:=tapeN_lt (L:=L) (k:=kb) (n:=3) (by omega)
   simp only [go_sem,simprocAttr,decide_true,decide_false]
   refine drawC_of 10 .done rfl (by kernel_rfl) (by kernel_rfl) (by decide) ?_
   simp only [go_sem,simprocAttr,decide_true,decide_false]
   refine bcall (cNext L (kb+1) 3 (by omega) (by omega) (by omega)) rfl rfl rfl ?_
   have p3:=tapeN_lt (L:=L) (k:=kb+1) (n:=3) (by omega)
   simp only [go_sem,simprocAttr,decide_true,decide_false,wrap64 (x:=tapeN L kb 3+len) (by omega) (by omega),wrap64 (x:=tapeN L kb 3+len+tapeN L (kb+1) 3) (by omega) (by omega)]
   refine ⟨by kernel_rfl,?_⟩
   have v1:IntKind.i64.wrap 1=1:=by decide
   have v2:IntKind.i64.wrap 2=2:=by decide
   refine icall_box (cNext L (kb+2) 6 (by omega) (by omega) (by omega)) rfl rfl rfl ?_
   have n6:=tapeN_lt (L:=L) (k:=(kb+2)) (n:=6) (by omega)
   simp only [go_sem,simprocAttr,decide_true,decide_false]
   refine ⟨⟨by omega,by omega⟩,by omega,?_⟩
   have hgn : [4096,4096,2048,0,8192,5000].getD (tapeN L (kb+2) 6).toNat 0=sGains.getD (tapeN L (kb+2) 6).toNat 0:=rfl
   rw [hgn]
   generalize sGains.getD (tapeN L (kb+2) 6).toNat 0=gn
   refine awp_loopL ?_
   refine awpL_step (aw_ok _ ?_)
   simp only [go_sem,simprocAttr,decide_true,decide_false,v1,v2]
   refine drawC_of 9 .done rfl (by kernel_rfl) (by kernel_rfl) (by decide) ?_
   simp only [go_sem,simprocAttr,decide_true,decide_false]
   refine bcall (cNext L ((kb+2)+1) 4 (by omega) (by omega) (by omega)) rfl rfl rfl ?_
   have c4:=tapeN_lt (L:=L) (k:=(kb+2)+1) (n:=4) (by omega)
   simp only [go_sem,simprocAttr,decide_true,decide_false,wrap64 (x:=tapeN L ((kb+2)+1) 4 - 1) (by omega) (by omega)]
   refine ⟨by decide,by kernel_rfl,?_⟩
   refine awpL_step (aw_ok _ ?_)
   simp only [go_sem,simprocAttr,decide_true,decide_false,v1,v2]
   exact ⟨rfl,rfl⟩
theorem soundAt1_fit (L:List Int) (k:Nat) (m s:Int) (hm:m≤9) (hs:s≤9):(soundAt1 L k m s).1.fit:=by
 have n9:=tapeN_lt (L:=L) (k:=k) (n:=9) (by omega)
 obtain ⟨_,fa⟩:=srcAt_ok L (k+2) m s hm hs
 obtain ⟨_,fb⟩:=srcAt_ok L (srcAt L (k+2) m s).2 m s hm hs
 have o3:=tapeN_lt (L:=L) (k:=(srcAt L (srcAt L (k+2) m s).2 m s).2) (n:=3) (by omega)
 have p3:=tapeN_lt (L:=L) (k:=(srcAt L (srcAt L (k+2) m s).2 m s).2+1) (n:=3) (by omega)
 have hk:∀ i:Nat, -1000000≤sKinds.getD i 0∧sKinds.getD i 0≤1000000:=fun i=>by
  rcases i with _ | _ | _ | _ | i<;>simp [sKinds]
 have hg:∀ i:Nat, -1000000≤sGains.getD i 0∧sGains.getD i 0≤1000000:=fun i=>by
  rcases i with _ | _ | _ | _ | _ | _ | i<;>simp [sGains]
 have hl:I64 (1+tapeN L k 9):=small64 (by omega) (by omega)
 have qf:∀ s:SourceR,s.fit→(quiet s).fit:=fun s h=>⟨h.kind,h.pos,h.speed⟩
 unfold soundAt1
 simp only
 split
 ·exact ⟨hl,i0,zfit,zfit,i0,i0,i0,i0⟩
 ·split
  ·exact ⟨hl,small64 (hk _).1 (hk _).2,qf _ fa,qf _ fb,small64 (by simp only;omega) (by simp only;omega),small64 (by simp only;omega) (by simp only;omega),i0,small64 (hg _).1 (hg _).2⟩
  ·exact ⟨hl,small64 (hk _).1 (hk _).2,qf _ fa,zfit,i0,i0,i0,small64 (hg _).1 (hg _).2⟩
def soundC (L:List Int) (k:Nat) (m s:Int) (ch:Int):ClipR×Nat:=if ch=0 then soundAt0 L k m s else if ch=1 then soundAt1 L k m s else soundAt L k m s
theorem cSoundC (L:List Int) (k:Nat) (m s ch:Int) (hk:k≤800000) (hm : 0≤m∧m≤9) (hs : 0≤s∧s≤9) (hc : 0≤ch∧ch≤2) :
  CBox Tryz.prog 18 [.t (tints L),vint k] [vint m,vint s,vint ch] (vclip (soundC L k m s ch).1) [.t (tints L),vint ((soundC L k m s ch).2:Int)]:=by
 have:ch=0∨ch=1∨ch=2:=by omega
 rcases this with rfl | rfl | rfl
 ·exact cbox_as (as_clipN _) (cSoundZ0 L k m s hk hm hs)
 ·exact cbox_as (as_clipN _) (cSoundZ1 L k m s hk hm hs)
 ·exact cbox_as (as_clipN _) (cSoundZ L k m s hk hm hs)
theorem soundC_fit (L:List Int) (k:Nat) (m s ch:Int) (hm:m≤9) (hs:s≤9):(soundC L k m s ch).1.fit:=by
 unfold soundC
 split
 ·exact soundAt0_fit L k m s hm hs
 ·split
  ·exact soundAt1_fit L k m s hm hs
  ·exact soundAt_fit L k m s hm hs
open Go.RowKit
set_option maxRecDepth 4000
theorem cTrackB (L:List Int) (k:Nat) (m s most:Int) (hk:k≤100000) (hm : 0≤m∧m≤9) (hs : 0≤s∧s≤9) (h0 : 0≤most) (h9:most≤9):CBox Tryz.prog 17 [.t (tints L),vint k] [vint m,vint s,vint most] (.t (tclips (trkAt L k m s most).1)) [.t (tints L),vint ((trkAt L k m s most).2:Int)]:=by
 refine cbox_of Tryz.xen17 Tryz.func17 rfl Tryz.ntmps17 (by rw [Tryz.results17]) (awp_facts fun hf=>aw_ok _ ?_)
 have w1:IntKind.i64.wrap (most+1)=most+1:=wrap64 (by omega) (by omega)
 simp only [go_sem,simprocAttr,w1]
 refine icall_box (cNext L k (most+1) (by omega) (by omega) (by omega)) rfl rfl rfl ?_
 have tn:=tapeN_lt (L:=L) (k:=k) (n:=most+1) (by omega)
 obtain ⟨N,hN⟩:∃ N:Nat,tapeN L k (most+1)=N:=⟨(tapeN L k (most+1)).toNat,by omega⟩
 simp only [go_sem,simprocAttr,hN]
 refine awp_loop_f (fun (x:Nat×List ClipR×Nat) σ => StT L x.1 x.2.1 x.2.2 σ) (fun x=>x.2.1.length+2*x.1≤18∧x.2.2+19*x.1≤k+200∧x.2.1++(trkGo L m s x.1 x.2.2).1=(trkAt L k m s most).1∧(trkGo L m s x.1 x.2.2).2=(trkAt L k m s most).2) (fun x=>x.1) (N,[],k+1) (weak_of [(1,none),(0,some 0)] ?_) ⟨by simp only [List.length_nil];omega,by simp only;omega,?_⟩ ?_
 ·simp only [go_sem,simprocAttr]<;>simp
 ·simp only [trkAt,hN,Int.toNat_natCast,List.nil_append,and_self]
 ·rintro ⟨c,es,q⟩ ⟨hc,hq,he1,he2⟩
  simp only at hc hq he1 he2
  refine aw_ok _ ?_
  simp only [go_sem,simprocAttr]
  refine ⟨fun hlt=>?_,fun hge=>?_⟩
  ·simp only [bxx] at hlt
   obtain ⟨c,rfl⟩:∃ c',c=c'+1:=⟨c - 1,by omega⟩
   simp only [trkGo] at he1 he2
   have hst:=trkStep_facts L q m s hm.2 hs.2
   unfold awS
   simp only [go_sem,simprocAttr]
   refine icall_box (cClip L q m s (by omega) hm hs) rfl rfl rfl ?_
   have hle:=clipAt_le L q m s
   have hsm:=clipAt_small L q m s
   generalize hcl:clipAt L q m s=C at *
   obtain ⟨d,kq⟩:=C
   simp only [go_sem,simprocAttr]
   have ec:∀ d:ClipR,[T.lit (.int .i64 d.len), .lit (.int .i64 d.kind), .lit (.int .i64 d.a.kind), .lit (.string d.a.name), .lit (.int .i64 d.a.pos.num), .lit (.int .i64 d.a.pos.den), .lit (.int .i64 d.a.speed.num), .lit (.int .i64 d.a.speed.den), .lit (.bool d.a.smooth),
    .lit (.int .i64 d.b.kind), .lit (.string d.b.name), .lit (.int .i64 d.b.pos.num), .lit (.int .i64 d.b.pos.den), .lit (.int .i64 d.b.speed.num), .lit (.int .i64 d.b.speed.den), .lit (.bool d.b.smooth), .lit (.int .i64 d.off), .lit (.int .i64 d.total), .lit (.int .i64 d.param), .lit (.string d.text), .lit (.int .i64 d.gain), .list 1 (intC 0) (d.chan.map intC)]=ClipR.c d:=fun _=>rfl
   have es1:es.map ClipR.c ++ [ClipR.c d]=(es ++ [d]).map ClipR.c:=by simp
   simp only [ec,es1]
   refine ⟨⟨by unfold maxLen;omega,by omega⟩,icall_box (cNext L kq 4 (by omega) (by omega) (by omega)) rfl rfl rfl ?_⟩
   have n4:=tapeN_lt (L:=L) (k:=kq) (n:=4) (by omega)
   simp only [go_sem,simprocAttr]
   have hll:((es ++ [d]).length:Int)<64:=by simp only [List.length_append,List.length_cons,List.length_nil];omega
   have wc:IntKind.i64.wrap (((c+1:Nat):Int) - 1)=(c:Int):=by rw [wrap64 (by omega) (by omega)];omega
   refine brW (b:=tapeN L kq 4==0) ?_ ⟨fun hj=>?_,fun hj=>?_⟩
   ·rw [decide_eq_true hll,Bool.and_true]
   ·unfold awS
    simp only [go_sem,simprocAttr]
    refine icall_box (cNext L (kq+1) 4 (by omega) (by omega) (by omega)) rfl rfl rfl ?_
    have m4:=tapeN_lt (L:=L) (k:=kq+1) (n:=4) (by omega)
    simp only [go_sem,simprocAttr,wrap64 (x:=1+tapeN L (kq+1) 4) (by omega) (by omega)]
    refine ⟨_,fun _=>eqRat d.a.speed one1,_,fun _=>eqSource d.b zSource,fun hb=>?_,fun hb=>?_⟩
    ·have hb2:splitB d=true:=hb
     have hs1:trkStep L q m s=([d,splitD d (1+tapeN L (kq+1) 4)],kq+2):=by
      unfold trkStep
      rw [hcl]
      simp only
      rw [if_pos (by simpa using hj),if_pos hb2]
     rw [hs1] at he1 he2
     obtain ⟨⟨q1,q2,q3⟩,_,q5,q6⟩:=hsm
     simp only at q1 q2 q3 q5 q6
     have wm:(d.len*d.a.pos.den).natAbs≤900000:=by
      rw [Int.natAbs_mul]
      exact Nat.mul_le_mul (show d.len.natAbs≤9 by omega) q2
     unfold awS
     simp only [go_sem,simprocAttr,wrap64 (x:=d.len*d.a.pos.den) (by omega) (by omega),wrap64 (x:=d.a.pos.num+d.len*d.a.pos.den) (by omega) (by omega)]
     have e2:∀ n:Int,[T.lit (.int .i64 n), .lit (.int .i64 d.kind), .lit (.int .i64 d.a.kind), .lit (.string d.a.name), .lit (.int .i64 (d.a.pos.num+d.len*d.a.pos.den)), .lit (.int .i64 d.a.pos.den), .lit (.int .i64 d.a.speed.num), .lit (.int .i64 d.a.speed.den), .lit (.bool d.a.smooth),
      .lit (.int .i64 d.b.kind), .lit (.string d.b.name), .lit (.int .i64 d.b.pos.num), .lit (.int .i64 d.b.pos.den), .lit (.int .i64 d.b.speed.num), .lit (.int .i64 d.b.speed.den), .lit (.bool d.b.smooth), .lit (.int .i64 d.off), .lit (.int .i64 d.total), .lit (.int .i64 d.param), .lit (.string d.text), .lit (.int .i64 d.gain), .list 1 (intC 0) (d.chan.map intC)]=ClipR.c (splitD d n):=fun _=>rfl
     have e3:∀ x:ClipR,(es ++ [d]).map ClipR.c ++ [ClipR.c x]=(es ++ [d,x]).map ClipR.c:=fun x=>by simp
     simp only [e2,e3]
     refine ⟨⟨by simp only [List.length_append,List.length_cons,List.length_nil];unfold maxLen;omega,by simp only [List.length_append,List.length_cons,List.length_nil];omega⟩,(c,es ++ [d,splitD d (1+tapeN L (kq+1) 4)],kq+2),weak_of [(1,some 7),(0,some 0)] ?_,⟨by simp only [List.length_append,List.length_cons,List.length_nil];omega,by simp only;simp only at hle;omega,by rw [← he1];simp,he2⟩,by simp only;omega⟩
     simp only [go_sem,simprocAttr,wc]
     try simp
    ·have hs1:trkStep L q m s=([d],kq+2):=by
      have hb2:splitB d=false:=hb
      unfold trkStep
      rw [hcl]
      simp only
      rw [if_pos (by simpa using hj),hb2]
      rfl
     rw [hs1] at he1 he2
     unfold awS
     simp only [go_sem,simprocAttr]
     refine ⟨(c,es ++ [d],kq+2),weak_of [(1,some 4),(0,some 0)] ?_,⟨by simp only [List.length_append,List.length_cons,List.length_nil];omega,by simp only;simp only at hle;omega,by rw [← he1];simp,he2⟩,by simp only;omega⟩
     simp only [go_sem,simprocAttr,wc]
     try simp
   ·have hs1:trkStep L q m s=([d],kq+1):=by
     unfold trkStep
     rw [hcl]
     simp only
     rw [if_neg (by simpa using hj)]
    rw [hs1] at he1 he2
    unfold awS
    simp only [go_sem,simprocAttr]
    refine ⟨(c,es ++ [d],kq+1),weak_of [(1,some 4),(0,some 0)] ?_,⟨by simp only [List.length_append,List.length_cons,List.length_nil];omega,by simp only;simp only at hle;omega,by rw [← he1];simp,he2⟩,by simp only;omega⟩
    simp only [go_sem,simprocAttr,wc]
    try simp
  ·simp only [bxx] at hge
   unfold awS
   simp only [go_sem,simprocAttr]
   have:c=0:=by omega
   subst this
   simp only [trkGo,List.append_nil] at he1 he2
   rw [he1,he2]
   exact ⟨rfl,rfl⟩
end Go.Proofs.YtkjdkbmfaamhaaaGreat
