/- Proved here: The clips that a tape gives, as functions, for use in the proofs of the given statements; conditions stand in each theorem. -/
import Derived.Test.YtkjdkbmfaamhaaaGreatZO
import Derived.Test.YtkjdkbmfaamhaaaGreatZS
import Derived.Test.YtkjdkbmfaamhaaaGreatZN
set_option linter.unusedSimpArgs false
set_option linter.unusedVariables false
set_option linter.unusedSectionVars false
set_option linter.unnecessarySimpa false
namespace Go.Proofs.YtkjdkbmfaamhaaaGreat
open Go.RowKit
set_option maxRecDepth 4000
def srcAt (L:List Int) (k:Nat) (m s:Int):SourceR×Nat :=
 if (tapeN L k 8==0||m+s==0)=true then (zSource,k+1)
 else if ((tapeN L k 8==1||m==0)&&decide (s > 0))=true then
  (⟨2,nameB ⟨#[115]⟩ (tapeN L (k+5) s),ratAt L (k+1) 40,speedAt L (k+3),tapeN L (k+4) 5==0⟩,k+6)
 else if 0<m then (⟨1,nameB ⟨#[109]⟩ (tapeN L (k+5) m),ratAt L (k+1) 40,speedAt L (k+3),tapeN L (k+4) 5==0⟩,k+6)
 else (zSource,k+5)
theorem srcAt_le (L:List Int) (k:Nat) (m s:Int):(srcAt L k m s).2≤k+6:=by
 unfold srcAt
 split
 ·simp
 ·split
  ·simp
  ·split<;>simp
theorem cSource (L:List Int) (k:Nat) (m s:Int) (hk:k≤900000) (hm : 0≤m∧m≤9) (hs : 0≤s∧s≤9) :
  CBox Tryz.prog 34 [.t (tints L),vint k] [vint m,vint s] (vsource (srcAt L k m s).1) [.t (tints L),vint ((srcAt L k m s).2:Int)]:=by
 refine cbox_of Tryz.xen34 Tryz.func34 rfl Tryz.ntmps34 (by rw [Tryz.results34]) (aw_ok _ ?_)
 simp only [go_sem,simprocAttr]
 refine icall_box (cNext L k 8 (by omega) (by omega) (by omega)) rfl rfl rfl ?_
 simp only [go_sem,simprocAttr,wrap64 (x:=m+s) (by omega) (by omega)]
 have n8:=tapeN_lt (L:=L) (k:=k) (n:=8) (by omega)
 refine ⟨fun h0=>?_,fun h0=>?_⟩
 ·unfold awS
  simp only [go_sem,simprocAttr]
  have e:srcAt L k m s=(zSource,k+1):=by unfold srcAt;rw [if_pos h0]
  rw [e]
  exact ⟨rfl,rfl⟩
 ·have h0' : ¬ (tapeN L k 8==0||m+s==0)=true:=by rw [h0];simp
  unfold awS
  simp only [go_sem,simprocAttr]
  refine icall_box (cRatT L (k+1) 40 (by omega) (by omega) (by omega)) rfl rfl rfl ?_
  simp only [go_sem,simprocAttr]
  refine icall_box (cSpeed L (k+1+2) (by omega)) rfl rfl rfl ?_
  simp only [go_sem,simprocAttr]
  refine icall_box (cNext L (k+1+2+1) 5 (by omega) (by omega) (by omega)) rfl rfl rfl ?_
  simp only [go_sem,simprocAttr]
  refine ⟨fun h1=>?_,fun h1=>?_⟩
  ·have hs0 : 0<s:=by simp only [Bool.and_eq_true,decide_eq_true_eq] at h1;exact h1.2
   unfold awS
   simp only [go_sem,simprocAttr]
   refine icall_box (cNext L (k+1+2+1+1) s (by omega) (by omega) (by omega)) rfl rfl rfl ?_
   have ns:=tapeN_lt (L:=L) (k:=k+1+2+1+1) (n:=s) (by omega)
   simp only [go_sem,simprocAttr]
   refine ⟨_,cName ⟨#[115]⟩ (tapeN L (k+1+2+1+1) s) ns.1 (by omega) (by decide),?_⟩
   simp only [go_sem,simprocAttr]
   unfold srcAt
   rw [if_neg h0',if_pos h1]
   exact ⟨rfl,rfl⟩
  ·have h1' : ¬ ((tapeN L k 8==1||m==0)&&decide (s > 0))=true:=by rw [h1];simp
   unfold awS
   simp only [go_sem,simprocAttr]
   refine ⟨fun h2=>?_,fun h2=>?_⟩
   ·have hm0 : 0<m:=by simpa using h2
    unfold awS
    simp only [go_sem,simprocAttr]
    refine icall_box (cNext L (k+1+2+1+1) m (by omega) (by omega) (by omega)) rfl rfl rfl ?_
    have ns:=tapeN_lt (L:=L) (k:=k+1+2+1+1) (n:=m) (by omega)
    simp only [go_sem,simprocAttr]
    refine ⟨_,cName ⟨#[109]⟩ (tapeN L (k+1+2+1+1) m) ns.1 (by omega) (by decide),?_⟩
    simp only [go_sem,simprocAttr]
    unfold srcAt
    rw [if_neg h0',if_neg h1',if_pos hm0]
    exact ⟨rfl,rfl⟩
   ·have hm0 : ¬ 0<m:=by simpa using h2
    unfold awS
    simp only [go_sem,simprocAttr]
    unfold srcAt
    rw [if_neg h0',if_neg h1',if_neg hm0]
    exact ⟨rfl,rfl⟩
def kinds:List Int:=[1,1,1,0,2,3,4,5]
def texts:List ByteArray:=[⟨#[65]⟩,⟨#[82,69,69,76,32,55]⟩,⟨#[116,104,101,32,101,110,100,46]⟩,⟨#[49,50,58,51,48]⟩]
def clipAt (L:List Int) (k:Nat) (m s:Int):ClipR×Nat :=
 let len:=1+tapeN L k 9
 let kind:=kinds.getD (tapeN L (k+1) 8).toNat 0
 if kind=0 then (⟨len,0,zSource,zSource,0,0,0,⟨#[]⟩,0,[]⟩,k+2)
 else
  let a:=srcAt L (k+2) m s
  if kind=2∨kind=3 then
   let b:=srcAt L a.2 m s
   let off:=tapeN L b.2 3
   let total:=off+len+tapeN L (b.2+1) 3
   if kind=3 then (⟨len,kind,a.1,b.1,off,total,tapeN L (b.2+2) 4,⟨#[]⟩,0,[]⟩,b.2+3)
   else (⟨len,kind,a.1,b.1,off,total,0,⟨#[]⟩,0,[]⟩,b.2+2)
  else if kind=4 then
   let b:=srcAt L a.2 m s
   (⟨len,kind,a.1,b.1,0,0,tapeN L b.2 256,⟨#[]⟩,0,[]⟩,b.2+1)
  else if kind=5 then (⟨len,kind,a.1,zSource,0,0,0,texts.getD (tapeN L a.2 4).toNat ⟨#[]⟩,0,[]⟩,a.2+1)
  else (⟨len,kind,a.1,zSource,0,0,0,⟨#[]⟩,0,[]⟩,a.2)
abbrev vclipZ (c:ClipR):V := .agg [vint c.len,vint c.kind,vint c.a.kind,vstr c.a.name,vint c.a.pos.num,vint c.a.pos.den,vint c.a.speed.num,vint c.a.speed.den,vbool c.a.smooth,
 vint c.b.kind,vstr c.b.name,vint c.b.pos.num,vint c.b.pos.den,vint c.b.speed.num,vint c.b.speed.den,vbool c.b.smooth,vint c.off,vint c.total,vint c.param,vstr c.text,vint c.gain, .t (.lit (.slice none 0 0))]
theorem cClipZ (L:List Int) (k:Nat) (m s:Int) (hk:k≤800000) (hm : 0≤m∧m≤9) (hs : 0≤s∧s≤9) :
  CBox Tryz.prog 15 [.t (tints L),vint k] [vint m,vint s] (vclipZ (clipAt L k m s).1) [.t (tints L),vint ((clipAt L k m s).2:Int)]:=by
 refine cbox_of Tryz.xen15 Tryz.func15 rfl Tryz.ntmps15 (by rw [Tryz.results15]) (aw_ok _ ?_)
 simp only [go_sem,simprocAttr]
 refine icall_box (cNext L k 9 (by omega) (by omega) (by omega)) rfl rfl rfl ?_
 have n9:=tapeN_lt (L:=L) (k:=k) (n:=9) (by omega)
 simp only [go_sem,simprocAttr,wrap64 (x:=1+tapeN L k 9) (by omega) (by omega)]
 refine icall_box (cNext L (k+1) 8 (by omega) (by omega) (by omega)) rfl rfl rfl ?_
 have n8:=tapeN_lt (L:=L) (k:=k+1) (n:=8) (by omega)
 simp only [go_sem,simprocAttr]
 refine ⟨⟨by omega,by omega⟩,by omega,?_⟩
 obtain ⟨kd,hkd⟩:∃ kd,kinds.getD (tapeN L (k+1) 8).toNat 0=kd:=⟨_,rfl⟩
 have hkd':=hkd
 unfold kinds at hkd'
 rw [hkd']
 have hl0 : 1≤1+tapeN L k 9∧1+tapeN L k 9≤9:=by omega
 generalize hlen : 1+tapeN L k 9=len at hl0
 refine ⟨fun h0=>?_,fun h0=>?_⟩
 ·have e0:kd=0:=by simpa using h0
  have e:clipAt L k m s=(⟨len,0,zSource,zSource,0,0,0,⟨#[]⟩,0,[]⟩,k+2):=by unfold clipAt;simp only [hkd,hlen,e0,if_true]
  rw [e]
  unfold awS
  simp only [go_sem,simprocAttr]
  rw [e0]
  try exact ⟨rfl,rfl⟩
 ·have e0 : ¬ kd=0:=by simpa using h0
  unfold awS
  simp only [go_sem,simprocAttr]
  refine icall_box (cSource L (k+2) m s (by omega) hm hs) rfl rfl rfl ?_
  obtain ⟨⟨a,ka⟩,ha⟩:∃ a,srcAt L (k+2) m s=a:=⟨_,rfl⟩
  have hka:=srcAt_le L (k+2) m s
  rw [ha] at hka ⊢
  simp only at hka
  have hk5:kd=1∨kd=2∨kd=3∨kd=4∨kd=5:=by
   have:(tapeN L (k+1) 8).toNat=0∨(tapeN L (k+1) 8).toNat=1∨(tapeN L (k+1) 8).toNat=2∨(tapeN L (k+1) 8).toNat=3∨(tapeN L (k+1) 8).toNat=4∨(tapeN L (k+1) 8).toNat=5∨(tapeN L (k+1) 8).toNat=6∨(tapeN L (k+1) 8).toNat=7:=by omega
   rcases this with h | h | h | h | h | h | h | h<;>rw [h] at hkd'<;>simp at hkd'<;>omega
  clear hkd'
  rcases hk5 with rfl | rfl | rfl | rfl | rfl
  ·have e:clipAt L k m s=(⟨len,1,a,zSource,0,0,0,⟨#[]⟩,0,[]⟩,ka):=by unfold clipAt;simp only [hkd,hlen,ha];first | rfl | simp
   rw [e]
   simp only [go_sem,simprocAttr,decide_true,decide_false]
  ·have e:clipAt L k m s=(let b:=srcAt L ka m s; (⟨len,2,a,b.1,tapeN L b.2 3,tapeN L b.2 3+len+tapeN L (b.2+1) 3,0,⟨#[]⟩,0,[]⟩,b.2+2)):=by unfold clipAt;simp only [hkd,hlen,ha];first | rfl | simp
   rw [e]
   simp only [go_sem,simprocAttr,decide_true,decide_false]
   refine icall_box (cSource L ka m s (by omega) hm hs) rfl rfl rfl ?_
   obtain ⟨⟨b,kb⟩,hb⟩:∃ b,srcAt L ka m s=b:=⟨_,rfl⟩
   have hkb:=srcAt_le L ka m s
   rw [hb] at hkb ⊢
   simp only at hkb
   simp only [go_sem,simprocAttr,decide_true,decide_false]
   refine icall_box (cNext L kb 3 (by omega) (by omega) (by omega)) rfl rfl rfl ?_
   have o3:=tapeN_lt (L:=L) (k:=kb) (n:=3) (by omega)
   simp only [go_sem,simprocAttr,decide_true,decide_false]
   refine drawC_of 10 .done rfl (by kernel_rfl) (by kernel_rfl) (by decide) ?_
   simp only [go_sem,simprocAttr,decide_true,decide_false]
   refine bcall (cNext L (kb+1) 3 (by omega) (by omega) (by omega)) rfl rfl rfl ?_
   have p3:=tapeN_lt (L:=L) (k:=kb+1) (n:=3) (by omega)
   simp only [go_sem,simprocAttr,decide_true,decide_false,wrap64 (x:=tapeN L kb 3+len) (by omega) (by omega),wrap64 (x:=tapeN L kb 3+len+tapeN L (kb+1) 3) (by omega) (by omega)]
   first | (refine id ?_;kernel_rfl) | (change _=_;kernel_rfl) | rfl
  ·have e:clipAt L k m s=(let b:=srcAt L ka m s; (⟨len,3,a,b.1,tapeN L b.2 3,tapeN L b.2 3+len+tapeN L (b.2+1) 3,tapeN L (b.2+2) 4,⟨#[]⟩,0,[]⟩,b.2+3)):=by unfold clipAt;simp only [hkd,hlen,ha];first | rfl | simp
   rw [e]
   simp only [go_sem,simprocAttr,decide_true,decide_false]
   refine icall_box (cSource L ka m s (by omega) hm hs) rfl rfl rfl ?_
   obtain ⟨⟨b,kb⟩,hb⟩:∃ b,srcAt L ka m s=b:=⟨_,rfl⟩
   have hkb:=srcAt_le L ka m s
   rw [hb] at hkb ⊢
   simp only at hkb
   simp only [go_sem,simprocAttr,decide_true,decide_false]
   refine icall_box (cNext L kb 3 (by omega) (by omega) (by omega)) rfl rfl rfl ?_
   have o3:=tapeN_lt (L:=L) (k:=kb) (n:=3) (by omega)
   simp only [go_sem,simprocAttr,decide_true,decide_false]
   refine drawC_of 10 .done rfl (by kernel_rfl) (by kernel_rfl) (by decide) ?_
   simp only [go_sem,simprocAttr,decide_true,decide_false]
   refine bcall (cNext L (kb+1) 3 (by omega) (by omega) (by omega)) rfl rfl rfl ?_
   have p3:=tapeN_lt (L:=L) (k:=kb+1) (n:=3) (by omega)
   simp only [go_sem,simprocAttr,decide_true,decide_false,wrap64 (x:=tapeN L kb 3+len) (by omega) (by omega),wrap64 (x:=tapeN L kb 3+len+tapeN L (kb+1) 3) (by omega) (by omega)]
   refine ⟨by kernel_rfl,?_⟩
   refine icall_box (cNext L (kb+1+1) 4 (by omega) (by omega) (by omega)) rfl rfl rfl ?_
   simp only [go_sem,simprocAttr,decide_true,decide_false]
  ·have e:clipAt L k m s=(let b:=srcAt L ka m s; (⟨len,4,a,b.1,0,0,tapeN L b.2 256,⟨#[]⟩,0,[]⟩,b.2+1)):=by unfold clipAt;simp only [hkd,hlen,ha];first | rfl | simp
   rw [e]
   simp only [go_sem,simprocAttr,decide_true,decide_false]
   refine icall_box (cSource L ka m s (by omega) hm hs) rfl rfl rfl ?_
   obtain ⟨⟨b,kb⟩,hb⟩:∃ b,srcAt L ka m s=b:=⟨_,rfl⟩
   have hkb:=srcAt_le L ka m s
   rw [hb] at hkb ⊢
   simp only at hkb
   simp only [go_sem,simprocAttr,decide_true,decide_false]
   refine icall_box (cNext L kb 256 (by omega) (by omega) (by omega)) rfl rfl rfl ?_
   simp only [go_sem,simprocAttr,decide_true,decide_false]
  ·have e:clipAt L k m s=(⟨len,5,a,zSource,0,0,0,texts.getD (tapeN L ka 4).toNat ⟨#[]⟩,0,[]⟩,ka+1):=by unfold clipAt;simp only [hkd,hlen,ha];first | rfl | simp
   rw [e]
   simp only [go_sem,simprocAttr,decide_true,decide_false]
   refine icall_box (cNext L ka 4 (by omega) (by omega) (by omega)) rfl rfl rfl ?_
   have t4:=tapeN_lt (L:=L) (k:=ka) (n:=4) (by omega)
   simp only [go_sem,simprocAttr,decide_true,decide_false]
   exact ⟨⟨by omega,by omega⟩,by omega,rfl⟩
theorem clipAt_chan (L:List Int) (k:Nat) (m s:Int):(clipAt L k m s).1.chan = []:=by
 unfold clipAt
 simp only
 split
 ·rfl
 ·split
  ·split<;>rfl
  ·split
   ·rfl
   ·split<;>rfl
theorem clipAt_le (L:List Int) (k:Nat) (m s:Int):(clipAt L k m s).2≤k+17:=by
 have h1:=srcAt_le L (k+2) m s
 have h2:=srcAt_le L (srcAt L (k+2) m s).2 m s
 unfold clipAt
 simp only
 split
 ·simp
 ·split
  ·split<;>simp only<;>omega
  ·split
   ·simp only;omega
   ·split<;>simp only<;>omega
theorem as_clipZ {c:ClipR} (h:c.chan = []):∀ (w:World) (E:Env) v,RdV w E (vclipZ c) v→RdV w E (vclip c) v:=by
 refine as_agg ?_
 refine ⟨.inl rfl, .inl rfl, .inl rfl, .inl rfl, .inl rfl, .inl rfl, .inl rfl, .inl rfl, .inl rfl, .inl rfl, .inl rfl, .inl rfl, .inl rfl, .inl rfl, .inl rfl, .inl rfl, .inl rfl, .inl rfl, .inl rfl, .inl rfl, .inl rfl, .inr ⟨rfl,1,intC 0,?_⟩,trivial⟩
 rw [h];rfl
theorem cClip (L:List Int) (k:Nat) (m s:Int) (hk:k≤800000) (hm : 0≤m∧m≤9) (hs : 0≤s∧s≤9) :
  CBox Tryz.prog 15 [.t (tints L),vint k] [vint m,vint s] (vclip (clipAt L k m s).1) [.t (tints L),vint ((clipAt L k m s).2:Int)] :=
 cbox_as (as_clipZ (clipAt_chan L k m s)) (cClipZ L k m s hk hm hs)
open Go.RowKit
set_option maxRecDepth 4000
def ratOk (r q:RatR):Bool:=vRat r&&vRat q&&vWith r 1099511627776&&vWith q 1024&&decide (Nat.lcm r.den.natAbs q.den.natAbs≤65536)&&decide (r.num.natAbs≤100000)&&decide (r.den.natAbs≤100000)&&decide (q.num.natAbs≤100000)&&decide (q.den.natAbs≤100000)
theorem rat_ok:((List.range 40).all fun p=>(List.range 6).all fun j=>(List.range 9).all fun i=>ratOk (ratR (p:Int) (dens.getD j 0)) ⟨(speeds.getD i (0,0)).1,(speeds.getD i (0,0)).2⟩)=true:=by kernel_rfl
theorem name_ok:((List.range 9).all fun i=>vName (nameB ⟨#[115]⟩ (i:Int))&&vName (nameB ⟨#[109]⟩ (i:Int)))=true:=by kernel_rfl
theorem tape_rat (L:List Int) (k k':Nat):ratOk (ratAt L k 40) (speedAt L k')=true:=by
 have h1:=tapeN_lt (L:=L) (k:=k) (n:=40) (by omega)
 have h2:=tapeN_lt (L:=L) (k:=k+1) (n:=6) (by omega)
 have h3:=tapeN_lt (L:=L) (k:=k') (n:=9) (by omega)
 have h:=rat_ok
 rw [List.all_eq_true] at h
 have h4:=h (tapeN L k 40).toNat (by simp;omega)
 rw [List.all_eq_true] at h4
 have h5:=h4 (tapeN L (k+1) 6).toNat (by simp;omega)
 rw [List.all_eq_true] at h5
 have h6:=h5 (tapeN L k' 9).toNat (by simp;omega)
 unfold ratAt speedAt
 rwa [Int.toNat_of_nonneg h1.1] at h6
theorem tape_name (i:Int) (h0 : 0≤i) (h1:i<9):vName (nameB ⟨#[115]⟩ i)=true∧vName (nameB ⟨#[109]⟩ i)=true:=by
 have h:=name_ok
 rw [List.all_eq_true] at h
 have h4:=h i.toNat (by simp;omega)
 rw [Int.toNat_of_nonneg h0,Bool.and_eq_true] at h4
 exact h4
theorem src_ok {kd:Int} {nm:ByteArray} {r q:RatR} {sm:Bool} (hk:kd=1∨kd=2) (hn:vName nm=true) (h:ratOk r q=true):vSource ⟨kd,nm,r,q,sm⟩=true∧(⟨kd,nm,r,q,sm⟩:SourceR).fit:=by
 unfold ratOk at h
 simp only [Bool.and_eq_true,decide_eq_true_eq] at h
 obtain ⟨⟨⟨⟨⟨⟨⟨⟨h1,h2⟩,h3⟩,h4⟩,h5⟩,h6⟩,h7⟩,h8⟩,h9⟩:=h
 refine ⟨?_,?_,⟨⟨?_,?_⟩,⟨?_,?_⟩⟩,⟨⟨?_,?_⟩,⟨?_,?_⟩⟩⟩
 ·unfold vSource lcmS
  simp only [h1,h2,h3,h4,hn,decide_eq_true h5,Bool.and_true]
  rcases hk with rfl | rfl<;>simp
 ·simp only;rcases hk with rfl | rfl<;>exact ⟨by decide,by decide⟩
 all_goals simp only;omega
theorem zS_isZ:zSource.isZ=true:=by kernel_rfl
theorem zS_ok:vSource zSource=true:=by unfold vSource;rw [zS_isZ];rfl
theorem srcAt_ok (L:List Int) (k:Nat) (m s:Int) (hm:m≤9) (hs:s≤9):vSource (srcAt L k m s).1=true∧(srcAt L k m s).1.fit:=by
 unfold srcAt
 split
 ·exact ⟨zS_ok,zfit⟩
 ·split
  ·rename_i h1
   simp only [Bool.and_eq_true,decide_eq_true_eq] at h1
   have:=tapeN_lt (L:=L) (k:=k+5) (n:=s) (by omega)
   exact src_ok (.inr rfl) (tape_name _ this.1 (by omega)).1 (tape_rat L _ _)
  ·split
   ·rename_i h1
    have:=tapeN_lt (L:=L) (k:=k+5) (n:=m) (by omega)
    exact src_ok (.inl rfl) (tape_name _ this.1 (by omega)).2 (tape_rat L _ _)
   ·exact ⟨zS_ok,zfit⟩
theorem text_ok:((List.range 4).all fun i=>vLine (texts.getD i ⟨#[]⟩))=true:=by kernel_rfl
theorem small64 {n:Int} (h0 : -1000000≤n) (h1:n≤1000000):I64 n:=⟨by omega,by omega⟩
theorem clipAt_ok (L:List Int) (k:Nat) (m s:Int) (hm:m≤9) (hs:s≤9):vClip (clipAt L k m s).1=true∧(clipAt L k m s).1.fit:=by
 have n9:=tapeN_lt (L:=L) (k:=k) (n:=9) (by omega)
 have n8:=tapeN_lt (L:=L) (k:=k+1) (n:=8) (by omega)
 obtain ⟨kd,hkd⟩:∃ kd,kinds.getD (tapeN L (k+1) 8).toNat 0=kd:=⟨_,rfl⟩
 have hk5:kd=0∨kd=1∨kd=2∨kd=3∨kd=4∨kd=5:=by
  have:(tapeN L (k+1) 8).toNat=0∨(tapeN L (k+1) 8).toNat=1∨(tapeN L (k+1) 8).toNat=2∨(tapeN L (k+1) 8).toNat=3∨(tapeN L (k+1) 8).toNat=4∨(tapeN L (k+1) 8).toNat=5∨(tapeN L (k+1) 8).toNat=6∨(tapeN L (k+1) 8).toNat=7:=by omega
  unfold kinds at hkd
  rcases this with h | h | h | h | h | h | h | h<;>rw [h] at hkd<;>simp at hkd<;>omega
 obtain ⟨len,hlen⟩:∃ len,1+tapeN L k 9=len:=⟨_,rfl⟩
 have hl : 1≤len∧len≤9:=by omega
 obtain ⟨va,fa⟩:=srcAt_ok L (k+2) m s hm hs
 obtain ⟨vb,fb⟩:=srcAt_ok L (srcAt L (k+2) m s).2 m s hm hs
 generalize ha:srcAt L (k+2) m s=a at va fa vb fb
 generalize hb:srcAt L a.2 m s=b at vb fb
 have o3:=tapeN_lt (L:=L) (k:=b.2) (n:=3) (by omega)
 have p3:=tapeN_lt (L:=L) (k:=b.2+1) (n:=3) (by omega)
 have q4:=tapeN_lt (L:=L) (k:=b.2+2) (n:=4) (by omega)
 have q256:=tapeN_lt (L:=L) (k:=b.2) (n:=256) (by omega)
 have t4:=tapeN_lt (L:=L) (k:=a.2) (n:=4) (by omega)
 have ht:=text_ok
 rw [List.all_eq_true] at ht
 have ht4:=ht (tapeN L a.2 4).toNat (by simp;omega)
 have zz:vSource zSource=true:=zS_ok
 have ez:zSource.isZ=true:=zS_isZ
 have base:∀ (kk:Int) (x y:SourceR) (o t p:Int) (tx:ByteArray),vSource x=true→vSource y=true→baseOk ⟨len,kk,x,y,o,t,p,tx,0,[]⟩=true:=fun kk x y o t p tx hx hy=>by
  unfold baseOk
  simp only [hx,hy,decide_eq_true hl.1,decide_eq_true (by omega:len≤2147483647),Bool.and_true]
  rfl
 have fit:∀ (kk:Int) (x y:SourceR) (o t p:Int) (tx:ByteArray),x.fit→y.fit → -1000000≤kk→kk≤1000000 → -1000000≤o→o≤1000000 → -1000000≤t→t≤1000000 → -1000000≤p→p≤1000000→(⟨len,kk,x,y,o,t,p,tx,0,[]⟩:ClipR).fit:=fun kk x y o t p tx hx hy h1 h2 h3 h4 h5 h6 h7 h8 =>
  ⟨small64 (by simp only;omega) (by simp only;omega),small64 h1 h2,hx,hy,small64 h3 h4,small64 h5 h6,small64 h7 h8,i0⟩
 unfold clipAt
 simp only [hkd,hlen,ha,hb]
 rcases hk5 with rfl | rfl | rfl | rfl | rfl | rfl
 ·refine ⟨?_,fit _ _ _ _ _ _ _ zfit zfit (by omega) (by omega) (by omega) (by omega) (by omega) (by omega) (by omega) (by omega)⟩
  show vClip ⟨len,0,zSource,zSource,0,0,0,⟨#[]⟩,0,[]⟩=true
  unfold vClip
  rw [base _ _ _ _ _ _ _ zz zz]
  simp [kindOk,noShare,emp,ez]
 ·refine ⟨?_,fit _ _ _ _ _ _ _ fa zfit (by omega) (by omega) (by omega) (by omega) (by omega) (by omega) (by omega) (by omega)⟩
  show vClip ⟨len,1,a.1,zSource,0,0,0,⟨#[]⟩,0,[]⟩=true
  unfold vClip
  rw [base _ _ _ _ _ _ _ va zz]
  simp [kindOk,noShare,emp,ez]
 ·refine ⟨?_,fit _ _ _ _ _ _ _ fa fb (by omega) (by omega) (by omega) (by omega) (by omega) (by omega) (by omega) (by omega)⟩
  show vClip ⟨len,2,a.1,b.1,_,_,0,⟨#[]⟩,0,[]⟩=true
  unfold vClip
  rw [base _ _ _ _ _ _ _ va vb]
  simp [kindOk,shareOk,emp]
  omega
 ·refine ⟨?_,fit _ _ _ _ _ _ _ fa fb (by omega) (by omega) (by omega) (by omega) (by omega) (by omega) (by omega) (by omega)⟩
  show vClip ⟨len,3,a.1,b.1,_,_,_,⟨#[]⟩,0,[]⟩=true
  unfold vClip
  rw [base _ _ _ _ _ _ _ va vb]
  simp [kindOk,shareOk,emp]
  omega
 ·refine ⟨?_,fit _ _ _ _ _ _ _ fa fb (by omega) (by omega) (by omega) (by omega) (by omega) (by omega) (by omega) (by omega)⟩
  show vClip ⟨len,4,a.1,b.1,0,0,_,⟨#[]⟩,0,[]⟩=true
  unfold vClip
  rw [base _ _ _ _ _ _ _ va vb]
  simp [kindOk,noShare,emp]
  omega
 ·refine ⟨?_,fit _ _ _ _ _ _ _ fa zfit (by omega) (by omega) (by omega) (by omega) (by omega) (by omega) (by omega) (by omega)⟩
  show vClip ⟨len,5,a.1,zSource,0,0,0,_,0,[]⟩=true
  unfold vClip
  rw [base _ _ _ _ _ _ _ va zz]
  simp only [kindOk,ez,ht4]
  rfl
end Go.Proofs.YtkjdkbmfaamhaaaGreat
