/- Proved here: Rows of which one cell is a row of one's own; conditions stand in each theorem. -/
import Derived.Test.YtbfnemkngoaeeaaGreatQ07
import Derived.Test.YtbfnemkngoaeeaaGreatQ06
import Derived.Test.YtbfnemkngoaeeaaGreatQ28
import Derived.Test.YtbfnemkngoaeeaaGreatQ19
import Derived.Test.YtbfnemkngoaeeaaGreatQ29
set_option linter.unusedSimpArgs false
set_option linter.unusedVariables false
set_option linter.unusedSectionVars false
set_option linter.unnecessarySimpa false
namespace Go.Proofs.YtbfnemkngoaeeaaGreat
open Go.RowKit
set_option maxRecDepth 4000
theorem aA6 (ρ : Ren) (h:Heap):∀ x:List T,wkVs ρ h (x.map V.t) (x.map V.t)
 | []=>by simp only [List.map_nil,wkVs]
 | a::x=>by
  simp only [List.map_cons,wkVs,wkV];exact ⟨Nx a,aA6 ρ h x⟩
theorem aL9 (ρ : Ren) (h:Heap):∀ xs:List (List T),Vt ρ h (aL xs) (aL xs)
 | []=>trivial
 | x::xs=>⟨aA6 ρ h x,aL9 ρ h xs⟩
theorem vN (ρ : Ren) (h:Heap) {k:Nat} (hk : ρ.look k=some (some k)):∀ (xs:List (List T)) (i:Nat),Vt ρ h ((aL xs).set i [.own k]) ((aL xs).set i [.own k])
 | [],_=>trivial
 | x::xs,0=>by
  refine ⟨?_,aL9 ρ h xs⟩;simp only [wkVs,wkV,and_true];exact hk
 | x::xs,i+1=>⟨aA6 ρ h x,vN ρ h hk xs i⟩
theorem Dx {k:Nat}:∀ (xs:List (List T)) (i:Nat),i<xs.length→wW ((aL xs).set i [.own k])=true
 | [],_,h=>absurd h (by simp)
 | x::xs,0,_=>rfl
 | x::xs,i+1,h=>by
  have:=Dx (k:=k) xs i (by simpa using h);show (_||wW ((aL xs).set i [.own k]))=true
  rw [this,Bool.or_true]
theorem Kc {f:V→Option T} (hf:∀ a,f (.t a)=some a):∀ x:List T,lendCs f (x.map V.t)=some x
 | []=>rfl
 | a::x=>by
  simp only [List.map_cons,lendCs,hf,Kc hf x]
theorem Yc {f:V→Option T} (hf:∀ a,f (.t a)=some a):∀ xs:List (List T),lendRs f (aL xs)=some xs
 | []=>rfl
 | x::xs=>by
  show lendRs f (x.map V.t::aL xs)=_
  simp only [lendRs,Kc hf,Yc hf xs]
theorem Ef {f:V→Option T} (hf:∀ a,f (.t a)=some a) {k:Nat} {t:T} (hk:f (.own k)=some t):∀ (xs:List (List T)) (i:Nat),lendRs f ((aL xs).set i [.own k])=some (xs.set i [t])
 | [],_=>rfl
 | x::xs,0=>by
  show lendRs f ([.own k]::aL xs)=_
  simp only [lendRs,lendCs,hk,Yc hf xs];rfl
 | x::xs,i+1=>by
  show lendRs f (x.map V.t::(aL xs).set i [.own k])=_
  simp only [lendRs,Kc hf,Ef hf hk xs i];rfl
theorem zK {f:V→List Nat} (hf:∀ x,f (.t x) = []) {k:Nat}:∀ (xs:List (List T)) (i:Nat),i<xs.length→reachRs f ((aL xs).set i [.own k])=f (.own k)
 | [],_,h=>absurd h (by simp)
 | x::xs,0,_=>by
  show reachL f [.own k]++reachRs f (aL xs)=_
  rw [Jn f hf xs];simp only [reachL,List.append_nil]
 | x::xs,i+1,h=>by
  show reachL f (x.map V.t)++reachRs f ((aL xs).set i [.own k])=_
  rw [Gb f hf x,List.nil_append];exact zK hf xs i (by simpa using h)
open Go.RowKit
set_option maxRecDepth 4000
def gE (f g:ByteArray) (x:SourceR):SourceR:=if (x.kind==1&&x.name.toList==f.toList)=true then { x with name:=g } else x
def uF (f g:ByteArray) (c:ClipR):Nat→ClipR
 | 0=>c
 | 1 => { c with a:=gE f g c.a }
 | _ => { c with a:=gE f g c.a,b:=gE f g c.b }
theorem Wv (L:List ClipR) (n:Nat) (x y:ClipR) {r:List T} (h:r=ClipR.c y):((L.set n x).map ClipR.c).set n r=(L.set n y).map ClipR.c:=by
 rw [h,List.map_set,List.set_set,List.map_set]
open Go.RowKit
set_option maxRecDepth 4000
def fK (f g:ByteArray) (c:ClipR):ClipR:=uF f g c 2
def aRd (f g:ByteArray) (ts:List (List ClipR)):List (List ClipR):=ts.map fun t=>t.map (fK f g)
def Ua (f g:ByteArray) (s:SequenceR):SequenceR := { s with video:=aRd f g s.video,sound:=aRd f g s.sound }
def kP (p:ProjR) (f g:ByteArray):ProjR:=⟨p.media,p.seqs.map (Ua f g)⟩
theorem Hr (f g:ByteArray) (c:ClipR):fK f g c = { c with a:=gE f g c.a,b:=gE f g c.b }:=rfl
theorem Zn {f:ByteArray} {x:SourceR}:((x.kind==1&&x.name.toList==f.toList)=true) ↔ (x.kind=1∧x.name=f):=by
 simp only [Bool.and_eq_true,beq_iff_eq];exact ⟨fun h=>⟨h.1,ByteArray.ext (Array.ext' (by simpa [ByteArray.toList_eq] using h.2))⟩,fun h=>⟨h.1,by rw [h.2]⟩⟩
theorem Cp {f g:ByteArray} {x:SourceR} (h : ¬ (x.kind=1∧x.name=f)):gE f g x=x:=by
 unfold gE;rw [if_neg (fun q=>h (Zn.1 q))]
theorem Tz {f g:ByteArray} {x:SourceR} (h:x.kind=1∧x.name=f):gE f g x = { x with name:=g }:=by
 unfold gE;rw [if_pos (Zn.2 h)]
theorem mJ (f g:ByteArray) (x:SourceR):(gE f g x).kind=x.kind∧(gE f g x).smooth=x.smooth∧(gE f g x).pos=x.pos∧(gE f g x).speed=x.speed:=by
 unfold gE;split<;>exact ⟨rfl,rfl,rfl,rfl⟩
theorem chgS_name (f g:ByteArray) (x:SourceR):(gE f g x).name=x.name∨(x.kind=1∧(gE f g x).name=g):=by
 by_cases h:x.kind=1∧x.name=f
 ·rw [Tz h];exact .inr ⟨h.1,rfl⟩
 ·rw [Cp h];exact .inl rfl
theorem Hq (f g:ByteArray) (x:SourceR):(gE f g x).isZ=x.isZ:=by
 by_cases h:x.kind=1∧x.name=f
 ·rw [Ah (s:=x) (by omega),Ah (by rw [(mJ f g x).1];omega)]
 ·rw [Cp h]
theorem aN7 {f g:ByteArray} {x:SourceR} (hg:aT g=true) (h:aY x=true):aY (gE f g x)=true:=by
 by_cases hc:x.kind=1∧x.name=f
 ·unfold aY at h ⊢;rw [Hq];rw [Ah (s:=x) (by omega),Bool.false_or] at h ⊢;rw [Tz hc];simp only [Bool.and_eq_true] at h ⊢;refine ⟨?_,h.2⟩;refine ⟨?_,h.1.2⟩;refine ⟨?_,h.1.1.2⟩;refine ⟨?_,h.1.1.1.2⟩;refine ⟨?_,h.1.1.1.1.2⟩;exact ⟨h.1.1.1.1.1.1,hg⟩
 ·rw [Cp hc];exact h
theorem aGu (f g:ByteArray) (c:ClipR):cD (fK f g c)=cD c:=by
 unfold cD dX dW;rw [Hr];simp only [Hq]
theorem chgC_ok {f g:ByteArray} {c:ClipR} (hg:aT g=true) (h:bB c=true):bB (fK f g c)=true:=by
 unfold bB nN at h ⊢;rw [aGu,Hr];simp only [Bool.and_eq_true] at h ⊢;exact ⟨⟨⟨h.1.1.1,aN7 hg h.1.1.2⟩,aN7 hg h.1.2⟩,h.2⟩
theorem Zp (f g:ByteArray):∀ t:List ClipR,bU (t.map (fK f g))=bU t
 | []=>rfl
 | c::t=>by
  simp only [List.map_cons,bU,Zp f g t];rfl
theorem Av {f g:ByteArray} {t:List ClipR} (hg:aT g=true) (h:bC t=true):bC (t.map (fK f g))=true:=by
 unfold bC at h ⊢;rw [Zp,List.length_map];simp only [Bool.and_eq_true,List.all_eq_true] at h ⊢;refine ⟨⟨h.1.1,fun c hc=>?_⟩,h.2⟩;obtain ⟨d,hd,rfl⟩:=List.mem_map.1 hc;exact chgC_ok hg (h.1.2 d hd)
theorem aW3 (f g:ByteArray) (ch:Int) (c:ClipR):yF ch (fK f g c)=yF ch c:=by
 unfold yF;rw [Hr];simp only [(mJ f g c.a).2.1,(mJ f g c.b).2.1]
theorem chgQ_ok {f g:ByteArray} {s:SequenceR} (hg:aT g=true) (h:dU s=true):dU (Ua f g s)=true:=by
 unfold dU at h ⊢;simp only [Bool.and_eq_true,List.all_eq_true] at h ⊢;refine ⟨⟨h.1.1,fun t ht=>?_⟩,fun t ht=>?_⟩
 ·obtain ⟨u,hu,rfl⟩:=List.mem_map.1 ht;have:=h.1.2 u hu;unfold yG at this ⊢;simp only [Bool.and_eq_true,List.all_eq_true] at this ⊢;refine ⟨Av hg this.1,fun c hc=>?_⟩;obtain ⟨d,hd,rfl⟩:=List.mem_map.1 hc;exact this.2 d hd
 ·obtain ⟨u,hu,rfl⟩:=List.mem_map.1 ht;have:=h.2 u hu;unfold yY at this ⊢;simp only [Bool.and_eq_true,List.all_eq_true] at this ⊢;refine ⟨Av hg this.1,fun c hc=>?_⟩;obtain ⟨d,hd,rfl⟩:=List.mem_map.1 hc;show yF s.channels (fK f g d)=true
  rw [aW3];exact this.2 d hd
theorem aGt {f g:ByteArray} {x:SourceR} (h:x.fit):(gE f g x).fit:=by
 unfold gE;split
 ·exact ⟨h.kind,h.pos,h.speed⟩
 ·exact h
theorem Ub {f g:ByteArray} {c:ClipR} (h:c.fit):(fK f g c).fit:=by
 rw [Hr];exact ⟨h.len,h.kind,aGt h.a,aGt h.b,h.off,h.total,h.param,h.gain⟩
theorem aW2 {f g:ByteArray} {s:SequenceR} (h:s.fit):(Ua f g s).fit:=by
 refine ⟨h.rate,h.w,h.h,fun t ht c hc=>?_,fun t ht c hc=>?_,h.cues,h.channels⟩
 ·obtain ⟨u,hu,rfl⟩:=List.mem_map.1 ht;obtain ⟨d,hd,rfl⟩:=List.mem_map.1 hc;exact Ub (h.video u hu d hd)
 ·obtain ⟨u,hu,rfl⟩:=List.mem_map.1 ht;obtain ⟨d,hd,rfl⟩:=List.mem_map.1 hc;exact Ub (h.sound u hu d hd)
theorem We {p:ProjR} (h:p.fit) (f g:ByteArray):(kP p f g).fit:=by
 refine ⟨h.media,fun s hs=>?_⟩;obtain ⟨q,hq,rfl⟩:=List.mem_map.1 hs;exact aW2 (h.seqs q hq)
theorem Rj {s:SequenceR} {x:SourceR}:x∈kQ s ↔ (∃ t∈s.video++s.sound, ∃ c∈t,x=c.a∨x=c.b)∧x.isZ=false:=by
 unfold kQ Wm dF;rw [List.mem_filter,List.mem_flatMap];constructor
 ·rintro ⟨⟨c,hc,hx⟩,hz⟩;obtain ⟨t,ht,hct⟩:=List.mem_flatten.1 hc;simp only [List.mem_cons,List.not_mem_nil,or_false] at hx;exact ⟨⟨t,ht,c,hct,hx⟩,by simpa using hz⟩
 ·rintro ⟨⟨t,ht,c,hc,hx⟩,hz⟩;refine ⟨⟨c,List.mem_flatten.2 ⟨t,ht,hc⟩,?_⟩,by simpa using hz⟩;simpa using hx
theorem aD7 {f g:ByteArray} {s:SequenceR} {x:SourceR} (hx:x∈kQ (Ua f g s)):∃ y∈kQ s,x=gE f g y:=by
 obtain ⟨⟨t,ht,c,hc,hxc⟩,hz⟩:=Rj.1 hx;have ht2:∃ u∈s.video++s.sound,t=u.map (fK f g):=by
  rcases List.mem_append.1 ht with ht | ht
  ·obtain ⟨u,hu,rfl⟩:=List.mem_map.1 ht;exact ⟨u,List.mem_append_left _ hu,rfl⟩
  ·obtain ⟨u,hu,rfl⟩:=List.mem_map.1 ht;exact ⟨u,List.mem_append_right _ hu,rfl⟩
 obtain ⟨u,hu,rfl⟩:=ht2;obtain ⟨d,hd,rfl⟩:=List.mem_map.1 hc;rw [Hr] at hxc;rcases hxc with rfl | rfl
 ·rw [Hq] at hz;exact ⟨d.a,Rj.2 ⟨⟨u,hu,d,hd, .inl rfl⟩,hz⟩,rfl⟩
 ·rw [Hq] at hz;exact ⟨d.b,Rj.2 ⟨⟨u,hu,d,hd, .inr rfl⟩,hz⟩,rfl⟩
theorem aAk {p:ProjR} {f g:ByteArray} {j:Nat} (hj:j<p.seqs.length):(kP p f g).seqs.getD j default=Ua f g (p.seqs.getD j default):=by
 unfold kP;simp only;rw [List.getD_eq_getElem?_getD,List.getElem?_map,List.getElem?_eq_getElem hj,aJ hj];rfl
theorem aBg {p:ProjR} (h:Layered p) {f g:ByteArray} (hg:aT g=true) (hm:∃ i,i<p.media.length∧(p.media.getD i default).name=g):Layered (kP p f g):=by
 have hl:(kP p f g).seqs.length=p.seqs.length:=by unfold kP;simp
 have hsm:=h.small;unfold dC at hsm;simp only [Bool.and_eq_true,List.all_eq_true] at hsm;have hok:=h.ok;simp only [Bool.and_eq_true,List.all_eq_true] at hok;refine ⟨?_,?_,h.nm,?_,by rw [hl];exact h.le,fun j hj x hx hk=>?_,fun j hj x hx hk=>?_⟩
 ·unfold dC;simp only [Bool.and_eq_true,List.all_eq_true];refine ⟨⟨⟨hsm.1.1.1,by rw [hl];exact hsm.1.1.2⟩,hsm.1.2⟩,fun s hs=>?_⟩;obtain ⟨q,hq,rfl⟩:=List.mem_map.1 hs;have:=hsm.2 q hq;unfold dQ at this ⊢;unfold Ua aRd;simpa using this
 ·simp only [Bool.and_eq_true,List.all_eq_true];refine ⟨hok.1,fun s hs=>?_⟩;obtain ⟨q,hq,rfl⟩:=List.mem_map.1 hs;exact chgQ_ok hg (hok.2 q hq)
 ·have:(kP p f g).seqs.map SequenceR.name=p.seqs.map SequenceR.name:=by
   unfold kP;simp only;rw [List.map_map];rfl
  rw [this];exact h.ns
 ·rw [hl] at hj;rw [aAk hj] at hx;obtain ⟨y,hy,rfl⟩:=aD7 hx;rw [(mJ f g y).1] at hk;rcases chgS_name f g y with e | ⟨_,e⟩
  ·rw [e];exact h.m1 j hj y hy hk
  ·rw [e];exact hm
 ·rw [hl] at hj;rw [aAk hj] at hx;obtain ⟨y,hy,rfl⟩:=aD7 hx;rw [(mJ f g y).1] at hk;have hn:(gE f g y).name=y.name:=by
   rw [Cp (fun q=>by rw [hk] at q;exact absurd q.1 (by decide))]
  obtain ⟨i,hi,e⟩:=h.s2 j hj y hy hk;refine ⟨i,hi,?_⟩;rw [hn,aAk (by omega)];exact e
open Go.RowKit
set_option maxRecDepth 4000
abbrev strP (s:ByteArray):V := .elem 1 [gJ s] [[gJ s]] 0 0
theorem cSwap2 (f g:ByteArray) (L:List ClipR) (n:Nat) (hn:n<L.length):CIO Tryz.prog 80 1 [(0,Hu L)] [.rptr 0 22 n 0,strP f,strP g] (.tup [])
  [(0,Hu (L.set n (uF f g (L.getD n default) 2)))] 1:=by
 refine mW Tryz.X80 Tryz.func80 rfl Tryz.ntmps80 (by rw [Tryz.results80]) (aD _ ?_);simp only [go_sem,simprocAttr];refine aK 8 .done rfl (by kernel_rfl) (by kernel_rfl) (by decide) ?_;simp only [go_sem,simprocAttr];refine ⟨by kernel_rfl,?_⟩;obtain ⟨c,hc⟩:∃ c,c=L.getD n default:=⟨_,rfl⟩
 rw [← hc];refine aF (fun (i:Nat) σ => zD 0 (Hu (L.set n (uF f g c i))) (cJ 13 (aC i) (bN [5,14,15,16,17,18,19,20,21,22,23,24,25,26,27,28,29,30,31,32,33] (bK σ)))) (fun i=>i≤2) (fun i=>2 - i) 0 (aB ?_) (by omega) ?_
 ·simp only [go_sem,simprocAttr];have e0:L.set n (uF f g c 0)=L:=zC hn (by rw [hc,aJ hn];rfl);rw [e0];exact ⟨by simp,rfl⟩
 ·intro i hi;refine aD _ ?_;simp only [go_sem,simprocAttr];have hnx:∀ x d,nth d ((L.set n x).map ClipR.c) n=ClipR.c x:=fun x d=>by
   unfold nth;rw [List.getElem?_map,List.getElem?_set_self (by omega)];rfl
  have hll:∀ x:ClipR,(L.set n x).length=L.length:=fun x=>List.length_set
  refine ⟨fun hlt=>?_,fun hge=>?_⟩
  ·simp only [bxx] at hlt;rcases (show i=0∨i=1 by omega) with rfl | rfl
   ·unfold awS;simp only [go_sem,simprocAttr];refine cL [0,1,2,3,4,5,6,7,8,9,10,11,12] .done rfl (by kernel_rfl) (by kernel_rfl) (by decide) ?_;simp only [go_sem,simprocAttr,hnx,hll];refine ⟨hn,fun _=>hn,fun h1=>?_,fun h1=>?_⟩
    ·have e1:uF f g c 1 = { uF f g c 0 with a := { (uF f g c 0).a with name:=g } }:=by
      show { uF f g c 0 with a:=gE f g (uF f g c 0).a }=_
      unfold gE;rw [if_pos h1]
     unfold awS;simp only [go_sem,simprocAttr,hnx,hll];refine ⟨hn,1,aB ?_,by omega,by omega⟩;simp only [go_sem,simprocAttr];rw [e1];exact ⟨⟨by simp,Wv L n _ _ rfl⟩,by rw [wrap64 (x:=1) (by omega) (by omega)]⟩
    ·have e1:uF f g c 1=uF f g c 0:=by
      show { uF f g c 0 with a:=gE f g (uF f g c 0).a }=_
      unfold gE;rw [if_neg (by rw [h1];decide)]
     unfold awS;simp only [go_sem,simprocAttr];refine ⟨1,aB ?_,by omega,by omega⟩;simp only [go_sem,simprocAttr];rw [e1];exact ⟨⟨by simp,rfl⟩,by rw [wrap64 (x:=1) (by omega) (by omega)]⟩
   ·unfold awS;simp only [go_sem,simprocAttr];refine cL [0,1,2,3,4,5,6,7,8,9,10,11,12] .done rfl (by kernel_rfl) (by kernel_rfl) (by decide) ?_;simp only [go_sem,simprocAttr,hnx,hll];refine ⟨hn,fun _=>hn,fun h1=>?_,fun h1=>?_⟩
    ·have e1:uF f g c 2 = { uF f g c 1 with b := { (uF f g c 1).b with name:=g } }:=by
      show { uF f g c 1 with b:=gE f g (uF f g c 1).b }=_
      unfold gE;rw [if_pos h1]
     unfold awS;simp only [go_sem,simprocAttr,hnx,hll];refine ⟨hn,2,aB ?_,by omega,by omega⟩;simp only [go_sem,simprocAttr];rw [e1];exact ⟨⟨by simp,Wv L n _ _ rfl⟩,by rw [wrap64 (x:=2) (by omega) (by omega)]⟩
    ·have e1:uF f g c 2=uF f g c 1:=by
      show { uF f g c 1 with b:=gE f g (uF f g c 1).b }=_
      unfold gE;rw [if_neg (by rw [h1];decide)]
     unfold awS;simp only [go_sem,simprocAttr];refine ⟨2,aB ?_,by omega,by omega⟩;simp only [go_sem,simprocAttr];rw [e1];exact ⟨⟨by simp,rfl⟩,by rw [wrap64 (x:=2) (by omega) (by omega)]⟩
  ·simp only [bxx] at hge;have:i=2:=by omega
   subst this;unfold awS;simp only [go_sem,simprocAttr];refine aB ?_;simp only [go_sem,simprocAttr];simp
open Go.RowKit
set_option maxRecDepth 4000
def qE {α : Type} (h : α → α) (l:List α) (i:Nat):List α := (l.take i).map h++l.drop i
theorem tU {α : Type} (h : α → α) (l:List α) (i:Nat):(qE h l i).length=l.length:=by
 unfold qE;rw [List.length_append,List.length_map,List.length_take,List.length_drop];omega
theorem Gk {α : Type} [Inhabited α] (h : α → α) {l:List α} {i:Nat} (hi:i<l.length):(qE h l i).getD i default=l.getD i default:=by
 rw [List.getD_eq_getElem?_getD,List.getD_eq_getElem?_getD];unfold qE;rw [List.getElem?_append_right (by rw [List.length_map,List.length_take];omega),List.getElem?_drop,List.length_map,List.length_take];congr 2;omega
theorem Re {α : Type} [Inhabited α] (h : α → α) {l:List α} {i:Nat} (hi:i<l.length):(qE h l i).set i (h (l.getD i default))=qE h l (i+1):=by
 unfold qE;have e:l.drop i=l.getD i default::l.drop (i+1):=by rw [List.drop_eq_getElem_cons hi,aJ hi]
 rw [e,List.set_append_right _ _ (by rw [List.length_map,List.length_take];omega)];have e2:i - ((l.take i).map h).length=0:=by simp [Nat.min_eq_left (Nat.le_of_lt hi)]
 rw [e2,List.set_cons_zero,cA hi,List.map_append,List.append_assoc];rfl
theorem aPv {L:List ClipR} {j:Nat} (hj:j<L.length) {r:List V} (h:r=(ClipR.c (L.getD j default)).map V.t):(aL (L.map ClipR.c)).set j r=aL (L.map ClipR.c):=by
 refine zC (by unfold aL;rw [List.length_map,List.length_map];exact hj) ?_;rw [h,aJ hj];unfold aL;rw [List.getElem_map,List.getElem_map]
theorem aQd {α : Type} (h : α → α) (l:List α):qE h l 0=l:=rfl
theorem Rf {α : Type} (h : α → α) (l:List α):qE h l l.length=l.map h:=by
 unfold qE;rw [List.take_length,List.drop_length,List.append_nil]
set_option maxHeartbeats 4000000 in
theorem aHb (f g:ByteArray) (ts:List (List ClipR)) (h1:ts.length≤65536) (h2:∀ t∈ts,t.length≤65536 ∧ ∀ c∈t,c.chan.length≤65536) :
  aM Tryz.prog 84 [.t (gF ts), .clo 80 [strP f,strP g]] (.t (gF (ts.map fun t=>t.map (fK f g)))):=by
 refine aH Tryz.X84 Tryz.func84 rfl Tryz.ntmps84 (by rw [Tryz.results84]) (aD _ ?_);simp only [go_sem,simprocAttr];refine cG (aH8 ts h1) [] rfl (by omega) (by decide) ?_ rfl rfl rfl rfl ?_
 ·simp only [go_sem,simprocAttr]
 ·simp only [go_sem,simprocAttr,List.getElem?_nil];obtain ⟨C,hC⟩:∃ C:List ClipR→List ClipR,C=fun t=>t.map (fK f g):=⟨_,rfl⟩
  rw [← hC];refine aF (fun (i:Nat) σ => zD 0 (aC9 (qE C ts i)) (cJ 12 (aC i) (bN [5,6,7,14,15,16,17,18,19,20,21,22,23,24,25,26,27,28,29,30,31,32,33,34,35,36,37,38,39,40,41,42,43,44,45,46,47,48,49,50,51,52,53,54] (bK σ)))) (fun i=>i≤ts.length) (fun i=>ts.length - i) 0 (aB ?_) (by omega) ?_
  ·simp only [go_sem,simprocAttr];simp [qE]
  ·intro i hi;refine aD _ ?_;simp only [go_sem,simprocAttr];refine ⟨fun hlt=>?_,fun hge=>?_⟩
   ·simp only [bxx] at hlt;have hil:i<ts.length:=by omega
    obtain ⟨L,hL⟩:∃ L,L=ts.getD i default:=⟨_,rfl⟩
    have hLm:L∈ts:=by rw [hL];exact aW hil
    obtain ⟨q1,q2⟩:=h2 L hLm;have hnt:∀ d,nth d ((qE C ts i).map dA) i=dA L:=fun d=>by
     unfold nth;have e0:=Gk C hil;rw [List.getD_eq_getElem?_getD] at e0;have hlt2:i<(qE C ts i).length:=by rw [tU];exact hil
     rw [List.getElem?_eq_getElem hlt2,Option.getD_some] at e0;rw [List.getElem?_map,List.getElem?_eq_getElem hlt2,e0, ← hL];rfl
    have hml:=tU C ts i;unfold awS;simp only [go_sem,simprocAttr,hnt,hml,List.length_map];refine ⟨⟨by omega,by omega⟩,by omega,cG (aHa L q1) [] rfl (by omega) (by decide) ?_ rfl rfl rfl rfl ?_⟩
    ·simp only [go_sem,simprocAttr]
    ·simp only [go_sem,simprocAttr,List.getElem?_nil,hml,List.length_map];refine ⟨⟨by omega,by omega⟩,by omega,?_⟩;obtain ⟨R,hR⟩:∃ R,R=(aL ((qE C ts i).map dA)).set i [V.own 1]:=⟨_,rfl⟩
     have hRl:R.length=ts.length:=by rw [hR,List.length_set];unfold aL;rw [List.length_map,List.length_map,hml]
     have hRn:∀ d,qD d R i = [V.own 1]:=fun d=>by
      unfold qD;rw [hR,List.getElem?_set_self (by unfold aL;rw [List.length_map,List.length_map,hml];exact hil)];rfl
     have hRo:wW R=true:=by rw [hR];exact Dx _ _ (by rw [List.length_map,hml];exact hil)
     rw [← hR];simp only [go_sem,simprocAttr,hRl,hRn];refine ⟨⟨by omega,by omega⟩,by omega,?_⟩;refine aF (fun (j:Nat) σ => zD 1 (Hu (qE (fK f g) L j)) (cJ 27 (aC j) (bN [7,28,29,30,31,32,33,34,35,36,37,38,39,40,41,42,43,44,45,46,47,48,49,50,51,52,53,54] (bK σ)))) (fun j=>j≤L.length) (fun j=>L.length - j) 0 (aB ?_) (by omega) ?_
     ·simp only [go_sem,simprocAttr,hRo];refine ⟨by simp,rfl,?_⟩;rw [hR];exact ⟨by simp,vN (k:=1) _ _ (by rfl) _ _⟩
     ·intro j hj;refine aD _ ?_;simp only [go_sem,simprocAttr];refine ⟨fun hlt2=>?_,fun hge2=>?_⟩
      ·simp only [bxx] at hlt2;have hjl:j<L.length:=by omega
       have hn2:∀ d,nth d ((qE (fK f g) L j).map ClipR.c) j=ClipR.c (L.getD j default):=fun d=>by
        unfold nth;have e0:=Gk (fK f g) hjl;rw [List.getD_eq_getElem?_getD] at e0;have hlt3:j<(qE (fK f g) L j).length:=by rw [tU];exact hjl
        rw [List.getElem?_eq_getElem hlt3,Option.getD_some] at e0;rw [List.getElem?_map,List.getElem?_eq_getElem hlt3,e0];rfl
       have hml2:=tU (fK f g) L j;unfold awS;simp only [go_sem,simprocAttr];refine aK 17 .done rfl (by kernel_rfl) (by kernel_rfl) (by decide) ?_;simp only [go_sem,simprocAttr,hRl,hRn,hn2,hml2,List.length_map];refine ⟨⟨by omega,by omega⟩,by omega,⟨by omega,by omega⟩,by omega,⟨by omega,by omega⟩,by omega,_,aKz _ (q2 _ (aW hjl)),?_⟩;simp only [go_sem,simprocAttr,hRl,hRn,hn2,hml2,List.length_map];rw [aPv (L:=qE (fK f g) L j) (j:=j) (by rw [tU];exact hjl)]
       ·rw [gK,List.length_map,hml2];refine ⟨⟨by omega,by omega⟩,by omega,by kernel_rfl,⟨by omega,by omega⟩,by omega,⟨by omega,by omega⟩,?_⟩;refine gN Tryz.X80 (cG (cSwap2 f g (qE (fK f g) L j) j (by rw [tU];exact hjl)) [1] rfl (by omega) (by decide) ?_ rfl rfl rfl rfl ?_)
        ·simp only [go_sem,simprocAttr]
        ·have eM:=Re (fK f g) hjl;rw [Gk (fK f g) hjl];simp only [go_sem,simprocAttr];refine ⟨j+1,aB ?_,by omega,by omega⟩;simp only [go_sem,simprocAttr,hRo];rw [show (qE (fK f g) L j).set j (uF f g (L.getD j default) 2)=qE (fK f g) L (j+1) from eM,bX (show j<9223372036854775807 by omega)];refine ⟨⟨by simp,rfl,by simp,?_⟩,by simp⟩;rw [hR];exact vN (k:=1) _ _ (by rfl) _ _
       ·rw [Gk _ hjl];rfl
      ·simp only [bxx] at hge2;have:j=L.length:=by omega
       subst this;unfold awS;simp only [go_sem,simprocAttr];rw [Rf];refine ⟨i+1,aN [(0,some 0)] ?_,by omega,by omega⟩;simp only [go_sem,simprocAttr];have hfR:lendRs (aX [(1,Hu (L.map (fK f g))),(0, .row 27 1 (dA []) R)] 6) R=some ((qE C ts (i+1)).map dA):=by
        have hk:aX [(1,Hu (L.map (fK f g))),(0, .row 27 1 (dA []) R)] 6 (.own 1)=some (eD (L.map (fK f g))):=by
         simp only [go_sem,simprocAttr]<;>rfl
        conv=>lhs;rw [hR]
        rw [Ef (fun a=>by simp only [aX]) (by rw [← hR];exact hk)];have e0:=Re C hil;rw [← hL] at e0;rw [← e0,List.map_set,hC];rfl
       have hfr:reachRs (nR [(1,Hu (L.map (fK f g))),(0, .row 27 1 (dA []) R)] 8) R = [1]:=by
        conv=>lhs;rw [hR]
        rw [zK (fun x=>Ga _ _ x) _ _ (by rw [List.length_map,hml];exact hil)];simp only [go_sem,simprocAttr]
       rw [hfR,hfr,bX (show i<9223372036854775807 by omega)];simp only [go_sem,simprocAttr];simp
   ·simp only [bxx] at hge;have:i=ts.length:=by omega
    subst this;unfold awS;simp only [go_sem,simprocAttr];rw [Rf]
end Go.Proofs.YtbfnemkngoaeeaaGreat
