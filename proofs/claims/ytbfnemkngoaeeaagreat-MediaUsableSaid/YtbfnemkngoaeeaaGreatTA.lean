/- Proved here: Rows of which one cell is a row of one's own, for use in the proofs of the given statements; conditions stand in each theorem. -/
import Derived.Test.YtbfnemkngoaeeaaGreatZH
import Derived.Test.YtbfnemkngoaeeaaGreatZG
import Derived.Test.YtbfnemkngoaeeaaGreatTB
import Derived.Test.YtbfnemkngoaeeaaGreatYJ
import Derived.Test.YtbfnemkngoaeeaaGreatYG
set_option linter.unusedSimpArgs false
set_option linter.unusedVariables false
set_option linter.unusedSectionVars false
set_option linter.unnecessarySimpa false
namespace Go.Proofs.YtbfnemkngoaeeaaGreat
open Go.RowKit
set_option maxRecDepth 4000
theorem wkVs_t (ρ : Ren) (h:Heap):∀ x:List T,wkVs ρ h (x.map V.t) (x.map V.t)
 | []=>by simp only [List.map_nil,wkVs]
 | a::x=>by
  simp only [List.map_cons,wkVs,wkV]
  exact ⟨wkE_refl a,wkVs_t ρ h x⟩
theorem wkVss_t (ρ : Ren) (h:Heap):∀ xs:List (List T),wkVss ρ h (tRows xs) (tRows xs)
 | []=>trivial
 | x::xs=>⟨wkVs_t ρ h x,wkVss_t ρ h xs⟩
theorem wkVss_put (ρ : Ren) (h:Heap) {k:Nat} (hk : ρ.look k=some (some k)):∀ (xs:List (List T)) (i:Nat),wkVss ρ h ((tRows xs).set i [.own k]) ((tRows xs).set i [.own k])
 | [],_=>trivial
 | x::xs,0=>by
  refine ⟨?_,wkVss_t ρ h xs⟩
  simp only [wkVs,wkV,and_true]
  exact hk
 | x::xs,i+1=>⟨wkVs_t ρ h x,wkVss_put ρ h hk xs i⟩
theorem rowOwn_put {k:Nat}:∀ (xs:List (List T)) (i:Nat),i<xs.length→rowOwn ((tRows xs).set i [.own k])=true
 | [],_,h=>absurd h (by simp)
 | x::xs,0,_=>rfl
 | x::xs,i+1,h=>by
  have:=rowOwn_put (k:=k) xs i (by simpa using h)
  show (_||rowOwn ((tRows xs).set i [.own k]))=true
  rw [this,Bool.or_true]
theorem lendCs_tt {f:V→Option T} (hf:∀ a,f (.t a)=some a):∀ x:List T,lendCs f (x.map V.t)=some x
 | []=>rfl
 | a::x=>by
  simp only [List.map_cons,lendCs,hf,lendCs_tt hf x]
theorem lendRs_tt {f:V→Option T} (hf:∀ a,f (.t a)=some a):∀ xs:List (List T),lendRs f (tRows xs)=some xs
 | []=>rfl
 | x::xs=>by
  show lendRs f (x.map V.t::tRows xs)=_
  simp only [lendRs,lendCs_tt hf,lendRs_tt hf xs]
theorem lendRs_put {f:V→Option T} (hf:∀ a,f (.t a)=some a) {k:Nat} {t:T} (hk:f (.own k)=some t):∀ (xs:List (List T)) (i:Nat),lendRs f ((tRows xs).set i [.own k])=some (xs.set i [t])
 | [],_=>rfl
 | x::xs,0=>by
  show lendRs f ([.own k]::tRows xs)=_
  simp only [lendRs,lendCs,hk,lendRs_tt hf xs]
  rfl
 | x::xs,i+1=>by
  show lendRs f (x.map V.t::(tRows xs).set i [.own k])=_
  simp only [lendRs,lendCs_tt hf,lendRs_put hf hk xs i]
  rfl
theorem reachRs_put {f:V→List Nat} (hf:∀ x,f (.t x) = []) {k:Nat}:∀ (xs:List (List T)) (i:Nat),i<xs.length→reachRs f ((tRows xs).set i [.own k])=f (.own k)
 | [],_,h=>absurd h (by simp)
 | x::xs,0,_=>by
  show reachL f [.own k]++reachRs f (tRows xs)=_
  rw [reachRs_t f hf xs]
  simp only [reachL,List.append_nil]
 | x::xs,i+1,h=>by
  show reachL f (x.map V.t)++reachRs f ((tRows xs).set i [.own k])=_
  rw [reachL_t f hf x,List.nil_append]
  exact reachRs_put hf xs i (by simpa using h)
open Go.RowKit
set_option maxRecDepth 4000
def chgS (f g:ByteArray) (x:SourceR):SourceR:=if (x.kind==1&&x.name.toList==f.toList)=true then { x with name:=g } else x
def chgP (f g:ByteArray) (c:ClipR):Nat→ClipR
 | 0=>c
 | 1 => { c with a:=chgS f g c.a }
 | _ => { c with a:=chgS f g c.a,b:=chgS f g c.b }
theorem set_again (L:List ClipR) (n:Nat) (x y:ClipR) {r:List T} (h:r=ClipR.c y):((L.set n x).map ClipR.c).set n r=(L.set n y).map ClipR.c:=by
 rw [h,List.map_set,List.set_set,List.map_set]
open Go.RowKit
set_option maxRecDepth 4000
def chgC (f g:ByteArray) (c:ClipR):ClipR:=chgP f g c 2
def chgT (f g:ByteArray) (ts:List (List ClipR)):List (List ClipR):=ts.map fun t=>t.map (chgC f g)
def chgQ (f g:ByteArray) (s:SequenceR):SequenceR := { s with video:=chgT f g s.video,sound:=chgT f g s.sound }
def swapT (p:ProjR) (f g:ByteArray):ProjR:=⟨p.media,p.seqs.map (chgQ f g)⟩
theorem chgC_eq (f g:ByteArray) (c:ClipR):chgC f g c = { c with a:=chgS f g c.a,b:=chgS f g c.b }:=rfl
theorem chgS_cond {f:ByteArray} {x:SourceR}:((x.kind==1&&x.name.toList==f.toList)=true) ↔ (x.kind=1∧x.name=f):=by
 simp only [Bool.and_eq_true,beq_iff_eq]
 exact ⟨fun h=>⟨h.1,ByteArray.ext (Array.ext' (by simpa [ByteArray.toList_eq] using h.2))⟩,fun h=>⟨h.1,by rw [h.2]⟩⟩
theorem chgS_no {f g:ByteArray} {x:SourceR} (h : ¬ (x.kind=1∧x.name=f)):chgS f g x=x:=by
 unfold chgS
 rw [if_neg (fun q=>h (chgS_cond.1 q))]
theorem chgS_yes {f g:ByteArray} {x:SourceR} (h:x.kind=1∧x.name=f):chgS f g x = { x with name:=g }:=by
 unfold chgS
 rw [if_pos (chgS_cond.2 h)]
theorem chgS_kind (f g:ByteArray) (x:SourceR):(chgS f g x).kind=x.kind∧(chgS f g x).smooth=x.smooth∧(chgS f g x).pos=x.pos∧(chgS f g x).speed=x.speed:=by
 unfold chgS
 split<;>exact ⟨rfl,rfl,rfl,rfl⟩
theorem chgS_name (f g:ByteArray) (x:SourceR):(chgS f g x).name=x.name∨(x.kind=1∧(chgS f g x).name=g):=by
 by_cases h:x.kind=1∧x.name=f
 ·rw [chgS_yes h]
  exact .inr ⟨h.1,rfl⟩
 ·rw [chgS_no h]
  exact .inl rfl
theorem chgS_isZ (f g:ByteArray) (x:SourceR):(chgS f g x).isZ=x.isZ:=by
 by_cases h:x.kind=1∧x.name=f
 ·rw [isZ_kind (s:=x) (by omega),isZ_kind (by rw [(chgS_kind f g x).1];omega)]
 ·rw [chgS_no h]
theorem chgS_ok {f g:ByteArray} {x:SourceR} (hg:vName g=true) (h:vSource x=true):vSource (chgS f g x)=true:=by
 by_cases hc:x.kind=1∧x.name=f
 ·unfold vSource at h ⊢
  rw [chgS_isZ]
  rw [isZ_kind (s:=x) (by omega),Bool.false_or] at h ⊢
  rw [chgS_yes hc]
  simp only [Bool.and_eq_true] at h ⊢
  refine ⟨?_,h.2⟩
  refine ⟨?_,h.1.2⟩
  refine ⟨?_,h.1.1.2⟩
  refine ⟨?_,h.1.1.1.2⟩
  refine ⟨?_,h.1.1.1.1.2⟩
  exact ⟨h.1.1.1.1.1.1,hg⟩
 ·rw [chgS_no hc]
  exact h
theorem chgC_kindOk (f g:ByteArray) (c:ClipR):kindOk (chgC f g c)=kindOk c:=by
 unfold kindOk noShare shareOk
 rw [chgC_eq]
 simp only [chgS_isZ]
theorem chgC_ok {f g:ByteArray} {c:ClipR} (hg:vName g=true) (h:vClip c=true):vClip (chgC f g c)=true:=by
 unfold vClip baseOk at h ⊢
 rw [chgC_kindOk,chgC_eq]
 simp only [Bool.and_eq_true] at h ⊢
 exact ⟨⟨⟨h.1.1.1,chgS_ok hg h.1.1.2⟩,chgS_ok hg h.1.2⟩,h.2⟩
theorem chgC_totL (f g:ByteArray):∀ t:List ClipR,totL (t.map (chgC f g))=totL t
 | []=>rfl
 | c::t=>by
  simp only [List.map_cons,totL,chgC_totL f g t]
  rfl
theorem chgC_vTrack {f g:ByteArray} {t:List ClipR} (hg:vName g=true) (h:vTrack t=true):vTrack (t.map (chgC f g))=true:=by
 unfold vTrack at h ⊢
 rw [chgC_totL,List.length_map]
 simp only [Bool.and_eq_true,List.all_eq_true] at h ⊢
 refine ⟨⟨h.1.1,fun c hc=>?_⟩,h.2⟩
 obtain ⟨d,hd,rfl⟩:=List.mem_map.1 hc
 exact chgC_ok hg (h.1.2 d hd)
theorem chgC_aud (f g:ByteArray) (ch:Int) (c:ClipR):audB ch (chgC f g c)=audB ch c:=by
 unfold audB
 rw [chgC_eq]
 simp only [(chgS_kind f g c.a).2.1,(chgS_kind f g c.b).2.1]
theorem chgQ_ok {f g:ByteArray} {s:SequenceR} (hg:vName g=true) (h:seqOk s=true):seqOk (chgQ f g s)=true:=by
 unfold seqOk at h ⊢
 simp only [Bool.and_eq_true,List.all_eq_true] at h ⊢
 refine ⟨⟨h.1.1,fun t ht=>?_⟩,fun t ht=>?_⟩
 ·obtain ⟨u,hu,rfl⟩:=List.mem_map.1 ht
  have:=h.1.2 u hu
  unfold vidOk at this ⊢
  simp only [Bool.and_eq_true,List.all_eq_true] at this ⊢
  refine ⟨chgC_vTrack hg this.1,fun c hc=>?_⟩
  obtain ⟨d,hd,rfl⟩:=List.mem_map.1 hc
  exact this.2 d hd
 ·obtain ⟨u,hu,rfl⟩:=List.mem_map.1 ht
  have:=h.2 u hu
  unfold sndOk at this ⊢
  simp only [Bool.and_eq_true,List.all_eq_true] at this ⊢
  refine ⟨chgC_vTrack hg this.1,fun c hc=>?_⟩
  obtain ⟨d,hd,rfl⟩:=List.mem_map.1 hc
  show audB s.channels (chgC f g d)=true
  rw [chgC_aud]
  exact this.2 d hd
theorem chgS_fit {f g:ByteArray} {x:SourceR} (h:x.fit):(chgS f g x).fit:=by
 unfold chgS
 split
 ·exact ⟨h.kind,h.pos,h.speed⟩
 ·exact h
theorem chgC_fit {f g:ByteArray} {c:ClipR} (h:c.fit):(chgC f g c).fit:=by
 rw [chgC_eq]
 exact ⟨h.len,h.kind,chgS_fit h.a,chgS_fit h.b,h.off,h.total,h.param,h.gain⟩
theorem chgQ_fit {f g:ByteArray} {s:SequenceR} (h:s.fit):(chgQ f g s).fit:=by
 refine ⟨h.rate,h.w,h.h,fun t ht c hc=>?_,fun t ht c hc=>?_,h.cues,h.channels⟩
 ·obtain ⟨u,hu,rfl⟩:=List.mem_map.1 ht
  obtain ⟨d,hd,rfl⟩:=List.mem_map.1 hc
  exact chgC_fit (h.video u hu d hd)
 ·obtain ⟨u,hu,rfl⟩:=List.mem_map.1 ht
  obtain ⟨d,hd,rfl⟩:=List.mem_map.1 hc
  exact chgC_fit (h.sound u hu d hd)
theorem swapT_fit {p:ProjR} (h:p.fit) (f g:ByteArray):(swapT p f g).fit:=by
 refine ⟨h.media,fun s hs=>?_⟩
 obtain ⟨q,hq,rfl⟩:=List.mem_map.1 hs
 exact chgQ_fit (h.seqs q hq)
theorem mem_srcs {s:SequenceR} {x:SourceR}:x∈srcsOf s ↔ (∃ t∈s.video++s.sound, ∃ c∈t,x=c.a∨x=c.b)∧x.isZ=false:=by
 unfold srcsOf srcsF clipsOf
 rw [List.mem_filter,List.mem_flatMap]
 constructor
 ·rintro ⟨⟨c,hc,hx⟩,hz⟩
  obtain ⟨t,ht,hct⟩:=List.mem_flatten.1 hc
  simp only [List.mem_cons,List.not_mem_nil,or_false] at hx
  exact ⟨⟨t,ht,c,hct,hx⟩,by simpa using hz⟩
 ·rintro ⟨⟨t,ht,c,hc,hx⟩,hz⟩
  refine ⟨⟨c,List.mem_flatten.2 ⟨t,ht,hc⟩,?_⟩,by simpa using hz⟩
  simpa using hx
theorem srcs_chg {f g:ByteArray} {s:SequenceR} {x:SourceR} (hx:x∈srcsOf (chgQ f g s)):∃ y∈srcsOf s,x=chgS f g y:=by
 obtain ⟨⟨t,ht,c,hc,hxc⟩,hz⟩:=mem_srcs.1 hx
 have ht2:∃ u∈s.video++s.sound,t=u.map (chgC f g):=by
  rcases List.mem_append.1 ht with ht | ht
  ·obtain ⟨u,hu,rfl⟩:=List.mem_map.1 ht
   exact ⟨u,List.mem_append_left _ hu,rfl⟩
  ·obtain ⟨u,hu,rfl⟩:=List.mem_map.1 ht
   exact ⟨u,List.mem_append_right _ hu,rfl⟩
 obtain ⟨u,hu,rfl⟩:=ht2
 obtain ⟨d,hd,rfl⟩:=List.mem_map.1 hc
 rw [chgC_eq] at hxc
 rcases hxc with rfl | rfl
 ·rw [chgS_isZ] at hz
  exact ⟨d.a,mem_srcs.2 ⟨⟨u,hu,d,hd, .inl rfl⟩,hz⟩,rfl⟩
 ·rw [chgS_isZ] at hz
  exact ⟨d.b,mem_srcs.2 ⟨⟨u,hu,d,hd, .inr rfl⟩,hz⟩,rfl⟩
theorem seqs_at {p:ProjR} {f g:ByteArray} {j:Nat} (hj:j<p.seqs.length):(swapT p f g).seqs.getD j default=chgQ f g (p.seqs.getD j default):=by
 unfold swapT
 simp only
 rw [List.getD_eq_getElem?_getD,List.getElem?_map,List.getElem?_eq_getElem hj,getD_of_lt hj]
 rfl
theorem layered_swap {p:ProjR} (h:Layered p) {f g:ByteArray} (hg:vName g=true) (hm:∃ i,i<p.media.length∧(p.media.getD i default).name=g):Layered (swapT p f g):=by
 have hl:(swapT p f g).seqs.length=p.seqs.length:=by unfold swapT;simp
 have hsm:=h.small
 unfold smallB at hsm
 simp only [Bool.and_eq_true,List.all_eq_true] at hsm
 have hok:=h.ok
 simp only [Bool.and_eq_true,List.all_eq_true] at hok
 refine ⟨?_,?_,h.nm,?_,by rw [hl];exact h.le,fun j hj x hx hk=>?_,fun j hj x hx hk=>?_⟩
 ·unfold smallB
  simp only [Bool.and_eq_true,List.all_eq_true]
  refine ⟨⟨⟨hsm.1.1.1,by rw [hl];exact hsm.1.1.2⟩,hsm.1.2⟩,fun s hs=>?_⟩
  obtain ⟨q,hq,rfl⟩:=List.mem_map.1 hs
  have:=hsm.2 q hq
  unfold seqSmall at this ⊢
  unfold chgQ chgT
  simpa using this
 ·simp only [Bool.and_eq_true,List.all_eq_true]
  refine ⟨hok.1,fun s hs=>?_⟩
  obtain ⟨q,hq,rfl⟩:=List.mem_map.1 hs
  exact chgQ_ok hg (hok.2 q hq)
 ·have:(swapT p f g).seqs.map SequenceR.name=p.seqs.map SequenceR.name:=by
   unfold swapT
   simp only
   rw [List.map_map]
   rfl
  rw [this]
  exact h.ns
 ·rw [hl] at hj
  rw [seqs_at hj] at hx
  obtain ⟨y,hy,rfl⟩:=srcs_chg hx
  rw [(chgS_kind f g y).1] at hk
  rcases chgS_name f g y with e | ⟨_,e⟩
  ·rw [e]
   exact h.m1 j hj y hy hk
  ·rw [e]
   exact hm
 ·rw [hl] at hj
  rw [seqs_at hj] at hx
  obtain ⟨y,hy,rfl⟩:=srcs_chg hx
  rw [(chgS_kind f g y).1] at hk
  have hn:(chgS f g y).name=y.name:=by
   rw [chgS_no (fun q=>by rw [hk] at q;exact absurd q.1 (by decide))]
  obtain ⟨i,hi,e⟩:=h.s2 j hj y hy hk
  refine ⟨i,hi,?_⟩
  rw [hn,seqs_at (by omega)]
  exact e
open Go.RowKit
set_option maxRecDepth 4000
abbrev strP (s:ByteArray):V := .elem 1 [tstr s] [[tstr s]] 0 0
theorem cSwap2 (f g:ByteArray) (L:List ClipR) (n:Nat) (hn:n<L.length):CIO Tryz.prog 80 1 [(0,RowC L)] [.rptr 0 22 n 0,strP f,strP g] (.tup [])
  [(0,RowC (L.set n (chgP f g (L.getD n default) 2)))] 1:=by
 refine cio_of Tryz.xen80 Tryz.func80 rfl Tryz.ntmps80 (by rw [Tryz.results80]) (aw_ok _ ?_)
 simp only [go_sem,simprocAttr]
 refine drawC_of 8 .done rfl (by kernel_rfl) (by kernel_rfl) (by decide) ?_
 simp only [go_sem,simprocAttr]
 refine ⟨by kernel_rfl,?_⟩
 obtain ⟨c,hc⟩:∃ c,c=L.getD n default:=⟨_,rfl⟩
 rw [← hc]
 refine awp_loop_f (fun (i:Nat) σ => setB 0 (RowC (L.set n (chgP f g c i))) (setS 13 (vint i) (deadS [5,14,15,16,17,18,19,20,21,22,23,24,25,26,27,28,29,30,31,32,33] (cleanS σ)))) (fun i=>i≤2) (fun i=>2 - i) 0 (weak_self ?_) (by omega) ?_
 ·simp only [go_sem,simprocAttr]
  have e0:L.set n (chgP f g c 0)=L:=set_same hn (by rw [hc,getD_of_lt hn];rfl)
  rw [e0]
  exact ⟨by simp,rfl⟩
 ·intro i hi
  refine aw_ok _ ?_
  simp only [go_sem,simprocAttr]
  have hnx:∀ x d,nth d ((L.set n x).map ClipR.c) n=ClipR.c x:=fun x d=>by
   unfold nth
   rw [List.getElem?_map,List.getElem?_set_self (by omega)]
   rfl
  have hll:∀ x:ClipR,(L.set n x).length=L.length:=fun x=>List.length_set
  refine ⟨fun hlt=>?_,fun hge=>?_⟩
  ·simp only [bxx] at hlt
   rcases (show i=0∨i=1 by omega) with rfl | rfl
   ·unfold awS
    simp only [go_sem,simprocAttr]
    refine drawR_of [0,1,2,3,4,5,6,7,8,9,10,11,12] .done rfl (by kernel_rfl) (by kernel_rfl) (by decide) ?_
    simp only [go_sem,simprocAttr,hnx,hll]
    refine ⟨hn,fun _=>hn,fun h1=>?_,fun h1=>?_⟩
    ·have e1:chgP f g c 1 = { chgP f g c 0 with a := { (chgP f g c 0).a with name:=g } }:=by
      show { chgP f g c 0 with a:=chgS f g (chgP f g c 0).a }=_
      unfold chgS
      rw [if_pos h1]
     unfold awS
     simp only [go_sem,simprocAttr,hnx,hll]
     refine ⟨hn,1,weak_self ?_,by omega,by omega⟩
     simp only [go_sem,simprocAttr]
     rw [e1]
     exact ⟨⟨by simp,set_again L n _ _ rfl⟩,by rw [wrap64 (x:=1) (by omega) (by omega)]⟩
    ·have e1:chgP f g c 1=chgP f g c 0:=by
      show { chgP f g c 0 with a:=chgS f g (chgP f g c 0).a }=_
      unfold chgS
      rw [if_neg (by rw [h1];decide)]
     unfold awS
     simp only [go_sem,simprocAttr]
     refine ⟨1,weak_self ?_,by omega,by omega⟩
     simp only [go_sem,simprocAttr]
     rw [e1]
     exact ⟨⟨by simp,rfl⟩,by rw [wrap64 (x:=1) (by omega) (by omega)]⟩
   ·unfold awS
    simp only [go_sem,simprocAttr]
    refine drawR_of [0,1,2,3,4,5,6,7,8,9,10,11,12] .done rfl (by kernel_rfl) (by kernel_rfl) (by decide) ?_
    simp only [go_sem,simprocAttr,hnx,hll]
    refine ⟨hn,fun _=>hn,fun h1=>?_,fun h1=>?_⟩
    ·have e1:chgP f g c 2 = { chgP f g c 1 with b := { (chgP f g c 1).b with name:=g } }:=by
      show { chgP f g c 1 with b:=chgS f g (chgP f g c 1).b }=_
      unfold chgS
      rw [if_pos h1]
     unfold awS
     simp only [go_sem,simprocAttr,hnx,hll]
     refine ⟨hn,2,weak_self ?_,by omega,by omega⟩
     simp only [go_sem,simprocAttr]
     rw [e1]
     exact ⟨⟨by simp,set_again L n _ _ rfl⟩,by rw [wrap64 (x:=2) (by omega) (by omega)]⟩
    ·have e1:chgP f g c 2=chgP f g c 1:=by
      show { chgP f g c 1 with b:=chgS f g (chgP f g c 1).b }=_
      unfold chgS
      rw [if_neg (by rw [h1];decide)]
     unfold awS
     simp only [go_sem,simprocAttr]
     refine ⟨2,weak_self ?_,by omega,by omega⟩
     simp only [go_sem,simprocAttr]
     rw [e1]
     exact ⟨⟨by simp,rfl⟩,by rw [wrap64 (x:=2) (by omega) (by omega)]⟩
  ·simp only [bxx] at hge
   have:i=2:=by omega
   subst this
   unfold awS
   simp only [go_sem,simprocAttr]
   refine weak_self ?_
   simp only [go_sem,simprocAttr]
   simp
open Go.RowKit
set_option maxRecDepth 4000
def mixT {α : Type} (h : α → α) (l:List α) (i:Nat):List α := (l.take i).map h++l.drop i
theorem mixT_len {α : Type} (h : α → α) (l:List α) (i:Nat):(mixT h l i).length=l.length:=by
 unfold mixT
 rw [List.length_append,List.length_map,List.length_take,List.length_drop]
 omega
theorem mixT_at {α : Type} [Inhabited α] (h : α → α) {l:List α} {i:Nat} (hi:i<l.length):(mixT h l i).getD i default=l.getD i default:=by
 rw [List.getD_eq_getElem?_getD,List.getD_eq_getElem?_getD]
 unfold mixT
 rw [List.getElem?_append_right (by rw [List.length_map,List.length_take];omega),List.getElem?_drop,List.length_map,List.length_take]
 congr 2
 omega
theorem mixT_set {α : Type} [Inhabited α] (h : α → α) {l:List α} {i:Nat} (hi:i<l.length):(mixT h l i).set i (h (l.getD i default))=mixT h l (i+1):=by
 unfold mixT
 have e:l.drop i=l.getD i default::l.drop (i+1):=by rw [List.drop_eq_getElem_cons hi,getD_of_lt hi]
 rw [e,List.set_append_right _ _ (by rw [List.length_map,List.length_take];omega)]
 have e2:i - ((l.take i).map h).length=0:=by simp [Nat.min_eq_left (Nat.le_of_lt hi)]
 rw [e2,List.set_cons_zero,take_snoc hi,List.map_append,List.append_assoc]
 rfl
theorem rows_same {L:List ClipR} {j:Nat} (hj:j<L.length) {r:List V} (h:r=(ClipR.c (L.getD j default)).map V.t):(tRows (L.map ClipR.c)).set j r=tRows (L.map ClipR.c):=by
 refine set_same (by unfold tRows;rw [List.length_map,List.length_map];exact hj) ?_
 rw [h,getD_of_lt hj]
 unfold tRows
 rw [List.getElem_map,List.getElem_map]
theorem mixT_zero {α : Type} (h : α → α) (l:List α):mixT h l 0=l:=rfl
theorem mixT_all {α : Type} (h : α → α) (l:List α):mixT h l l.length=l.map h:=by
 unfold mixT
 rw [List.take_length,List.drop_length,List.append_nil]
set_option maxHeartbeats 4000000 in
theorem cChanged (f g:ByteArray) (ts:List (List ClipR)) (h1:ts.length≤65536) (h2:∀ t∈ts,t.length≤65536 ∧ ∀ c∈t,c.chan.length≤65536) :
  CPure Tryz.prog 84 [.t (ttracks ts), .clo 80 [strP f,strP g]] (.t (ttracks (ts.map fun t=>t.map (chgC f g)))):=by
 refine cpure_of Tryz.xen84 Tryz.func84 rfl Tryz.ntmps84 (by rw [Tryz.results84]) (aw_ok _ ?_)
 simp only [go_sem,simprocAttr]
 refine icall_io (cCloneTr ts h1) [] rfl (by omega) (by decide) ?_ rfl rfl rfl rfl ?_
 ·simp only [go_sem,simprocAttr]
 ·simp only [go_sem,simprocAttr,List.getElem?_nil]
  obtain ⟨C,hC⟩:∃ C:List ClipR→List ClipR,C=fun t=>t.map (chgC f g):=⟨_,rfl⟩
  rw [← hC]
  refine awp_loop_f (fun (i:Nat) σ => setB 0 (RowT (mixT C ts i)) (setS 12 (vint i) (deadS [5,6,7,14,15,16,17,18,19,20,21,22,23,24,25,26,27,28,29,30,31,32,33,34,35,36,37,38,39,40,41,42,43,44,45,46,47,48,49,50,51,52,53,54] (cleanS σ)))) (fun i=>i≤ts.length) (fun i=>ts.length - i) 0 (weak_self ?_) (by omega) ?_
  ·simp only [go_sem,simprocAttr]
   simp [mixT]
  ·intro i hi
   refine aw_ok _ ?_
   simp only [go_sem,simprocAttr]
   refine ⟨fun hlt=>?_,fun hge=>?_⟩
   ·simp only [bxx] at hlt
    have hil:i<ts.length:=by omega
    obtain ⟨L,hL⟩:∃ L,L=ts.getD i default:=⟨_,rfl⟩
    have hLm:L∈ts:=by rw [hL];exact mem_getD hil
    obtain ⟨q1,q2⟩:=h2 L hLm
    have hnt:∀ d,nth d ((mixT C ts i).map trackC) i=trackC L:=fun d=>by
     unfold nth
     have e0:=mixT_at C hil
     rw [List.getD_eq_getElem?_getD] at e0
     have hlt2:i<(mixT C ts i).length:=by rw [mixT_len];exact hil
     rw [List.getElem?_eq_getElem hlt2,Option.getD_some] at e0
     rw [List.getElem?_map,List.getElem?_eq_getElem hlt2,e0, ← hL]
     rfl
    have hml:=mixT_len C ts i
    unfold awS
    simp only [go_sem,simprocAttr,hnt,hml,List.length_map]
    refine ⟨⟨by omega,by omega⟩,by omega,icall_io (cCloneCl L q1) [] rfl (by omega) (by decide) ?_ rfl rfl rfl rfl ?_⟩
    ·simp only [go_sem,simprocAttr]
    ·simp only [go_sem,simprocAttr,List.getElem?_nil,hml,List.length_map]
     refine ⟨⟨by omega,by omega⟩,by omega,?_⟩
     obtain ⟨R,hR⟩:∃ R,R=(tRows ((mixT C ts i).map trackC)).set i [V.own 1]:=⟨_,rfl⟩
     have hRl:R.length=ts.length:=by rw [hR,List.length_set];unfold tRows;rw [List.length_map,List.length_map,hml]
     have hRn:∀ d,nthV d R i = [V.own 1]:=fun d=>by
      unfold nthV
      rw [hR,List.getElem?_set_self (by unfold tRows;rw [List.length_map,List.length_map,hml];exact hil)]
      rfl
     have hRo:rowOwn R=true:=by rw [hR];exact rowOwn_put _ _ (by rw [List.length_map,hml];exact hil)
     rw [← hR]
     simp only [go_sem,simprocAttr,hRl,hRn]
     refine ⟨⟨by omega,by omega⟩,by omega,?_⟩
     refine awp_loop_f (fun (j:Nat) σ => setB 1 (RowC (mixT (chgC f g) L j)) (setS 27 (vint j) (deadS [7,28,29,30,31,32,33,34,35,36,37,38,39,40,41,42,43,44,45,46,47,48,49,50,51,52,53,54] (cleanS σ)))) (fun j=>j≤L.length) (fun j=>L.length - j) 0 (weak_self ?_) (by omega) ?_
     ·simp only [go_sem,simprocAttr,hRo]
      refine ⟨by simp,rfl,?_⟩
      rw [hR]
      exact ⟨by simp,wkVss_put (k:=1) _ _ (by rfl) _ _⟩
     ·intro j hj
      refine aw_ok _ ?_
      simp only [go_sem,simprocAttr]
      refine ⟨fun hlt2=>?_,fun hge2=>?_⟩
      ·simp only [bxx] at hlt2
       have hjl:j<L.length:=by omega
       have hn2:∀ d,nth d ((mixT (chgC f g) L j).map ClipR.c) j=ClipR.c (L.getD j default):=fun d=>by
        unfold nth
        have e0:=mixT_at (chgC f g) hjl
        rw [List.getD_eq_getElem?_getD] at e0
        have hlt3:j<(mixT (chgC f g) L j).length:=by rw [mixT_len];exact hjl
        rw [List.getElem?_eq_getElem hlt3,Option.getD_some] at e0
        rw [List.getElem?_map,List.getElem?_eq_getElem hlt3,e0]
        rfl
       have hml2:=mixT_len (chgC f g) L j
       unfold awS
       simp only [go_sem,simprocAttr]
       refine drawC_of 17 .done rfl (by kernel_rfl) (by kernel_rfl) (by decide) ?_
       simp only [go_sem,simprocAttr,hRl,hRn,hn2,hml2,List.length_map]
       refine ⟨⟨by omega,by omega⟩,by omega,⟨by omega,by omega⟩,by omega,⟨by omega,by omega⟩,by omega,_,cClone _ (q2 _ (mem_getD hjl)),?_⟩
       simp only [go_sem,simprocAttr,hRl,hRn,hn2,hml2,List.length_map]
       rw [rows_same (L:=mixT (chgC f g) L j) (j:=j) (by rw [mixT_len];exact hjl)]
       ·rw [tRows_len,List.length_map,hml2]
        refine ⟨⟨by omega,by omega⟩,by omega,by kernel_rfl,⟨by omega,by omega⟩,by omega,⟨by omega,by omega⟩,?_⟩
        refine lcall_io Tryz.xen80 (icall_io (cSwap2 f g (mixT (chgC f g) L j) j (by rw [mixT_len];exact hjl)) [1] rfl (by omega) (by decide) ?_ rfl rfl rfl rfl ?_)
        ·simp only [go_sem,simprocAttr]
        ·have eM:=mixT_set (chgC f g) hjl
         rw [mixT_at (chgC f g) hjl]
         simp only [go_sem,simprocAttr]
         refine ⟨j+1,weak_self ?_,by omega,by omega⟩
         simp only [go_sem,simprocAttr,hRo]
         rw [show (mixT (chgC f g) L j).set j (chgP f g (L.getD j default) 2)=mixT (chgC f g) L (j+1) from eM,wrap1 (show j<9223372036854775807 by omega)]
         refine ⟨⟨by simp,rfl,by simp,?_⟩,by simp⟩
         rw [hR]
         exact wkVss_put (k:=1) _ _ (by rfl) _ _
       ·rw [mixT_at _ hjl]
        rfl
      ·simp only [bxx] at hge2
       have:j=L.length:=by omega
       subst this
       unfold awS
       simp only [go_sem,simprocAttr]
       rw [mixT_all]
       refine ⟨i+1,weak_of [(0,some 0)] ?_,by omega,by omega⟩
       simp only [go_sem,simprocAttr]
       have hfR:lendRs (lendC [(1,RowC (L.map (chgC f g))),(0, .row 27 1 (trackC []) R)] 6) R=some ((mixT C ts (i+1)).map trackC):=by
        have hk:lendC [(1,RowC (L.map (chgC f g))),(0, .row 27 1 (trackC []) R)] 6 (.own 1)=some (tclips (L.map (chgC f g))):=by
         simp only [go_sem,simprocAttr]<;>rfl
        conv=>lhs;rw [hR]
        rw [lendRs_put (fun a=>by simp only [lendC]) (by rw [← hR];exact hk)]
        have e0:=mixT_set C hil
        rw [← hL] at e0
        rw [← e0,List.map_set,hC]
        rfl
       have hfr:reachRs (reach [(1,RowC (L.map (chgC f g))),(0, .row 27 1 (trackC []) R)] 8) R = [1]:=by
        conv=>lhs;rw [hR]
        rw [reachRs_put (fun x=>reach_t _ _ x) _ _ (by rw [List.length_map,hml];exact hil)]
        simp only [go_sem,simprocAttr]
       rw [hfR,hfr,wrap1 (show i<9223372036854775807 by omega)]
       simp only [go_sem,simprocAttr]
       simp
   ·simp only [bxx] at hge
    have:i=ts.length:=by omega
    subst this
    unfold awS
    simp only [go_sem,simprocAttr]
    rw [mixT_all]
end Go.Proofs.YtbfnemkngoaeeaaGreat
