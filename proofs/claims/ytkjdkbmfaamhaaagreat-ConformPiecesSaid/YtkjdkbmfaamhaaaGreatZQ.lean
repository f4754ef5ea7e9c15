/- Proved here: Plain laws of moved and shortened clips: they are valid, for use in the proofs of the given statements; conditions stand in each theorem. -/
import Derived.Test.YtkjdkbmfaamhaaaGreatZM
import Derived.Test.YtkjdkbmfaamhaaaGreatY8
set_option linter.unusedSimpArgs false
set_option linter.unusedVariables false
set_option linter.unusedSectionVars false
set_option linter.unnecessarySimpa false
namespace Go.Proofs.YtkjdkbmfaamhaaaGreat
open Go.RowKit
set_option maxRecDepth 4000
theorem kindOk_cases {c:ClipR} (h:kindOk c=true):c.kind=0∨c.kind=1∨c.kind=2∨c.kind=3∨c.kind=4∨c.kind=5:=by have:=kindOk_range h;omega
theorem kindOk_like {c d:ClipR} (h:kindOk c=true) (hk:d.kind=c.kind) (ha:c.a.isZ=true→d.a.isZ=true) (hb:c.b.isZ=true→d.b.isZ=true) (hp:d.param=c.param) (ht:d.text=c.text) (hg:d.gain=c.gain) (hc:d.chan=c.chan)
  (hn:shK c.kind=false→noShare c=true→noShare d=true) (hs:shK c.kind=true→shareOk c=true→shareOk d=true):kindOk d=true:=by
 rcases kindOk_cases h with e | e | e | e | e | e
 ·rw [kind0 e] at h
  rw [kind0 (hk.trans e),hp,ht,hg,hc]
  rw [e] at hn hs
  simp only [Bool.and_eq_true] at h ⊢
  obtain ⟨⟨⟨⟨⟨⟨x1,x2⟩,x3⟩,x4⟩,x5⟩,x6⟩,x7⟩:=h
  exact ⟨⟨⟨⟨⟨⟨ha x1,hb x2⟩,hn rfl x3⟩,x4⟩,x5⟩,x6⟩,x7⟩
 ·rw [kind1 e] at h
  rw [kind1 (hk.trans e),hp,ht]
  rw [e] at hn hs
  simp only [Bool.and_eq_true] at h ⊢
  obtain ⟨⟨⟨x2,x3⟩,x4⟩,x5⟩:=h
  exact ⟨⟨⟨hb x2,hn rfl x3⟩,x4⟩,x5⟩
 ·rw [kind2 e] at h
  rw [kind2 (hk.trans e),hp,ht]
  rw [e] at hn hs
  simp only [Bool.and_eq_true] at h ⊢
  obtain ⟨⟨x3,x4⟩,x5⟩:=h
  exact ⟨⟨hs rfl x3,x4⟩,x5⟩
 ·rw [kind3 e] at h
  rw [kind3 (hk.trans e),hp,ht]
  rw [e] at hn hs
  simp only [Bool.and_eq_true] at h ⊢
  obtain ⟨⟨⟨x3,x4⟩,x5⟩,x6⟩:=h
  exact ⟨⟨⟨hs rfl x3,x4⟩,x5⟩,x6⟩
 ·rw [kind4 e] at h
  rw [kind4 (hk.trans e),hp,ht]
  rw [e] at hn hs
  simp only [Bool.and_eq_true] at h ⊢
  obtain ⟨⟨⟨x3,x4⟩,x5⟩,x6⟩:=h
  exact ⟨⟨⟨hn rfl x3,x4⟩,x5⟩,x6⟩
 ·rw [kind5 e] at h
  rw [kind5 (hk.trans e),hp,ht]
  rw [e] at hn hs
  simp only [Bool.and_eq_true] at h ⊢
  obtain ⟨⟨⟨x2,x3⟩,x4⟩,x5⟩:=h
  exact ⟨⟨⟨hb x2,hn rfl x3⟩,x4⟩,x5⟩
theorem vClip_mk {d:ClipR} (h1 : 1≤d.len) (h2:d.len≤2147483647) (h3 : 0≤d.gain) (h4:d.gain≤65536) (h5:vChans d.chan=true) (h6:vSource d.a=true) (h7:vSource d.b=true) (h8:kindOk d=true):vClip d=true:=by
 unfold vClip baseOk
 rw [h5,h6,h7,h8,decide_eq_true h1,decide_eq_true h2,decide_eq_true h3,decide_eq_true h4]
 rfl
theorem noShare_off {c d:ClipR} (h1:d.off=c.off) (h2:d.total=c.total) (h:noShare c=true):noShare d=true:=by unfold noShare at h ⊢; rw [h1,h2];exact h
def smallS (s:SourceR):Prop:=s.isZ=true∨(s.pos.num.natAbs≤1000000∧s.speed.num.natAbs≤1000000)
open Go.RowKit
set_option maxRecDepth 4000
def pkA (c:ClipR):List ClipR→List ClipR
 | []=>[c]
 | q::l=>if contC c q=true then pkA { c with len:=c.len+q.len } l else c::pkA q l
def pk:List ClipR→List ClipR
 | []=>[]
 | c::l=>pkA c l
def Src2 (c:ClipR):Prop:=vSource c.a=true∧vSource c.b=true
def NoC:List ClipR→Prop
 | []=>True
 | [_]=>True
 | c::d::l=>contC c d=false∧NoC (d::l)
section
variable {t:List ClipR} (hv:vTrack t=true) (hfit:∀ c∈t,c.fit)
include hv hfit
end
section
variable {t:List ClipR} (hv:vTrack t=true) (hfit:∀ c∈t,c.fit)
include hv hfit
end
open Go.RowKit
set_option maxRecDepth 4000
def Small (s:SourceR):Prop:=s.pos.num.natAbs≤100000∧s.pos.den.natAbs≤100000∧s.speed.num.natAbs≤100000
theorem small_z:Small zSource:=⟨by decide,by decide,by decide⟩
theorem ratOk_small {r q:RatR} (h:ratOk r q=true) {kd:Int} {nm:ByteArray} {sm:Bool}:Small ⟨kd,nm,r,q,sm⟩:=by
 unfold ratOk at h
 simp only [Bool.and_eq_true,decide_eq_true_eq] at h
 exact ⟨h.1.1.1.2,h.1.1.2,h.1.2⟩
theorem srcAt_small (L:List Int) (k:Nat) (m s:Int):Small (srcAt L k m s).1:=by
 unfold srcAt
 split
 ·exact small_z
 ·split
  ·exact ratOk_small (tape_rat L _ _)
  ·split
   ·exact ratOk_small (tape_rat L _ _)
   ·exact small_z
theorem clipAt_small (L:List Int) (k:Nat) (m s:Int):Small (clipAt L k m s).1.a∧Small (clipAt L k m s).1.b∧1≤(clipAt L k m s).1.len∧(clipAt L k m s).1.len≤9:=by
 have n9:=tapeN_lt (L:=L) (k:=k) (n:=9) (by omega)
 have hl : 1≤1+tapeN L k 9∧1+tapeN L k 9≤9:=by omega
 have h1:=srcAt_small L (k+2) m s
 have h2:=srcAt_small L (srcAt L (k+2) m s).2 m s
 unfold clipAt
 simp only
 split
 ·exact ⟨small_z,small_z,hl⟩
 ·split
  ·split<;>exact ⟨h1,h2,hl⟩
  ·split
   ·exact ⟨h1,h2,hl⟩
   ·split<;>exact ⟨h1,small_z,hl⟩
def one1:RatR:=⟨1,1⟩
def splitB (c:ClipR):Bool:=(c.kind != 2)&&(c.kind != 3)&&c.a.speed.eqb one1&&c.b.isZ
def splitD (c:ClipR) (n:Int):ClipR := { c with len:=n,a := { c.a with pos := { c.a.pos with num:=c.a.pos.num+c.len*c.a.pos.den } } }
def trkStep (L:List Int) (k:Nat) (m s:Int):List ClipR×Nat :=
 if tapeN L (clipAt L k m s).2 4=0 then
  (if splitB (clipAt L k m s).1=true then [(clipAt L k m s).1,splitD (clipAt L k m s).1 (1+tapeN L ((clipAt L k m s).2+1) 4)] else [(clipAt L k m s).1],(clipAt L k m s).2+2)
 else ([(clipAt L k m s).1],(clipAt L k m s).2+1)
def trkGo (L:List Int) (m s:Int):Nat→Nat→List ClipR×Nat
 | 0,k=>([],k)
 | n+1,k=>((trkStep L k m s).1++(trkGo L m s n (trkStep L k m s).2).1,(trkGo L m s n (trkStep L k m s).2).2)
def trkAt (L:List Int) (k:Nat) (m s most:Int):List ClipR×Nat:=trkGo L m s (tapeN L k (most+1)).toNat (k+1)
def trackT (L:List Int):List ClipR:=(trkAt L 0 3 2 9).1
structure Nice (c:ClipR):Prop where
 ok:vClip c=true
 fit:c.fit
 sa:smallS c.a
 sb:smallS c.b
 l9:c.len≤9
 chan:c.chan = []
theorem small_S {s:SourceR} (h:Small s):smallS s := .inr ⟨by have:=h.1;omega,by have:=h.2.2;omega⟩
theorem clipAt_nice (L:List Int) (k:Nat) (m s:Int) (hm:m≤9) (hs:s≤9):Nice (clipAt L k m s).1:=by
 obtain ⟨h1,h2⟩:=clipAt_ok L k m s hm hs
 obtain ⟨h3,h4,h5,h6⟩:=clipAt_small L k m s
 exact ⟨h1,h2,small_S h3,small_S h4,h6,clipAt_chan L k m s⟩
theorem splitB_inv {c:ClipR} (h:splitB c=true):c.kind≠2∧c.kind≠3∧c.a.speed=one1∧c.b.isZ=true:=by
 unfold splitB at h
 simp only [Bool.and_eq_true,bne_iff_ne,ne_eq] at h
 obtain ⟨⟨⟨h1,h2⟩,h3⟩,h4⟩:=h
 refine ⟨h1,h2,?_,h4⟩
 unfold RatR.eqb at h3
 simp only [Bool.and_eq_true,beq_iff_eq] at h3
 cases hsp:c.a.speed with
 | mk n d =>
  rw [hsp] at h3
  obtain ⟨h5,h6⟩:=h3
  simp only [one1] at h5 h6
  rw [h5,h6]
  rfl
theorem split_nice {c:ClipR} (h:Nice c) (hs:Small c.a) (hb:splitB c=true) {n:Int} (n0 : 1≤n) (n1:n≤4):Nice (splitD c n):=by
 obtain ⟨k2,k3,hsp,hbz⟩:=splitB_inv hb
 obtain ⟨v1,v2,v3,v4,v5,v6,v7,v8⟩:=vClip_parts h.ok
 have hz:c.a.isZ=false:=by
  rw [Bool.eq_false_iff]
  intro hz
  have e:=SourceR.eqb_iff.1 hz
  rw [e] at hsp
  cases hsp
 obtain ⟨p,d,ok⟩:=srcOk_of v6 hz
 obtain ⟨q1,q2,q3⟩:=hs
 have hl9:=h.l9
 have hp:=ok.hp
 have p1:=ok.p1
 have hpd:c.a.pos.den.natAbs=p:=by rw [hp,Int.natAbs_natCast]
 rw [hpd] at q2
 have hb1 : 0≤c.len*c.a.pos.den∧c.len*c.a.pos.den≤900000:=by
  rw [hp]
  have:c.len*(p:Int)≤9*100000:=Int.mul_le_mul (by omega) (by omega) (by omega) (by omega)
  exact ⟨Int.mul_nonneg (by omega) (by omega),by omega⟩
 have hk:c.a.kind≠0:=by rcases ok.kind with h | h<;>omega
 have hz2:(splitD c n).a.isZ=false:=isZ_kind hk
 have hg:Nat.gcd (c.a.pos.num+c.len*c.a.pos.den).natAbs c.a.pos.den.natAbs=1:=by
  have h1:=ok.pos
  unfold vRat at h1
  simp only [Bool.and_eq_true,decide_eq_true_eq] at h1
  have h2:Int.gcd (c.a.pos.num+c.len*c.a.pos.den) c.a.pos.den=Int.gcd c.a.pos.num c.a.pos.den:=Int.gcd_add_mul_right_left _ _ _
  exact h2.trans h1.2
 have hva:vSource (splitD c n).a=true:=by
  unfold vSource
  rw [hz2]
  have e1:vRat (splitD c n).a.pos=true:=by
   unfold vRat
   have f1 : 1≤(splitD c n).a.pos.den:=by show 1≤c.a.pos.den;omega
   have f2 : -9223372036854775808<(splitD c n).a.pos.num:=by show _<c.a.pos.num+c.len*c.a.pos.den;omega
   rw [decide_eq_true f1,decide_eq_true f2]
   exact decide_eq_true hg
  have e2:vWith (splitD c n).a.pos 1099511627776=true:=by
   unfold vWith
   refine decide_eq_true ?_
   show ((c.a.pos.num+c.len*c.a.pos.den).natAbs:Int)≤1099511627776*c.a.pos.den
   omega
  have e3:decide (lcmS (splitD c n).a≤65536)=true:=by
   have:lcmS (splitD c n).a=Nat.lcm p d:=by unfold lcmS splitD;simp only;rw [hpd,ok.hd,Int.natAbs_natCast]
   rw [this]
   exact decide_eq_true ok.lcm
  have e4:vRat (splitD c n).a.speed=true:=ok.speed
  have e5:vWith (splitD c n).a.speed 1024=true:=ok.wspeed
  have e6:vName (splitD c n).a.name=true:=ok.name
  rw [e1,e2,e3,e4,e5,e6]
  have e7:(splitD c n).a.kind=1∨(splitD c n).a.kind=2:=ok.kind
  rcases e7 with h | h<;>simp [h]
 have hok:vClip (splitD c n)=true:=by
  refine vClip_mk n0 (by show n≤_;omega) v3 v4 v5 hva v7 ?_
  refine kindOk_like v8 rfl (fun h=>?_) (fun h=>h) rfl rfl rfl rfl (fun hs hn=>noShare_off (c:=c) rfl rfl hn) (fun hs hn=>?_)
  ·rw [hz] at h;cases h
  ·unfold shK at hs
   have:c.kind=2∨c.kind=3:=by simpa using hs
   omega
 refine ⟨hok,⟨⟨by show _≤n;omega,by show n≤_;omega⟩,h.fit.kind,⟨h.fit.a.kind,⟨⟨?_,?_⟩,h.fit.a.pos.den⟩,h.fit.a.speed⟩,h.fit.b,h.fit.off,h.fit.total,h.fit.param,h.fit.gain⟩, .inr ⟨?_,?_⟩,h.sb,by show n≤9;omega,h.chan⟩
 ·show _≤c.a.pos.num+c.len*c.a.pos.den;omega
 ·show c.a.pos.num+c.len*c.a.pos.den≤_;omega
 ·show (c.a.pos.num+c.len*c.a.pos.den).natAbs≤_;omega
 ·show c.a.speed.num.natAbs≤_;omega
theorem trkStep_facts (L:List Int) (k:Nat) (m s:Int) (hm:m≤9) (hs:s≤9):(∀ c∈(trkStep L k m s).1,Nice c)∧(trkStep L k m s).1.length≤2∧(trkStep L k m s).2≤k+19∧1≤(trkStep L k m s).1.length:=by
 have h1:=clipAt_nice L k m s hm hs
 have h2:=(clipAt_small L k m s).1
 have h3:=clipAt_le L k m s
 have h4:=tapeN_lt (L:=L) (k:=(clipAt L k m s).2+1) (n:=4) (by omega)
 unfold trkStep
 split
 ·split
  ·rename_i hb
   refine ⟨fun c hc=>?_,by simp,by simp only;omega,by simp⟩
   simp only [List.mem_cons,List.not_mem_nil,or_false] at hc
   rcases hc with rfl | rfl
   ·exact h1
   ·exact split_nice h1 h2 hb (by omega) (by omega)
  ·refine ⟨fun c hc=>?_,by simp,by simp only;omega,by simp⟩
   simp only [List.mem_cons,List.not_mem_nil,or_false] at hc
   rw [hc];exact h1
 ·refine ⟨fun c hc=>?_,by simp,by simp only;omega,by simp⟩
  simp only [List.mem_cons,List.not_mem_nil,or_false] at hc
  rw [hc];exact h1
theorem trkGo_facts (L:List Int) (m s:Int) (hm:m≤9) (hs:s≤9):∀ (n k:Nat),(∀ c∈(trkGo L m s n k).1,Nice c)∧(trkGo L m s n k).1.length≤2*n
 | 0,k=>⟨fun c hc=>by simp [trkGo] at hc,by simp [trkGo]⟩
 | n+1,k=>by
  obtain ⟨h1,h2⟩:=trkGo_facts L m s hm hs n (trkStep L k m s).2
  obtain ⟨h3,h4,_,_⟩:=trkStep_facts L k m s hm hs
  simp only [trkGo]
  refine ⟨fun c hc=>?_,by simp only [List.length_append];omega⟩
  rcases List.mem_append.1 hc with hc | hc
  ·exact h3 c hc
  ·exact h1 c hc
theorem totL_nine:∀ (l:List ClipR),(∀ c∈l,c.len≤9)→totL l≤9*l.length
 | [],_=>by simp [totL]
 | c::l,h=>by
  have h1:=totL_nine l fun d hd=>h d (by simp [hd])
  have h2:=h c (by simp)
  simp only [totL,List.length_cons]
  omega
theorem trkAt_facts (L:List Int) (k:Nat) (m s most:Int) (hm:m≤9) (hs:s≤9) (h0 : 0≤most) (h9:most≤9):(∀ c∈(trkAt L k m s most).1,Nice c)∧(trkAt L k m s most).1.length≤18:=by
 obtain ⟨h1,h2⟩:=trkGo_facts L m s hm hs (tapeN L k (most+1)).toNat (k+1)
 have h3:=tapeN_lt (L:=L) (k:=k) (n:=most+1) (by omega)
 exact ⟨h1,by unfold trkAt;omega⟩
theorem vTrack_nice {t:List ClipR} (h:∀ c∈t,Nice c) (hl:t.length≤64):vTrack t=true:=by
 have h1:=totL_nine t fun c hc=>(h c hc).l9
 unfold vTrack
 rw [decide_eq_true hl,decide_eq_true (by omega:totL t≤2147483647),List.all_eq_true.2 fun c hc=>(h c hc).ok]
 rfl
open Go.RowKit
set_option maxRecDepth 4000
end Go.Proofs.YtkjdkbmfaamhaaaGreat
