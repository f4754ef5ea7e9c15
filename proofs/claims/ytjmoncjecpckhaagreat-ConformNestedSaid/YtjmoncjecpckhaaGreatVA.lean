/- Proved here: What a track sounds at a sample, in plain Lean, for use in the proofs of the given statements; conditions stand in each theorem. -/
import Derived.Test.YtjmoncjecpckhaaGreatWB
set_option linter.unusedSimpArgs false
set_option linter.unusedVariables false
set_option linter.unusedSectionVars false
set_option linter.unnecessarySimpa false
namespace Go.Proofs.YtjmoncjecpckhaaGreat
open Go.RowKit
set_option maxRecDepth 4000
def pcmAt (l:List Int) (j:Int):Int:=if 0≤j then l.getD j.toNat 0 else 0
def near (x:Int) (q:Rat):Int:=((x:Rat)*q+1 / 2).floor
structure SndE where
 rate:ByteArray→Rat
 chs:ByteArray→List (List Int)
def lerpV (p:List Int) (y:Rat):Int:=pcmAt p y.floor+near (pcmAt p (y.floor+1) - pcmAt p y.floor) (y - y.floor)
def chanV (l:List (List Int)) (c:Int) (y:Rat):Int :=
 if c<0 then 0 else match l[c.toNat]? with
  | none=>0
  | some p=>lerpV p y
def posQ (s:SourceR) (k:Rat):Rat:=toQ s.pos+k*toQ s.speed
def posY (E:SndE) (s:SourceR) (k:Rat):Rat:=posQ s k*(48000 / E.rate s.name)
def srcS (E:SndE) (s:SourceR) (k:Rat) (c:Int):Int:=if s.kind=0 then 0 else chanV (E.chs s.name) c (posY E s k)
def gainV (z g:Int):Int:=(z*g+2048) / 4096
def shareQ (x:ClipR) (k:Rat):Rat:=(k+x.off+1) / (x.total+1)
def mixV (E:SndE) (x:ClipR) (k:Rat) (c:Int):Int :=
 if x.kind=2 then srcS E x.a k c+near (srcS E x.b k c - srcS E x.a k c) (shareQ x k) else srcS E x.a k c
def clipV (E:SndE) (x:ClipR) (k:Rat) (c:Nat):Int:=gainV (mixV E x k (x.chan.getD c 0)) x.gain
def clampV (x:Int):Int:=max (-32768) (min 32767 x)
def ownF (r:RatR) (s:Int):Int:=((2*s+1)*r.num - 1) / (96000*r.den)
def timeQ (r:RatR) (s:Int):Rat:=(s:Rat)*r.num / (48000*r.den)
def frmV (E:SndE) (F:List ClipR) (r:RatR) (s:Int) (c:Nat):Int :=
 if ownF r s<0 then 0 else match F[(ownF r s).toNat]? with
  | none=>0
  | some x=>if x.kind=0 then 0 else clipV E x (timeQ r s - ownF r s) c
def smpV (E:SndE) (ts:List (List ClipR)) (r:RatR) (s:Int) (c:Nat):Int:=clampV ((ts.map fun t=>frmV E (fr t) r s c).sum)
theorem floor_int (j:Int):(j:Rat).floor=j:=by simp
theorem floor_of {x:Rat} {j:Int} (h:(j:Rat)≤x) (h2:x<(j:Rat)+1):x.floor=j:=by
 have h1:j≤x.floor:=Rat.le_floor_iff.2 h
 have h3:x.floor<j+1:=Rat.floor_lt_iff.2 (by simpa using h2)
 omega
theorem near_zero (x:Int):near x 0=0:=by
 unfold near
 exact floor_of (by grind) (by grind)
theorem near_of_zero (q:Rat):near 0 q=0:=by
 unfold near
 exact floor_of (by grind) (by grind)
theorem gain_unit (z:Int):gainV z 4096=z:=by
 unfold gainV
 omega
theorem lerp_int (p:List Int) (j:Int):lerpV p (j:Rat)=pcmAt p j:=by
 unfold lerpV
 rw [floor_int,show (j:Rat) - (j:Rat)=0 by grind,near_zero]
 omega
theorem int_succ (x:Int):((x+1:Int):Rat)=(x:Rat)+1:=by simp
theorem near_le {x:Int} {q:Rat} (h0 : 0≤q) (h1:q≤1) (hx : 0≤x) : 0≤near x q∧near x q≤x:=by
 have hxq:(0:Rat)≤x:=by exact_mod_cast hx
 have a1:(0:Rat)≤(x:Rat)*q:=Rat.mul_nonneg hxq h0
 have a2:(x:Rat)*q≤x:=by
  have:=Rat.mul_le_mul_of_nonneg_left (c:=(x:Rat)) h1 hxq
  grind
 unfold near
 refine ⟨Rat.le_floor_iff.2 (by grind),?_⟩
 have:((x:Rat)*q+1 / 2).floor<x+1:=Rat.floor_lt_iff.2 (by rw [int_succ];grind)
 omega
theorem near_ge {x:Int} {q:Rat} (h0 : 0≤q) (h1:q≤1) (hx:x≤0):x≤near x q∧near x q≤0:=by
 have hxq:(x:Rat)≤0:=by exact_mod_cast hx
 have a1:(x:Rat)*q≤0:=by
  have:=Rat.mul_nonneg (a := -(x:Rat)) (b:=q) (by grind) h0
  grind
 have a2:(x:Rat)≤(x:Rat)*q:=by
  have:=Rat.mul_le_mul_of_nonneg_left (c := -(x:Rat)) h1 (by grind)
  grind
 unfold near
 refine ⟨Rat.le_floor_iff.2 (by grind),?_⟩
 have:((x:Rat)*q+1 / 2).floor<1:=Rat.floor_lt_iff.2 (by rw [Rat.intCast_one];grind)
 omega
theorem near_between {u v:Int} {q:Rat} (h0 : 0≤q) (h1:q≤1):min u v≤u+near (v - u) q∧u+near (v - u) q≤max u v:=by
 rcases Int.le_total u v with h | h
 ·have:=near_le (x:=v - u) h0 h1 (by omega)
  omega
 ·have:=near_ge (x:=v - u) h0 h1 (by omega)
  omega
def I16s (l:List Int):Prop := ∀ z∈l, -32768≤z∧z≤32767
theorem pcmAt_i16 {l:List Int} (h:I16s l) (j:Int) : -32768≤pcmAt l j∧pcmAt l j≤32767:=by
 unfold pcmAt
 split
 ·rcases Nat.lt_or_ge j.toNat l.length with h1 | h1
  ·rw [List.getD_eq_getElem?_getD,List.getElem?_eq_getElem h1]
   exact h _ (List.getElem_mem h1)
  ·rw [List.getD_eq_getElem?_getD,List.getElem?_eq_none h1]
   decide
 ·decide
theorem frac_le (y:Rat) : 0≤y - (y.floor:Rat)∧y - (y.floor:Rat)≤1:=by
 have h1:=Rat.floor_le y
 have h2:=Rat.lt_floor_add_one y
 grind
theorem lerp_i16 {l:List Int} (h:I16s l) (y:Rat) : -32768≤lerpV l y∧lerpV l y≤32767:=by
 obtain ⟨f0,f1⟩:=frac_le y
 have h1:=pcmAt_i16 h y.floor
 have h2:=pcmAt_i16 h (y.floor+1)
 unfold lerpV
 have:=near_between (u:=pcmAt l y.floor) (v:=pcmAt l (y.floor+1)) f0 f1
 omega
theorem chan_i16 {l:List (List Int)} (h:∀ p∈l,I16s p) (c:Int) (y:Rat) : -32768≤chanV l c y∧chanV l c y≤32767:=by
 unfold chanV
 split
 ·decide
 ·cases e:l[c.toNat]? with
  | none=>exact (show (-32768:Int)≤0∧(0:Int)≤32767 from by decide)
  | some p=>exact lerp_i16 (h p (List.mem_of_getElem? e)) y
theorem clamp_id {x:Int} (h : -32768≤x∧x≤32767):clampV x=x:=by
 unfold clampV
 omega
theorem posQ_moved {s:SourceR} (hv:vSource s=true) (hk:s.kind≠0) (o:Int) (k:Rat):posQ (movedS s o) k=posQ s (k+o):=by
 have hz:=isZ_kind hk
 unfold movedS
 rw [hz]
 unfold posQ movedQ wayQ
 simp only [Bool.false_eq_true,if_false,toQ_ofQ,toQ_int]
 grind
theorem movedS_name {s:SourceR} {n:Int}:(movedS s n).name=s.name:=by unfold movedS;split<;>rfl
theorem srcS_moved {E:SndE} {s:SourceR} (hv:vSource s=true) (o:Int) (k:Rat) (c:Int):srcS E (movedS s o) k c=srcS E s (k+o) c:=by
 unfold srcS posY
 rw [movedS_kind,movedS_name]
 by_cases hk:s.kind=0
 ·rw [if_pos hk,if_pos hk]
 ·rw [if_neg hk,if_neg hk,posQ_moved hv hk]
theorem clipV_one (E:SndE) {x:ClipR} (hv:vClip x=true) (o:Int) (k:Rat) (c:Nat):clipV E (one x o) k c=clipV E x (k+o) c:=by
 obtain ⟨v1,v2,v3,v4,v5,v6,v7,v8⟩:=vClip_parts hv
 unfold clipV mixV
 have e1:(one x o).chan=x.chan:=rfl
 have e2:(one x o).gain=x.gain:=rfl
 have e3:(one x o).kind=x.kind:=rfl
 have e4:(one x o).a=movedS x.a o:=rfl
 have e5:(one x o).b=movedS x.b o:=rfl
 rw [e1,e2,e3,e4,e5,srcS_moved v6,srcS_moved v7]
 by_cases hk:x.kind=2
 ·rw [if_pos hk,if_pos hk]
  have e6:shareQ (one x o) k=shareQ x (k+o):=by
   unfold shareQ
   have t1:(one x o).total=x.total:=rfl
   have t2:(one x o).off=x.off+o:=by
    show (if shK x.kind=true then x.off+o else x.off)=_
    rw [hk];rfl
   rw [t1,t2]
   have:((x.off+o:Int):Rat)=(x.off:Rat)+(o:Rat):=by simp
   rw [this]
   grind
  rw [e6]
 ·rw [if_neg hk,if_neg hk]
open Go.RowKit
set_option maxRecDepth 4000
theorem frm_lt {E:SndE} {F:List ClipR} {r:RatR} {s:Int} {c:Nat} (h:ownF r s<0):frmV E F r s c=0:=by
 unfold frmV
 rw [if_pos h]
theorem frm_ge {E:SndE} {F:List ClipR} {r:RatR} {s:Int} {c:Nat} (h:(F.length:Int)≤ownF r s):frmV E F r s c=0:=by
 unfold frmV
 rw [if_neg (by omega),List.getElem?_eq_none (by omega)]
theorem frm_at {E:SndE} {F:List ClipR} {r:RatR} {s:Int} {c:Nat} {x:ClipR} (h0 : 0≤ownF r s) (h:F[(ownF r s).toNat]? = some x):frmV E F r s c=if x.kind=0 then 0 else clipV E x (timeQ r s - ownF r s) c:=by
 unfold frmV
 rw [if_neg (by omega),h]
theorem frC_at (x:ClipR) {k:Int} (h0 : 0≤k) (h1:k<x.len):(frC x)[k.toNat]? = some (one x k):=by
 unfold frC
 rw [List.getElem?_map,List.getElem?_range (by omega)]
 simp only [Option.map_some]
 congr 2
 omega
theorem frC_len2 (x:ClipR):(frC x).length=x.len.toNat:=by unfold frC;simp
theorem frm_single {E:SndE} {x:ClipR} (hv:vClip x=true) (hk:x.kind≠0) {r:RatR} {s:Int} (c:Nat) (h0 : 0≤ownF r s) (h1:ownF r s<x.len):frmV E (fr [x]) r s c=clipV E x (timeQ r s) c:=by
 have e:(fr [x])[(ownF r s).toNat]? = some (one x (ownF r s)):=by
  show (frC x ++ [])[_]? = _
  rw [List.append_nil,frC_at x h0 h1]
 rw [frm_at h0 e]
 have hk2:(one x (ownF r s)).kind=x.kind:=rfl
 rw [hk2,if_neg hk,clipV_one E hv]
 congr 1
 grind
theorem frm_behind {E:SndE} {x:ClipR} {g:Int} (hg : 0≤g) (hv:vClip x=true) (hk:x.kind≠0) {r:RatR} {s:Int} (c:Nat) (h0:g≤ownF r s) (h1:ownF r s<g+x.len):frmV E (fr [gapC g,x]) r s c=clipV E x (timeQ r s - g) c:=by
 have e:(fr [gapC g,x])[(ownF r s).toNat]? = some (one x (ownF r s - g)):=by
  show (frC (gapC g)++(frC x ++ []))[_]? = _
  have hl:(frC (gapC g)).length=g.toNat:=frC_len2 _
  rw [List.append_nil,List.getElem?_append_right (by omega),hl]
  have e2:(ownF r s).toNat - g.toNat=(ownF r s - g).toNat:=by omega
  rw [e2,frC_at x (by omega) (by omega)]
 rw [frm_at (by omega) e]
 have hk2:(one x (ownF r s - g)).kind=x.kind:=rfl
 rw [hk2,if_neg hk,clipV_one E hv]
 congr 1
 have:((ownF r s - g:Int):Rat)=(ownF r s:Rat) - (g:Rat):=by simp
 rw [this]
 grind
theorem frm_pad {E:SndE} {F G:List ClipR} (hG:∀ x∈G,x.kind=0) (r:RatR) (s:Int) (c:Nat):frmV E (F++G) r s c=frmV E F r s c:=by
 by_cases h0:ownF r s<0
 ·rw [frm_lt h0,frm_lt h0]
 ·rcases Nat.lt_or_ge (ownF r s).toNat F.length with h1 | h1
  ·unfold frmV
   rw [List.getElem?_append_left h1]
  ·rw [frm_ge (F:=F) (by omega)]
   unfold frmV
   rw [if_neg h0,List.getElem?_append_right h1]
   cases e:G[(ownF r s).toNat - F.length]? with
   | none=>rfl
   | some x =>
    simp only
    rw [if_pos (hG x (List.mem_of_getElem? e))]
def cutC (nm:ByteArray) (at0 sp:RatR) (len gain ch:Int):ClipR:=⟨len,1,⟨1,nm,at0,sp,false⟩,zSource,0,0,0,⟨#[]⟩,gain,[ch]⟩
theorem clip_cut (E:SndE) (nm:ByteArray) (at0 sp:RatR) (len gain ch:Int) (k:Rat):clipV E (cutC nm at0 sp len gain ch) k 0=gainV (chanV (E.chs nm) ch ((toQ at0+k*toQ sp)*(48000 / E.rate nm))) gain:=by
 unfold clipV mixV srcS posY posQ cutC
 simp
theorem chan_at {l:List (List Int)} {c:Nat} {p:List Int} (h:l[c]? = some p) (y:Rat):chanV l (c:Int) y=lerpV p y:=by
 unfold chanV
 rw [if_neg (by omega),Int.toNat_natCast,h]
theorem rat_ne {n:Int} (h:n≠0):(n:Rat)≠0:=by
 intro e
 exact h (by exact_mod_cast e)
theorem time_back {r:RatR} (hn:r.num≠0) (hd:r.den≠0) (s:Int):timeQ r s*(48000 / ((r.num:Rat) / r.den))=s:=by
 unfold timeQ
 have h1:=rat_ne hn
 have h2:=rat_ne hd
 grind
theorem cut_own {E:SndE} {nm:ByteArray} {r:RatR} (hn:r.num≠0) (hd:r.den≠0) (hr:E.rate nm=(r.num:Rat) / r.den) {c:Nat} {p:List Int} (hp:(E.chs nm)[c]? = some p) (len s:Int) :
  clipV E (cutC nm ⟨0,1⟩ ⟨1,1⟩ len 4096 c) (timeQ r s) 0=pcmAt p s:=by
 rw [clip_cut,gain_unit,chan_at hp,hr,toQ_int,toQ_int]
 have e:(((0:Int):Rat)+timeQ r s*((1:Int):Rat))*(48000 / ((r.num:Rat) / r.den))=(s:Rat):=by
  have:=time_back hn hd s
  simp only [Rat.intCast_zero,Rat.intCast_one]
  grind
 rw [e,lerp_int]
theorem own_range {r:RatR} {s n:Int} (hd : 0<r.den) (hn : 0<r.num) (h0 : 0≤s) (h1:(2*s+1)*r.num≤n*(96000*r.den)) : 0≤ownF r s∧ownF r s<n:=by
 unfold ownF
 have hp : 0<96000*r.den:=by omega
 have hm : 1≤(2*s+1)*r.num:=by
  have:=Int.mul_le_mul (show (1:Int)≤2*s+1 by omega) (show (1:Int)≤r.num by omega) (by omega) (by omega)
  omega
 refine ⟨Int.ediv_nonneg (by omega) (by omega),?_⟩
 exact Int.ediv_lt_of_lt_mul hp (by omega)
open Go.RowKit
set_option maxRecDepth 4000
theorem smp_one (E:SndE) (t:List ClipR) (r:RatR) (s:Int) (c:Nat):smpV E [t] r s c=clampV (frmV E (fr t) r s c):=by
 unfold smpV
 simp
theorem smp_two (E:SndE) (t u:List ClipR) (r:RatR) (s:Int) (c:Nat):smpV E [t,u] r s c=clampV (frmV E (fr t) r s c+frmV E (fr u) r s c):=by
 unfold smpV
 simp
theorem smp_swap (E:SndE) (t u:List ClipR) (r:RatR) (s:Int) (c:Nat):smpV E [t,u] r s c=smpV E [u,t] r s c:=by
 rw [smp_two,smp_two,Int.add_comm]
theorem own30 {r:RatR} {s n b:Int} (hd : 0<r.den) (hn : 0<r.num) (h30:r.num≤30*r.den) (h0 : 0≤s) (h1:s≤b) (hb:(2*b+1)*30≤n*96000) : 0≤ownF r s∧ownF r s<n:=by
 refine own_range hd hn h0 ?_
 have a1:(2*s+1)*r.num≤(2*b+1)*(30*r.den):=Int.mul_le_mul (by omega) h30 (by omega) (by omega)
 have a2:(2*b+1)*(30*r.den)=((2*b+1)*30)*r.den:=by rw [Int.mul_assoc]
 have a3:((2*b+1)*30)*r.den≤(n*96000)*r.den:=Int.mul_le_mul_of_nonneg_right hb (by omega)
 have a4:(n*96000)*r.den=n*(96000*r.den):=by rw [Int.mul_assoc]
 omega
theorem snd_cut {E:SndE} {nm:ByteArray} {at0 sp:RatR} {len:Int} {r:RatR} {c:Nat} {p:List Int} (hv:vClip (cutC nm at0 sp len 4096 c)=true) (hp:(E.chs nm)[c]? = some p) (hi:I16s p) {s:Int} (h0 : 0≤ownF r s) (h1:ownF r s<len) :
  smpV E [[cutC nm at0 sp len 4096 c]] r s 0=lerpV p ((toQ at0+timeQ r s*toQ sp)*(48000 / E.rate nm)):=by
 rw [smp_one,frm_single hv (by decide:(1:Int)≠0) 0 h0 h1,clip_cut,gain_unit,chan_at hp]
 exact clamp_id (lerp_i16 hi _)
theorem snd_gain {E:SndE} {nm:ByteArray} {at0 sp:RatR} {len g:Int} {r:RatR} {c:Nat} {p:List Int} (hv:vClip (cutC nm at0 sp len g c)=true) (hp:(E.chs nm)[c]? = some p) {s:Int} (h0 : 0≤ownF r s) (h1:ownF r s<len) :
  smpV E [[cutC nm at0 sp len g c]] r s 0=clampV (gainV (lerpV p ((toQ at0+timeQ r s*toQ sp)*(48000 / E.rate nm))) g):=by
 rw [smp_one,frm_single hv (by decide:(1:Int)≠0) 0 h0 h1,clip_cut,chan_at hp]
theorem toQ_neg1:toQ ⟨-1,1⟩ = -1:=by rw [toQ_int];rfl
theorem snd_back {E:SndE} {nm:ByteArray} {len:Int} {c:Nat} {p:List Int} (hv:vClip (cutC nm ⟨4,1⟩ ⟨-1,1⟩ len 4096 c)=true) (hp:(E.chs nm)[c]? = some p) (hi:I16s p) (hr:E.rate nm=25) {s:Int} (h0 : 0≤ownF ⟨25,1⟩ s) (h1:ownF ⟨25,1⟩ s<len) :
  smpV E [[cutC nm ⟨4,1⟩ ⟨-1,1⟩ len 4096 c]] ⟨25,1⟩ s 0=pcmAt p (7680 - s):=by
 rw [snd_cut hv hp hi h0 h1,hr,toQ_neg1,toQ_int]
 have e:(((4:Int):Rat)+timeQ ⟨25,1⟩ s*(-1))*(48000 / 25)=((7680 - s:Int):Rat):=by
  have e2:((7680 - s:Int):Rat)=7680 - (s:Rat):=by simp
  unfold timeQ
  rw [e2]
  have:((4:Int):Rat)=4:=rfl
  have:((25:Int):Rat)=25:=rfl
  have:((1:Int):Rat)=1:=rfl
  grind
 rw [e,lerp_int]
theorem snd_held {E:SndE} {nm:ByteArray} {len:Int} {c:Nat} {p:List Int} (hv:vClip (cutC nm ⟨2,1⟩ ⟨0,1⟩ len 4096 c)=true) (hp:(E.chs nm)[c]? = some p) (hi:I16s p) (hr:E.rate nm=25) {s:Int} (h0 : 0≤ownF ⟨25,1⟩ s) (h1:ownF ⟨25,1⟩ s<len) :
  smpV E [[cutC nm ⟨2,1⟩ ⟨0,1⟩ len 4096 c]] ⟨25,1⟩ s 0=pcmAt p 3840:=by
 rw [snd_cut hv hp hi h0 h1,hr,toQ_int,toQ_int]
 have e:(((2:Int):Rat)+timeQ ⟨25,1⟩ s*((0:Int):Rat))*(48000 / 25)=((3840:Int):Rat):=by
  have:((2:Int):Rat)=2:=rfl
  have:((0:Int):Rat)=0:=rfl
  have:((3840:Int):Rat)=3840:=rfl
  grind
 rw [e,lerp_int]
def mixC2 (na nb:ByteArray) (len off tot:Int):ClipR:=⟨len,2,⟨1,na,⟨0,1⟩,⟨1,1⟩,false⟩,⟨1,nb,⟨0,1⟩,⟨1,1⟩,false⟩,off,tot,0,⟨#[]⟩,4096,[0]⟩
theorem snd_mix {E:SndE} {na nb:ByteArray} {len off tot:Int} {r:RatR} (hv:vClip (mixC2 na nb len off tot)=true) {p q:List Int} (hp:(E.chs na)[0]? = some p) (hq:(E.chs nb)[0]? = some q) {s:Int} (h0 : 0≤ownF r s) (h1:ownF r s<len) (ip:I16s p) (iq:I16s q)
  (hk0 : 0≤timeQ r s) (hk1:timeQ r s≤len) (ho : 0≤off) (ht:off+len≤tot) (hn:r.num≠0) (hd:r.den≠0) (ra:E.rate na=(r.num:Rat) / r.den) (rb:E.rate nb=(r.num:Rat) / r.den) :
  min (pcmAt p s) (pcmAt q s)≤smpV E [[mixC2 na nb len off tot]] r s 0∧smpV E [[mixC2 na nb len off tot]] r s 0≤max (pcmAt p s) (pcmAt q s)∧(p=q→smpV E [[mixC2 na nb len off tot]] r s 0=pcmAt p s):=by
 have e0:(((0:Int):Rat)+timeQ r s*((1:Int):Rat))*(48000 / ((r.num:Rat) / r.den))=(s:Rat):=by
  have:=time_back hn hd s
  simp only [Rat.intCast_zero,Rat.intCast_one]
  grind
 have ea:srcS E (mixC2 na nb len off tot).a (timeQ r s) 0=pcmAt p s:=by
  unfold srcS posY posQ mixC2
  simp only
  rw [if_neg (by decide),ra,toQ_int,toQ_int,e0]
  have:=chan_at hp ((s:Int):Rat)
  rw [show ((0:Nat):Int)=0 from rfl] at this
  rw [this,lerp_int]
 have eb:srcS E (mixC2 na nb len off tot).b (timeQ r s) 0=pcmAt q s:=by
  unfold srcS posY posQ mixC2
  simp only
  rw [if_neg (by decide),rb,toQ_int,toQ_int,e0]
  have:=chan_at hq ((s:Int):Rat)
  rw [show ((0:Nat):Int)=0 from rfl] at this
  rw [this,lerp_int]
 have hval:clipV E (mixC2 na nb len off tot) (timeQ r s) 0=pcmAt p s+near (pcmAt q s - pcmAt p s) (shareQ (mixC2 na nb len off tot) (timeQ r s)):=by
  unfold clipV mixV
  rw [if_pos (show (mixC2 na nb len off tot).kind=2 from rfl)]
  have ec:(mixC2 na nb len off tot).chan.getD 0 0=0:=rfl
  have eg:(mixC2 na nb len off tot).gain=4096:=rfl
  rw [ec,eg,ea,eb,gain_unit]
 have hsh : 0≤shareQ (mixC2 na nb len off tot) (timeQ r s)∧shareQ (mixC2 na nb len off tot) (timeQ r s)≤1:=by
  unfold shareQ
  have e1:(mixC2 na nb len off tot).off=off:=rfl
  have e2:(mixC2 na nb len off tot).total=tot:=rfl
  rw [e1,e2]
  have o0:(0:Rat)≤(off:Rat):=by exact_mod_cast ho
  have t0:(off:Rat)+(len:Rat)≤(tot:Rat):=by exact_mod_cast ht
  have tp:(0:Rat)<(tot:Rat)+1:=by grind
  obtain ⟨t,hte⟩:∃ t:Rat,t=(timeQ r s+off+1) / ((tot:Rat)+1):=⟨_,rfl⟩
  have htm:t*((tot:Rat)+1)=timeQ r s+off+1:=by rw [hte];grind
  rw [← hte]
  refine ⟨?_,?_⟩
  ·by_cases h : 0≤t
   ·exact h
   ·exfalso
    have:=Rat.mul_pos (a := -t) (b:=(tot:Rat)+1) (by grind) tp
    grind
  ·by_cases h:t≤1
   ·exact h
   ·exfalso
    have:=Rat.mul_pos (a:=t - 1) (b:=(tot:Rat)+1) (by grind) tp
    grind
 have hb:=near_between (u:=pcmAt p s) (v:=pcmAt q s) hsh.1 hsh.2
 have hpi:=pcmAt_i16 ip s
 have hqi:=pcmAt_i16 iq s
 rw [smp_one,frm_single hv (by decide:(2:Int)≠0) 0 h0 h1,hval,clamp_id (by omega)]
 refine ⟨hb.1,hb.2,fun e=>?_⟩
 subst e
 rw [Int.sub_self,near_of_zero]
 omega
open Go.RowKit
set_option maxRecDepth 4000
def cutL (nm:ByteArray) (at0 sp:RatR) (len gain:Int) (chs:List Int):ClipR:=⟨len,1,⟨1,nm,at0,sp,false⟩,zSource,0,0,0,⟨#[]⟩,gain,chs⟩
def blackC (len gain:Int) (chs:List Int):ClipR:=⟨len,1,zSource,zSource,0,0,0,⟨#[]⟩,gain,chs⟩
theorem snd_same {E:SndE} {t u G:List ClipR} (h:fr u=fr t++G) (hG:∀ x∈G,x.kind=0) (r:RatR) (s:Int) (c:Nat):smpV E [u] r s c=smpV E [t] r s c:=by
 rw [smp_one,smp_one,h,frm_pad hG]
def rampL (n:Nat):List Int:=(List.range n).map fun k:Nat=>16*(k:Int) - 16384
theorem ramp_at {n:Nat} {j:Int} (h0 : 0≤j) (h1:j<n):pcmAt (rampL n) j=16*j - 16384:=by
 unfold pcmAt rampL
 rw [if_pos h0,List.getD_eq_getElem?_getD,List.getElem?_map,List.getElem?_range (by omega)]
 simp only [Option.map_some,Option.getD_some]
 omega
theorem ramp_i16 {n:Nat} (h:n≤2100):I16s (rampL n):=fun z hz=>by
 unfold rampL at hz
 obtain ⟨k,hk,rfl⟩:=List.mem_map.1 hz
 have:=List.mem_range.1 hk
 omega
theorem ramp_lerp {n:Nat} {y:Rat} (h0 : 0≤y) (h1:y<(n:Int) - 1) : 16*y - 1 / 2≤((lerpV (rampL n) y+16384:Int):Rat)∧((lerpV (rampL n) y+16384:Int):Rat)≤16*y+1 / 2:=by
 have hj0 : 0≤y.floor:=Rat.le_floor_iff.2 (by simpa using h0)
 have hj1:y.floor<(n:Int) - 1:=Rat.floor_lt_iff.2 (by simpa using h1)
 obtain ⟨f0,f1⟩:=frac_le y
 have e:lerpV (rampL n) y+16384=16*y.floor+near 16 (y - y.floor):=by
  unfold lerpV
  rw [ramp_at hj0 (by omega),ramp_at (by omega) (by omega)]
  have:(16*(y.floor+1) - 16384) - (16*y.floor - 16384)=16:=by omega
  rw [this]
  omega
 rw [e]
 have ec:((16*y.floor+near 16 (y - y.floor):Int):Rat)=16*(y.floor:Rat)+(near 16 (y - y.floor):Rat):=by
  simp
 rw [ec]
 unfold near
 have a1:=Rat.floor_le (((16:Int):Rat)*(y - (y.floor:Rat))+1 / 2)
 have a2:=Rat.lt_floor_add_one (((16:Int):Rat)*(y - (y.floor:Rat))+1 / 2)
 rw [int_succ] at a2
 have c16:((16:Int):Rat)=16:=rfl
 rw [c16] at a1 a2 ⊢
 generalize ((16*(y - (y.floor:Rat))+1 / 2).floor:Rat)=w at *
 generalize (y.floor:Rat)=f at *
 constructor<;>grind
def begS (r:RatR) (n:Int):Int:=(2*n*(48000*r.den)+r.num) / (2*r.num)
theorem beg_own {r:RatR} (hn : 0<r.num) (hd : 0<r.den) (h30:r.num≤30*r.den) (n:Int):ownF r (begS r n)=n:=by
 have h1:=Int.ediv_mul_le (2*n*(48000*r.den)+r.num) (show (2*r.num:Int)≠0 by omega)
 have h2:=Int.lt_ediv_add_one_mul_self (2*n*(48000*r.den)+r.num) (show (0:Int)<2*r.num by omega)
 have hs:(2*n*(48000*r.den)+r.num) / (2*r.num)=begS r n:=rfl
 rw [hs] at h1 h2
 generalize begS r n=s at *
 have q1 : 2*n*(48000*r.den)=n*(96000*r.den):=by
  rw [Int.mul_comm 2 n,Int.mul_assoc];congr 1;omega
 have q2:s*(2*r.num)=2*s*r.num:=by rw [Int.mul_comm 2 s,Int.mul_assoc]
 have q3:(s+1)*(2*r.num)=2*s*r.num+2*r.num:=by rw [Int.add_mul,q2];omega
 have q4:(2*s+1)*r.num=2*s*r.num+r.num:=by rw [Int.add_mul];omega
 rw [q1] at h1 h2
 rw [q2] at h1
 rw [q3] at h2
 unfold ownF
 rw [q4]
 have hp : 0<96000*r.den:=by omega
 generalize 2*s*r.num=S at *
 have g1:n≤(S+r.num - 1) / (96000*r.den):=Int.le_ediv_of_mul_le hp (by omega)
 have g2:(S+r.num - 1) / (96000*r.den)<n+1:=Int.ediv_lt_of_lt_mul hp (by rw [Int.add_mul];omega)
 omega
theorem beg_near {r:RatR} (hn : 0<r.num) (n:Int):(begS r n:Rat)*r.num≤n*(48000*r.den)+r.num / 2∧n*(48000*r.den) - r.num / 2≤(begS r n:Rat)*r.num:=by
 have h1:=Int.ediv_mul_le (2*n*(48000*r.den)+r.num) (show (2*r.num:Int)≠0 by omega)
 have h2:=Int.lt_ediv_add_one_mul_self (2*n*(48000*r.den)+r.num) (show (0:Int)<2*r.num by omega)
 have hs:(2*n*(48000*r.den)+r.num) / (2*r.num)=begS r n:=rfl
 rw [hs] at h1 h2
 generalize begS r n=s at *
 have c2:((2:Int):Rat)=2:=rfl
 have c48:((48000:Int):Rat)=48000:=rfl
 have c1:((1:Int):Rat)=1:=rfl
 have r1:(s:Rat)*(2*r.num)≤2*n*(48000*r.den)+r.num:=by
  have:=Rat.intCast_le_intCast.2 h1
  simp only [Rat.intCast_mul,Rat.intCast_add,c2,c48] at this
  exact this
 have r2 : 2*(n:Rat)*(48000*r.den)+r.num<(s+1)*(2*r.num):=by
  have:=Rat.intCast_lt_intCast.2 h2
  simp only [Rat.intCast_mul,Rat.intCast_add,c2,c48,c1] at this
  exact this
 constructor<;>grind
open Go.RowKit
set_option maxRecDepth 4000
theorem snd_sync {E:SndE} {nm:ByteArray} {r:RatR} (hn : 0<r.num) (hd : 0<r.den) (h30:r.num≤30*r.den) (h23 : 23*r.den≤r.num) (hr:E.rate nm=(r.num:Rat) / r.den) (hp:(E.chs nm)[0]? = some (rampL 2100)) {n:Int} (h0 : 0≤n) (hv:vClip (cutC nm ⟨1,1⟩ ⟨1,1⟩ 1 4096 0)=true) :
  2*((smpV E [[gapC n,cutC nm ⟨1,1⟩ ⟨1,1⟩ 1 4096 0]] r (begS r n) 0+16384)*r.num - 16*48000*r.den)≤17*r.num ∧
  -2*((smpV E [[gapC n,cutC nm ⟨1,1⟩ ⟨1,1⟩ 1 4096 0]] r (begS r n) 0+16384)*r.num - 16*48000*r.den)≤17*r.num:=by
 have ho:=beg_own hn hd h30 n
 obtain ⟨b1,b2⟩:=beg_near hn n
 obtain ⟨y,hy⟩:∃ y:Rat,y=(((1:Int):Rat)+(timeQ r (begS r n) - n)*((1:Int):Rat))*(48000 / ((r.num:Rat) / r.den)):=⟨_,rfl⟩
 have hz:smpV E [[gapC n,cutC nm ⟨1,1⟩ ⟨1,1⟩ 1 4096 0]] r (begS r n) 0=lerpV (rampL 2100) y:=by
  rw [smp_one,frm_behind h0 hv (by decide:(1:Int)≠0) 0 (by omega) (by rw [ho];show n<n+1;omega),clip_cut,gain_unit,hr,toQ_int]
  have:=chan_at hp y
  rw [show ((0:Nat):Int)=0 from rfl] at this
  rw [← hy,this]
  exact clamp_id (lerp_i16 (ramp_i16 (by omega)) _)
 rw [hz]
 clear hz
 have n0:(0:Rat)<r.num:=by exact_mod_cast hn
 have d0:(0:Rat)<r.den:=by exact_mod_cast hd
 have c30:((30:Int):Rat)=30:=rfl
 have c23:((23:Int):Rat)=23:=rfl
 have q30:(r.num:Rat)≤30*r.den:=by
  have:=Rat.intCast_le_intCast.2 h30
  rw [Rat.intCast_mul,c30] at this
  exact this
 have q23 : 23*(r.den:Rat)≤r.num:=by
  have:=Rat.intCast_le_intCast.2 h23
  rw [Rat.intCast_mul,c23] at this
  exact this
 have hyn:y*r.num=48000*r.den+(begS r n:Rat)*r.num - n*(48000*r.den):=by
  rw [hy]
  unfold timeQ
  have c1:((1:Int):Rat)=1:=rfl
  rw [c1]
  grind
 generalize (begS r n:Rat)=s at *
 have y0 : 0≤y:=by
  by_cases h : 0≤y
  ·exact h
  ·exfalso
   have:=Rat.mul_pos (a := -y) (b:=(r.num:Rat)) (by grind) n0
   grind
 have y1:y<((2100:Nat):Int) - 1:=by
  have c:(((2100:Nat):Int):Rat)=2100:=rfl
  rw [c]
  by_cases h:y<2100 - 1
  ·exact h
  ·exfalso
   have:=Rat.mul_nonneg (a:=y - 2099) (b:=(r.num:Rat)) (by grind) (by grind)
   grind
 obtain ⟨w1,w2⟩:=ramp_lerp y0 y1
 generalize lerpV (rampL 2100) y=z at *
 have m1:=Rat.mul_nonneg (a:=((z+16384:Int):Rat) - (16*y - 1 / 2)) (b:=(r.num:Rat)) (by grind) (by grind)
 have m2:=Rat.mul_nonneg (a:=(16*y+1 / 2) - ((z+16384:Int):Rat)) (b:=(r.num:Rat)) (by grind) (by grind)
 have cz:(((z+16384)*r.num:Int):Rat)=((z+16384:Int):Rat)*r.num:=Rat.intCast_mul _ _
 obtain ⟨w,hw⟩:∃ w:Int,w=(z+16384)*r.num:=⟨_,rfl⟩
 rw [← hw] at cz ⊢
 have u1 : 2*(w:Rat)≤17*r.num+2*(768000*r.den):=by grind
 have u2 : 2*(768000*(r.den:Rat))≤17*r.num+2*w:=by grind
 have c2:((2:Int):Rat)=2:=rfl
 have c17:((17:Int):Rat)=17:=rfl
 have c76:((768000:Int):Rat)=768000:=rfl
 have v1 : 2*w≤17*r.num+2*(768000*r.den):=by
  refine Rat.intCast_le_intCast.1 ?_
  simp only [Rat.intCast_mul,Rat.intCast_add,c2,c17,c76]
  exact u1
 have v2 : 2*(768000*r.den)≤17*r.num+2*w:=by
  refine Rat.intCast_le_intCast.1 ?_
  simp only [Rat.intCast_mul,Rat.intCast_add,c2,c17,c76]
  exact u2
 omega
open Go.RowKit
set_option maxRecDepth 4000
theorem nonneg_of {d v:Rat} (hd : 0<d) (h : 0≤d*v) : 0≤v:=by
 by_cases h0 : 0≤v
 ·exact h0
 ·exfalso
  have:=Rat.mul_pos (a:=d) (b := -v) hd (by grind)
  grind
theorem pos_of {d v:Rat} (hd : 0<d) (h : 0<d*v) : 0<v:=by
 have h1:=nonneg_of (v:=v) hd (by grind)
 by_cases h0:v=0
 ·rw [h0] at h
  grind
 ·grind
theorem ratpos {d:Int} (hd : 0<d):(0:Rat)<(d:Rat):=by exact_mod_cast hd
theorem divmod_rat (m:Int) {d:Int} (hd : 0<d):(m:Rat)=(d:Rat)*((m / d:Int):Rat)+((m % d:Int):Rat)∧(0:Rat)≤((m % d:Int):Rat)∧((m % d:Int):Rat)<(d:Rat):=by
 have h1:m=d*(m / d)+m % d:=by rw [Int.mul_ediv_add_emod]
 have h2:=Int.emod_nonneg m (show d≠0 by omega)
 have h3:=Int.emod_lt_of_pos m hd
 refine ⟨?_,by exact_mod_cast h2,by exact_mod_cast h3⟩
 have:(m:Rat)=((d*(m / d)+m % d:Int):Rat):=by rw [← h1]
 rw [this]
 simp
theorem floor_frac (n:Int) {d:Int} (hd : 0<d):((n:Rat) / (d:Rat)).floor=n / d:=by
 obtain ⟨e,r0,r1⟩:=divmod_rat n hd
 have dp:=ratpos hd
 generalize ((n % d:Int):Rat)=r at *
 obtain ⟨u,hu⟩:∃ u:Rat,u=(n:Rat) / d:=⟨_,rfl⟩
 have hu2:(d:Rat)*u=n:=by rw [hu];grind
 rw [← hu]
 refine floor_of ?_ ?_
 ·have:=nonneg_of (v:=u - ((n / d:Int):Rat)) dp (by grind)
  grind
 ·have:=pos_of (v:=((n / d:Int):Rat)+1 - u) dp (by grind)
  grind
theorem near_frac (x n:Int) {d:Int} (hd : 0<d):near x ((n:Rat) / (d:Rat))=if d - x*n % d≤x*n % d then x*n / d+1 else x*n / d:=by
 obtain ⟨e,r0,r1⟩:=divmod_rat (x*n) hd
 have dp:=ratpos hd
 obtain ⟨u,hu⟩:∃ u:Rat,u=(n:Rat) / d:=⟨_,rfl⟩
 have hu2:(d:Rat)*u=n:=by rw [hu];grind
 have hxu:(d:Rat)*((x:Rat)*u)=((x*n:Int):Rat):=by rw [Rat.intCast_mul];grind
 rw [← hu]
 unfold near
 generalize (x:Rat)*u=w at *
 split
 ·rename_i h
  have hq:(d:Rat) - ((x*n % d:Int):Rat)≤((x*n % d:Int):Rat):=by
   have:((d - x*n % d:Int):Rat)≤((x*n % d:Int):Rat):=by exact_mod_cast h
   rw [Rat.intCast_sub] at this
   exact this
  generalize ((x*n % d:Int):Rat)=r at *
  refine floor_of ?_ ?_
  ·rw [int_succ]
   have:=nonneg_of (v:=w - ((x*n / d:Int):Rat) - 1 / 2) dp (by grind)
   grind
  ·rw [int_succ]
   have:=pos_of (v:=((x*n / d:Int):Rat)+1 - w) dp (by grind)
   grind
 ·rename_i h
  have hq:((x*n % d:Int):Rat)<(d:Rat) - ((x*n % d:Int):Rat):=by
   have:((x*n % d:Int):Rat)<((d - x*n % d:Int):Rat):=by exact_mod_cast (show x*n % d<d - x*n % d by omega)
   rw [Rat.intCast_sub] at this
   exact this
  generalize ((x*n % d:Int):Rat)=r at *
  refine floor_of ?_ ?_
  ·have:=nonneg_of (v:=w - ((x*n / d:Int):Rat)) dp (by grind)
   grind
  ·have:=pos_of (v:=((x*n / d:Int):Rat)+1 / 2 - w) dp (by grind)
   grind
theorem frac_share {q:Rat}:q - (q.floor:Rat)=((q.num - q.floor*(q.den:Int):Int):Rat) / ((q.den:Int):Rat):=by
 have dp:(0:Rat)<((q.den:Int):Rat):=ratpos (by have:=q.den_pos;omega)
 have e:q*((q.den:Int):Rat)=(q.num:Rat):=by
  have h:=Rat.num_divInt_den q
  rw [Rat.divInt_eq_div] at h
  have dz:((q.den:Int):Rat)≠0:=by grind
  generalize ((q.den:Int):Rat)=d at *
  rw [← h]
  grind
 rw [Rat.intCast_sub,Rat.intCast_mul]
 generalize (q.floor:Rat)=f at *
 generalize ((q.den:Int):Rat)=d at *
 grind
theorem fr_nth:∀ {t:List ClipR} {i:Nat} {x:ClipR},(∀ c∈t,1≤c.len)→t[i]? = some x → ∀ {k:Int},totL (t.take i)≤k→k<totL (t.take i)+x.len→0≤totL (t.take i)∧(fr t)[k.toNat]? = some (one x (k - totL (t.take i)))
 | [],i,x,_,h,_,_,_=>by simp at h
 | c::l,0,x,_,h,k,h0,h1=>by
  have e:c=x:=by simpa using h
  subst e
  simp only [List.take_zero,totL] at h0 h1 ⊢
  refine ⟨by omega,?_⟩
  have hl:=frC_len2 c
  rw [fr_cons,List.getElem?_append_left (by omega),frC_at c h0 (by omega)]
  congr 2
  omega
 | c::l,i+1,x,hp,h,k,h0,h1=>by
  have h2:l[i]? = some x:=by simpa using h
  have hc : 1≤c.len:=hp c (by simp)
  simp only [List.take_succ_cons,totL] at h0 h1 ⊢
  obtain ⟨n0,ih⟩:=fr_nth (t:=l) (fun d hd=>hp d (by simp [hd])) h2 (k:=k - c.len) (by omega) (by omega)
  have hl:=frC_len2 c
  refine ⟨by omega,?_⟩
  rw [fr_cons,List.getElem?_append_right (by omega),hl]
  have e1:k.toNat - c.len.toNat=(k - c.len).toNat:=by omega
  rw [e1,ih]
  congr 2
  omega
theorem frm_nth {E:SndE} {t:List ClipR} (hv:∀ c∈t,vClip c=true) (hp:∀ c∈t,1≤c.len) {i:Nat} {x:ClipR} (h:t[i]? = some x) {r:RatR} {s:Int} (c:Nat) (h0:totL (t.take i)≤ownF r s) (h1:ownF r s<totL (t.take i)+x.len) :
  frmV E (fr t) r s c=if x.kind=0 then 0 else clipV E x (timeQ r s - (totL (t.take i):Int)) c:=by
 obtain ⟨n0,e⟩:=fr_nth hp h h0 h1
 rw [frm_at (by omega) e]
 have hk2:(one x (ownF r s - totL (t.take i))).kind=x.kind:=rfl
 rw [hk2,clipV_one E (hv _ (List.mem_of_getElem? h))]
 congr 2
 rw [Rat.intCast_sub]
 grind
theorem frm_out {E:SndE} {t:List ClipR} (hp:∀ c∈t,1≤c.len) {r:RatR} {s:Int} (c:Nat) (h:totL t≤ownF r s):frmV E (fr t) r s c=0:=frm_ge (by rw [fr_len hp];exact h)
theorem place:∀ {t:List ClipR} {k:Int},(∀ c∈t,1≤c.len)→0≤k→k<totL t → ∃ i x,t[i]? = some x∧totL (t.take i)≤k∧k<totL (t.take i)+x.len
 | [],k,_,h0,h1=>by simp only [totL] at h1;omega
 | c::l,k,hp,h0,h1=>by
  by_cases h:k<c.len
  ·exact ⟨0,c,rfl,by simp only [List.take_zero,totL];omega,by simp only [List.take_zero,totL];omega⟩
  ·simp only [totL] at h1
   obtain ⟨i,x,e,a,b⟩:=place (t:=l) (k:=k - c.len) (fun d hd=>hp d (by simp [hd])) (by omega) (by omega)
   exact ⟨i+1,x,by simpa using e,by simp only [List.take_succ_cons,totL];omega,by simp only [List.take_succ_cons,totL];omega⟩
end Go.Proofs.YtjmoncjecpckhaaGreat
