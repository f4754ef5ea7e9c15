/- Proved here: What a track sounds at a sample, in plain Lean, for use in the proofs of the given statements; conditions stand in each theorem. -/
import Derived.Test.YtkjdkbmfaamhaaaGreatWB
set_option linter.unusedSimpArgs false
set_option linter.unusedVariables false
set_option linter.unusedSectionVars false
set_option linter.unnecessarySimpa false
namespace Go.Proofs.YtkjdkbmfaamhaaaGreat
open Go.RowKit
set_option maxRecDepth 4000
def pcmAt (l:List Int) (j:Int):Int:=if 0≤j then l.getD j.toNat 0 else 0
def near (x:Int) (q:Rat):Int:=((x:Rat)*q+1 / 2).floor
structure SndE where
 rate:ByteArray→Rat
 chs:ByteArray→List (List Int)
def lerpV (p:List Int) (y:Rat):Int:=pcmAt p y.floor+near (pcmAt p (y.floor+1) - pcmAt p y.floor) (y - y.floor)
def chanV (l:List (List Int)) (c:Int) (y:Rat):Int :=
 if c<0 then 0 else match l[c.toNat]? with
  | none=>0
  | some p=>lerpV p y
def posQ (s:SourceR) (k:Rat):Rat:=toQ s.pos+k*toQ s.speed
def posY (E:SndE) (s:SourceR) (k:Rat):Rat:=posQ s k*(48000 / E.rate s.name)
def srcS (E:SndE) (s:SourceR) (k:Rat) (c:Int):Int:=if s.kind=0 then 0 else chanV (E.chs s.name) c (posY E s k)
def gainV (z g:Int):Int:=(z*g+2048) / 4096
def shareQ (x:ClipR) (k:Rat):Rat:=(k+x.off+1) / (x.total+1)
def mixV (E:SndE) (x:ClipR) (k:Rat) (c:Int):Int :=
 if x.kind=2 then srcS E x.a k c+near (srcS E x.b k c - srcS E x.a k c) (shareQ x k) else srcS E x.a k c
def clipV (E:SndE) (x:ClipR) (k:Rat) (c:Nat):Int:=gainV (mixV E x k (x.chan.getD c 0)) x.gain
def clampV (x:Int):Int:=max (-32768) (min 32767 x)
def ownF (r:RatR) (s:Int):Int:=((2*s+1)*r.num - 1) / (96000*r.den)
def timeQ (r:RatR) (s:Int):Rat:=(s:Rat)*r.num / (48000*r.den)
def frmV (E:SndE) (F:List ClipR) (r:RatR) (s:Int) (c:Nat):Int :=
 if ownF r s<0 then 0 else match F[(ownF r s).toNat]? with
  | none=>0
  | some x=>if x.kind=0 then 0 else clipV E x (timeQ r s - ownF r s) c
def smpV (E:SndE) (ts:List (List ClipR)) (r:RatR) (s:Int) (c:Nat):Int:=clampV ((ts.map fun t=>frmV E (fr t) r s c).sum)
theorem floor_int (j:Int):(j:Rat).floor=j:=by simp
theorem floor_of {x:Rat} {j:Int} (h:(j:Rat)≤x) (h2:x<(j:Rat)+1):x.floor=j:=by
 have h1:j≤x.floor:=Rat.le_floor_iff.2 h
 have h3:x.floor<j+1:=Rat.floor_lt_iff.2 (by simpa using h2)
 omega
theorem near_zero (x:Int):near x 0=0:=by
 unfold near
 exact floor_of (by grind) (by grind)
theorem near_of_zero (q:Rat):near 0 q=0:=by
 unfold near
 exact floor_of (by grind) (by grind)
theorem gain_unit (z:Int):gainV z 4096=z:=by
 unfold gainV
 omega
theorem lerp_int (p:List Int) (j:Int):lerpV p (j:Rat)=pcmAt p j:=by
 unfold lerpV
 rw [floor_int,show (j:Rat) - (j:Rat)=0 by grind,near_zero]
 omega
theorem int_succ (x:Int):((x+1:Int):Rat)=(x:Rat)+1:=by simp
theorem near_le {x:Int} {q:Rat} (h0 : 0≤q) (h1:q≤1) (hx : 0≤x) : 0≤near x q∧near x q≤x:=by
 have hxq:(0:Rat)≤x:=by exact_mod_cast hx
 have a1:(0:Rat)≤(x:Rat)*q:=Rat.mul_nonneg hxq h0
 have a2:(x:Rat)*q≤x:=by
  have:=Rat.mul_le_mul_of_nonneg_left (c:=(x:Rat)) h1 hxq
  grind
 unfold near
 refine ⟨Rat.le_floor_iff.2 (by grind),?_⟩
 have:((x:Rat)*q+1 / 2).floor<x+1:=Rat.floor_lt_iff.2 (by rw [int_succ];grind)
 omega
theorem near_ge {x:Int} {q:Rat} (h0 : 0≤q) (h1:q≤1) (hx:x≤0):x≤near x q∧near x q≤0:=by
 have hxq:(x:Rat)≤0:=by exact_mod_cast hx
 have a1:(x:Rat)*q≤0:=by
  have:=Rat.mul_nonneg (a := -(x:Rat)) (b:=q) (by grind) h0
  grind
 have a2:(x:Rat)≤(x:Rat)*q:=by
  have:=Rat.mul_le_mul_of_nonneg_left (c := -(x:Rat)) h1 (by grind)
  grind
 unfold near
 refine ⟨Rat.le_floor_iff.2 (by grind),?_⟩
 have:((x:Rat)*q+1 / 2).floor<1:=Rat.floor_lt_iff.2 (by rw [Rat.intCast_one];grind)
 omega
theorem near_between {u v:Int} {q:Rat} (h0 : 0≤q) (h1:q≤1):min u v≤u+near (v - u) q∧u+near (v - u) q≤max u v:=by
 rcases Int.le_total u v with h | h
 ·have:=near_le (x:=v - u) h0 h1 (by omega)
  omega
 ·have:=near_ge (x:=v - u) h0 h1 (by omega)
  omega
def I16s (l:List Int):Prop := ∀ z∈l, -32768≤z∧z≤32767
theorem pcmAt_i16 {l:List Int} (h:I16s l) (j:Int) : -32768≤pcmAt l j∧pcmAt l j≤32767:=by
 unfold pcmAt
 split
 ·rcases Nat.lt_or_ge j.toNat l.length with h1 | h1
  ·rw [List.getD_eq_getElem?_getD,List.getElem?_eq_getElem h1]
   exact h _ (List.getElem_mem h1)
  ·rw [List.getD_eq_getElem?_getD,List.getElem?_eq_none h1]
   decide
 ·decide
theorem frac_le (y:Rat) : 0≤y - (y.floor:Rat)∧y - (y.floor:Rat)≤1:=by
 have h1:=Rat.floor_le y
 have h2:=Rat.lt_floor_add_one y
 grind
theorem lerp_i16 {l:List Int} (h:I16s l) (y:Rat) : -32768≤lerpV l y∧lerpV l y≤32767:=by
 obtain ⟨f0,f1⟩:=frac_le y
 have h1:=pcmAt_i16 h y.floor
 have h2:=pcmAt_i16 h (y.floor+1)
 unfold lerpV
 have:=near_between (u:=pcmAt l y.floor) (v:=pcmAt l (y.floor+1)) f0 f1
 omega
theorem chan_i16 {l:List (List Int)} (h:∀ p∈l,I16s p) (c:Int) (y:Rat) : -32768≤chanV l c y∧chanV l c y≤32767:=by
 unfold chanV
 split
 ·decide
 ·cases e:l[c.toNat]? with
  | none=>exact (show (-32768:Int)≤0∧(0:Int)≤32767 from by decide)
  | some p=>exact lerp_i16 (h p (List.mem_of_getElem? e)) y
theorem clamp_id {x:Int} (h : -32768≤x∧x≤32767):clampV x=x:=by
 unfold clampV
 omega
theorem posQ_moved {s:SourceR} (hv:vSource s=true) (hk:s.kind≠0) (o:Int) (k:Rat):posQ (movedS s o) k=posQ s (k+o):=by
 have hz:=isZ_kind hk
 unfold movedS
 rw [hz]
 unfold posQ movedQ wayQ
 simp only [Bool.false_eq_true,if_false,toQ_ofQ,toQ_int]
 grind
theorem movedS_name {s:SourceR} {n:Int}:(movedS s n).name=s.name:=by unfold movedS;split<;>rfl
theorem srcS_moved {E:SndE} {s:SourceR} (hv:vSource s=true) (o:Int) (k:Rat) (c:Int):srcS E (movedS s o) k c=srcS E s (k+o) c:=by
 unfold srcS posY
 rw [movedS_kind,movedS_name]
 by_cases hk:s.kind=0
 ·rw [if_pos hk,if_pos hk]
 ·rw [if_neg hk,if_neg hk,posQ_moved hv hk]
theorem clipV_one (E:SndE) {x:ClipR} (hv:vClip x=true) (o:Int) (k:Rat) (c:Nat):clipV E (one x o) k c=clipV E x (k+o) c:=by
 obtain ⟨v1,v2,v3,v4,v5,v6,v7,v8⟩:=vClip_parts hv
 unfold clipV mixV
 have e1:(one x o).chan=x.chan:=rfl
 have e2:(one x o).gain=x.gain:=rfl
 have e3:(one x o).kind=x.kind:=rfl
 have e4:(one x o).a=movedS x.a o:=rfl
 have e5:(one x o).b=movedS x.b o:=rfl
 rw [e1,e2,e3,e4,e5,srcS_moved v6,srcS_moved v7]
 by_cases hk:x.kind=2
 ·rw [if_pos hk,if_pos hk]
  have e6:shareQ (one x o) k=shareQ x (k+o):=by
   unfold shareQ
   have t1:(one x o).total=x.total:=rfl
   have t2:(one x o).off=x.off+o:=by
    show (if shK x.kind=true then x.off+o else x.off)=_
    rw [hk];rfl
   rw [t1,t2]
   have:((x.off+o:Int):Rat)=(x.off:Rat)+(o:Rat):=by simp
   rw [this]
   grind
  rw [e6]
 ·rw [if_neg hk,if_neg hk]
open Go.RowKit
set_option maxRecDepth 4000
theorem frm_lt {E:SndE} {F:List ClipR} {r:RatR} {s:Int} {c:Nat} (h:ownF r s<0):frmV E F r s c=0:=by
 unfold frmV
 rw [if_pos h]
theorem frm_ge {E:SndE} {F:List ClipR} {r:RatR} {s:Int} {c:Nat} (h:(F.length:Int)≤ownF r s):frmV E F r s c=0:=by
 unfold frmV
 rw [if_neg (by omega),List.getElem?_eq_none (by omega)]
theorem frm_at {E:SndE} {F:List ClipR} {r:RatR} {s:Int} {c:Nat} {x:ClipR} (h0 : 0≤ownF r s) (h:F[(ownF r s).toNat]? = some x):frmV E F r s c=if x.kind=0 then 0 else clipV E x (timeQ r s - ownF r s) c:=by
 unfold frmV
 rw [if_neg (by omega),h]
theorem frC_at (x:ClipR) {k:Int} (h0 : 0≤k) (h1:k<x.len):(frC x)[k.toNat]? = some (one x k):=by
 unfold frC
 rw [List.getElem?_map,List.getElem?_range (by omega)]
 simp only [Option.map_some]
 congr 2
 omega
theorem frC_len2 (x:ClipR):(frC x).length=x.len.toNat:=by unfold frC;simp
theorem frm_single {E:SndE} {x:ClipR} (hv:vClip x=true) (hk:x.kind≠0) {r:RatR} {s:Int} (c:Nat) (h0 : 0≤ownF r s) (h1:ownF r s<x.len):frmV E (fr [x]) r s c=clipV E x (timeQ r s) c:=by
 have e:(fr [x])[(ownF r s).toNat]? = some (one x (ownF r s)):=by
  show (frC x ++ [])[_]? = _
  rw [List.append_nil,frC_at x h0 h1]
 rw [frm_at h0 e]
 have hk2:(one x (ownF r s)).kind=x.kind:=rfl
 rw [hk2,if_neg hk,clipV_one E hv]
 congr 1
 grind
def cutC (nm:ByteArray) (at0 sp:RatR) (len gain ch:Int):ClipR:=⟨len,1,⟨1,nm,at0,sp,false⟩,zSource,0,0,0,⟨#[]⟩,gain,[ch]⟩
theorem clip_cut (E:SndE) (nm:ByteArray) (at0 sp:RatR) (len gain ch:Int) (k:Rat):clipV E (cutC nm at0 sp len gain ch) k 0=gainV (chanV (E.chs nm) ch ((toQ at0+k*toQ sp)*(48000 / E.rate nm))) gain:=by
 unfold clipV mixV srcS posY posQ cutC
 simp
theorem chan_at {l:List (List Int)} {c:Nat} {p:List Int} (h:l[c]? = some p) (y:Rat):chanV l (c:Int) y=lerpV p y:=by
 unfold chanV
 rw [if_neg (by omega),Int.toNat_natCast,h]
theorem rat_ne {n:Int} (h:n≠0):(n:Rat)≠0:=by
 intro e
 exact h (by exact_mod_cast e)
theorem own_range {r:RatR} {s n:Int} (hd : 0<r.den) (hn : 0<r.num) (h0 : 0≤s) (h1:(2*s+1)*r.num≤n*(96000*r.den)) : 0≤ownF r s∧ownF r s<n:=by
 unfold ownF
 have hp : 0<96000*r.den:=by omega
 have hm : 1≤(2*s+1)*r.num:=by
  have:=Int.mul_le_mul (show (1:Int)≤2*s+1 by omega) (show (1:Int)≤r.num by omega) (by omega) (by omega)
  omega
 refine ⟨Int.ediv_nonneg (by omega) (by omega),?_⟩
 exact Int.ediv_lt_of_lt_mul hp (by omega)
open Go.RowKit
set_option maxRecDepth 4000
theorem smp_one (E:SndE) (t:List ClipR) (r:RatR) (s:Int) (c:Nat):smpV E [t] r s c=clampV (frmV E (fr t) r s c):=by
 unfold smpV
 simp
theorem snd_cut {E:SndE} {nm:ByteArray} {at0 sp:RatR} {len:Int} {r:RatR} {c:Nat} {p:List Int} (hv:vClip (cutC nm at0 sp len 4096 c)=true) (hp:(E.chs nm)[c]? = some p) (hi:I16s p) {s:Int} (h0 : 0≤ownF r s) (h1:ownF r s<len) :
  smpV E [[cutC nm at0 sp len 4096 c]] r s 0=lerpV p ((toQ at0+timeQ r s*toQ sp)*(48000 / E.rate nm)):=by
 rw [smp_one,frm_single hv (by decide:(1:Int)≠0) 0 h0 h1,clip_cut,gain_unit,chan_at hp]
 exact clamp_id (lerp_i16 hi _)
def mixC2 (na nb:ByteArray) (len off tot:Int):ClipR:=⟨len,2,⟨1,na,⟨0,1⟩,⟨1,1⟩,false⟩,⟨1,nb,⟨0,1⟩,⟨1,1⟩,false⟩,off,tot,0,⟨#[]⟩,4096,[0]⟩
open Go.RowKit
set_option maxRecDepth 4000
def cutL (nm:ByteArray) (at0 sp:RatR) (len gain:Int) (chs:List Int):ClipR:=⟨len,1,⟨1,nm,at0,sp,false⟩,zSource,0,0,0,⟨#[]⟩,gain,chs⟩
def blackC (len gain:Int) (chs:List Int):ClipR:=⟨len,1,zSource,zSource,0,0,0,⟨#[]⟩,gain,chs⟩
def rampL (n:Nat):List Int:=(List.range n).map fun k:Nat=>16*(k:Int) - 16384
def begS (r:RatR) (n:Int):Int:=(2*n*(48000*r.den)+r.num) / (2*r.num)
open Go.RowKit
set_option maxRecDepth 4000
open Go.RowKit
set_option maxRecDepth 4000
theorem nonneg_of {d v:Rat} (hd : 0<d) (h : 0≤d*v) : 0≤v:=by
 by_cases h0 : 0≤v
 ·exact h0
 ·exfalso
  have:=Rat.mul_pos (a:=d) (b := -v) hd (by grind)
  grind
theorem pos_of {d v:Rat} (hd : 0<d) (h : 0<d*v) : 0<v:=by
 have h1:=nonneg_of (v:=v) hd (by grind)
 by_cases h0:v=0
 ·rw [h0] at h
  grind
 ·grind
theorem ratpos {d:Int} (hd : 0<d):(0:Rat)<(d:Rat):=by exact_mod_cast hd
theorem divmod_rat (m:Int) {d:Int} (hd : 0<d):(m:Rat)=(d:Rat)*((m / d:Int):Rat)+((m % d:Int):Rat)∧(0:Rat)≤((m % d:Int):Rat)∧((m % d:Int):Rat)<(d:Rat):=by
 have h1:m=d*(m / d)+m % d:=by rw [Int.mul_ediv_add_emod]
 have h2:=Int.emod_nonneg m (show d≠0 by omega)
 have h3:=Int.emod_lt_of_pos m hd
 refine ⟨?_,by exact_mod_cast h2,by exact_mod_cast h3⟩
 have:(m:Rat)=((d*(m / d)+m % d:Int):Rat):=by rw [← h1]
 rw [this]
 simp
theorem floor_frac (n:Int) {d:Int} (hd : 0<d):((n:Rat) / (d:Rat)).floor=n / d:=by
 obtain ⟨e,r0,r1⟩:=divmod_rat n hd
 have dp:=ratpos hd
 generalize ((n % d:Int):Rat)=r at *
 obtain ⟨u,hu⟩:∃ u:Rat,u=(n:Rat) / d:=⟨_,rfl⟩
 have hu2:(d:Rat)*u=n:=by rw [hu];grind
 rw [← hu]
 refine floor_of ?_ ?_
 ·have:=nonneg_of (v:=u - ((n / d:Int):Rat)) dp (by grind)
  grind
 ·have:=pos_of (v:=((n / d:Int):Rat)+1 - u) dp (by grind)
  grind
theorem near_frac (x n:Int) {d:Int} (hd : 0<d):near x ((n:Rat) / (d:Rat))=if d - x*n % d≤x*n % d then x*n / d+1 else x*n / d:=by
 obtain ⟨e,r0,r1⟩:=divmod_rat (x*n) hd
 have dp:=ratpos hd
 obtain ⟨u,hu⟩:∃ u:Rat,u=(n:Rat) / d:=⟨_,rfl⟩
 have hu2:(d:Rat)*u=n:=by rw [hu];grind
 have hxu:(d:Rat)*((x:Rat)*u)=((x*n:Int):Rat):=by rw [Rat.intCast_mul];grind
 rw [← hu]
 unfold near
 generalize (x:Rat)*u=w at *
 split
 ·rename_i h
  have hq:(d:Rat) - ((x*n % d:Int):Rat)≤((x*n % d:Int):Rat):=by
   have:((d - x*n % d:Int):Rat)≤((x*n % d:Int):Rat):=by exact_mod_cast h
   rw [Rat.intCast_sub] at this
   exact this
  generalize ((x*n % d:Int):Rat)=r at *
  refine floor_of ?_ ?_
  ·rw [int_succ]
   have:=nonneg_of (v:=w - ((x*n / d:Int):Rat) - 1 / 2) dp (by grind)
   grind
  ·rw [int_succ]
   have:=pos_of (v:=((x*n / d:Int):Rat)+1 - w) dp (by grind)
   grind
 ·rename_i h
  have hq:((x*n % d:Int):Rat)<(d:Rat) - ((x*n % d:Int):Rat):=by
   have:((x*n % d:Int):Rat)<((d - x*n % d:Int):Rat):=by exact_mod_cast (show x*n % d<d - x*n % d by omega)
   rw [Rat.intCast_sub] at this
   exact this
  generalize ((x*n % d:Int):Rat)=r at *
  refine floor_of ?_ ?_
  ·have:=nonneg_of (v:=w - ((x*n / d:Int):Rat)) dp (by grind)
   grind
  ·have:=pos_of (v:=((x*n / d:Int):Rat)+1 / 2 - w) dp (by grind)
   grind
theorem frac_share {q:Rat}:q - (q.floor:Rat)=((q.num - q.floor*(q.den:Int):Int):Rat) / ((q.den:Int):Rat):=by
 have dp:(0:Rat)<((q.den:Int):Rat):=ratpos (by have:=q.den_pos;omega)
 have e:q*((q.den:Int):Rat)=(q.num:Rat):=by
  have h:=Rat.num_divInt_den q
  rw [Rat.divInt_eq_div] at h
  have dz:((q.den:Int):Rat)≠0:=by grind
  generalize ((q.den:Int):Rat)=d at *
  rw [← h]
  grind
 rw [Rat.intCast_sub,Rat.intCast_mul]
 generalize (q.floor:Rat)=f at *
 generalize ((q.den:Int):Rat)=d at *
 grind
theorem fr_nth:∀ {t:List ClipR} {i:Nat} {x:ClipR},(∀ c∈t,1≤c.len)→t[i]? = some x → ∀ {k:Int},totL (t.take i)≤k→k<totL (t.take i)+x.len→0≤totL (t.take i)∧(fr t)[k.toNat]? = some (one x (k - totL (t.take i)))
 | [],i,x,_,h,_,_,_=>by simp at h
 | c::l,0,x,_,h,k,h0,h1=>by
  have e:c=x:=by simpa using h
  subst e
  simp only [List.take_zero,totL] at h0 h1 ⊢
  refine ⟨by omega,?_⟩
  have hl:=frC_len2 c
  rw [fr_cons,List.getElem?_append_left (by omega),frC_at c h0 (by omega)]
  congr 2
  omega
 | c::l,i+1,x,hp,h,k,h0,h1=>by
  have h2:l[i]? = some x:=by simpa using h
  have hc : 1≤c.len:=hp c (by simp)
  simp only [List.take_succ_cons,totL] at h0 h1 ⊢
  obtain ⟨n0,ih⟩:=fr_nth (t:=l) (fun d hd=>hp d (by simp [hd])) h2 (k:=k - c.len) (by omega) (by omega)
  have hl:=frC_len2 c
  refine ⟨by omega,?_⟩
  rw [fr_cons,List.getElem?_append_right (by omega),hl]
  have e1:k.toNat - c.len.toNat=(k - c.len).toNat:=by omega
  rw [e1,ih]
  congr 2
  omega
theorem frm_nth {E:SndE} {t:List ClipR} (hv:∀ c∈t,vClip c=true) (hp:∀ c∈t,1≤c.len) {i:Nat} {x:ClipR} (h:t[i]? = some x) {r:RatR} {s:Int} (c:Nat) (h0:totL (t.take i)≤ownF r s) (h1:ownF r s<totL (t.take i)+x.len) :
  frmV E (fr t) r s c=if x.kind=0 then 0 else clipV E x (timeQ r s - (totL (t.take i):Int)) c:=by
 obtain ⟨n0,e⟩:=fr_nth hp h h0 h1
 rw [frm_at (by omega) e]
 have hk2:(one x (ownF r s - totL (t.take i))).kind=x.kind:=rfl
 rw [hk2,clipV_one E (hv _ (List.mem_of_getElem? h))]
 congr 2
 rw [Rat.intCast_sub]
 grind
theorem frm_out {E:SndE} {t:List ClipR} (hp:∀ c∈t,1≤c.len) {r:RatR} {s:Int} (c:Nat) (h:totL t≤ownF r s):frmV E (fr t) r s c=0:=frm_ge (by rw [fr_len hp];exact h)
theorem place:∀ {t:List ClipR} {k:Int},(∀ c∈t,1≤c.len)→0≤k→k<totL t → ∃ i x,t[i]? = some x∧totL (t.take i)≤k∧k<totL (t.take i)+x.len
 | [],k,_,h0,h1=>by simp only [totL] at h1;omega
 | c::l,k,hp,h0,h1=>by
  by_cases h:k<c.len
  ·exact ⟨0,c,rfl,by simp only [List.take_zero,totL];omega,by simp only [List.take_zero,totL];omega⟩
  ·simp only [totL] at h1
   obtain ⟨i,x,e,a,b⟩:=place (t:=l) (k:=k - c.len) (fun d hd=>hp d (by simp [hd])) (by omega) (by omega)
   exact ⟨i+1,x,by simpa using e,by simp only [List.take_succ_cons,totL];omega,by simp only [List.take_succ_cons,totL];omega⟩
end Go.Proofs.YtkjdkbmfaamhaaaGreat
