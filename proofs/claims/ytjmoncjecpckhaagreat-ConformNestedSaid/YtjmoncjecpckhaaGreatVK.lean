/- Proved here: Contracts of the made project whose sequences or media are a row of one's own, for use in the proofs of the given statements; conditions stand in each theorem. -/
import Derived.Test.YtjmoncjecpckhaaGreatVJ
import Derived.Test.YtjmoncjecpckhaaGreatVX
import Derived.Test.YtjmoncjecpckhaaGreatWA
import Derived.Test.YtjmoncjecpckhaaGreatVG
set_option linter.unusedSimpArgs false
set_option linter.unusedVariables false
set_option linter.unusedSectionVars false
set_option linter.unnecessarySimpa false
namespace Go.Proofs.YtjmoncjecpckhaaGreat
open Go.RowKit
set_option maxRecDepth 4000
@[go_sem] theorem nth_i2 {kd:IntKind} {d a0 a1:Int} {n:Nat}:nth [.lit (.int kd d)] [[.lit (.int kd a0)],[.lit (.int kd a1)]] n = [.lit (.int kd ([a0,a1].getD n d))]:=nth_map (fun x=>[.lit (.int kd x)]) d [a0,a1] n
theorem Tryz.xen4:Tryz.prog.enters 4=true:=by kernel_rfl
theorem Tryz.xen8:Tryz.prog.enters 8=true:=by kernel_rfl
theorem Tryz.xen12:Tryz.prog.enters 12=true:=by kernel_rfl
theorem Tryz.xen22:Tryz.prog.enters 22=true:=by kernel_rfl
theorem rateS30:RateS ⟨30,1⟩:=⟨⟨⟨by decide,by decide⟩,⟨by decide,by decide⟩⟩,of_decide_eq_true (by kernel_rfl),⟨of_decide_eq_true (by kernel_rfl),of_decide_eq_true (by kernel_rfl)⟩,⟨of_decide_eq_true (by kernel_rfl),of_decide_eq_true (by kernel_rfl)⟩,by decide,by decide,by decide⟩
theorem frm_gap {E:SndE} {x:ClipR} {g:Int} {r:RatR} {s:Int} (c:Nat) (h1:ownF r s<g):frmV E (fr [gapC g,x]) r s c=0:=by
 by_cases h0:ownF r s<0
 ·exact frm_lt h0
 ·have e:(fr [gapC g,x])[(ownF r s).toNat]? = some (one (gapC g) (ownF r s)):=by
   show (frC (gapC g)++(frC x ++ []))[_]? = _
   have hl:(frC (gapC g)).length=g.toNat:=frC_len2 _
   rw [List.getElem?_append_left (by omega),frC_at (gapC g) (by omega) h1]
  rw [frm_at (by omega) e]
  rfl
theorem snd_ratio {E:SndE} {nm:ByteArray} {sp:RatR} {len:Int} {r:RatR} {c:Nat} {p:List Int} (hv:vClip (cutC nm ⟨0,1⟩ sp len 4096 c)=true) (hp:(E.chs nm)[c]? = some p) (hi:I16s p) (hn:r.num≠0) (hd:r.den≠0) (hz:E.rate nm≠0)
  (hs:toQ sp=E.rate nm / ((r.num:Rat) / r.den)) {s:Int} (h0 : 0≤ownF r s) (h1:ownF r s<len):smpV E [[cutC nm ⟨0,1⟩ sp len 4096 c]] r s 0=pcmAt p s:=by
 rw [snd_cut hv hp hi h0 h1,hs,toQ_int]
 have e:(((0:Int):Rat)+timeQ r s*(E.rate nm / ((r.num:Rat) / r.den)))*(48000 / E.rate nm)=(s:Rat):=by
  have h2:=rat_ne hn
  have h3:=rat_ne hd
  unfold timeQ
  simp only [Rat.intCast_zero]
  grind
 rw [e,lerp_int]
theorem clip_cutL (E:SndE) (nm:ByteArray) (at0 sp:RatR) (len gain:Int) (chs:List Int) (k:Rat) (c:Nat):clipV E (cutL nm at0 sp len gain chs) k c=gainV (chanV (E.chs nm) (chs.getD c 0) ((toQ at0+k*toQ sp)*(48000 / E.rate nm))) gain:=by
 unfold clipV mixV srcS posY posQ cutL
 simp
theorem snd_chan {E:SndE} {nm:ByteArray} {len:Int} {chs:List Int} {r:RatR} (hv:vClip (cutL nm ⟨0,1⟩ ⟨1,1⟩ len 4096 chs)=true) {s:Int} (h0 : 0≤ownF r s) (h1:ownF r s<len) (hn:r.num≠0) (hd:r.den≠0) (hr:E.rate nm=(r.num:Rat) / r.den) (hi:∀ p∈E.chs nm,I16s p) (c:Nat) :
  smpV E [[cutL nm ⟨0,1⟩ ⟨1,1⟩ len 4096 chs]] r s c=if chs.getD c 0<0 then 0 else match (E.chs nm)[(chs.getD c 0).toNat]? with | none=>0 | some p=>pcmAt p s:=by
 have e0:(((0:Int):Rat)+timeQ r s*((1:Int):Rat))*(48000 / ((r.num:Rat) / r.den))=(s:Rat):=by
  have:=time_back hn hd s
  simp only [Rat.intCast_zero,Rat.intCast_one]
  grind
 rw [smp_one,frm_single hv (by decide:(1:Int)≠0) c h0 h1,clip_cutL,gain_unit,hr,toQ_int,toQ_int,e0,clamp_id (chan_i16 hi _ _)]
 unfold chanV
 split
 ·rfl
 ·cases e:(E.chs nm)[(chs.getD c 0).toNat]? with
  | none=>rfl
  | some p=>simp only;rw [lerp_int]
theorem clip_black (E:SndE) (len gain:Int) (chs:List Int) (k:Rat) (c:Nat):clipV E (blackC len gain chs) k c=gainV 0 gain:=by
 unfold clipV mixV srcS blackC
 simp [zSource]
theorem gain_of_zero (g:Int):gainV 0 g=0:=by
 unfold gainV
 omega
theorem fr_len2 (x y:ClipR) (hx : 0≤x.len) (hy : 0≤y.len):((fr [x,y]).length:Int)=x.len+y.len:=by
 show ((frC x++(frC y ++ [])).length:Int)=_
 rw [List.append_nil,List.length_append,frC_len2,frC_len2]
 omega
theorem snd_black {E:SndE} {g len gain:Int} {chs:List Int} (hg : 0≤g) (hl : 0≤len) (hv:vClip (blackC len gain chs)=true) (r:RatR) (s:Int) (c:Nat):smpV E [[gapC g,blackC len gain chs]] r s c=0:=by
 have hz:frmV E (fr [gapC g,blackC len gain chs]) r s c=0:=by
  by_cases h1:ownF r s<g
  ·exact frm_gap c h1
  ·by_cases h2:ownF r s<g+len
   ·rw [frm_behind hg hv (by decide:(1:Int)≠0) c (by omega) h2,clip_black,gain_of_zero]
   ·refine frm_ge ?_
    have:((fr [gapC g,blackC len gain chs]).length:Int)=g+len:=fr_len2 _ _ hg hl
    omega
 rw [smp_one,hz]
 rfl
theorem cAddC0 (R A Q:MapT) (c:ClipR) (hk:c.kind=1) (hc:c.chan = []) (k:Rat) (n a0 a1 a2 a3:Int) (hn:n≤4) (hs:CPure Tryz.prog 97 [vmix R A Q,vsource c.a,vrat (ofQ k)] (vtone n a0 a1 a2 a3)) (hz:∀ x, -65536≤tchan n a0 a1 a2 a3 x∧tchan n a0 a1 a2 a3 x≤65536) (hg : 0≤c.gain∧c.gain≤65536) (s0 s1 s2 s3:Int) (h0:Sm s0) (h1:Sm s1) (h2:Sm s2) (h3:Sm s3) :
  CIO Tryz.prog 62 1 [(0,sumB s0 s1 s2 s3)] [vmix R A Q, .own 0,vclip c,vrat (ofQ k)] (.tup []) [(0,sumB (s0) (s1) (s2) (s3))] 1:=by
 unfold Sm at h0 h1 h2 h3
 have hk2:(c.kind==2)=false:=by rw [hk];rfl
 have ww1:IntKind.i64.wrap 1=1:=by decide
 have ww2:IntKind.i64.wrap 2=2:=by decide
 have ww3:IntKind.i64.wrap 3=3:=by decide
 have ww4:IntKind.i64.wrap 4=4:=by decide
 have q12:∀ x:Int,IntKind.i64.wrap ((x:Int) / 4096)=x / 4096∨True:=fun _ => .inr trivial
 refine cio_of Tryz.xen62 Tryz.func62 rfl Tryz.ntmps62 (by rw [Tryz.results62]) (aw_ok _ ?_)
 simp only [go_sem,simprocAttr,decide_true,decide_false,hk2,hc]
 refine ⟨_,hs,?_⟩
 simp only [go_sem,simprocAttr,decide_true,decide_false,hk2,hc]
 refine awp_loopL ?_
 refine awpL_step (aw_ok _ ?_)
 simp only [go_sem,simprocAttr,decide_true,decide_false,nth_one,nth_zero2,nth_one2,nth_two2,nth_three2,ww1,ww2,ww3,ww4,hk2,pow12,pow12',hc]
 refine weak_self ?_
 simp only [go_sem,simprocAttr,decide_true,decide_false,hc]
 simp
theorem cAddC2 (R A Q:MapT) (c:ClipR) (hk:c.kind=1) (x0 x1:Int) (hc:c.chan = [x0,x1]) (k:Rat) (n a0 a1 a2 a3:Int) (hn:n≤4) (hs:CPure Tryz.prog 97 [vmix R A Q,vsource c.a,vrat (ofQ k)] (vtone n a0 a1 a2 a3)) (hz:∀ x, -65536≤tchan n a0 a1 a2 a3 x∧tchan n a0 a1 a2 a3 x≤65536) (hg : 0≤c.gain∧c.gain≤65536) (s0 s1 s2 s3:Int) (h0:Sm s0) (h1:Sm s1) (h2:Sm s2) (h3:Sm s3) :
  CIO Tryz.prog 62 1 [(0,sumB s0 s1 s2 s3)] [vmix R A Q, .own 0,vclip c,vrat (ofQ k)] (.tup []) [(0,sumB (s0+gainV (tchan n a0 a1 a2 a3 x0) c.gain) (s1+gainV (tchan n a0 a1 a2 a3 x1) c.gain) (s2) (s3))] 1:=by
 unfold Sm at h0 h1 h2 h3
 have hk2:(c.kind==2)=false:=by rw [hk];rfl
 have cc0:=cChannel n a0 a1 a2 a3 x0 hn
 have hz0:=hz x0
 generalize tchan n a0 a1 a2 a3 x0=z0 at cc0 hz0 ⊢
 obtain ⟨b0,d0,e0,f0⟩:=gain_bound hz0 hg
 have u0:=wrap64 (x:=z0*c.gain) (by omega) (by omega)
 have v0:=wrap64 (x:=z0*c.gain+2048) (by omega) (by omega)
 have y0:IntKind.i64.wrap (s0+(z0*c.gain+2048) / 4096)=s0+gainV z0 c.gain:=by unfold gainV at e0 f0 ⊢; exact wrap64 (by omega) (by omega)
 have cc1:=cChannel n a0 a1 a2 a3 x1 hn
 have hz1:=hz x1
 generalize tchan n a0 a1 a2 a3 x1=z1 at cc1 hz1 ⊢
 obtain ⟨b1,d1,e1,f1⟩:=gain_bound hz1 hg
 have u1:=wrap64 (x:=z1*c.gain) (by omega) (by omega)
 have v1:=wrap64 (x:=z1*c.gain+2048) (by omega) (by omega)
 have y1:IntKind.i64.wrap (s1+(z1*c.gain+2048) / 4096)=s1+gainV z1 c.gain:=by unfold gainV at e1 f1 ⊢; exact wrap64 (by omega) (by omega)
 have ww1:IntKind.i64.wrap 1=1:=by decide
 have ww2:IntKind.i64.wrap 2=2:=by decide
 have ww3:IntKind.i64.wrap 3=3:=by decide
 have ww4:IntKind.i64.wrap 4=4:=by decide
 have q12:∀ x:Int,IntKind.i64.wrap ((x:Int) / 4096)=x / 4096∨True:=fun _ => .inr trivial
 refine cio_of Tryz.xen62 Tryz.func62 rfl Tryz.ntmps62 (by rw [Tryz.results62]) (aw_ok _ ?_)
 simp only [go_sem,simprocAttr,decide_true,decide_false,hk2,hc]
 refine ⟨_,hs,?_⟩
 simp only [go_sem,simprocAttr,decide_true,decide_false,hk2,hc]
 refine awp_loopL ?_
 refine awpL_step (aw_ok _ ?_)
 simp only [go_sem,simprocAttr,decide_true,decide_false,nth_one,nth_zero2,nth_one2,nth_two2,nth_three2,ww1,ww2,ww3,ww4,hk2,pow12,pow12',hc]
 refine ⟨_,cc0,?_⟩
 simp only [go_sem,simprocAttr,decide_true,decide_false,nth_one,nth_zero2,nth_one2,nth_two2,nth_three2,ww1,ww2,ww3,ww4,hk2,pow12,pow12',hc]
 refine drawC_of 15 .done rfl (by kernel_rfl) (by kernel_rfl) (by decide) ?_
 simp only [go_sem,simprocAttr,decide_true,decide_false,nth_one,nth_zero2,nth_one2,nth_two2,nth_three2,ww1,ww2,ww3,ww4,hk2,pow12,pow12',hc,u0,v0,y0]
 refine ⟨by kernel_rfl,?_⟩
 refine awpL_step (aw_ok _ ?_)
 simp only [go_sem,simprocAttr,decide_true,decide_false,nth_one,nth_zero2,nth_one2,nth_two2,nth_three2,ww1,ww2,ww3,ww4,hk2,pow12,pow12',hc]
 refine ⟨_,cc1,?_⟩
 simp only [go_sem,simprocAttr,decide_true,decide_false,nth_one,nth_zero2,nth_one2,nth_two2,nth_three2,ww1,ww2,ww3,ww4,hk2,pow12,pow12',hc]
 refine drawC_of 15 .done rfl (by kernel_rfl) (by kernel_rfl) (by decide) ?_
 simp only [go_sem,simprocAttr,decide_true,decide_false,nth_one,nth_zero2,nth_one2,nth_two2,nth_three2,ww1,ww2,ww3,ww4,hk2,pow12,pow12',hc,u1,v1,y1]
 refine ⟨by kernel_rfl,?_⟩
 refine awpL_step (aw_ok _ ?_)
 simp only [go_sem,simprocAttr,decide_true,decide_false,nth_one,nth_zero2,nth_one2,nth_two2,nth_three2,ww1,ww2,ww3,ww4,hk2,pow12,pow12',hc]
 refine weak_self ?_
 simp only [go_sem,simprocAttr,decide_true,decide_false,hc]
 simp
theorem cAddC3 (R A Q:MapT) (c:ClipR) (hk:c.kind=1) (x0 x1 x2:Int) (hc:c.chan = [x0,x1,x2]) (k:Rat) (n a0 a1 a2 a3:Int) (hn:n≤4) (hs:CPure Tryz.prog 97 [vmix R A Q,vsource c.a,vrat (ofQ k)] (vtone n a0 a1 a2 a3)) (hz:∀ x, -65536≤tchan n a0 a1 a2 a3 x∧tchan n a0 a1 a2 a3 x≤65536) (hg : 0≤c.gain∧c.gain≤65536) (s0 s1 s2 s3:Int) (h0:Sm s0) (h1:Sm s1) (h2:Sm s2) (h3:Sm s3) :
  CIO Tryz.prog 62 1 [(0,sumB s0 s1 s2 s3)] [vmix R A Q, .own 0,vclip c,vrat (ofQ k)] (.tup []) [(0,sumB (s0+gainV (tchan n a0 a1 a2 a3 x0) c.gain) (s1+gainV (tchan n a0 a1 a2 a3 x1) c.gain) (s2+gainV (tchan n a0 a1 a2 a3 x2) c.gain) (s3))] 1:=by
 unfold Sm at h0 h1 h2 h3
 have hk2:(c.kind==2)=false:=by rw [hk];rfl
 have cc0:=cChannel n a0 a1 a2 a3 x0 hn
 have hz0:=hz x0
 generalize tchan n a0 a1 a2 a3 x0=z0 at cc0 hz0 ⊢
 obtain ⟨b0,d0,e0,f0⟩:=gain_bound hz0 hg
 have u0:=wrap64 (x:=z0*c.gain) (by omega) (by omega)
 have v0:=wrap64 (x:=z0*c.gain+2048) (by omega) (by omega)
 have y0:IntKind.i64.wrap (s0+(z0*c.gain+2048) / 4096)=s0+gainV z0 c.gain:=by unfold gainV at e0 f0 ⊢; exact wrap64 (by omega) (by omega)
 have cc1:=cChannel n a0 a1 a2 a3 x1 hn
 have hz1:=hz x1
 generalize tchan n a0 a1 a2 a3 x1=z1 at cc1 hz1 ⊢
 obtain ⟨b1,d1,e1,f1⟩:=gain_bound hz1 hg
 have u1:=wrap64 (x:=z1*c.gain) (by omega) (by omega)
 have v1:=wrap64 (x:=z1*c.gain+2048) (by omega) (by omega)
 have y1:IntKind.i64.wrap (s1+(z1*c.gain+2048) / 4096)=s1+gainV z1 c.gain:=by unfold gainV at e1 f1 ⊢; exact wrap64 (by omega) (by omega)
 have cc2:=cChannel n a0 a1 a2 a3 x2 hn
 have hz2:=hz x2
 generalize tchan n a0 a1 a2 a3 x2=z2 at cc2 hz2 ⊢
 obtain ⟨b2,d2,e2,f2⟩:=gain_bound hz2 hg
 have u2:=wrap64 (x:=z2*c.gain) (by omega) (by omega)
 have v2:=wrap64 (x:=z2*c.gain+2048) (by omega) (by omega)
 have y2:IntKind.i64.wrap (s2+(z2*c.gain+2048) / 4096)=s2+gainV z2 c.gain:=by unfold gainV at e2 f2 ⊢; exact wrap64 (by omega) (by omega)
 have ww1:IntKind.i64.wrap 1=1:=by decide
 have ww2:IntKind.i64.wrap 2=2:=by decide
 have ww3:IntKind.i64.wrap 3=3:=by decide
 have ww4:IntKind.i64.wrap 4=4:=by decide
 have q12:∀ x:Int,IntKind.i64.wrap ((x:Int) / 4096)=x / 4096∨True:=fun _ => .inr trivial
 refine cio_of Tryz.xen62 Tryz.func62 rfl Tryz.ntmps62 (by rw [Tryz.results62]) (aw_ok _ ?_)
 simp only [go_sem,simprocAttr,decide_true,decide_false,hk2,hc]
 refine ⟨_,hs,?_⟩
 simp only [go_sem,simprocAttr,decide_true,decide_false,hk2,hc]
 refine awp_loopL ?_
 refine awpL_step (aw_ok _ ?_)
 simp only [go_sem,simprocAttr,decide_true,decide_false,nth_one,nth_zero2,nth_one2,nth_two2,nth_three2,ww1,ww2,ww3,ww4,hk2,pow12,pow12',hc]
 refine ⟨_,cc0,?_⟩
 simp only [go_sem,simprocAttr,decide_true,decide_false,nth_one,nth_zero2,nth_one2,nth_two2,nth_three2,ww1,ww2,ww3,ww4,hk2,pow12,pow12',hc]
 refine drawC_of 15 .done rfl (by kernel_rfl) (by kernel_rfl) (by decide) ?_
 simp only [go_sem,simprocAttr,decide_true,decide_false,nth_one,nth_zero2,nth_one2,nth_two2,nth_three2,ww1,ww2,ww3,ww4,hk2,pow12,pow12',hc,u0,v0,y0]
 refine ⟨by kernel_rfl,?_⟩
 refine awpL_step (aw_ok _ ?_)
 simp only [go_sem,simprocAttr,decide_true,decide_false,nth_one,nth_zero2,nth_one2,nth_two2,nth_three2,ww1,ww2,ww3,ww4,hk2,pow12,pow12',hc]
 refine ⟨_,cc1,?_⟩
 simp only [go_sem,simprocAttr,decide_true,decide_false,nth_one,nth_zero2,nth_one2,nth_two2,nth_three2,ww1,ww2,ww3,ww4,hk2,pow12,pow12',hc]
 refine drawC_of 15 .done rfl (by kernel_rfl) (by kernel_rfl) (by decide) ?_
 simp only [go_sem,simprocAttr,decide_true,decide_false,nth_one,nth_zero2,nth_one2,nth_two2,nth_three2,ww1,ww2,ww3,ww4,hk2,pow12,pow12',hc,u1,v1,y1]
 refine ⟨by kernel_rfl,?_⟩
 refine awpL_step (aw_ok _ ?_)
 simp only [go_sem,simprocAttr,decide_true,decide_false,nth_one,nth_zero2,nth_one2,nth_two2,nth_three2,ww1,ww2,ww3,ww4,hk2,pow12,pow12',hc]
 refine ⟨_,cc2,?_⟩
 simp only [go_sem,simprocAttr,decide_true,decide_false,nth_one,nth_zero2,nth_one2,nth_two2,nth_three2,ww1,ww2,ww3,ww4,hk2,pow12,pow12',hc]
 refine drawC_of 15 .done rfl (by kernel_rfl) (by kernel_rfl) (by decide) ?_
 simp only [go_sem,simprocAttr,decide_true,decide_false,nth_one,nth_zero2,nth_one2,nth_two2,nth_three2,ww1,ww2,ww3,ww4,hk2,pow12,pow12',hc,u2,v2,y2]
 refine ⟨by kernel_rfl,?_⟩
 refine awpL_step (aw_ok _ ?_)
 simp only [go_sem,simprocAttr,decide_true,decide_false,nth_one,nth_zero2,nth_one2,nth_two2,nth_three2,ww1,ww2,ww3,ww4,hk2,pow12,pow12',hc]
 refine weak_self ?_
 simp only [go_sem,simprocAttr,decide_true,decide_false,hc]
 simp
theorem cAddC4 (R A Q:MapT) (c:ClipR) (hk:c.kind=1) (x0 x1 x2 x3:Int) (hc:c.chan = [x0,x1,x2,x3]) (k:Rat) (n a0 a1 a2 a3:Int) (hn:n≤4) (hs:CPure Tryz.prog 97 [vmix R A Q,vsource c.a,vrat (ofQ k)] (vtone n a0 a1 a2 a3)) (hz:∀ x, -65536≤tchan n a0 a1 a2 a3 x∧tchan n a0 a1 a2 a3 x≤65536) (hg : 0≤c.gain∧c.gain≤65536) (s0 s1 s2 s3:Int) (h0:Sm s0) (h1:Sm s1) (h2:Sm s2) (h3:Sm s3) :
  CIO Tryz.prog 62 1 [(0,sumB s0 s1 s2 s3)] [vmix R A Q, .own 0,vclip c,vrat (ofQ k)] (.tup []) [(0,sumB (s0+gainV (tchan n a0 a1 a2 a3 x0) c.gain) (s1+gainV (tchan n a0 a1 a2 a3 x1) c.gain) (s2+gainV (tchan n a0 a1 a2 a3 x2) c.gain) (s3+gainV (tchan n a0 a1 a2 a3 x3) c.gain))] 1:=by
 unfold Sm at h0 h1 h2 h3
 have hk2:(c.kind==2)=false:=by rw [hk];rfl
 have cc0:=cChannel n a0 a1 a2 a3 x0 hn
 have hz0:=hz x0
 generalize tchan n a0 a1 a2 a3 x0=z0 at cc0 hz0 ⊢
 obtain ⟨b0,d0,e0,f0⟩:=gain_bound hz0 hg
 have u0:=wrap64 (x:=z0*c.gain) (by omega) (by omega)
 have v0:=wrap64 (x:=z0*c.gain+2048) (by omega) (by omega)
 have y0:IntKind.i64.wrap (s0+(z0*c.gain+2048) / 4096)=s0+gainV z0 c.gain:=by unfold gainV at e0 f0 ⊢; exact wrap64 (by omega) (by omega)
 have cc1:=cChannel n a0 a1 a2 a3 x1 hn
 have hz1:=hz x1
 generalize tchan n a0 a1 a2 a3 x1=z1 at cc1 hz1 ⊢
 obtain ⟨b1,d1,e1,f1⟩:=gain_bound hz1 hg
 have u1:=wrap64 (x:=z1*c.gain) (by omega) (by omega)
 have v1:=wrap64 (x:=z1*c.gain+2048) (by omega) (by omega)
 have y1:IntKind.i64.wrap (s1+(z1*c.gain+2048) / 4096)=s1+gainV z1 c.gain:=by unfold gainV at e1 f1 ⊢; exact wrap64 (by omega) (by omega)
 have cc2:=cChannel n a0 a1 a2 a3 x2 hn
 have hz2:=hz x2
 generalize tchan n a0 a1 a2 a3 x2=z2 at cc2 hz2 ⊢
 obtain ⟨b2,d2,e2,f2⟩:=gain_bound hz2 hg
 have u2:=wrap64 (x:=z2*c.gain) (by omega) (by omega)
 have v2:=wrap64 (x:=z2*c.gain+2048) (by omega) (by omega)
 have y2:IntKind.i64.wrap (s2+(z2*c.gain+2048) / 4096)=s2+gainV z2 c.gain:=by unfold gainV at e2 f2 ⊢; exact wrap64 (by omega) (by omega)
 have cc3:=cChannel n a0 a1 a2 a3 x3 hn
 have hz3:=hz x3
 generalize tchan n a0 a1 a2 a3 x3=z3 at cc3 hz3 ⊢
 obtain ⟨b3,d3,e3,f3⟩:=gain_bound hz3 hg
 have u3:=wrap64 (x:=z3*c.gain) (by omega) (by omega)
 have v3:=wrap64 (x:=z3*c.gain+2048) (by omega) (by omega)
 have y3:IntKind.i64.wrap (s3+(z3*c.gain+2048) / 4096)=s3+gainV z3 c.gain:=by unfold gainV at e3 f3 ⊢; exact wrap64 (by omega) (by omega)
 have ww1:IntKind.i64.wrap 1=1:=by decide
 have ww2:IntKind.i64.wrap 2=2:=by decide
 have ww3:IntKind.i64.wrap 3=3:=by decide
 have ww4:IntKind.i64.wrap 4=4:=by decide
 have q12:∀ x:Int,IntKind.i64.wrap ((x:Int) / 4096)=x / 4096∨True:=fun _ => .inr trivial
 refine cio_of Tryz.xen62 Tryz.func62 rfl Tryz.ntmps62 (by rw [Tryz.results62]) (aw_ok _ ?_)
 simp only [go_sem,simprocAttr,decide_true,decide_false,hk2,hc]
 refine ⟨_,hs,?_⟩
 simp only [go_sem,simprocAttr,decide_true,decide_false,hk2,hc]
 refine awp_loopL ?_
 refine awpL_step (aw_ok _ ?_)
 simp only [go_sem,simprocAttr,decide_true,decide_false,nth_one,nth_zero2,nth_one2,nth_two2,nth_three2,ww1,ww2,ww3,ww4,hk2,pow12,pow12',hc]
 refine ⟨_,cc0,?_⟩
 simp only [go_sem,simprocAttr,decide_true,decide_false,nth_one,nth_zero2,nth_one2,nth_two2,nth_three2,ww1,ww2,ww3,ww4,hk2,pow12,pow12',hc]
 refine drawC_of 15 .done rfl (by kernel_rfl) (by kernel_rfl) (by decide) ?_
 simp only [go_sem,simprocAttr,decide_true,decide_false,nth_one,nth_zero2,nth_one2,nth_two2,nth_three2,ww1,ww2,ww3,ww4,hk2,pow12,pow12',hc,u0,v0,y0]
 refine ⟨by kernel_rfl,?_⟩
 refine awpL_step (aw_ok _ ?_)
 simp only [go_sem,simprocAttr,decide_true,decide_false,nth_one,nth_zero2,nth_one2,nth_two2,nth_three2,ww1,ww2,ww3,ww4,hk2,pow12,pow12',hc]
 refine ⟨_,cc1,?_⟩
 simp only [go_sem,simprocAttr,decide_true,decide_false,nth_one,nth_zero2,nth_one2,nth_two2,nth_three2,ww1,ww2,ww3,ww4,hk2,pow12,pow12',hc]
 refine drawC_of 15 .done rfl (by kernel_rfl) (by kernel_rfl) (by decide) ?_
 simp only [go_sem,simprocAttr,decide_true,decide_false,nth_one,nth_zero2,nth_one2,nth_two2,nth_three2,ww1,ww2,ww3,ww4,hk2,pow12,pow12',hc,u1,v1,y1]
 refine ⟨by kernel_rfl,?_⟩
 refine awpL_step (aw_ok _ ?_)
 simp only [go_sem,simprocAttr,decide_true,decide_false,nth_one,nth_zero2,nth_one2,nth_two2,nth_three2,ww1,ww2,ww3,ww4,hk2,pow12,pow12',hc]
 refine ⟨_,cc2,?_⟩
 simp only [go_sem,simprocAttr,decide_true,decide_false,nth_one,nth_zero2,nth_one2,nth_two2,nth_three2,ww1,ww2,ww3,ww4,hk2,pow12,pow12',hc]
 refine drawC_of 15 .done rfl (by kernel_rfl) (by kernel_rfl) (by decide) ?_
 simp only [go_sem,simprocAttr,decide_true,decide_false,nth_one,nth_zero2,nth_one2,nth_two2,nth_three2,ww1,ww2,ww3,ww4,hk2,pow12,pow12',hc,u2,v2,y2]
 refine ⟨by kernel_rfl,?_⟩
 refine awpL_step (aw_ok _ ?_)
 simp only [go_sem,simprocAttr,decide_true,decide_false,nth_one,nth_zero2,nth_one2,nth_two2,nth_three2,ww1,ww2,ww3,ww4,hk2,pow12,pow12',hc]
 refine ⟨_,cc3,?_⟩
 simp only [go_sem,simprocAttr,decide_true,decide_false,nth_one,nth_zero2,nth_one2,nth_two2,nth_three2,ww1,ww2,ww3,ww4,hk2,pow12,pow12',hc]
 refine drawC_of 15 .done rfl (by kernel_rfl) (by kernel_rfl) (by decide) ?_
 simp only [go_sem,simprocAttr,decide_true,decide_false,nth_one,nth_zero2,nth_one2,nth_two2,nth_three2,ww1,ww2,ww3,ww4,hk2,pow12,pow12',hc,u3,v3,y3]
 refine ⟨by kernel_rfl,?_⟩
 refine awpL_step (aw_ok _ ?_)
 simp only [go_sem,simprocAttr,decide_true,decide_false,nth_one,nth_zero2,nth_one2,nth_two2,nth_three2,ww1,ww2,ww3,ww4,hk2,pow12,pow12',hc]
 refine weak_self ?_
 simp only [go_sem,simprocAttr,decide_true,decide_false,hc]
 simp
abbrev rawQ1 (r:RatR) (t:T):List T:=[tstr nmS,ti r.num,ti r.den,ti 16,ti 16, .lit (.slice none 0 0),t, .lit (.slice none 0 0),ti 1]
abbrev rawMs (r:RatR):T := .list 141 (Tryz.z60.map T.lit) [mHead (prjM nmA r) ++ [.lit (.slice none 0 0)],mHead (prjM nmB r) ++ [.lit (.slice none 0 0)]]
theorem cProjQ (r:RatR) (t:T):CIO Tryz.prog 18 0 [] [vrat r, .t t] (.agg [.t (rawMs r), .own 0]) [(0, .row 70 9 zSeqT (tRows [rawQ1 r t]))] 1:=by
 refine cio_of Tryz.xen18 Tryz.func18 rfl Tryz.ntmps18 (by rw [Tryz.results18]) (aw_ok _ ?_)
 have ww1:IntKind.i64.wrap 1=1:=by decide
 have ww2:IntKind.i64.wrap 2=2:=by decide
 have w01:IntKind.i64.wrap (0+1)=1:=by decide
 have w11:IntKind.i64.wrap (1+1)=2:=by decide
 simp only [go_sem,simprocAttr,decide_true,decide_false]
 refine awp_loopL ?_
 refine awpL_step (aw_ok _ ?_)
 simp only [go_sem,simprocAttr,decide_true,decide_false,↓fillA,↓fillB2,ww1,ww2,w01,w11]
 refine ⟨by decide,?_⟩
 refine awpL_step (aw_ok _ ?_)
 simp only [go_sem,simprocAttr,decide_true,decide_false,↓fillA,↓fillB2,ww1,ww2,w01,w11]
 refine ⟨by decide,?_⟩
 refine awpL_step (aw_ok _ ?_)
 simp only [go_sem,simprocAttr,decide_true,decide_false,↓fillA,↓fillB2,ww1,ww2,w01,w11]
 refine weak_of [(0,some 8)] ?_
 simp only [go_sem,simprocAttr,decide_true,decide_false]
 exact ⟨⟨by simp,rfl⟩,rfl,by simp⟩
open Go.RowKit
set_option maxRecDepth 4000
theorem set_own2a (i:Nat):(tRows [[T.lit (.slice none 0 0)],[T.lit (.slice none 0 0)]]).set 0 (V.own i::List.drop 1 (List.map V.t (nth [T.lit (.slice none 0 0)] [[T.lit (.slice none 0 0)],[T.lit (.slice none 0 0)]] 0))) = [[V.own i],[V.t (T.lit (.slice none 0 0))]]:=rfl
theorem set_own2b (i j:Nat):setRow [[V.own i],[V.t (T.lit (.slice none 0 0))]] 1 (V.own j::List.drop 1 (nthV [T.lit (.slice none 0 0)] [[V.own i],[V.t (T.lit (.slice none 0 0))]] 1)) = [[V.own i],[V.own j]]:=rfl
theorem cSound2 {md:List MediumR} {q:SequenceR} {A:List AudioR} {E:SndE} {from0:Int} {n:Nat} (h:SoundOk md q A E 2 from0 n) :
  CPure Tryz.prog 17 [vproj ⟨md,[q]⟩,vstr q.name,vint from0,vint n, .t (taudios A)] (.tup [.t (tchs [sndL (fun i=>outV E 2 q.sound q.rate (from0+i) 0) n,sndL (fun i=>outV E 2 q.sound q.rate (from0+i) 1) n]),vint 0]):=by
 have cv:=cValid ⟨md,[q]⟩ h.fit
 rw [h.val] at cv
 have cm:=cNewMixer md q h.hm A h.ha h.hn h.h8 h.ht
 have cp:=cProper A (by have:=h.ha;omega) h.hp
 obtain ⟨hu,hv,hn2,hd2⟩:=rateS_v h.hr
 have hd:=h.hr.d
 have ca:=cAudible q.rate h.hr.fit ⟨by omega,by omega⟩
 rw [h.hr.aud] at ca
 have n1:=h.n1
 have f0:=h.f0
 have f1:=h.f1
 have nb:∀ s, -68719476736≤s∧s≤68719476736→numberedS s=true:=fun s hs=>by
  unfold numberedS
  rw [decide_eq_true (by omega),decide_eq_true (by omega)]
  rfl
 have c1:=cNumbered from0
 rw [nb _ ⟨by omega,by omega⟩] at c1
 have c2:=cNumbered (from0+n)
 rw [nb _ ⟨by omega,by omega⟩] at c2
 have hch:=h.hch
 have d0:decide ((n:Int)<0)=false:=decide_eq_false (by omega)
 have d1:decide ((n:Int) > 1048576)=false:=decide_eq_false (by omega)
 refine cpure_of Tryz.xen17 Tryz.func17 rfl Tryz.ntmps17 (by rw [Tryz.results17]) (aw_ok _ ?_)
 simp only [go_sem,simprocAttr,decide_true,decide_false]
 refine ⟨_,cv,?_⟩
 simp only [go_sem,simprocAttr,decide_true,decide_false]
 refine icall_io cm [] rfl (by omega) (by decide) ?_ rfl rfl rfl rfl ?_
 ·simp only [go_sem,simprocAttr,decide_true,decide_false]
 simp only [go_sem,simprocAttr,decide_true,decide_false,hch,List.getElem?_nil,d0,(ren_tEs _ _).1]
 refine ⟨_,cp,?_⟩
 simp only [go_sem,simprocAttr,decide_true,decide_false,d1,d0]
 refine ⟨_,c1,?_⟩
 simp only [go_sem,simprocAttr,decide_true,decide_false,wrap64 (x:=from0+n) (by omega) (by omega)]
 refine ⟨_,c2,?_⟩
 simp only [go_sem,simprocAttr,decide_true,decide_false]
 refine ⟨_,ca,?_⟩
 simp only [go_sem,simprocAttr,decide_true,decide_false]
 refine ⟨by decide,?_⟩
 have ww1:IntKind.i64.wrap 1=1:=by decide
 have w01:IntKind.i64.wrap (0+1)=1:=by decide
 have ww2:IntKind.i64.wrap 2=2:=by decide
 have w11:IntKind.i64.wrap (1+1)=2:=by decide
 refine awp_loopL ?_
 refine awpL_step (aw_ok _ ?_)
 simp only [go_sem,simprocAttr,decide_true,decide_false,ww1,w01,ww2,w11]
 refine ⟨⟨by omega,by unfold maxLen;omega,by omega⟩,?_⟩
 refine awpL_step (aw_ok _ ?_)
 simp only [go_sem,simprocAttr,decide_true,decide_false,ww1,w01,ww2,w11,set_own2a]
 refine ⟨⟨by omega,by unfold maxLen;omega,by omega⟩,?_⟩
 refine awpL_step (aw_ok _ ?_)
 simp only [go_sem,simprocAttr,decide_true,decide_false,ww1,w01,ww2,w11,set_own2a,set_own2b]
 have hrg:∀ i:Nat, -32768≤(fun i:Nat=>outV E 2 q.sound q.rate (from0+i) 0) i∧(fun i:Nat=>outV E 2 q.sound q.rate (from0+i) 0) i≤32767:=fun i=>out_range _ _ _ _ _ _
 have hrh:∀ i:Nat, -32768≤(fun i:Nat=>outV E 2 q.sound q.rate (from0+i) 1) i∧(fun i:Nat=>outV E 2 q.sound q.rate (from0+i) 1) i≤32767:=fun i=>out_range _ _ _ _ _ _
 obtain ⟨f,hf⟩:∃ f:Nat→Int,f=fun i:Nat=>outV E 2 q.sound q.rate (from0+i) 0:=⟨_,rfl⟩
 obtain ⟨g,hg⟩:∃ g:Nat→Int,g=fun i:Nat=>outV E 2 q.sound q.rate (from0+i) 1:=⟨_,rfl⟩
 rw [← hf] at hrg ⊢
 rw [← hg] at hrh ⊢
 refine awp_loop_f (fun (i:Nat) σ => setB 11 (.row 64 1 (c16 0) (tRows ((fillP f n i).map c16))) (setB 12 (.row 64 1 (c16 0) (tRows ((fillP g n i).map c16))) (setS 85 (vint i) (deadS [18,19,20,86,87,88,89,90,91,92,93,94,95,96,97,98,99,100,101,102,103,104,105,106,107,108,109,110] (cleanS σ))))) (fun i=>i≤n) (fun i=>n - i) 0 (weak_self ?_) (Nat.zero_le _) ?_
 ·simp only [go_sem,simprocAttr]
  refine ⟨by simp,(fillP_zero g n).symm,by simp,(fillP_zero f n).symm,?_⟩
  simp
 ·intro i hi
  refine aw_ok _ ?_
  simp only [go_sem,simprocAttr]
  refine ⟨fun hlt=>?_,fun hge=>?_⟩
  ·simp only [bxx] at hlt
   have hil:i<n:=by omega
   have hwi:IntKind.i64.wrap ((i:Int)+1)=((i+1:Nat):Int):=by rw [wrap1 (by omega)];omega
   have hcmp:=cCompute h.hr (s:=from0+i) ⟨by omega,by omega⟩ (h.hc i hil)
   have hfi:outV E 2 q.sound q.rate (from0+(i:Int)) 0=f i:=by rw [hf]
   have hgi:outV E 2 q.sound q.rate (from0+(i:Int)) 1=g i:=by rw [hg]
   rw [hfi,hgi] at hcmp
   unfold awS
   simp only [go_sem,simprocAttr,decide_true,decide_false,wrap64 (x:=from0+(i:Int)) (by omega) (by omega)]
   refine lcall_lend ?_
   simp only [go_sem,simprocAttr,decide_true,decide_false]
   refine ⟨_,hcmp,rfl,?_⟩
   simp only [go_sem,simprocAttr,decide_true,decide_false]
   refine awp_loopL ?_
   refine awpL_step (aw_ok _ ?_)
   simp only [go_sem,simprocAttr,decide_true,decide_false,ww1,w01,ww2,w11]
   refine drawC_of 11 .done rfl (by kernel_rfl) (by kernel_rfl) (by decide) ?_
   simp only [go_sem,simprocAttr,decide_true,decide_false,nthV_0,ww1,w01,wrap16 (hrg i).1 (hrg i).2]
   refine ⟨⟨by omega,by rw [fillP_len];omega⟩,by rw [fillP_len];omega,by kernel_rfl,?_⟩
   refine awpL_step (aw_ok _ ?_)
   simp only [go_sem,simprocAttr,decide_true,decide_false,ww1,w01,ww2,w11,tRows_set1]
   refine drawC_of 11 .done rfl (by kernel_rfl) (by kernel_rfl) (by decide) ?_
   simp only [go_sem,simprocAttr,decide_true,decide_false,nthV_1,ww1,w01,wrap16 (hrh i).1 (hrh i).2]
   refine ⟨⟨by omega,by rw [fillP_len];omega⟩,by rw [fillP_len];omega,by kernel_rfl,?_⟩
   refine awpL_step (aw_ok _ ?_)
   simp only [go_sem,simprocAttr,decide_true,decide_false,ww1,w01,ww2,w11,tRows_set1]
   refine ⟨i+1,weak_self ?_,by omega,by omega⟩
   simp only [go_sem,simprocAttr,decide_true,decide_false,hwi]
   refine ⟨by simp,fillP_set g hil,by simp,fillP_set f hil,?_⟩
   simp
  ·simp only [bxx] at hge
   have:n=i:=by omega
   subst this
   unfold awS
   simp only [go_sem,simprocAttr,decide_true,decide_false]
   refine ⟨nopSound,?_⟩
   rw [fillP_full,fillP_full]
   rfl
open Go.RowKit
set_option maxRecDepth 4000
theorem clipT_cut2 {R A Q:MapT} {E:SndE} {c:ClipR} {r:RatR} {L:List (List Int)} (hk:c.kind=1) {x y:Int} (hc:c.chan = [x,y]) (hl:c.len≤63) (h:SrcF R A c.a r L) (hE:E.chs c.a.name=L) (hR:E.rate c.a.name=toQ r) (hg : 0≤c.gain∧c.gain≤65536):ClipT R A Q E 2 c:=by
 refine ⟨hl,fun k k0 k1 kd=>?_⟩
 have kl:(c.len:Rat)≤((63:Int):Rat):=by exact_mod_cast hl
 have c63:((63:Int):Rat)=63:=rfl
 rw [c63] at kl
 have hs:=srcM_of h (k:=k) (by grind) (by grind) kd
 have hL2:L.length≤2:=by rcases h.hL with e | e<;>omega
 have src:=cSourceM (Q:=Q) hs
 unfold toneL at src
 have hz:=chan_range hL2 h.i16 (posQ c.a k*(48000 / toQ r))
 have ev:clipV E c k 0=gainV (tchan L.length (lerpV (L.getD 0 []) (posQ c.a k*(48000 / toQ r))) (lerpV (L.getD 1 []) (posQ c.a k*(48000 / toQ r))) 0 0 x) c.gain:=by
  unfold clipV mixV
  rw [if_neg (by omega),hc,srcS_med h.kind hR,hE,tchan_chan hL2]
  rfl
 have ew:clipV E c k 1=gainV (tchan L.length (lerpV (L.getD 0 []) (posQ c.a k*(48000 / toQ r))) (lerpV (L.getD 1 []) (posQ c.a k*(48000 / toQ r))) 0 0 y) c.gain:=by
  unfold clipV mixV
  rw [if_neg (by omega),hc,srcS_med h.kind hR,hE,tchan_chan hL2]
  rfl
 have hb:=gain_bound (hz x) hg
 have hd:=gain_bound (hz y) hg
 refine ⟨fun i=>?_,fun s0 s1 s2 s3 h0 h1 h2 h3=>?_⟩
 ·unfold chV
  split
  ·rename_i hi
   have:i=0∨i=1:=by omega
   rcases this with rfl | rfl
   ·rw [ev]
    exact hb.2.2
   ·rw [ew]
    exact hd.2.2
  ·decide
 ·have:=cAddC2 R A Q c hk x y hc k L.length _ _ 0 0 (by omega) src hz hg s0 s1 s2 s3 h0 h1 h2 h3
  rw [← ev, ← ew] at this
  have z:∀ i,2≤i→chV E 2 c k i=0:=fun i hi=>by unfold chV;rw [if_neg (by omega)]
  have z0:chV E 2 c k 0=clipV E c k 0:=by unfold chV;rw [if_pos (by omega)]
  have z1:chV E 2 c k 1=clipV E c k 1:=by unfold chV;rw [if_pos (by omega)]
  rw [z 2 (by omega),z 3 (by omega),z0,z1,Int.add_zero,Int.add_zero]
  exact this
theorem cSnd2 {ra rb r:RatR} {ts:List (List ClipR)} {A:List AudioR} {from0:Int} {n:Nat} (hra:RateS ra) (hrb:RateS rb) (hr:RateS r) (h8:ts.length≤8) (ht:∀ t∈ts,TrkQ 2 t) (hA:AudS A) (n1:n≤1000) (f0 : -68719476736≤from0) (f1:from0+n≤68719476736)
  (hc:∀ t∈ts, ∀ x∈t,x.kind≠0→ClipT (prjR ra rb) (auM A) (sqM nmS) (prjE ra rb A) 2 x) :
  CPure Tryz.prog 17 [vproj (prjG ra rb r 2 ts),vstr nmS,vint from0,vint n, .t (taudios A)] (.tup [.t (tchs [sndV (prjE ra rb A) ts r from0 n 0,sndV (prjE ra rb A) ts r from0 n 1]),vint 0]):=by
 have h:=cSound2 (soundOk_prj hra hrb hr (m:=2) (by decide) h8 ht hA n1 f0 f1 hc)
 have e:∀ c:Nat,c<2→(fun i:Nat=>outV (prjE ra rb A) 2 (prjQ r (2:Nat) ts).sound (prjQ r (2:Nat) ts).rate (from0+i) c)=fun i:Nat=>smpV (prjE ra rb A) ts r (from0+i) c:=fun c hc=>by
  funext i
  unfold outV
  rw [if_pos hc]
  rfl
 rw [e 0 (by decide),e 1 (by decide)] at h
 exact h
theorem cutL_trk {nm:ByteArray} {at0 sp:RatR} {len gain x y:Int} (hn:nm=nmA∨nm=nmB) (hv:vClip (cutL nm at0 sp len gain [x,y])=true) (hf:(cutL nm at0 sp len gain [x,y]).fit):TrkQ 2 [cutL nm at0 sp len gain [x,y]]:=by
 have hl:=vClip_len hv
 refine ⟨?_,fun c hc=>?_⟩
 ·unfold vTrack
  have l1:(cutL nm at0 sp len gain [x,y]).len=len:=rfl
  rw [l1] at hl
  have ht:totL [cutL nm at0 sp len gain [x,y]]=len:=by simp only [totL,l1];omega
  rw [ht,decide_eq_true (show [cutL nm at0 sp len gain [x,y]].length≤64 by simp),decide_eq_true (show len≤2147483647 by omega)]
  simp [hv]
 ·simp only [List.mem_cons,List.not_mem_nil,or_false] at hc
  subst hc
  refine ⟨hf,rfl,fun x hx=>?_⟩
  rcases hx with rfl | rfl
  ·exact ⟨(by decide:(1:Int)≠2),fun _=>hn⟩
  ·exact ⟨(by decide:(0:Int)≠2),fun h=>absurd h (by decide : ¬ (0:Int)=1)⟩
theorem cutL_all:(([-1,0,1,2,3]:List Int).all fun x=>([-1,0,1,2,3]:List Int).all fun y=>vClip (cutL nmA ⟨0,1⟩ ⟨1,1⟩ 3 4096 [x,y]))=true:=by kernel_rfl
theorem cutL_v {x y:Int} (hx : -1≤x∧x≤3) (hy : -1≤y∧y≤3):vClip (cutL nmA ⟨0,1⟩ ⟨1,1⟩ 3 4096 [x,y])=true:=by
 have m:∀ w:Int, -1≤w∧w≤3→w∈([-1,0,1,2,3]:List Int):=fun w hw=>by
  simp only [List.mem_cons,List.not_mem_nil,or_false]
  omega
 exact List.all_eq_true.1 (List.all_eq_true.1 cutL_all x (m x hx)) y (m y hy)
def wantL (x:Int) (p q:List Int) (k n:Nat):List Int:=if x=0 then (p.drop k).take n else if x=1 then (q.drop k).take n else List.replicate n 0
theorem chan_snd {A:List AudioR} {p q u v:List Int} (h:TwoA A p q u v) (hl:p.length=6000) {x y:Int} (hx : -1≤x∧x≤3) (hy : -1≤y∧y≤3) (k:Nat) (hk:k<5000) (c:Nat) (z:Int) (hz : [x,y].getD c 0=z) (hzb : -1≤z∧z≤3):sndV (prjE ⟨25,1⟩ ⟨25,1⟩ A) [[cutL nmA ⟨0,1⟩ ⟨1,1⟩ 3 4096 [x,y]]] ⟨25,1⟩ (k:Int) 20 c=wantL z p q k 20:=by
 have hq:q.length=6000:=by rw [h.nq,hl]
 have key:∀ i:Nat,i<20→smpV (prjE ⟨25,1⟩ ⟨25,1⟩ A) [[cutL nmA ⟨0,1⟩ ⟨1,1⟩ 3 4096 [x,y]]] ⟨25,1⟩ ((k:Int)+i) c=if z<0 then 0 else match [p,q][z.toNat]? with | none=>0 | some p=>pcmAt p ((k:Int)+i):=fun i hi=>by
  obtain ⟨o0,o1⟩:=own25 (s:=(k:Int)+i) (b:=3) (by omega) (by omega)
  have hs:=snd_chan (E:=prjE ⟨25,1⟩ ⟨25,1⟩ A) (nm:=nmA) (r:=⟨25,1⟩) (cutL_v hx hy) o0 o1 (by decide) (by decide) (by
   rw [rat25]
   have a1:((25:Int):Rat)=25:=rfl
   have a2:((1:Int):Rat)=1:=rfl
   show (25:Rat)=((25:Int):Rat) / ((1:Int):Rat)
   rw [a1,a2]
   grind) (by
   rw [(two_a h).2]
   intro w hw
   simp only [List.mem_cons,List.not_mem_nil,or_false] at hw
   rcases hw with rfl | rfl
   ·exact h.ip
   ·exact h.iq) c
  rw [hz,(two_a h).2] at hs
  exact hs
 refine List.ext_getElem ?_ fun i h1 h2=>?_
 ·rw [sndV_len]
  unfold wantL
  split
  ·rw [List.length_take,List.length_drop];omega
  ·split
   ·rw [List.length_take,List.length_drop];omega
   ·rw [List.length_replicate]
 rw [sndV_len] at h1
 have e1:=sndL_at (fun i:Nat=>smpV (prjE ⟨25,1⟩ ⟨25,1⟩ A) [[cutL nmA ⟨0,1⟩ ⟨1,1⟩ 3 4096 [x,y]]] ⟨25,1⟩ ((k:Int)+i) c) h1
 rw [List.getD_eq_getElem?_getD,List.getElem?_eq_getElem (by rw [sndL_len];exact h1),Option.getD_some] at e1
 have e2:(sndV (prjE ⟨25,1⟩ ⟨25,1⟩ A) [[cutL nmA ⟨0,1⟩ ⟨1,1⟩ 3 4096 [x,y]]] ⟨25,1⟩ (k:Int) 20 c)[i]'(by rw [sndV_len];exact h1)=smpV (prjE ⟨25,1⟩ ⟨25,1⟩ A) [[cutL nmA ⟨0,1⟩ ⟨1,1⟩ 3 4096 [x,y]]] ⟨25,1⟩ ((k:Int)+i) c:=e1
 have e3:((k:Int)+(i:Int))=((k+i:Nat):Int):=by omega
 have gp:∀ w:List Int,w.length=6000→pcmAt w ((k:Int)+i)=(w.drop k)[i]?.getD 0:=fun w hw=>by
  rw [e3,pcm_getD,List.getD_eq_getElem?_getD,List.getElem?_drop]
 rw [e2,key i h1]
 have hcase:z = -1∨z=0∨z=1∨z=2∨z=3:=by omega
 have gw:∀ w:List Int, ∀ hh:i<((w.drop k).take 20).length,((w.drop k).take 20)[i]=(w.drop k)[i]?.getD 0:=fun w hh=>by
  rw [List.getElem_take,List.getElem?_eq_getElem (by rw [List.length_take] at hh;omega),Option.getD_some]
 rcases hcase with rfl | rfl | rfl | rfl | rfl
 ·rw [if_pos (by decide)]
  have e:wantL (-1) p q k 20=List.replicate 20 0:=rfl
  simp only [e]
  rw [List.getElem_replicate]
 ·rw [if_neg (by decide)]
  have:wantL 0 p q k 20=(p.drop k).take 20:=rfl
  simp only [this]
  rw [gw]
  exact gp p hl
 ·rw [if_neg (by decide)]
  have:wantL 1 p q k 20=(q.drop k).take 20:=rfl
  simp only [this]
  rw [gw]
  exact gp q hq
 ·rw [if_neg (by decide)]
  have e:wantL 2 p q k 20=List.replicate 20 0:=rfl
  simp only [e]
  rw [List.getElem_replicate]
  rfl
 ·rw [if_neg (by decide)]
  have e:wantL 3 p q k 20=List.replicate 20 0:=rfl
  simp only [e]
  rw [List.getElem_replicate]
  rfl
end Go.Proofs.YtjmoncjecpckhaaGreat
