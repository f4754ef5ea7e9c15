/- Proved here: Contracts of the function that adds a clip's sound, for use in the proofs of the given statements; conditions stand in each theorem. -/
import Derived.Test.YtkjdkbmfaamhaaaGreatVD
set_option linter.unusedSimpArgs false
set_option linter.unusedVariables false
set_option linter.unusedSectionVars false
set_option linter.unnecessarySimpa false
namespace Go.Proofs.YtkjdkbmfaamhaaaGreat
open Go.RowKit
set_option maxRecDepth 4000
abbrev sumB (a b c d:Int):Blk := .box [vint a,vint b,vint c,vint d]
def Sm (x:Int):Prop := -16777216≤x∧x≤16777216
theorem gain_bound {z g:Int} (hz : -65536≤z∧z≤65536) (hg : 0≤g∧g≤65536) : -4294967296≤z*g∧z*g≤4294967296 ∧ -1048576≤gainV z g∧gainV z g≤1048577:=by
 have h:(z*g).natAbs≤65536*65536:=by rw [Int.natAbs_mul];exact Nat.mul_le_mul (by omega) (by omega)
 unfold gainV
 omega
theorem pow12:(2:Int) ^ min (Int.toNat 12) 64=4096:=by decide
theorem pow12':(2:Int) ^ min 12 64=4096:=by decide
theorem nth_two2 (d x y z:List T) (l:List (List T)):nth d (x::y::z::l) 2=z:=rfl
theorem nth_three2 (d x y z u:List T) (l:List (List T)):nth d (x::y::z::u::l) 3=u:=rfl
theorem cAddC0 (R A Q:MapT) (c:ClipR) (hk:c.kind=1) (hc:c.chan = []) (k:Rat) (n a0 a1 a2 a3:Int) (hn:n≤4) (hs:CPure Tryz.prog 91 [vmix R A Q,vsource c.a,vrat (ofQ k)] (vtone n a0 a1 a2 a3)) (hz:∀ x, -65536≤tchan n a0 a1 a2 a3 x∧tchan n a0 a1 a2 a3 x≤65536) (hg : 0≤c.gain∧c.gain≤65536) (s0 s1 s2 s3:Int) (h0:Sm s0) (h1:Sm s1) (h2:Sm s2) (h3:Sm s3) :
  CIO Tryz.prog 52 1 [(0,sumB s0 s1 s2 s3)] [vmix R A Q, .own 0,vclip c,vrat (ofQ k)] (.tup []) [(0,sumB (s0) (s1) (s2) (s3))] 1:=by
 unfold Sm at h0 h1 h2 h3
 have hk2:(c.kind==2)=false:=by rw [hk];rfl
 have ww1:IntKind.i64.wrap 1=1:=by decide
 have ww2:IntKind.i64.wrap 2=2:=by decide
 have ww3:IntKind.i64.wrap 3=3:=by decide
 have ww4:IntKind.i64.wrap 4=4:=by decide
 have q12:∀ x:Int,IntKind.i64.wrap ((x:Int) / 4096)=x / 4096∨True:=fun _ => .inr trivial
 refine cio_of Tryz.xen52 Tryz.func52 rfl Tryz.ntmps52 (by rw [Tryz.results52]) (aw_ok _ ?_)
 simp only [go_sem,simprocAttr,decide_true,decide_false,hk2,hc]
 refine ⟨_,hs,?_⟩
 simp only [go_sem,simprocAttr,decide_true,decide_false,hk2,hc]
 refine awp_loopL ?_
 refine awpL_step (aw_ok _ ?_)
 simp only [go_sem,simprocAttr,decide_true,decide_false,nth_one,nth_zero2,nth_one2,nth_two2,nth_three2,ww1,ww2,ww3,ww4,hk2,pow12,pow12',hc]
 refine weak_self ?_
 simp only [go_sem,simprocAttr,decide_true,decide_false,hc]
 simp
theorem cAddC1 (R A Q:MapT) (c:ClipR) (hk:c.kind=1) (x0:Int) (hc:c.chan = [x0]) (k:Rat) (n a0 a1 a2 a3:Int) (hn:n≤4) (hs:CPure Tryz.prog 91 [vmix R A Q,vsource c.a,vrat (ofQ k)] (vtone n a0 a1 a2 a3)) (hz:∀ x, -65536≤tchan n a0 a1 a2 a3 x∧tchan n a0 a1 a2 a3 x≤65536) (hg : 0≤c.gain∧c.gain≤65536) (s0 s1 s2 s3:Int) (h0:Sm s0) (h1:Sm s1) (h2:Sm s2) (h3:Sm s3) :
  CIO Tryz.prog 52 1 [(0,sumB s0 s1 s2 s3)] [vmix R A Q, .own 0,vclip c,vrat (ofQ k)] (.tup []) [(0,sumB (s0+gainV (tchan n a0 a1 a2 a3 x0) c.gain) (s1) (s2) (s3))] 1:=by
 unfold Sm at h0 h1 h2 h3
 have hk2:(c.kind==2)=false:=by rw [hk];rfl
 have cc0:=cChannel n a0 a1 a2 a3 x0 hn
 have hz0:=hz x0
 generalize tchan n a0 a1 a2 a3 x0=z0 at cc0 hz0 ⊢
 obtain ⟨b0,d0,e0,f0⟩:=gain_bound hz0 hg
 have u0:=wrap64 (x:=z0*c.gain) (by omega) (by omega)
 have v0:=wrap64 (x:=z0*c.gain+2048) (by omega) (by omega)
 have y0:IntKind.i64.wrap (s0+(z0*c.gain+2048) / 4096)=s0+gainV z0 c.gain:=by unfold gainV at e0 f0 ⊢; exact wrap64 (by omega) (by omega)
 have ww1:IntKind.i64.wrap 1=1:=by decide
 have ww2:IntKind.i64.wrap 2=2:=by decide
 have ww3:IntKind.i64.wrap 3=3:=by decide
 have ww4:IntKind.i64.wrap 4=4:=by decide
 have q12:∀ x:Int,IntKind.i64.wrap ((x:Int) / 4096)=x / 4096∨True:=fun _ => .inr trivial
 refine cio_of Tryz.xen52 Tryz.func52 rfl Tryz.ntmps52 (by rw [Tryz.results52]) (aw_ok _ ?_)
 simp only [go_sem,simprocAttr,decide_true,decide_false,hk2,hc]
 refine ⟨_,hs,?_⟩
 simp only [go_sem,simprocAttr,decide_true,decide_false,hk2,hc]
 refine awp_loopL ?_
 refine awpL_step (aw_ok _ ?_)
 simp only [go_sem,simprocAttr,decide_true,decide_false,nth_one,nth_zero2,nth_one2,nth_two2,nth_three2,ww1,ww2,ww3,ww4,hk2,pow12,pow12',hc]
 refine ⟨_,cc0,?_⟩
 simp only [go_sem,simprocAttr,decide_true,decide_false,nth_one,nth_zero2,nth_one2,nth_two2,nth_three2,ww1,ww2,ww3,ww4,hk2,pow12,pow12',hc]
 refine drawC_of 15 .done rfl (by kernel_rfl) (by kernel_rfl) (by decide) ?_
 simp only [go_sem,simprocAttr,decide_true,decide_false,nth_one,nth_zero2,nth_one2,nth_two2,nth_three2,ww1,ww2,ww3,ww4,hk2,pow12,pow12',hc,u0,v0,y0]
 refine ⟨by kernel_rfl,?_⟩
 refine awpL_step (aw_ok _ ?_)
 simp only [go_sem,simprocAttr,decide_true,decide_false,nth_one,nth_zero2,nth_one2,nth_two2,nth_three2,ww1,ww2,ww3,ww4,hk2,pow12,pow12',hc]
 refine weak_self ?_
 simp only [go_sem,simprocAttr,decide_true,decide_false,hc]
 simp
theorem cAddC2 (R A Q:MapT) (c:ClipR) (hk:c.kind=1) (x0 x1:Int) (hc:c.chan = [x0,x1]) (k:Rat) (n a0 a1 a2 a3:Int) (hn:n≤4) (hs:CPure Tryz.prog 91 [vmix R A Q,vsource c.a,vrat (ofQ k)] (vtone n a0 a1 a2 a3)) (hz:∀ x, -65536≤tchan n a0 a1 a2 a3 x∧tchan n a0 a1 a2 a3 x≤65536) (hg : 0≤c.gain∧c.gain≤65536) (s0 s1 s2 s3:Int) (h0:Sm s0) (h1:Sm s1) (h2:Sm s2) (h3:Sm s3) :
  CIO Tryz.prog 52 1 [(0,sumB s0 s1 s2 s3)] [vmix R A Q, .own 0,vclip c,vrat (ofQ k)] (.tup []) [(0,sumB (s0+gainV (tchan n a0 a1 a2 a3 x0) c.gain) (s1+gainV (tchan n a0 a1 a2 a3 x1) c.gain) (s2) (s3))] 1:=by
 unfold Sm at h0 h1 h2 h3
 have hk2:(c.kind==2)=false:=by rw [hk];rfl
 have cc0:=cChannel n a0 a1 a2 a3 x0 hn
 have hz0:=hz x0
 generalize tchan n a0 a1 a2 a3 x0=z0 at cc0 hz0 ⊢
 obtain ⟨b0,d0,e0,f0⟩:=gain_bound hz0 hg
 have u0:=wrap64 (x:=z0*c.gain) (by omega) (by omega)
 have v0:=wrap64 (x:=z0*c.gain+2048) (by omega) (by omega)
 have y0:IntKind.i64.wrap (s0+(z0*c.gain+2048) / 4096)=s0+gainV z0 c.gain:=by unfold gainV at e0 f0 ⊢; exact wrap64 (by omega) (by omega)
 have cc1:=cChannel n a0 a1 a2 a3 x1 hn
 have hz1:=hz x1
 generalize tchan n a0 a1 a2 a3 x1=z1 at cc1 hz1 ⊢
 obtain ⟨b1,d1,e1,f1⟩:=gain_bound hz1 hg
 have u1:=wrap64 (x:=z1*c.gain) (by omega) (by omega)
 have v1:=wrap64 (x:=z1*c.gain+2048) (by omega) (by omega)
 have y1:IntKind.i64.wrap (s1+(z1*c.gain+2048) / 4096)=s1+gainV z1 c.gain:=by unfold gainV at e1 f1 ⊢; exact wrap64 (by omega) (by omega)
 have ww1:IntKind.i64.wrap 1=1:=by decide
 have ww2:IntKind.i64.wrap 2=2:=by decide
 have ww3:IntKind.i64.wrap 3=3:=by decide
 have ww4:IntKind.i64.wrap 4=4:=by decide
 have q12:∀ x:Int,IntKind.i64.wrap ((x:Int) / 4096)=x / 4096∨True:=fun _ => .inr trivial
 refine cio_of Tryz.xen52 Tryz.func52 rfl Tryz.ntmps52 (by rw [Tryz.results52]) (aw_ok _ ?_)
 simp only [go_sem,simprocAttr,decide_true,decide_false,hk2,hc]
 refine ⟨_,hs,?_⟩
 simp only [go_sem,simprocAttr,decide_true,decide_false,hk2,hc]
 refine awp_loopL ?_
 refine awpL_step (aw_ok _ ?_)
 simp only [go_sem,simprocAttr,decide_true,decide_false,nth_one,nth_zero2,nth_one2,nth_two2,nth_three2,ww1,ww2,ww3,ww4,hk2,pow12,pow12',hc]
 refine ⟨_,cc0,?_⟩
 simp only [go_sem,simprocAttr,decide_true,decide_false,nth_one,nth_zero2,nth_one2,nth_two2,nth_three2,ww1,ww2,ww3,ww4,hk2,pow12,pow12',hc]
 refine drawC_of 15 .done rfl (by kernel_rfl) (by kernel_rfl) (by decide) ?_
 simp only [go_sem,simprocAttr,decide_true,decide_false,nth_one,nth_zero2,nth_one2,nth_two2,nth_three2,ww1,ww2,ww3,ww4,hk2,pow12,pow12',hc,u0,v0,y0]
 refine ⟨by kernel_rfl,?_⟩
 refine awpL_step (aw_ok _ ?_)
 simp only [go_sem,simprocAttr,decide_true,decide_false,nth_one,nth_zero2,nth_one2,nth_two2,nth_three2,ww1,ww2,ww3,ww4,hk2,pow12,pow12',hc]
 refine ⟨_,cc1,?_⟩
 simp only [go_sem,simprocAttr,decide_true,decide_false,nth_one,nth_zero2,nth_one2,nth_two2,nth_three2,ww1,ww2,ww3,ww4,hk2,pow12,pow12',hc]
 refine drawC_of 15 .done rfl (by kernel_rfl) (by kernel_rfl) (by decide) ?_
 simp only [go_sem,simprocAttr,decide_true,decide_false,nth_one,nth_zero2,nth_one2,nth_two2,nth_three2,ww1,ww2,ww3,ww4,hk2,pow12,pow12',hc,u1,v1,y1]
 refine ⟨by kernel_rfl,?_⟩
 refine awpL_step (aw_ok _ ?_)
 simp only [go_sem,simprocAttr,decide_true,decide_false,nth_one,nth_zero2,nth_one2,nth_two2,nth_three2,ww1,ww2,ww3,ww4,hk2,pow12,pow12',hc]
 refine weak_self ?_
 simp only [go_sem,simprocAttr,decide_true,decide_false,hc]
 simp
theorem num_den (q:Rat):(q.num:Rat) / ((q.den:Int):Rat)=q:=by
 have h:=Rat.num_divInt_den q
 rw [Rat.divInt_eq_div] at h
 exact h
set_option maxHeartbeats 1000000 in
theorem cAddM1 (R A Q:MapT) (c:ClipR) (hk:c.kind=2) (x0:Int) (hc:c.chan = [x0]) (k:Rat) (hkb:QB k 134217728 16384) (ho : 0≤c.off∧c.off≤1048576) (ht : 0≤c.total∧c.total≤1048576) (n a0 a1 a2 a3:Int) (hn:n≤4) (hs:CPure Tryz.prog 91 [vmix R A Q,vsource c.a,vrat (ofQ k)] (vtone n a0 a1 a2 a3))
  (n' b0 b1 b2 b3:Int) (hn':n'≤4) (hs':CPure Tryz.prog 91 [vmix R A Q,vsource c.b,vrat (ofQ k)] (vtone n' b0 b1 b2 b3)) (hz : -65536≤tchan n a0 a1 a2 a3 x0∧tchan n a0 a1 a2 a3 x0≤65536) (hz' : -65536≤tchan n' b0 b1 b2 b3 x0∧tchan n' b0 b1 b2 b3 x0≤65536)
  (hm : -65536≤tchan n a0 a1 a2 a3 x0+near (tchan n' b0 b1 b2 b3 x0 - tchan n a0 a1 a2 a3 x0) (shareQ c k)∧tchan n a0 a1 a2 a3 x0+near (tchan n' b0 b1 b2 b3 x0 - tchan n a0 a1 a2 a3 x0) (shareQ c k)≤65536) (hg : 0≤c.gain∧c.gain≤65536) (s0 s1 s2 s3:Int) (h0:Sm s0) (h1:Sm s1) (h2:Sm s2) (h3:Sm s3) :
  CIO Tryz.prog 52 1 [(0,sumB s0 s1 s2 s3)] [vmix R A Q, .own 0,vclip c,vrat (ofQ k)] (.tup []) [(0,sumB (s0+gainV (tchan n a0 a1 a2 a3 x0+near (tchan n' b0 b1 b2 b3 x0 - tchan n a0 a1 a2 a3 x0) (shareQ c k)) c.gain) s1 s2 s3)] 1:=by
 unfold Sm at h0 h1 h2 h3
 have hk2:(c.kind==2)=true:=by rw [hk];rfl
 obtain ⟨tn,htn⟩:=nat_of (n:=c.total+1) (by omega)
 have i1:=qb_int (c.off+1)
 have i2:=qb_mono i1 (show (c.off+1).natAbs≤1048577 by omega) (Nat.le_refl 1)
 have p1:=cAddQ hkb i2 (by decide) (by decide) (by decide) (by decide) (by decide) (by decide) (by decide)
 rw [ofQ_int] at p1
 have q1:=qb_mono (qb_add hkb i2) (show 134217728*1+1048577*16384≤17314103296 by decide) (show 16384*1≤16384 by decide)
 have p2:=cDivI q1 tn (by omega) (by omega) (by decide) (by decide) (by omega)
 have esh:(k+((c.off+1:Int):Rat))*(((1:Int):Rat) / ((tn:Int):Rat))=shareQ c k:=by
  rw [← htn]
  have hne:=rat_ne (show c.total+1≠0 by omega)
  unfold shareQ
  rw [int_succ] at hne ⊢
  rw [int_succ]
  have h1:((1:Int):Rat)=1:=rfl
  grind
 rw [esh] at p2
 have q2:=qb_mul q1 (qb_frac 1 tn (by omega))
 rw [esh] at q2
 generalize shareQ c k=q at *
 obtain ⟨qn,qd⟩:=q2
 have qn2:q.num.natAbs≤17314103296:=by simpa using qn
 have qd2:q.den≤16384*1048577:=Nat.le_trans qd (Nat.mul_le_mul (Nat.le_refl _) (by omega))
 have qp:=q.den_pos
 have cc0:=cChannel n a0 a1 a2 a3 x0 hn
 have cc1:=cChannel n' b0 b1 b2 b3 x0 hn'
 generalize tchan n a0 a1 a2 a3 x0=z0 at cc0 hz hm ⊢
 generalize tchan n' b0 b1 b2 b3 x0=z1 at cc1 hz' hm ⊢
 have hpb:((z1 - z0)*q.num).natAbs≤131072*17314103296:=by rw [Int.natAbs_mul];exact Nat.mul_le_mul (by omega) qn2
 have p3:=cPortion (z1 - z0) q.num q.den ⟨by omega,by omega⟩ ⟨by omega,by omega⟩ ⟨by omega,by omega⟩ (by omega) (by omega)
 rw [num_den] at p3
 generalize near (z1 - z0) q=u at p3 hm ⊢
 have p3:CPure Tryz.prog 93 [vint (z1 - z0),vint (ofQ q).num,vint (ofQ q).den] (vint u):=p3
 obtain ⟨g1,g2,g3,g4⟩:=gain_bound hm hg
 have r1:=wrap64 (x:=z1 - z0) (by omega) (by omega)
 have r2:=wrap64 (x:=z0+u) (by omega) (by omega)
 have u0:=wrap64 (x:=(z0+u)*c.gain) (by omega) (by omega)
 have v0:=wrap64 (x:=(z0+u)*c.gain+2048) (by omega) (by omega)
 have y0:IntKind.i64.wrap (s0+((z0+u)*c.gain+2048) / 4096)=s0+gainV (z0+u) c.gain:=by unfold gainV at g3 g4 ⊢; exact wrap64 (by omega) (by omega)
 have o1:=wrap64 (x:=c.off+1) (by omega) (by omega)
 have o2:IntKind.i64.wrap (c.total+1)=(tn:Int):=by rw [wrap64 (by omega) (by omega),htn]
 have ww1:IntKind.i64.wrap 1=1:=by decide
 refine cio_of Tryz.xen52 Tryz.func52 rfl Tryz.ntmps52 (by rw [Tryz.results52]) (aw_ok _ ?_)
 simp only [go_sem,simprocAttr,decide_true,decide_false,hk2,hc,o1]
 refine ⟨_,p1,?_⟩
 simp only [go_sem,simprocAttr,decide_true,decide_false,hk2,hc]
 refine ⟨_,cMustR _,?_⟩
 simp only [go_sem,simprocAttr,decide_true,decide_false,hk2,hc,o2]
 refine ⟨_,p2,?_⟩
 simp only [go_sem,simprocAttr,decide_true,decide_false,hk2,hc]
 refine ⟨_,cMustR _,?_⟩
 simp only [go_sem,simprocAttr,decide_true,decide_false,hk2,hc]
 refine ⟨_,hs,?_⟩
 simp only [go_sem,simprocAttr,decide_true,decide_false,hk2,hc]
 refine ⟨_,hs',?_⟩
 simp only [go_sem,simprocAttr,decide_true,decide_false,hk2,hc]
 refine awp_loopL ?_
 refine awpL_step (aw_ok _ ?_)
 simp only [go_sem,simprocAttr,decide_true,decide_false,nth_one,ww1,hc,hk2]
 refine ⟨_,cc0,?_⟩
 simp only [go_sem,simprocAttr,decide_true,decide_false,nth_one,ww1,hc,hk2]
 refine drawC_of 13 .done rfl (by kernel_rfl) (by kernel_rfl) (by decide) ?_
 simp only [go_sem,simprocAttr,decide_true,decide_false,nth_one,ww1,hc,hk2]
 refine ⟨_,cc1,?_⟩
 simp only [go_sem,simprocAttr,decide_true,decide_false,nth_one,ww1,hc,hk2,r1]
 refine ⟨_,p3,?_⟩
 simp only [go_sem,simprocAttr,decide_true,decide_false,nth_one,ww1,hc,hk2,r2]
 refine ⟨by kernel_rfl,?_⟩
 refine drawC_of 15 .done rfl (by kernel_rfl) (by kernel_rfl) (by decide) ?_
 simp only [go_sem,simprocAttr,decide_true,decide_false,nth_one,ww1,hc,hk2,pow12,pow12',u0,v0,y0]
 refine ⟨by kernel_rfl,?_⟩
 refine awpL_step (aw_ok _ ?_)
 simp only [go_sem,simprocAttr,decide_true,decide_false,nth_one,ww1,hc,hk2]
 refine weak_self ?_
 simp only [go_sem,simprocAttr,decide_true,decide_false,hc]
 simp
open Go.RowKit
set_option maxRecDepth 4000
def zTrk:List T:=[.lit (.slice none 0 0), .lit (.slice none 0 0),ti 0]
structure AudioR where
 name:ByteArray
 chs:List (List Int)
 deriving Inhabited
def AudioR.c (a:AudioR):List T:=[tstr a.name,tchs a.chs]
@[go_sem] theorem AudioR.ct (a:AudioR):(AudioR.c a).map V.t = [vstr a.name, .t (tchs a.chs)]:=rfl
@[go_sem] theorem AudioR.cl (a:AudioR):(AudioR.c a).length=2:=rfl
abbrev taudios (A:List AudioR):T := .list 2 [tstr ⟨#[]⟩, .lit (.slice none 0 0)] (A.map AudioR.c)
theorem ch_nth {L:List (List Int)} {k:Nat} (h:k<L.length) (d:List T):nth d (L.map fun p=>[T.list 1 (c16 0) (p.map c16)]) k = [T.list 1 (c16 0) ((L.getD k []).map c16)]:=by
 unfold nth
 rw [List.getElem?_map,List.getElem?_eq_getElem h,List.getD_eq_getElem?_getD,List.getElem?_eq_getElem h]
 rfl
theorem aud_nth {A:List AudioR} {k:Nat} (h:k<A.length) (d:List T):nth d (A.map AudioR.c) k=AudioR.c (A.getD k default):=by
 unfold nth
 rw [List.getElem?_map,List.getElem?_eq_getElem h,getD_of_lt h]
 rfl
theorem cSame27 (L:List (List Int)) (hl:L.length≤1000000) (hp:∀ p∈L,p.length≤1048576):CPure Tryz.prog 12 [.t (tchs L), .t (tchs L)] (vbool true):=by
 refine cpure_of Tryz.xen12 Tryz.func12 rfl Tryz.ntmps12 (by rw [Tryz.results12]) (aw_ok _ ?_)
 simp only [go_sem,simprocAttr,tchs,t16]
 refine awp_loop_f (fun (k:Nat) σ => setS 5 (vint k) (deadS [6,12,13,14,15,16,17,18,19,20,21,22,23,24,25,26,27,28,29,30,31,32,33,34,35,36,37,38,39,40,41,42,43,44,45,46,47,48,49,50,51,52] (cleanS σ))) (fun k=>k≤L.length) (fun k=>L.length - k) 0 (weak_self ?_) (Nat.zero_le _) ?_
 ·simp only [go_sem,simprocAttr]<;>simp
 ·intro k hk
  refine aw_ok _ ?_
  simp only [go_sem,simprocAttr]
  refine ⟨fun hlt=>?_,fun hge=>?_⟩
  ·simp only [bxx] at hlt
   have hkl:k<L.length:=by omega
   have hwk:IntKind.i64.wrap ((k:Int)+1)=((k+1:Nat):Int):=by rw [wrap1 (by omega)];omega
   have hpl:=hp _ (mem_getD (d:=[]) hkl)
   unfold awS
   simp only [go_sem,simprocAttr]
   refine drawR_of [0,1,2,3,4,5,6,7,8,9,10] .done rfl (by kernel_rfl) (by kernel_rfl) (by decide) ?_
   simp only [go_sem,simprocAttr,ch_nth hkl]
   generalize hP:L.getD k []=P at hpl ⊢
   have hcn:∀ d,nth d (L.map fun p=>[T.list 1 (c16 0) (p.map c16)]) k = [T.list 1 (c16 0) (P.map c16)]:=fun d=>by rw [ch_nth hkl,hP]
   refine ⟨⟨by omega,by omega⟩,⟨by omega,by omega⟩,?_⟩
   refine awp_loop_f (fun (j:Nat) σ => setS 6 (vint j) (deadS [29,30,31,32,33,34,35,36,37,38,39,40,41,42,43,44,45,46,47,48,49,50,51,52] (cleanS σ))) (fun j=>j≤P.length) (fun j=>P.length - j) 0 (weak_self ?_) (Nat.zero_le _) ?_
   ·simp only [go_sem,simprocAttr]<;>simp
   ·intro j hj
    refine aw_ok _ ?_
    simp only [go_sem,simprocAttr,hcn]
    refine ⟨⟨by omega,by omega⟩,fun hlt2=>?_,fun hge2=>?_⟩
    ·simp only [bxx] at hlt2
     have hjl:j<P.length:=by omega
     have hwj:IntKind.i64.wrap ((j:Int)+1)=((j+1:Nat):Int):=by rw [wrap1 (by omega)];omega
     unfold awS
     simp only [go_sem,simprocAttr]
     refine drawR_of [0,1,2,3,4,5,6,7,8,9,10,11,12,13,14] .done rfl (by kernel_rfl) (by kernel_rfl) (by decide) ?_
     simp only [go_sem,simprocAttr,hcn,c16_nth hjl]
     refine ⟨⟨by omega,by omega⟩,⟨by omega,by omega⟩,⟨by omega,by omega⟩,⟨by omega,by omega⟩,j+1,weak_self ?_,by omega,by omega⟩
     simp only [go_sem,simprocAttr,hwj]
    ·simp only [bxx] at hge2
     unfold awS
     simp only [go_sem,simprocAttr]
     refine ⟨k+1,weak_self ?_,by omega,by omega⟩
     simp only [go_sem,simprocAttr,hwk]
  ·unfold awS
   simp only [go_sem,simprocAttr]
theorem cProper (A:List AudioR) (ha:A.length≤1000000) (h:∀ a∈A,a.chs.length≤4 ∧ ∀ p∈a.chs,p.length=(a.chs.getD 0 []).length∧p.length≤1048576):CPure Tryz.prog 22 [.t (taudios A)] (vbool true):=by
 refine cpure_of Tryz.xen22 Tryz.func22 rfl Tryz.ntmps22 (by rw [Tryz.results22]) (aw_ok _ ?_)
 simp only [go_sem,simprocAttr]
 refine awp_loop_f (fun (k:Nat) σ => setS 9 (vint k) (deadS [4,6,10,11,12,13,14,15,16,17,18,19,20,21,22,23,24,25,26,27,28,29,30,31,32,33,34,35,36,37,38] (cleanS σ))) (fun k=>k≤A.length) (fun k=>A.length - k) 0 (weak_self ?_) (Nat.zero_le _) ?_
 ·simp only [go_sem,simprocAttr]<;>simp
 ·intro k hk
  refine aw_ok _ ?_
  simp only [go_sem,simprocAttr]
  refine ⟨fun hlt=>?_,fun hge=>?_⟩
  ·simp only [bxx] at hlt
   have hkl:k<A.length:=by omega
   have hwk:IntKind.i64.wrap ((k:Int)+1)=((k+1:Nat):Int):=by rw [wrap1 (by omega)];omega
   obtain ⟨h4,hpl⟩:=h _ (mem_getD (d:=default) hkl)
   obtain ⟨L,hL⟩:∃ L,L=(A.getD k default).chs:=⟨_,rfl⟩
   rw [← hL] at h4 hpl
   unfold awS
   simp only [go_sem,simprocAttr,aud_nth hkl, ← hL,tchs,t16]
   refine ⟨⟨by omega,by omega⟩,fun h5=>?_,fun h5=>?_⟩
   ·exfalso
    simp only [bxx] at h5
    omega
   unfold awS
   simp only [go_sem,simprocAttr]
   refine awp_loop_f (fun (j:Nat) σ => setS 20 (vint j) (deadS [6,21,22,23,24,25,26,27,28,29,30,31,32,33,34,35,36,37,38] (cleanS σ))) (fun j=>j≤L.length) (fun j=>L.length - j) 0 (weak_self ?_) (Nat.zero_le _) ?_
   ·simp only [go_sem,simprocAttr]<;>simp
   ·intro j hj
    refine aw_ok _ ?_
    simp only [go_sem,simprocAttr]
    refine ⟨fun hlt2=>?_,fun hge2=>?_⟩
    ·simp only [bxx] at hlt2
     have hjl:j<L.length:=by omega
     have h0l : 0<L.length:=by omega
     have hwj:IntKind.i64.wrap ((j:Int)+1)=((j+1:Nat):Int):=by rw [wrap1 (by omega)];omega
     obtain ⟨e1,e2⟩:=hpl _ (mem_getD (d:=[]) hjl)
     have c0:=ch_nth h0l
     have cj:=ch_nth hjl
     generalize L.getD j []=P at e1 e2 cj
     generalize L.getD 0 []=P0 at e1 e2 c0
     unfold awS
     simp only [go_sem,simprocAttr,cj,c0]
     refine ⟨⟨by omega,by omega⟩,by omega,fun h6=>?_,fun h6=>?_⟩
     ·exfalso
      simp only [bxx] at h6
      omega
     unfold awS
     simp only [go_sem,simprocAttr]
     refine ⟨j+1,weak_self ?_,by omega,by omega⟩
     simp only [go_sem,simprocAttr,hwj]
     simp
    ·simp only [bxx] at hge2
     unfold awS
     simp only [go_sem,simprocAttr]
     refine ⟨k+1,weak_self ?_,by omega,by omega⟩
     simp only [go_sem,simprocAttr,hwk]
  ·unfold awS
   simp only [go_sem,simprocAttr]
open Go.RowKit
set_option maxRecDepth 4000
def chV (E:SndE) (m:Nat) (c:ClipR) (k:Rat) (i:Nat):Int:=if i<m then clipV E c k i else 0
def chB (E:SndE) (m:Nat) (c:ClipR) (k:Rat):Prop := ∀ i, -1048576≤chV E m c k i∧chV E m c k i≤1048577
def AddOk (R A Q:MapT) (E:SndE) (m:Nat) (c:ClipR) (k:Rat):Prop:=chB E m c k ∧ ∀ s0 s1 s2 s3:Int,Sm s0→Sm s1→Sm s2→Sm s3 →
 CIO Tryz.prog 52 1 [(0,sumB s0 s1 s2 s3)] [vmix R A Q, .own 0,vclip c,vrat (ofQ k)] (.tup []) [(0,sumB (s0+chV E m c k 0) (s1+chV E m c k 1) (s2+chV E m c k 2) (s3+chV E m c k 3))] 1
def frmM (E:SndE) (m:Nat) (t:List ClipR) (r:RatR) (s:Int) (i:Nat):Int:=if i<m then frmV E (fr t) r s i else 0
def parS (E:SndE) (m:Nat) (ts:List (List ClipR)) (r:RatR) (s:Int) (i:Nat):Int:=(ts.map fun t=>frmM E m t r s i).sum
def outV (E:SndE) (m:Nat) (ts:List (List ClipR)) (r:RatR) (s:Int) (i:Nat):Int:=if i<m then smpV E ts r s i else 0
theorem out_par (E:SndE) (m:Nat) (ts:List (List ClipR)) (r:RatR) (s:Int) (i:Nat):max (-32768) (min 32767 (parS E m ts r s i))=outV E m ts r s i:=by
 unfold outV parS smpV clampV frmM
 by_cases h:i<m
 ·simp only [if_pos h]
 ·simp only [if_neg h]
  have:(ts.map fun _=>(0:Int)).sum=0:=by
   induction ts with
   | nil=>rfl
   | cons t l ih=>simpa using ih
  rw [this]
  rfl
theorem par_take (E:SndE) (m:Nat) {ts:List (List ClipR)} (r:RatR) (s:Int) (i:Nat) {k:Nat} (h:k<ts.length):parS E m (ts.take (k+1)) r s i=parS E m (ts.take k) r s i+frmM E m (ts.getD k []) r s i:=by
 unfold parS
 rw [List.take_add_one,List.getElem?_eq_getElem h,List.map_append,List.sum_append,List.getD_eq_getElem?_getD,List.getElem?_eq_getElem h]
 simp
structure CmpOk (R A Q:MapT) (E:SndE) (m:Nat) (ts:List (List ClipR)) (r:RatR) (s:Int):Prop where
 len:ts.length≤8
 trk:∀ t∈ts,vTrack t=true
 add:∀ t∈ts, ∀ (i:Nat) (x:ClipR),t[i]? = some x→x.kind≠0→totL (t.take i)≤ownF r s→ownF r s<totL (t.take i)+x.len→AddOk R A Q E m x (timeQ r s - (totL (t.take i):Int))
theorem frm_case {R A Q:MapT} {E:SndE} {m:Nat} {ts:List (List ClipR)} {r:RatR} {s:Int} (h:CmpOk R A Q E m ts r s) {t:List ClipR} (ht:t∈ts) :
  (((ownF r s<0∨totL t≤ownF r s)∨(0≤ownF r s ∧ ∃ i x,t[i]? = some x∧totL (t.take i)≤ownF r s∧ownF r s<totL (t.take i)+x.len∧x.kind=0)) ∧ ∀ c,frmM E m t r s c=0) ∨
  (∃ (i:Nat) (x:ClipR),i<t.length∧t.getD i default=x∧0≤ownF r s∧totL (t.take i)≤ownF r s∧ownF r s<totL (t.take i)+x.len∧x.kind≠0∧AddOk R A Q E m x (timeQ r s - (totL (t.take i):Int)) ∧ ∀ c,frmM E m t r s c=chV E m x (timeQ r s - (totL (t.take i):Int)) c):=by
 obtain ⟨h64,hvc,hsum⟩:=track_all (h.trk t ht)
 have hp:∀ c∈t,1≤c.len:=fun c hc=>(vClip_len (hvc c hc)).1
 by_cases h0:ownF r s<0
 ·refine .inl ⟨.inl (.inl h0),fun c=>?_⟩
  unfold frmM
  rw [frm_lt h0]
  simp
 ·by_cases h1:totL t≤ownF r s
  ·refine .inl ⟨.inl (.inr h1),fun c=>?_⟩
   unfold frmM
   rw [frm_out hp c h1]
   simp
  ·obtain ⟨i,x,hi,a,b⟩:=place hp (by omega) (by omega:ownF r s<totL t)
   have hil:i<t.length:=by
    rcases Nat.lt_or_ge i t.length with h2 | h2
    ·exact h2
    ·rw [List.getElem?_eq_none h2] at hi
     cases hi
   have hx:t.getD i default=x:=by rw [List.getD_eq_getElem?_getD,hi];rfl
   by_cases hk:x.kind=0
   ·refine .inl ⟨.inr ⟨by omega,i,x,hi,a,b,hk⟩,fun c=>?_⟩
    unfold frmM
    rw [frm_nth hvc hp hi c a b,if_pos hk]
    simp
   ·refine .inr ⟨i,x,hil,hx,by omega,a,b,hk,h.add t ht i x hi hk a b,fun c=>?_⟩
    unfold frmM chV
    rw [frm_nth hvc hp hi c a b,if_neg hk]
abbrev vsq (r:RatR) (m:Nat) (ts:List (List ClipR)):V := .elem 5 [ti r.num,ti r.den,ti m, .list 3 zTrk (ts.map trkC), .map []] [[ti r.num,ti r.den,ti m, .list 3 zTrk (ts.map trkC), .map []]] 0 0
theorem trk_nth {ts:List (List ClipR)} {k:Nat} (h:k<ts.length) (d:List T):nth d (ts.map trkC) k=trkC (ts.getD k []):=by
 unfold nth
 rw [List.getElem?_map,List.getElem?_eq_getElem h,List.getD_eq_getElem?_getD,List.getElem?_eq_getElem h]
 rfl
theorem par_sm {R A Q:MapT} {E:SndE} {m:Nat} {ts:List (List ClipR)} {r:RatR} {s:Int} (h:CmpOk R A Q E m ts r s) (c:Nat):∀ k,k≤ts.length → -1048577*(k:Int)≤parS E m (ts.take k) r s c∧parS E m (ts.take k) r s c≤1048577*(k:Int)
 | 0,_=>by simp [parS]
 | k+1,hk=>by
  obtain ⟨i1,i2⟩:=par_sm h c k (by omega)
  rw [par_take E m r s c (show k<ts.length by omega)]
  have hb : -1048577≤frmM E m (ts.getD k []) r s c∧frmM E m (ts.getD k []) r s c≤1048577:=by
   rcases frm_case h (mem_getD (d:=[]) (show k<ts.length by omega)) with ⟨_,h0⟩ | ⟨i,x,_,_,_,_,_,_,ha,h0⟩
   ·rw [h0 c];omega
   ·rw [h0 c]
    have:=ha.1 c
    omega
  push_cast
  omega
set_option maxHeartbeats 4000000 in
theorem cCompute {R A Q:MapT} {E:SndE} {m:Nat} {ts:List (List ClipR)} {r:RatR} {s:Int} (hr:RateS r) (hs : -68719476736≤s∧s≤68719476736) (h:CmpOk R A Q E m ts r s) :
  CPure Tryz.prog 25 [vmix R A Q,vsq r m ts,vint s] (.agg [vint (outV E m ts r s 0),vint (outV E m ts r s 1),vint (outV E m ts r s 2),vint (outV E m ts r s 3)]):=by
 obtain ⟨hu,hv,hn2,hd2⟩:=rateS_v hr
 have hn:=hr.n
 have hd:=hr.d
 have l8:=h.len
 have c1:=cOwner s r hr.fit hu ⟨by omega,by omega⟩
 obtain ⟨dn,hdn⟩:=nat_of (n:=48000*r.den) (by omega)
 have hsr:(s*r.num).natAbs≤68719476736*1048576:=by rw [Int.natAbs_mul];exact Nat.mul_le_mul (by omega) (by omega)
 have c2:=cOfZ (s*r.num) dn (by omega) (by omega) (by omega)
 have e2:(((s*r.num:Int)):Rat) / ((dn:Int):Rat)=timeQ r s:=by
  rw [← hdn,Rat.intCast_mul,Rat.intCast_mul]
  rfl
 rw [e2, ← hdn] at c2
 obtain ⟨te,tq⟩:=time_qb hr s
 refine cpure_of Tryz.xen25 Tryz.func25 rfl Tryz.ntmps25 (by rw [Tryz.results25]) (aw_ok _ ?_)
 simp only [go_sem,simprocAttr,nth_one]
 refine ⟨_,c1,?_⟩
 simp only [go_sem,simprocAttr,nth_one]
 refine ⟨_,cMustI _,?_⟩
 simp only [go_sem,simprocAttr,nth_one]
 refine drawC_of 19 .done rfl (by kernel_rfl) (by kernel_rfl) (by decide) ?_
 simp only [go_sem,simprocAttr,nth_one,wrap64 (x:=s*r.num) (by omega) (by omega),wrap64 (x:=48000*r.den) (by omega) (by omega)]
 refine ⟨_,c2,?_⟩
 simp only [go_sem,simprocAttr]
 refine ⟨_,cMustR _,?_⟩
 simp only [go_sem,simprocAttr]
 refine ⟨by kernel_rfl,?_⟩
 simp only [go_sem,simprocAttr,nth_one]
 refine awp_loop_f (fun (k:Nat) σ => setB 20 (sumB (parS E m (ts.take k) r s 0) (parS E m (ts.take k) r s 1) (parS E m (ts.take k) r s 2) (parS E m (ts.take k) r s 3)) (setS 48 (vint k) (deadS [11,12,13,14,15,49,50,51,52,53,54,55,56,57,58,59,60,61,62,63,64,65,66,67,68,69,70,71,72] (cleanS σ)))) (fun k=>k≤ts.length) (fun k=>ts.length - k) 0 (weak_self ?_) (Nat.zero_le _) ?_
 ·simp only [go_sem,simprocAttr]<;>simp [parS]
 ·intro k hk
  refine aw_ok _ ?_
  simp only [go_sem,simprocAttr]
  refine ⟨fun hlt=>?_,fun hge=>?_⟩
  ·simp only [bxx] at hlt
   have hkl:k<ts.length:=by omega
   have hwk:IntKind.i64.wrap ((k:Int)+1)=((k+1:Nat):Int):=by rw [wrap1 (by omega)];omega
   have hmem:=mem_getD (d:=[]) hkl
   have htk:=fun c=>par_take E m r s c hkl
   have hps:=fun c=>par_sm h c k (by omega)
   have hfc:=frm_case h hmem
   obtain ⟨h64,hvc,hsum⟩:=track_all (h.trk _ hmem)
   have hp1:∀ c∈ts.getD k [],1≤c.len:=fun c hc=>(vClip_len (hvc c hc)).1
   obtain ⟨t,ht⟩:∃ t,t=ts.getD k []:=⟨_,rfl⟩
   have htn:=trk_nth hkl
   rw [← ht] at hmem htk hfc h64 hvc hsum hp1
   simp only [← ht] at htn
   unfold awS
   simp only [go_sem,simprocAttr,htn,trkC]
   rcases hfc with ⟨hout,hz⟩ | ⟨i,x,hi,hx,n0,a,b,hk0,ha,hz⟩
   ·have hat:CPure Tryz.prog 50 [vtrk t,vint (ownF r s)] noClip:=by
     rcases hout with h1 | ⟨h0,i,x,hi,a,b,hk0⟩
     ·exact cAtOut t _ h1
     ·have hil:i<t.length:=by
       rcases Nat.lt_or_ge i t.length with h2 | h2
       ·exact h2
       ·rw [List.getElem?_eq_none h2] at hi
        cases hi
      have hx:t.getD i default=x:=by rw [List.getD_eq_getElem?_getD,hi];rfl
      have h2:=cAtIn t (ownF r s) h64 hp1 hsum hil a (by rw [hx];exact b) h0
      rw [hx,if_pos hk0] at h2
      exact h2
    refine ⟨⟨by omega,by omega⟩,_,hat,?_⟩
    simp only [go_sem,simprocAttr]
    refine ⟨⟨rfl,rfl,by decide⟩,k+1,weak_self ?_,by omega,by omega⟩
    simp only [go_sem,simprocAttr,hwk,htk,hz,Int.add_zero]
    simp
   ·have hat:=cAtIn t (ownF r s) h64 hp1 hsum hi a (by rw [hx];exact b) n0
    rw [hx,if_neg hk0] at hat
    have tb:=totL_bound (t.take i) fun c hc=>vClip_len (hvc c (List.mem_of_mem_take hc))
    have tm:=totL_mono hp1 i 0 (by omega) (by omega)
    have t0:totL (t.take 0)=0:=rfl
    have lt64:(t.take i).length≤64:=by rw [List.length_take];omega
    have cs:=cSubQ (qb_mono tq (show s.natAbs*8≤549755813888 by omega) (Nat.le_refl _)) (qb_mono (qb_int (totL (t.take i))) (show (totL (t.take i)).natAbs≤137438953472 by omega) (Nat.le_refl 1)) (by decide) (by decide) (by decide) (by decide) (by decide) (by decide) (by decide)
    rw [ofQ_int] at cs
    refine ⟨⟨by omega,by omega⟩,_,hat,?_⟩
    simp only [go_sem,simprocAttr]
    refine ⟨_,cs,?_⟩
    simp only [go_sem,simprocAttr]
    refine ⟨_,cMustR _,?_⟩
    simp only [go_sem,simprocAttr]
    have hsm:∀ c,Sm (parS E m (ts.take k) r s c):=fun c=>by
     have:=hps c
     unfold Sm
     omega
    refine icall_io (ha.2 _ _ _ _ (hsm 0) (hsm 1) (hsm 2) (hsm 3)) [20] rfl (by omega) (by decide) ?_ rfl rfl rfl rfl ?_
    ·simp only [go_sem,simprocAttr]
    simp only [go_sem,simprocAttr]
    refine ⟨k+1,weak_self ?_,by omega,by omega⟩
    simp only [go_sem,simprocAttr,hwk,htk,hz]
    simp
  ·simp only [bxx] at hge
   have ww1:IntKind.i64.wrap 1=1:=by decide
   have ww2:IntKind.i64.wrap 2=2:=by decide
   have ww3:IntKind.i64.wrap 3=3:=by decide
   have ww4:IntKind.i64.wrap 4=4:=by decide
   have w01:IntKind.i64.wrap (0+1)=1:=by decide
   have w11:IntKind.i64.wrap (1+1)=2:=by decide
   have w21:IntKind.i64.wrap (2+1)=3:=by decide
   have w31:IntKind.i64.wrap (3+1)=4:=by decide
   unfold awS
   simp only [go_sem,simprocAttr,decide_true,decide_false]
   rw [List.take_of_length_le (show ts.length≤k by omega)]
   refine awp_loopL ?_
   refine awpL_step (aw_ok _ ?_)
   simp only [go_sem,simprocAttr,decide_true,decide_false,ww1,ww2,ww3,ww4,w01,w11,w21,w31]
   refine awpL_step (aw_ok _ ?_)
   simp only [go_sem,simprocAttr,decide_true,decide_false,ww1,ww2,ww3,ww4,w01,w11,w21,w31]
   refine awpL_step (aw_ok _ ?_)
   simp only [go_sem,simprocAttr,decide_true,decide_false,ww1,ww2,ww3,ww4,w01,w11,w21,w31]
   refine awpL_step (aw_ok _ ?_)
   simp only [go_sem,simprocAttr,decide_true,decide_false,ww1,ww2,ww3,ww4,w01,w11,w21,w31]
   refine awpL_step (aw_ok _ ?_)
   simp only [go_sem,simprocAttr,decide_true,decide_false,ww1,ww2,ww3,ww4,w01,w11,w21,w31]
   simp only [out_par]
end Go.Proofs.YtkjdkbmfaamhaaaGreat
