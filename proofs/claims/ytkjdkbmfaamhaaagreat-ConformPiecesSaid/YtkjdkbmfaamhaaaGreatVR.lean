/- Proved here: Contracts of the function that adds a dissolve's sound, for no and for two channels, for use in the proofs of the given statements; conditions stand in each theorem. -/
import Derived.Test.YtkjdkbmfaamhaaaGreatVE
import Derived.Test.YtkjdkbmfaamhaaaGreatVH
set_option linter.unusedSimpArgs false
set_option linter.unusedVariables false
set_option linter.unusedSectionVars false
set_option linter.unnecessarySimpa false
namespace Go.Proofs.YtkjdkbmfaamhaaaGreat
open Go.RowKit
set_option maxRecDepth 4000
set_option maxHeartbeats 1000000 in
theorem cAddM0 (R A Q:MapT) (c:ClipR) (hk:c.kind=2) (hc:c.chan = []) (k:Rat) (hkb:QB k 134217728 16384) (ho : 0≤c.off∧c.off≤1048576) (ht : 0≤c.total∧c.total≤1048576) (n a0 a1 a2 a3:Int) (hn:n≤4) (hs:CPure Tryz.prog 91 [vmix R A Q,vsource c.a,vrat (ofQ k)] (vtone n a0 a1 a2 a3))
  (n' b0 b1 b2 b3:Int) (hn':n'≤4) (hs':CPure Tryz.prog 91 [vmix R A Q,vsource c.b,vrat (ofQ k)] (vtone n' b0 b1 b2 b3))
  (hg : 0≤c.gain∧c.gain≤65536) (s0 s1 s2 s3:Int) (h0:Sm s0) (h1:Sm s1) (h2:Sm s2) (h3:Sm s3) :
  CIO Tryz.prog 52 1 [(0,sumB s0 s1 s2 s3)] [vmix R A Q, .own 0,vclip c,vrat (ofQ k)] (.tup []) [(0,sumB s0 s1 s2 s3)] 1:=by
 unfold Sm at h0 h1 h2 h3
 have hk2:(c.kind==2)=true:=by rw [hk];rfl
 obtain ⟨tn,htn⟩:=nat_of (n:=c.total+1) (by omega)
 have i1:=qb_int (c.off+1)
 have i2:=qb_mono i1 (show (c.off+1).natAbs≤1048577 by omega) (Nat.le_refl 1)
 have p1:=cAddQ hkb i2 (by decide) (by decide) (by decide) (by decide) (by decide) (by decide) (by decide)
 rw [ofQ_int] at p1
 have q1:=qb_mono (qb_add hkb i2) (show 134217728*1+1048577*16384≤17314103296 by decide) (show 16384*1≤16384 by decide)
 have p2:=cDivI q1 tn (by omega) (by omega) (by decide) (by decide) (by omega)
 have esh:(k+((c.off+1:Int):Rat))*(((1:Int):Rat) / ((tn:Int):Rat))=shareQ c k:=by
  rw [← htn]
  have hne:=rat_ne (show c.total+1≠0 by omega)
  unfold shareQ
  rw [int_succ] at hne ⊢
  rw [int_succ]
  have h1:((1:Int):Rat)=1:=rfl
  grind
 rw [esh] at p2
 have q2:=qb_mul q1 (qb_frac 1 tn (by omega))
 rw [esh] at q2
 generalize shareQ c k=q at *
 obtain ⟨qn,qd⟩:=q2
 have qn2:q.num.natAbs≤17314103296:=by simpa using qn
 have qd2:q.den≤16384*1048577:=Nat.le_trans qd (Nat.mul_le_mul (Nat.le_refl _) (by omega))
 have qp:=q.den_pos
 have o1:=wrap64 (x:=c.off+1) (by omega) (by omega)
 have o2:IntKind.i64.wrap (c.total+1)=(tn:Int):=by rw [wrap64 (by omega) (by omega),htn]
 have ww1:IntKind.i64.wrap 1=1:=by decide
 have ww2:IntKind.i64.wrap 2=2:=by decide
 have ww3:IntKind.i64.wrap 3=3:=by decide
 have ww4:IntKind.i64.wrap 4=4:=by decide
 refine cio_of Tryz.xen52 Tryz.func52 rfl Tryz.ntmps52 (by rw [Tryz.results52]) (aw_ok _ ?_)
 simp only [go_sem,simprocAttr,decide_true,decide_false,hk2,hc,o1]
 refine ⟨_,p1,?_⟩
 simp only [go_sem,simprocAttr,decide_true,decide_false,hk2,hc]
 refine ⟨_,cMustR _,?_⟩
 simp only [go_sem,simprocAttr,decide_true,decide_false,hk2,hc,o2]
 refine ⟨_,p2,?_⟩
 simp only [go_sem,simprocAttr,decide_true,decide_false,hk2,hc]
 refine ⟨_,cMustR _,?_⟩
 simp only [go_sem,simprocAttr,decide_true,decide_false,hk2,hc]
 refine ⟨_,hs,?_⟩
 simp only [go_sem,simprocAttr,decide_true,decide_false,hk2,hc]
 refine ⟨_,hs',?_⟩
 simp only [go_sem,simprocAttr,decide_true,decide_false,hk2,hc]
 refine awp_loopL ?_
 refine awpL_step (aw_ok _ ?_)
 simp only [go_sem,simprocAttr,decide_true,decide_false,nth_one,nth_zero2,nth_one2,ww1,ww2,ww3,ww4,hc,hk2]
 refine weak_self ?_
 simp only [go_sem,simprocAttr,decide_true,decide_false,hc]
 simp
set_option maxHeartbeats 1000000 in
theorem cAddM2 (R A Q:MapT) (c:ClipR) (hk:c.kind=2) (x0 x1:Int) (hc:c.chan = [x0,x1]) (k:Rat) (hkb:QB k 134217728 16384) (ho : 0≤c.off∧c.off≤1048576) (ht : 0≤c.total∧c.total≤1048576) (n a0 a1 a2 a3:Int) (hn:n≤4) (hs:CPure Tryz.prog 91 [vmix R A Q,vsource c.a,vrat (ofQ k)] (vtone n a0 a1 a2 a3))
  (n' b0 b1 b2 b3:Int) (hn':n'≤4) (hs':CPure Tryz.prog 91 [vmix R A Q,vsource c.b,vrat (ofQ k)] (vtone n' b0 b1 b2 b3))
  (hz0 : -65536≤tchan n a0 a1 a2 a3 x0∧tchan n a0 a1 a2 a3 x0≤65536) (hy0 : -65536≤tchan n' b0 b1 b2 b3 x0∧tchan n' b0 b1 b2 b3 x0≤65536) (hm0 : -65536≤tchan n a0 a1 a2 a3 x0+near (tchan n' b0 b1 b2 b3 x0 - tchan n a0 a1 a2 a3 x0) (shareQ c k)∧tchan n a0 a1 a2 a3 x0+near (tchan n' b0 b1 b2 b3 x0 - tchan n a0 a1 a2 a3 x0) (shareQ c k)≤65536)
  (hz1 : -65536≤tchan n a0 a1 a2 a3 x1∧tchan n a0 a1 a2 a3 x1≤65536) (hy1 : -65536≤tchan n' b0 b1 b2 b3 x1∧tchan n' b0 b1 b2 b3 x1≤65536) (hm1 : -65536≤tchan n a0 a1 a2 a3 x1+near (tchan n' b0 b1 b2 b3 x1 - tchan n a0 a1 a2 a3 x1) (shareQ c k)∧tchan n a0 a1 a2 a3 x1+near (tchan n' b0 b1 b2 b3 x1 - tchan n a0 a1 a2 a3 x1) (shareQ c k)≤65536)
  (hg : 0≤c.gain∧c.gain≤65536) (s0 s1 s2 s3:Int) (h0:Sm s0) (h1:Sm s1) (h2:Sm s2) (h3:Sm s3) :
  CIO Tryz.prog 52 1 [(0,sumB s0 s1 s2 s3)] [vmix R A Q, .own 0,vclip c,vrat (ofQ k)] (.tup []) [(0,sumB (s0+gainV (tchan n a0 a1 a2 a3 x0+near (tchan n' b0 b1 b2 b3 x0 - tchan n a0 a1 a2 a3 x0) (shareQ c k)) c.gain) (s1+gainV (tchan n a0 a1 a2 a3 x1+near (tchan n' b0 b1 b2 b3 x1 - tchan n a0 a1 a2 a3 x1) (shareQ c k)) c.gain) s2 s3)] 1:=by
 unfold Sm at h0 h1 h2 h3
 have hk2:(c.kind==2)=true:=by rw [hk];rfl
 obtain ⟨tn,htn⟩:=nat_of (n:=c.total+1) (by omega)
 have i1:=qb_int (c.off+1)
 have i2:=qb_mono i1 (show (c.off+1).natAbs≤1048577 by omega) (Nat.le_refl 1)
 have p1:=cAddQ hkb i2 (by decide) (by decide) (by decide) (by decide) (by decide) (by decide) (by decide)
 rw [ofQ_int] at p1
 have q1:=qb_mono (qb_add hkb i2) (show 134217728*1+1048577*16384≤17314103296 by decide) (show 16384*1≤16384 by decide)
 have p2:=cDivI q1 tn (by omega) (by omega) (by decide) (by decide) (by omega)
 have esh:(k+((c.off+1:Int):Rat))*(((1:Int):Rat) / ((tn:Int):Rat))=shareQ c k:=by
  rw [← htn]
  have hne:=rat_ne (show c.total+1≠0 by omega)
  unfold shareQ
  rw [int_succ] at hne ⊢
  rw [int_succ]
  have h1:((1:Int):Rat)=1:=rfl
  grind
 rw [esh] at p2
 have q2:=qb_mul q1 (qb_frac 1 tn (by omega))
 rw [esh] at q2
 generalize shareQ c k=q at *
 obtain ⟨qn,qd⟩:=q2
 have qn2:q.num.natAbs≤17314103296:=by simpa using qn
 have qd2:q.den≤16384*1048577:=Nat.le_trans qd (Nat.mul_le_mul (Nat.le_refl _) (by omega))
 have qp:=q.den_pos
 have cc0:=cChannel n a0 a1 a2 a3 x0 hn
 have cd0:=cChannel n' b0 b1 b2 b3 x0 hn'
 generalize tchan n a0 a1 a2 a3 x0=z0 at cc0 hz0 hm0 ⊢
 generalize tchan n' b0 b1 b2 b3 x0=y0 at cd0 hy0 hm0 ⊢
 have hpb0:((y0 - z0)*q.num).natAbs≤131072*17314103296:=by rw [Int.natAbs_mul];exact Nat.mul_le_mul (by omega) qn2
 have r0:=cPortion (y0 - z0) q.num q.den ⟨by omega,by omega⟩ ⟨by omega,by omega⟩ ⟨by omega,by omega⟩ (by omega) (by omega)
 rw [num_den] at r0
 generalize near (y0 - z0) q=u0 at r0 hm0 ⊢
 have r0:CPure Tryz.prog 93 [vint (y0 - z0),vint (ofQ q).num,vint (ofQ q).den] (vint u0):=r0
 obtain ⟨ga0,gb0,gc0,gd0⟩:=gain_bound hm0 hg
 have ra0:=wrap64 (x:=y0 - z0) (by omega) (by omega)
 have rb0:=wrap64 (x:=z0+u0) (by omega) (by omega)
 have rc0:=wrap64 (x:=(z0+u0)*c.gain) (by omega) (by omega)
 have rd0:=wrap64 (x:=(z0+u0)*c.gain+2048) (by omega) (by omega)
 have re0:IntKind.i64.wrap (s0+((z0+u0)*c.gain+2048) / 4096)=s0+gainV (z0+u0) c.gain:=by unfold gainV at gc0 gd0 ⊢; exact wrap64 (by omega) (by omega)
 have cc1:=cChannel n a0 a1 a2 a3 x1 hn
 have cd1:=cChannel n' b0 b1 b2 b3 x1 hn'
 generalize tchan n a0 a1 a2 a3 x1=z1 at cc1 hz1 hm1 ⊢
 generalize tchan n' b0 b1 b2 b3 x1=y1 at cd1 hy1 hm1 ⊢
 have hpb1:((y1 - z1)*q.num).natAbs≤131072*17314103296:=by rw [Int.natAbs_mul];exact Nat.mul_le_mul (by omega) qn2
 have r1:=cPortion (y1 - z1) q.num q.den ⟨by omega,by omega⟩ ⟨by omega,by omega⟩ ⟨by omega,by omega⟩ (by omega) (by omega)
 rw [num_den] at r1
 generalize near (y1 - z1) q=u1 at r1 hm1 ⊢
 have r1:CPure Tryz.prog 93 [vint (y1 - z1),vint (ofQ q).num,vint (ofQ q).den] (vint u1):=r1
 obtain ⟨ga1,gb1,gc1,gd1⟩:=gain_bound hm1 hg
 have ra1:=wrap64 (x:=y1 - z1) (by omega) (by omega)
 have rb1:=wrap64 (x:=z1+u1) (by omega) (by omega)
 have rc1:=wrap64 (x:=(z1+u1)*c.gain) (by omega) (by omega)
 have rd1:=wrap64 (x:=(z1+u1)*c.gain+2048) (by omega) (by omega)
 have re1:IntKind.i64.wrap (s1+((z1+u1)*c.gain+2048) / 4096)=s1+gainV (z1+u1) c.gain:=by unfold gainV at gc1 gd1 ⊢; exact wrap64 (by omega) (by omega)
 have o1:=wrap64 (x:=c.off+1) (by omega) (by omega)
 have o2:IntKind.i64.wrap (c.total+1)=(tn:Int):=by rw [wrap64 (by omega) (by omega),htn]
 have ww1:IntKind.i64.wrap 1=1:=by decide
 have ww2:IntKind.i64.wrap 2=2:=by decide
 have ww3:IntKind.i64.wrap 3=3:=by decide
 have ww4:IntKind.i64.wrap 4=4:=by decide
 refine cio_of Tryz.xen52 Tryz.func52 rfl Tryz.ntmps52 (by rw [Tryz.results52]) (aw_ok _ ?_)
 simp only [go_sem,simprocAttr,decide_true,decide_false,hk2,hc,o1]
 refine ⟨_,p1,?_⟩
 simp only [go_sem,simprocAttr,decide_true,decide_false,hk2,hc]
 refine ⟨_,cMustR _,?_⟩
 simp only [go_sem,simprocAttr,decide_true,decide_false,hk2,hc,o2]
 refine ⟨_,p2,?_⟩
 simp only [go_sem,simprocAttr,decide_true,decide_false,hk2,hc]
 refine ⟨_,cMustR _,?_⟩
 simp only [go_sem,simprocAttr,decide_true,decide_false,hk2,hc]
 refine ⟨_,hs,?_⟩
 simp only [go_sem,simprocAttr,decide_true,decide_false,hk2,hc]
 refine ⟨_,hs',?_⟩
 simp only [go_sem,simprocAttr,decide_true,decide_false,hk2,hc]
 refine awp_loopL ?_
 refine awpL_step (aw_ok _ ?_)
 simp only [go_sem,simprocAttr,decide_true,decide_false,nth_one,nth_zero2,nth_one2,ww1,ww2,ww3,ww4,hc,hk2]
 refine ⟨_,cc0,?_⟩
 simp only [go_sem,simprocAttr,decide_true,decide_false,nth_one,nth_zero2,nth_one2,ww1,ww2,ww3,ww4,hc,hk2]
 refine drawC_of 13 .done rfl (by kernel_rfl) (by kernel_rfl) (by decide) ?_
 simp only [go_sem,simprocAttr,decide_true,decide_false,nth_one,nth_zero2,nth_one2,ww1,ww2,ww3,ww4,hc,hk2]
 refine ⟨_,cd0,?_⟩
 simp only [go_sem,simprocAttr,decide_true,decide_false,nth_one,nth_zero2,nth_one2,ww1,ww2,ww3,ww4,hc,hk2,ra0]
 refine ⟨_,r0,?_⟩
 simp only [go_sem,simprocAttr,decide_true,decide_false,nth_one,nth_zero2,nth_one2,ww1,ww2,ww3,ww4,hc,hk2,rb0]
 refine ⟨by kernel_rfl,?_⟩
 refine drawC_of 15 .done rfl (by kernel_rfl) (by kernel_rfl) (by decide) ?_
 simp only [go_sem,simprocAttr,decide_true,decide_false,nth_one,nth_zero2,nth_one2,ww1,ww2,ww3,ww4,hc,hk2,pow12,pow12',rc0,rd0,re0]
 refine ⟨by kernel_rfl,?_⟩
 refine awpL_step (aw_ok _ ?_)
 simp only [go_sem,simprocAttr,decide_true,decide_false,nth_one,nth_zero2,nth_one2,ww1,ww2,ww3,ww4,hc,hk2]
 refine ⟨_,cc1,?_⟩
 simp only [go_sem,simprocAttr,decide_true,decide_false,nth_one,nth_zero2,nth_one2,ww1,ww2,ww3,ww4,hc,hk2]
 refine drawC_of 13 .done rfl (by kernel_rfl) (by kernel_rfl) (by decide) ?_
 simp only [go_sem,simprocAttr,decide_true,decide_false,nth_one,nth_zero2,nth_one2,ww1,ww2,ww3,ww4,hc,hk2]
 refine ⟨_,cd1,?_⟩
 simp only [go_sem,simprocAttr,decide_true,decide_false,nth_one,nth_zero2,nth_one2,ww1,ww2,ww3,ww4,hc,hk2,ra1]
 refine ⟨_,r1,?_⟩
 simp only [go_sem,simprocAttr,decide_true,decide_false,nth_one,nth_zero2,nth_one2,ww1,ww2,ww3,ww4,hc,hk2,rb1]
 refine ⟨by kernel_rfl,?_⟩
 refine drawC_of 15 .done rfl (by kernel_rfl) (by kernel_rfl) (by decide) ?_
 simp only [go_sem,simprocAttr,decide_true,decide_false,nth_one,nth_zero2,nth_one2,ww1,ww2,ww3,ww4,hc,hk2,pow12,pow12',rc1,rd1,re1]
 refine ⟨by kernel_rfl,?_⟩
 refine awpL_step (aw_ok _ ?_)
 simp only [go_sem,simprocAttr,decide_true,decide_false,nth_one,nth_zero2,nth_one2,ww1,ww2,ww3,ww4,hc,hk2]
 refine weak_self ?_
 simp only [go_sem,simprocAttr,decide_true,decide_false,hc]
 simp
open Go.RowKit
set_option maxRecDepth 4000
theorem cSourceZ (R A Q:MapT) {s:SourceR} (hk:s.kind=0) (k:Rat):CPure Tryz.prog 91 [vmix R A Q,vsource s,vrat (ofQ k)] (vtone 0 0 0 0 0):=by
 refine cpure_of Tryz.xen91 Tryz.func91 rfl Tryz.ntmps91 (by rw [Tryz.results91]) (aw_ok _ ?_)
 simp only [go_sem,simprocAttr,decide_true,decide_false,hk]
theorem tchan_z (x:Int):tchan 0 0 0 0 0 x=0:=by
 unfold tchan
 rw [if_pos (by omega)]
def SrcGv (R A Q:MapT) (E:SndE) (s:SourceR):Prop := ∀ k:Rat, -64≤k→k≤64→k.den≤8192 → ∃ n a0 a1 a2 a3:Int,n≤4∧CPure Tryz.prog 91 [vmix R A Q,vsource s,vrat (ofQ k)] (vtone n a0 a1 a2 a3) ∧ ∀ x,tchan n a0 a1 a2 a3 x=srcS E s k x ∧ -32768≤srcS E s k x∧srcS E s k x≤32767
theorem srcGv_med {R A Q:MapT} {E:SndE} {s:SourceR} {r:RatR} {L:List (List Int)} (h:SrcF R A s r L) (hE:E.chs s.name=L) (hR:E.rate s.name=toQ r):SrcGv R A Q E s:=fun k k0 k1 kd=>by
 have hs:=srcM_of h k0 k1 kd
 have hL2:L.length≤2:=by rcases h.hL with e | e<;>omega
 have src:=cSourceM (Q:=Q) hs
 unfold toneL at src
 refine ⟨_,_,_,_,_,by omega,src,fun x=>?_⟩
 rw [srcS_med h.kind hR,hE]
 exact ⟨tchan_chan hL2 _ _,chan_i16 h.i16 _ _⟩
theorem srcGv_black {R A Q:MapT} {E:SndE} {s:SourceR} (hk:s.kind=0):SrcGv R A Q E s:=fun k _ _ _=>by
 refine ⟨0,0,0,0,0,by decide,cSourceZ R A Q hk k,fun x=>?_⟩
 unfold srcS
 rw [if_pos hk,tchan_z]
 decide
theorem len_zero {α : Type} {l:List α} (h:l.length=0):l = []:=List.length_eq_zero_iff.1 h
theorem len_one {α : Type} {l:List α} (h:l.length=1):∃ a,l = [a]:=by
 rcases l with _ | ⟨a,_ | ⟨b,l⟩⟩<;>simp at h
 exact ⟨a,rfl⟩
theorem len_two' {α : Type} {l:List α} (h:l.length=2):∃ a b,l = [a,b]:=by
 rcases l with _ | ⟨a,_ | ⟨b,_ | ⟨c,l⟩⟩⟩<;>simp at h
 exact ⟨a,b,rfl⟩
theorem ch_in {E:SndE} {m:Nat} {c:ClipR} {k:Rat} {i:Nat} (h:i<m):chV E m c k i=clipV E c k i:=if_pos h
theorem ch_out {E:SndE} {m:Nat} {c:ClipR} {k:Rat} {i:Nat} (h:m≤i):chV E m c k i=0:=if_neg (by omega)
theorem chB_of {E:SndE} {m:Nat} {c:ClipR} {k:Rat} (hz:∀ x, -65536≤mixV E c k x∧mixV E c k x≤65536) (hg : 0≤c.gain∧c.gain≤65536):chB E m c k:=fun i=>by
 unfold chV
 split
 ·exact (gain_bound (hz _) hg).2.2
 ·decide
theorem clipT_cut {R A Q:MapT} {E:SndE} {m:Nat} {c:ClipR} (hm:m≤2) (hk:c.kind=1) (hc:c.chan.length=m) (hl:c.len≤63) (h:SrcGv R A Q E c.a) (hg : 0≤c.gain∧c.gain≤65536):ClipT R A Q E m c:=by
 refine ⟨hl,fun k k0 k1 kd=>?_⟩
 have kl:(c.len:Rat)≤((63:Int):Rat):=by exact_mod_cast hl
 have c63:((63:Int):Rat)=63:=rfl
 rw [c63] at kl
 obtain ⟨n,a0,a1,a2,a3,hn,src,ht⟩:=h k (by grind) (by grind) kd
 have hz:∀ x, -65536≤tchan n a0 a1 a2 a3 x∧tchan n a0 a1 a2 a3 x≤65536:=fun x=>by rw [(ht x).1];have:=(ht x).2;omega
 have ev:∀ x,mixV E c k x=tchan n a0 a1 a2 a3 x:=fun x=>by
  unfold mixV
  rw [if_neg (by omega),(ht x).1]
 refine ⟨chB_of (fun x=>by rw [ev];exact hz x) hg,fun s0 s1 s2 s3 h0 h1 h2 h3=>?_⟩
 have ec:∀ i,clipV E c k i=gainV (tchan n a0 a1 a2 a3 (c.chan.getD i 0)) c.gain:=fun i=>by
  unfold clipV
  rw [ev]
 have hm3:m=0∨m=1∨m=2:=by omega
 rcases hm3 with rfl | rfl | rfl
 ·have hcc:=len_zero hc
  rw [ch_out (Nat.zero_le _),ch_out (Nat.zero_le _),ch_out (Nat.zero_le _),ch_out (Nat.zero_le _),Int.add_zero,Int.add_zero,Int.add_zero,Int.add_zero]
  exact cAddC0 R A Q c hk hcc k n a0 a1 a2 a3 hn src hz hg s0 s1 s2 s3 h0 h1 h2 h3
 ·obtain ⟨x,hcc⟩:=len_one hc
  rw [ch_in (by decide),ch_out (by decide),ch_out (by decide),ch_out (by decide),Int.add_zero,Int.add_zero,Int.add_zero,ec,hcc]
  exact cAddC1 R A Q c hk x hcc k n a0 a1 a2 a3 hn src hz hg s0 s1 s2 s3 h0 h1 h2 h3
 ·obtain ⟨x,y,hcc⟩:=len_two' hc
  rw [ch_in (by decide),ch_in (by decide),ch_out (by decide),ch_out (by decide),Int.add_zero,Int.add_zero,ec,ec,hcc]
  exact cAddC2 R A Q c hk x y hcc k n a0 a1 a2 a3 hn src hz hg s0 s1 s2 s3 h0 h1 h2 h3
theorem share_01 {c:ClipR} {k:Rat} (ho : 0≤c.off) (ht:c.off+c.len≤c.total) (hl0 : 0≤c.len) (k0 : -1≤k) (k1:k≤(c.len:Rat)) : 0≤shareQ c k∧shareQ c k≤1:=by
 unfold shareQ
 have o0:(0:Rat)≤(c.off:Rat):=by exact_mod_cast ho
 have t0:(c.off:Rat)+(c.len:Rat)≤(c.total:Rat):=by exact_mod_cast ht
 have l0:(0:Rat)≤(c.len:Rat):=by exact_mod_cast hl0
 have tp:(0:Rat)<(c.total:Rat)+1:=by grind
 obtain ⟨t,hte⟩:∃ t:Rat,t=(k+c.off+1) / ((c.total:Rat)+1):=⟨_,rfl⟩
 have htm:((c.total:Rat)+1)*t=k+c.off+1:=by rw [hte];grind
 rw [← hte]
 refine ⟨nonneg_of tp (by grind),?_⟩
 have:=nonneg_of (v:=1 - t) tp (by grind)
 grind
theorem clipT_mix {R A Q:MapT} {E:SndE} {m:Nat} {c:ClipR} (hm:m≤2) (hk:c.kind=2) (hc:c.chan.length=m) (hl:c.len≤63) (ho : 0≤c.off) (ht:c.off+c.len≤c.total) (ht2:c.total≤1000000) (hl0 : 0≤c.len) (h:SrcGv R A Q E c.a) (h':SrcGv R A Q E c.b) (hg : 0≤c.gain∧c.gain≤65536):ClipT R A Q E m c:=by
 refine ⟨hl,fun k k0 k1 kd=>?_⟩
 have kl:(c.len:Rat)≤((63:Int):Rat):=by exact_mod_cast hl
 have c63:((63:Int):Rat)=63:=rfl
 rw [c63] at kl
 obtain ⟨n,a0,a1,a2,a3,hn,src,hta⟩:=h k (by grind) (by grind) kd
 obtain ⟨n',b0,b1,b2,b3,hn',src',htb⟩:=h' k (by grind) (by grind) kd
 have hsh : 0≤shareQ c k∧shareQ c k≤1:=share_01 ho ht hl0 k0 k1
 have hz:∀ x, -65536≤tchan n a0 a1 a2 a3 x∧tchan n a0 a1 a2 a3 x≤65536:=fun x=>by rw [(hta x).1];have:=(hta x).2;omega
 have hy:∀ x, -65536≤tchan n' b0 b1 b2 b3 x∧tchan n' b0 b1 b2 b3 x≤65536:=fun x=>by rw [(htb x).1];have:=(htb x).2;omega
 have hx:∀ x, -65536≤tchan n a0 a1 a2 a3 x+near (tchan n' b0 b1 b2 b3 x - tchan n a0 a1 a2 a3 x) (shareQ c k)∧tchan n a0 a1 a2 a3 x+near (tchan n' b0 b1 b2 b3 x - tchan n a0 a1 a2 a3 x) (shareQ c k)≤65536:=fun x=>by
  have:=near_between (u:=tchan n a0 a1 a2 a3 x) (v:=tchan n' b0 b1 b2 b3 x) hsh.1 hsh.2
  have:=hz x
  have:=hy x
  omega
 have ev:∀ x,mixV E c k x=tchan n a0 a1 a2 a3 x+near (tchan n' b0 b1 b2 b3 x - tchan n a0 a1 a2 a3 x) (shareQ c k):=fun x=>by
  unfold mixV
  rw [if_pos hk,(hta x).1,(htb x).1]
 refine ⟨chB_of (fun x=>by rw [ev];exact hx x) hg,fun s0 s1 s2 s3 h0 h1 h2 h3=>?_⟩
 have ec:∀ i,clipV E c k i=gainV (tchan n a0 a1 a2 a3 (c.chan.getD i 0)+near (tchan n' b0 b1 b2 b3 (c.chan.getD i 0) - tchan n a0 a1 a2 a3 (c.chan.getD i 0)) (shareQ c k)) c.gain:=fun i=>by
  unfold clipV
  rw [ev]
 have c64:(((64:Nat):Int):Rat)=64:=rfl
 have hkq:=qb_mono (qb_val (K:=64) (D:=8192) (by rw [c64];grind) (by rw [c64];grind) kd) (show 64*8192≤134217728 by decide) (show 8192≤16384 by decide)
 have hm3:m=0∨m=1∨m=2:=by omega
 rcases hm3 with rfl | rfl | rfl
 ·have hcc:=len_zero hc
  rw [ch_out (Nat.zero_le _),ch_out (Nat.zero_le _),ch_out (Nat.zero_le _),ch_out (Nat.zero_le _),Int.add_zero,Int.add_zero,Int.add_zero,Int.add_zero]
  exact cAddM0 R A Q c hk hcc k hkq ⟨ho,by omega⟩ ⟨by omega,by omega⟩ n a0 a1 a2 a3 hn src n' b0 b1 b2 b3 hn' src' hg s0 s1 s2 s3 h0 h1 h2 h3
 ·obtain ⟨x,hcc⟩:=len_one hc
  rw [ch_in (by decide),ch_out (by decide),ch_out (by decide),ch_out (by decide),Int.add_zero,Int.add_zero,Int.add_zero,ec,hcc]
  exact cAddM1 R A Q c hk x hcc k hkq ⟨ho,by omega⟩ ⟨by omega,by omega⟩ n a0 a1 a2 a3 hn src n' b0 b1 b2 b3 hn' src' (hz x) (hy x) (hx x) hg s0 s1 s2 s3 h0 h1 h2 h3
 ·obtain ⟨x,y,hcc⟩:=len_two' hc
  rw [ch_in (by decide),ch_in (by decide),ch_out (by decide),ch_out (by decide),Int.add_zero,Int.add_zero,ec,ec,hcc]
  exact cAddM2 R A Q c hk x y hcc k hkq ⟨ho,by omega⟩ ⟨by omega,by omega⟩ n a0 a1 a2 a3 hn src n' b0 b1 b2 b3 hn' src' (hz x) (hy x) (hx x) (hz y) (hy y) (hx y) hg s0 s1 s2 s3 h0 h1 h2 h3
end Go.Proofs.YtkjdkbmfaamhaaaGreat
