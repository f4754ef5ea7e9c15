/- Proved here: What the statement about crossfades computes, for use in the proofs of the given statements; conditions stand in each theorem. -/
import Derived.Test.YtjmoncjecpckhaaGreatVJ
set_option linter.unusedSimpArgs false
set_option linter.unusedVariables false
set_option linter.unusedSectionVars false
set_option linter.unnecessarySimpa false
namespace Go.Proofs.YtjmoncjecpckhaaGreat
open Go.RowKit
set_option maxRecDepth 4000
theorem mix_v {na nb:ByteArray} (ha:vSource ⟨1,na,⟨0,1⟩,⟨1,1⟩,false⟩=true) (hb:vSource ⟨1,nb,⟨0,1⟩,⟨1,1⟩,false⟩=true) {off tot:Int} (h0 : 0≤off) (ht:off+4≤tot) (ht2:tot≤100000):vClip (mixC2 na nb 4 off tot)=true:=by
 have hs:shareOk (mixC2 na nb 4 off tot)=true:=by
  unfold shareOk
  simp only [Bool.and_eq_true,decide_eq_true_eq]
  show ((0≤off∧4≤tot)∧tot≤2147483647)∧off≤tot - 4
  omega
 have hk:kindOk (mixC2 na nb 4 off tot)=true:=by
  unfold kindOk
  rw [if_neg (show ¬ (mixC2 na nb 4 off tot).kind=0 from (by decide : ¬ (2:Int)=0)),if_neg (show ¬ (mixC2 na nb 4 off tot).kind=1 from (by decide : ¬ (2:Int)=1)),if_pos (show (mixC2 na nb 4 off tot).kind=2 from rfl),hs]
  show (true&&((0:Int)==0)&&emp ⟨#[]⟩)=true
  kernel_rfl
 have hbs:baseOk (mixC2 na nb 4 off tot)=true:=by
  have e:baseOk (mixC2 na nb 4 off tot)=(true&&true&&true&&true&&vChans [0]&&vSource ⟨1,na,⟨0,1⟩,⟨1,1⟩,false⟩&&vSource ⟨1,nb,⟨0,1⟩,⟨1,1⟩,false⟩):=rfl
  rw [e,ha,hb]
  rfl
 unfold vClip
 rw [hbs,hk]
 rfl
theorem vsA:vSource ⟨1,nmA,⟨0,1⟩,⟨1,1⟩,false⟩=true:=by kernel_rfl
theorem vsB:vSource ⟨1,nmB,⟨0,1⟩,⟨1,1⟩,false⟩=true:=by kernel_rfl
theorem mix_fit {na nb:ByteArray} {off tot:Int} (h0 : -1000000≤off∧off≤1000000) (ht : -1000000≤tot∧tot≤1000000):(mixC2 na nb 4 off tot).fit:=by
 have i0:I64 0:=⟨by decide,by decide⟩
 have i1:I64 1:=⟨by decide,by decide⟩
 have i2:I64 2:=⟨by decide,by decide⟩
 have i4:I64 4:=⟨by decide,by decide⟩
 have i40:I64 4096:=⟨by decide,by decide⟩
 exact ⟨i4,i2,⟨i1,fr01,fr11⟩,⟨i1,fr01,fr11⟩,i64s h0,i64s ht,i0,i40⟩
theorem mix_trk {na nb:ByteArray} (hna:na=nmA∨na=nmB) (hnb:nb=nmA∨nb=nmB) {off tot:Int} (hv:vClip (mixC2 na nb 4 off tot)=true) (hf:(mixC2 na nb 4 off tot).fit):TrkQ 1 [mixC2 na nb 4 off tot]:=by
 refine ⟨?_,fun c hc=>?_⟩
 ·unfold vTrack
  have ht:totL [mixC2 na nb 4 off tot]=4:=rfl
  rw [ht,decide_eq_true (show [mixC2 na nb 4 off tot].length≤64 by simp),decide_eq_true (show (4:Int)≤2147483647 by decide)]
  simp [hv]
 ·simp only [List.mem_cons,List.not_mem_nil,or_false] at hc
  subst hc
  refine ⟨hf,rfl,fun x hx=>?_⟩
  rcases hx with rfl | rfl
  ·exact ⟨(by decide:(1:Int)≠2),fun _=>hna⟩
  ·exact ⟨(by decide:(1:Int)≠2),fun _=>hnb⟩
theorem cS4 {A:List AudioR} {p q u v:List Int} (h:TwoA A p q u v) {x:ClipR} (ht:TrkQ 1 [x]) (hx:ClipT (prjR ⟨25,1⟩ ⟨25,1⟩) (auM A) (sqM nmS) (prjE ⟨25,1⟩ ⟨25,1⟩ A) 1 x) (k:Nat) (hk:k≤1000000):CPure Tryz.prog 17 [vproj (prjG ⟨25,1⟩ ⟨25,1⟩ ⟨25,1⟩ 1 [[x]]),vstr nmS,vint (k:Int),vint (20:Nat), .t (taudios A)] (.tup [.t (tchs [sndV (prjE ⟨25,1⟩ ⟨25,1⟩ A) [[x]] ⟨25,1⟩ (k:Int) 20 0]),vint 0]):=by
 refine cSnd1 rateS25 rateS25 rateS25 (by simp) (fun t h=>?_) (two_aud h) (by decide) (by omega) (by omega) (fun t h y hy hk=>?_)
 ·simp only [List.mem_cons,List.not_mem_nil,or_false] at h
  subst h
  exact ht
 ·simp only [List.mem_cons,List.not_mem_nil,or_false] at h
  subst h
  simp only [List.mem_cons,List.not_mem_nil,or_false] at hy
  subst hy
  exact hx
theorem ratb25 (A:List AudioR):(prjE ⟨25,1⟩ ⟨25,1⟩ A).rate nmB=((25:Int):Rat) / ((1:Int):Rat):=by
 rw [rate_b,toQ_div (by kernel_rfl)]
theorem rata25 (A:List AudioR):(prjE ⟨25,1⟩ ⟨25,1⟩ A).rate nmA=((25:Int):Rat) / ((1:Int):Rat):=by
 rw [rate_a,toQ_div (by kernel_rfl)]
theorem own_cut {E:SndE} {nm:ByteArray} {p:List Int} (hp:(E.chs nm)[0]? = some p) (hi:I16s p) (hr:E.rate nm=((25:Int):Rat) / ((1:Int):Rat)) (hv:vClip (cutC nm ⟨0,1⟩ ⟨1,1⟩ 4 4096 0)=true) {s:Int} (h0 : 0≤ownF ⟨25,1⟩ s) (h1:ownF ⟨25,1⟩ s<4):smpV E [[cutC nm ⟨0,1⟩ ⟨1,1⟩ 4 4096 0]] ⟨25,1⟩ s 0=pcmAt p s:=by
 rw [smp_one,frm_single hv (by decide:(1:Int)≠0) 0 h0 h1]
 have:=cut_own (E:=E) (nm:=nm) (r:=⟨25,1⟩) (by decide) (by decide) hr (c:=0) hp 4 s
 rw [show ((0:Nat):Int)=0 from rfl] at this
 rw [this]
 exact clamp_id (pcmAt_i16 hi _)
theorem fade_snd {A:List AudioR} {p q u v:List Int} (h:TwoA A p q u v) {off tot:Int} (h0 : 0≤off) (ht:off+4≤tot) (ht2:tot≤100000) (k:Nat) (hk:k<7600) :
  (∀ i,i<20 → ∃ a b z:Int,(sndV (prjE ⟨25,1⟩ ⟨25,1⟩ A) [[cutC nmA ⟨0,1⟩ ⟨1,1⟩ 4 4096 0]] ⟨25,1⟩ (k:Int) 20 0).getD i 0=a∧(sndV (prjE ⟨25,1⟩ ⟨25,1⟩ A) [[cutC nmB ⟨0,1⟩ ⟨1,1⟩ 4 4096 0]] ⟨25,1⟩ (k:Int) 20 0).getD i 0=b∧(sndV (prjE ⟨25,1⟩ ⟨25,1⟩ A) [[mixC2 nmA nmB 4 off tot]] ⟨25,1⟩ (k:Int) 20 0).getD i 0=z∧min a b≤z∧z≤max a b) ∧
  sndV (prjE ⟨25,1⟩ ⟨25,1⟩ A) [[mixC2 nmA nmA 4 off tot]] ⟨25,1⟩ (k:Int) 20 0=sndV (prjE ⟨25,1⟩ ⟨25,1⟩ A) [[cutC nmA ⟨0,1⟩ ⟨1,1⟩ 4 4096 0]] ⟨25,1⟩ (k:Int) 20 0:=by
 have ha:((prjE ⟨25,1⟩ ⟨25,1⟩ A).chs nmA)[0]? = some p:=by rw [(two_a h).2];rfl
 have hb:((prjE ⟨25,1⟩ ⟨25,1⟩ A).chs nmB)[0]? = some u:=by rw [(two_b h).2];rfl
 have va:vClip (cutC nmA ⟨0,1⟩ ⟨1,1⟩ 4 4096 0)=true:=by kernel_rfl
 have vb:vClip (cutC nmB ⟨0,1⟩ ⟨1,1⟩ 4 4096 0)=true:=by kernel_rfl
 have vab:=mix_v vsA vsB h0 ht ht2
 have vaa:=mix_v vsA vsA h0 ht ht2
 have own:∀ i:Nat,i<20→0≤ownF ⟨25,1⟩ ((k:Int)+i)∧ownF ⟨25,1⟩ ((k:Int)+i)<4:=fun i hi=>own25 (b:=4) (by omega) (by omega)
 have tim:∀ i:Nat,i<20→0≤timeQ ⟨25,1⟩ ((k:Int)+i)∧timeQ ⟨25,1⟩ ((k:Int)+i)≤((4:Int):Rat):=fun i hi=>by
  obtain ⟨s,hs⟩:∃ s:Int,s=(k:Int)+i:=⟨_,rfl⟩
  have s0:(0:Rat)≤(s:Rat):=by exact_mod_cast (show 0≤s by omega)
  have s1:(s:Rat)≤((7680:Int):Rat):=Rat.intCast_le_intCast.2 (by omega)
  have c1:((7680:Int):Rat)=7680:=rfl
  have c2:((25:Int):Rat)=25:=rfl
  have c3:((1:Int):Rat)=1:=rfl
  have c4:((4:Int):Rat)=4:=rfl
  rw [c1] at s1
  rw [← hs,c4]
  unfold timeQ
  simp only [c2,c3]
  constructor<;>grind
 constructor
 ·intro i hi
  obtain ⟨o0,o1⟩:=own i hi
  obtain ⟨t0,t1⟩:=tim i hi
  refine ⟨pcmAt p ((k:Int)+i),pcmAt u ((k:Int)+i),smpV (prjE ⟨25,1⟩ ⟨25,1⟩ A) [[mixC2 nmA nmB 4 off tot]] ⟨25,1⟩ ((k:Int)+i) 0,?_,?_,?_,?_⟩
  ·unfold sndV
   rw [sndL_at _ hi]
   exact own_cut ha h.ip (rata25 A) va o0 o1
  ·unfold sndV
   rw [sndL_at _ hi]
   exact own_cut hb h.iu (ratb25 A) vb o0 o1
  ·unfold sndV
   rw [sndL_at _ hi]
  ·have hm:=snd_mix (r:=⟨25,1⟩) vab ha hb o0 o1 h.ip h.iu t0 t1 h0 ht (by decide) (by decide) (rata25 A) (ratb25 A)
   exact ⟨hm.1,hm.2.1⟩
 ·unfold sndV sndL
  refine List.map_congr_left fun i hi=>?_
  have h1:=List.mem_range.1 hi
  obtain ⟨o0,o1⟩:=own i h1
  obtain ⟨t0,t1⟩:=tim i h1
  have hm:=snd_mix (r:=⟨25,1⟩) vaa ha ha o0 o1 h.ip h.ip t0 t1 h0 ht (by decide) (by decide) (rata25 A) (rata25 A)
  exact (hm.2.2 rfl).trans (own_cut ha h.ip (rata25 A) va o0 o1).symm
set_option maxHeartbeats 4000000 in
theorem fade10 (L:List Int) (f off more:Int) (hf : 0≤f∧f≤65535) (ho : 0≤off∧off≤255) (hmo : 0≤more∧more≤255):CPure Tryz.prog 10 [.t (tints L), .t (.lit (.int .u16 f)), .t (.lit (.int .u8 off)), .t (.lit (.int .u8 more))] (vbool true):=by
 have hS:=cSounds L 9000 (by decide)
 have hA:=sounds_two L 9000 (by decide)
 have k0:=tmod_abs f (n:=7600) (by decide)
 have k1:=Int.tmod_nonneg 7600 hf.1
 obtain ⟨k,hk⟩:=nat_of k1
 obtain ⟨tot,htot⟩:∃ tot,tot=off+4+more:=⟨_,rfl⟩
 have va:vClip (cutC nmA ⟨0,1⟩ ⟨1,1⟩ 4 4096 0)=true:=by kernel_rfl
 have vb:vClip (cutC nmB ⟨0,1⟩ ⟨1,1⟩ 4 4096 0)=true:=by kernel_rfl
 have vab:=mix_v vsA vsB ho.1 (show off+4≤tot by omega) (by omega)
 have vaa:=mix_v vsA vsA ho.1 (show off+4≤tot by omega) (by omega)
 have fcu:∀ nm,(cutC nm ⟨0,1⟩ ⟨1,1⟩ 4 4096 0).fit:=fun nm=>cutC_fit fr01 fr11 (by decide) (by decide) (by decide)
 have fmx:∀ na nb,(mixC2 na nb 4 off tot).fit:=fun na nb=>mix_fit (by omega) (by omega)
 have sa:=srcF_a hA (rb:=⟨25,1⟩) rateS25 (s:=⟨1,nmA,⟨0,1⟩,⟨1,1⟩,false⟩) rfl rfl vr01 vr11 (qb01 _ _ (by decide)) (qb11 _ _ (by decide) (by decide))
 have sb:=srcF_b hA (ra:=⟨25,1⟩) rateS25 (s:=⟨1,nmB,⟨0,1⟩,⟨1,1⟩,false⟩) rfl rfl vr01 vr11 (qb01 _ _ (by decide)) (qb11 _ _ (by decide) (by decide))
 have s1:=cS4 hA (cutC_trk (.inl rfl) va (fcu _)) (cutT_a hA rateS25 (by decide) (by decide) vr01 vr11 (qb01 _ _ (by decide)) (qb11 _ _ (by decide) (by decide))) k (by omega)
 have s2:=cS4 hA (cutC_trk (.inr rfl) vb (fcu _)) (cutT_b hA rateS25 (by decide) (by decide) vr01 vr11 (qb01 _ _ (by decide)) (qb11 _ _ (by decide) (by decide))) k (by omega)
 have s3:=cS4 hA (x:=mixC2 nmA nmB 4 off tot) (mix_trk (.inl rfl) (.inr rfl) vab (fmx _ _)) (clipT_mix1 rfl rfl (show (4:Int)≤63 by decide) ho.1 (show off+4≤tot by omega) (show tot≤1000000 by omega) (show (0:Int)≤4 by decide) sa ((two_a hA).2 _ _) (rate_a _ _ _) sb ((two_b hA).2 _ _) (rate_b _ _ _) (show (0:Int)≤4096∧(4096:Int)≤65536 by decide)) k (by omega)
 have s4:=cS4 hA (x:=mixC2 nmA nmA 4 off tot) (mix_trk (.inl rfl) (.inl rfl) vaa (fmx _ _)) (clipT_mix1 rfl rfl (show (4:Int)≤63 by decide) ho.1 (show off+4≤tot by omega) (show tot≤1000000 by omega) (show (0:Int)≤4 by decide) sa ((two_a hA).2 _ _) (rate_a _ _ _) sa ((two_a hA).2 _ _) (rate_a _ _ _) (show (0:Int)≤4096∧(4096:Int)≤65536 by decide)) k (by omega)
 obtain ⟨hb,hy⟩:=fade_snd hA ho.1 (show off+4≤tot by omega) (by omega) k (by omega)
 rw [hy] at s4
 have l1:=sndV_len (prjE ⟨25,1⟩ ⟨25,1⟩ (soundsA L 9000)) [[cutC nmA ⟨0,1⟩ ⟨1,1⟩ 4 4096 0]] ⟨25,1⟩ (k:Int) 20 0
 have l2:=sndV_len (prjE ⟨25,1⟩ ⟨25,1⟩ (soundsA L 9000)) [[cutC nmB ⟨0,1⟩ ⟨1,1⟩ 4 4096 0]] ⟨25,1⟩ (k:Int) 20 0
 have l3:=sndV_len (prjE ⟨25,1⟩ ⟨25,1⟩ (soundsA L 9000)) [[mixC2 nmA nmB 4 off tot]] ⟨25,1⟩ (k:Int) 20 0
 generalize sndV (prjE ⟨25,1⟩ ⟨25,1⟩ (soundsA L 9000)) [[cutC nmA ⟨0,1⟩ ⟨1,1⟩ 4 4096 0]] ⟨25,1⟩ (k:Int) 20 0=U at s1 s4 hb l1
 generalize sndV (prjE ⟨25,1⟩ ⟨25,1⟩ (soundsA L 9000)) [[cutC nmB ⟨0,1⟩ ⟨1,1⟩ 4 4096 0]] ⟨25,1⟩ (k:Int) 20 0=W at s2 hb l2
 generalize sndV (prjE ⟨25,1⟩ ⟨25,1⟩ (soundsA L 9000)) [[mixC2 nmA nmB 4 off tot]] ⟨25,1⟩ (k:Int) 20 0=X at s3 hb l3
 refine cpure_of Tryz.xen10 Tryz.func10 rfl Tryz.ntmps10 (by rw [Tryz.results10]) ?_
 refine awp_seq (aw_ok _ ?_)
 simp only [go_sem,simprocAttr,decide_true,decide_false]
 refine awp_seq (aw_ok _ ?_)
 simp only [go_sem,simprocAttr,decide_true,decide_false]
 refine ⟨_,hS,?_⟩
 simp only [go_sem,simprocAttr,decide_true,decide_false]
 refine awp_seq (aw_ok _ ?_)
 simp only [go_sem,simprocAttr,decide_true,decide_false]
 refine ⟨_,cWhole 0,?_⟩
 simp only [go_sem,simprocAttr,decide_true,decide_false]
 refine ⟨_,cWhole 1,?_⟩
 simp only [go_sem,simprocAttr,decide_true,decide_false]
 refine ⟨_,cCut27 ⟨0,1⟩ ⟨1,1⟩ 4,?_⟩
 simp only [go_sem,simprocAttr,decide_true,decide_false]
 refine ⟨_,cWhole 0,?_⟩
 simp only [go_sem,simprocAttr,decide_true,decide_false]
 refine ⟨_,cWhole 1,?_⟩
 simp only [go_sem,simprocAttr,decide_true,decide_false]
 refine ⟨_,cCut27 ⟨0,1⟩ ⟨1,1⟩ 4,?_⟩
 simp only [go_sem,simprocAttr,decide_true,decide_false]
 refine awp_seq (aw_ok _ ?_)
 simp only [go_sem,simprocAttr,decide_true,decide_false]
 refine awp_seq (aw_ok _ ?_)
 simp only [go_sem,simprocAttr,decide_true,decide_false]
 refine awp_seq (aw_ok _ ?_)
 simp only [go_sem,simprocAttr,decide_true,decide_false]
 refine drawC_of 18 .done rfl (by kernel_rfl) (by kernel_rfl) (by decide) ?_
 simp only [go_sem,simprocAttr,decide_true,decide_false,wrap64 (x:=off) (by omega) (by omega),wrap64 (x:=more) (by omega) (by omega),wrap64 (x:=off+4) (by omega) (by omega), ← htot,wrap64 (x:=tot) (by omega) (by omega)]
 refine ⟨by kernel_rfl,?_⟩
 refine awp_seq (aw_ok _ ?_)
 simp only [go_sem,simprocAttr,decide_true,decide_false]
 refine awp_seq (aw_ok _ ?_)
 simp only [go_sem,simprocAttr,decide_true,decide_false]
 refine awp_seq (aw_ok _ ?_)
 simp only [go_sem,simprocAttr,decide_true,decide_false,hk,wrapN (n:=k) (by omega)]
 refine awp_seq (aw_ok _ ?_)
 simp only [go_sem,simprocAttr,decide_true,decide_false]
 refine drawP_of [2,3] 13 .done rfl (by kernel_rfl) (by kernel_rfl) (by decide) ?_
 simp only [go_sem,simprocAttr,decide_true,decide_false]
 refine ⟨_,cWhole 25,?_⟩
 simp only [go_sem,simprocAttr,decide_true,decide_false]
 refine ⟨_,cProj1 ⟨25,1⟩ (cutC nmA ⟨0,1⟩ ⟨1,1⟩ 4 4096 0),?_⟩
 simp only [go_sem,simprocAttr,decide_true,decide_false]
 refine ⟨_,s1,?_⟩
 simp only [go_sem,simprocAttr,decide_true,decide_false]
 refine ⟨by kernel_rfl,?_⟩
 refine awp_seq (aw_ok _ ?_)
 simp only [go_sem,simprocAttr,decide_true,decide_false]
 refine drawP_of [2,3] 13 .done rfl (by kernel_rfl) (by kernel_rfl) (by decide) ?_
 simp only [go_sem,simprocAttr,decide_true,decide_false]
 refine ⟨_,cWhole 25,?_⟩
 simp only [go_sem,simprocAttr,decide_true,decide_false]
 refine ⟨_,cProj1 ⟨25,1⟩ (cutC nmB ⟨0,1⟩ ⟨1,1⟩ 4 4096 0),?_⟩
 simp only [go_sem,simprocAttr,decide_true,decide_false]
 refine ⟨_,s2,?_⟩
 simp only [go_sem,simprocAttr,decide_true,decide_false]
 refine ⟨by kernel_rfl,?_⟩
 refine awp_seq (aw_ok _ ?_)
 simp only [go_sem,simprocAttr,decide_true,decide_false]
 refine drawP_of [2,3] 13 .done rfl (by kernel_rfl) (by kernel_rfl) (by decide) ?_
 simp only [go_sem,simprocAttr,decide_true,decide_false]
 refine ⟨_,cWhole 25,?_⟩
 simp only [go_sem,simprocAttr,decide_true,decide_false]
 refine ⟨_,cProj1 ⟨25,1⟩ (mixC2 nmA nmB 4 off tot),?_⟩
 simp only [go_sem,simprocAttr,decide_true,decide_false]
 refine ⟨_,s3,?_⟩
 simp only [go_sem,simprocAttr,decide_true,decide_false]
 refine ⟨by kernel_rfl,?_⟩
 refine awp_seq (aw_ok _ ?_)
 simp only [go_sem,simprocAttr,decide_true,decide_false]
 refine drawP_of [2,3] 13 .done rfl (by kernel_rfl) (by kernel_rfl) (by decide) ?_
 simp only [go_sem,simprocAttr,decide_true,decide_false]
 refine ⟨_,cWhole 25,?_⟩
 simp only [go_sem,simprocAttr,decide_true,decide_false]
 refine ⟨_,cProj1 ⟨25,1⟩ (mixC2 nmA nmA 4 off tot),?_⟩
 simp only [go_sem,simprocAttr,decide_true,decide_false]
 refine ⟨_,s4,?_⟩
 simp only [go_sem,simprocAttr,decide_true,decide_false]
 refine ⟨by kernel_rfl,?_⟩
 have hSm:=cSame27 [U] (by simp) (fun x hx=>by
  simp only [List.mem_cons,List.not_mem_nil,or_false] at hx
  rw [hx,l1]
  decide)
 refine aw_ok _ ?_
 simp only [go_sem,simprocAttr,decide_true,decide_false,tchs,t16,l1,l2,l3,nth_one]
 refine awp_loop_f (fun (i:Nat) σ => setS 154 (vint i) (deadS [23,155,156,157,158,159,160,161,162,163,164,165,166,167,168,169,170,171,172,173,174,175,176,177,178,179,180,181,182,183,184,185,186,187,188,189,190,191,192,193,194,195,196,197,198,199,200,201,202,203,204,205] (cleanS σ))) (fun i=>i≤20) (fun i=>20 - i) 0 (weak_self ?_) (Nat.zero_le _) ?_
 ·simp only [go_sem,simprocAttr]<;>simp
 ·intro i hi
  refine aw_ok _ ?_
  simp only [go_sem,simprocAttr]
  refine ⟨fun hlt=>?_,fun hge=>?_⟩
  ·simp only [bxx] at hlt
   have hil:i<20:=by omega
   have hwi:IntKind.i64.wrap ((i:Int)+1)=((i+1:Nat):Int):=by rw [wrap1 (by omega)];omega
   obtain ⟨a,b,z,b1,b2,b3,hz0,hz1⟩:=hb i hil
   have nU:∀ d,nth d (U.map c16) i=c16 a:=fun d=>by rw [c16_nth (by omega),b1]
   have nW:∀ d,nth d (W.map c16) i=c16 b:=fun d=>by rw [c16_nth (by omega),b2]
   have nX:∀ d,nth d (X.map c16) i=c16 z:=fun d=>by rw [c16_nth (by omega),b3]
   unfold awS
   simp only [go_sem,simprocAttr,decide_true,decide_false]
   refine drawR_of [0,1,2,3,4,5,6,7,8,9,10,11,12,13,14,15,16,17,18,19,20,21,22,23,24,25,26,27,28,29,30,31,32,33,34,35,36,37,38,39,40,41] .done rfl (by kernel_rfl) (by kernel_rfl) (by decide) ?_
   simp only [go_sem,simprocAttr,decide_true,decide_false,nth_one,l1,l2,l3,nU,nW,nX]
   refine ⟨⟨by omega,by omega⟩,⟨by omega,by omega⟩,⟨by omega,by omega⟩,fun _=>⟨by omega,by omega⟩,fun _=>⟨by omega,by omega⟩,fun _=>⟨by omega,by omega⟩,fun h=>?_,fun h=>?_⟩
   ·exfalso
    simp only [bxx] at h
    omega
   ·unfold awS
    simp only [go_sem,simprocAttr,decide_true,decide_false]
    refine ⟨i+1,weak_self ?_,by omega,by omega⟩
    simp only [go_sem,simprocAttr,decide_true,decide_false,hwi]
    try simp
  ·simp only [bxx] at hge
   unfold awS
   simp only [go_sem,simprocAttr,decide_true,decide_false]
   refine ⟨_,hSm,?_⟩
   simp only [go_sem,simprocAttr,decide_true,decide_false]
   refine ⟨_,cAwake27,?_⟩
   simp only [go_sem,simprocAttr,decide_true,decide_false]
end Go.Proofs.YtjmoncjecpckhaaGreat
