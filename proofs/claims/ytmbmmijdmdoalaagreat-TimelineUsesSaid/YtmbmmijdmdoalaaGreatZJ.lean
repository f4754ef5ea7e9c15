/- Proved here: The contract of the reference's check of a clip, for use in the proofs of the given statements; conditions stand in each theorem. -/
import Derived.Test.YtmbmmijdmdoalaaGreatZI
set_option linter.unusedSimpArgs false
set_option linter.unusedVariables false
set_option linter.unusedSectionVars false
set_option linter.unnecessarySimpa false
namespace Go.Proofs.YtmbmmijdmdoalaaGreat
open Go.RowKit
set_option maxRecDepth 4000
set_option maxHeartbeats 4000000
def chanI (n:Int):Bool:=decide (-1≤n)&&decide (n≤3)
theorem vChans_eq (l:List Int):vChans l=(decide (l.length≤4)&&l.all chanI):=rfl
theorem isZ_source {s:SourceR} (h:s.isZ=true):vSource s=true:=by unfold vSource;rw [h];rfl
theorem vClip_parts {c:ClipR} (h:vClip c=true) : 1≤c.len∧c.len≤2147483647∧0≤c.gain∧c.gain≤65536∧vChans c.chan=true∧vSource c.a=true∧vSource c.b=true∧kindOk c=true:=by
 unfold vClip baseOk at h
 simp only [Bool.and_eq_true,decide_eq_true_eq] at h
 obtain ⟨⟨⟨⟨⟨⟨⟨q1,q2⟩,q3⟩,q4⟩,q5⟩,q6⟩,q7⟩,q8⟩:=h
 exact ⟨q1,q2,q3,q4,q5,q6,q7,q8⟩
theorem kindOk_range {c:ClipR} (h:kindOk c=true) : 0≤c.kind∧c.kind≤5:=by
 by_cases hk : 0≤c.kind∧c.kind≤5
 ·exact hk
 ·unfold kindOk at h
  repeat rw [if_neg (by omega)] at h
  cases h
theorem vChans_len {l:List Int} (h:vChans l=true):l.length≤4:=by
 unfold vChans at h
 simp only [Bool.and_eq_true,decide_eq_true_eq] at h
 exact h.1
theorem share_ref {c:ClipR} (h : 1≤c.len) (h2:c.len≤2147483647):(decide (c.off<0)||decide (c.total<0)||decide (c.total > 2147483647)||decide (c.off > IntKind.i64.wrap (c.total - c.len))) = !shareOk c:=by
 unfold shareOk
 by_cases hx : 0≤c.total∧c.total≤2147483647
 ·rw [wrap64 (by omega) (by omega)]
  rw [Bool.eq_iff_iff];simp only [bxx];omega
 ·rw [Bool.eq_iff_iff];simp only [bxx];omega
theorem noShare_ref {c:ClipR}:(c.off != 0||c.total != 0) = !noShare c:=by
 unfold noShare
 (try simp only [bne]);cases (c.off==0)<;>cases (c.total==0)<;>rfl
theorem param_ref {n m:Int}:(decide (n<0)||decide (n > m)) = !(decide (0≤n)&&decide (n≤m)):=by rw [Bool.eq_iff_iff];simp only [bxx];omega
theorem param_ref0 {n:Int}:(decide (n<0)||decide (n > 0)) = !(n==0):=by rw [Bool.eq_iff_iff];simp only [bxx];omega
theorem gap_ref {c:ClipR}:(c.gain != 0||decide (((c.chan.length:Nat):Int) > 0)) = !(c.gain==0&&c.chan.length==0):=by rw [Bool.eq_iff_iff];simp only [bxx];omega
theorem kind0 {c:ClipR} (h:c.kind=0):kindOk c=(c.a.isZ&&c.b.isZ&&noShare c&&c.param==0&&emp c.text&&c.gain==0&&c.chan.length==0):=by unfold kindOk;rw [if_pos h]
theorem kind1 {c:ClipR} (h:c.kind=1):kindOk c=(c.b.isZ&&noShare c&&c.param==0&&emp c.text):=by unfold kindOk;rw [if_neg (by omega),if_pos h]
theorem kind2 {c:ClipR} (h:c.kind=2):kindOk c=(shareOk c&&c.param==0&&emp c.text):=by unfold kindOk;rw [if_neg (by omega),if_neg (by omega),if_pos h]
theorem kind3 {c:ClipR} (h:c.kind=3):kindOk c=(shareOk c&&decide (0≤c.param)&&decide (c.param≤3)&&emp c.text):=by unfold kindOk;rw [if_neg (by omega),if_neg (by omega),if_neg (by omega),if_pos h]
theorem kind4 {c:ClipR} (h:c.kind=4):kindOk c=(noShare c&&decide (0≤c.param)&&decide (c.param≤255)&&emp c.text):=by unfold kindOk;rw [if_neg (by omega),if_neg (by omega),if_neg (by omega),if_neg (by omega),if_pos h]
theorem kind5 {c:ClipR} (h:c.kind=5):kindOk c=(c.b.isZ&&noShare c&&c.param==0&&vLine c.text):=by unfold kindOk;rw [if_neg (by omega),if_neg (by omega),if_neg (by omega),if_neg (by omega),if_neg (by omega),if_pos h]
theorem vb_false {b:Bool} (h:b=false):V.t (T.lit (Value.bool false))=vbool b:=by rw [h]
theorem cRClip (c:ClipR) (h:c.fit):CPure Tryz.prog 210 [vclip c] (vbool (vClip c)):=by
 refine cpure_of Tryz.xen210 Tryz.func210 rfl Tryz.ntmps210 (by rw [Tryz.results210]) (aw_ok _ ?_)
 simp only [go_sem,simprocAttr]
 refine brW (b := !(decide (1≤c.len)&&decide (c.len≤2147483647)&&(decide (0≤c.kind)&&decide (c.kind≤5))&&decide (0≤c.gain)&&decide (c.gain≤65536)&&decide (c.chan.length≤4))) ?_ ⟨fun hb=>?_,fun hb=>?_⟩
 ·rw [Bool.eq_iff_iff];simp only [bxx];omega
 ·unfold awS
  have hb':=nt hb
  simp only [bxx] at hb'
  have:vClip c=false:=by
   rw [Bool.eq_false_iff]
   intro hv
   obtain ⟨q1,q2,q3,q4,q5,q6,q7,q8⟩:=vClip_parts hv
   have:=kindOk_range q8
   have:=vChans_len q5
   omega
  simp only [go_sem,simprocAttr]
  rw [this]
 ·unfold awS
  simp only [go_sem,simprocAttr]
  have hb':=nf hb
  simp only [bxx] at hb'
  refine awp_loop_f (fun (k:Nat) σ => setS 3 (vint k) (deadS [7,8,9,10,11,12,13,14,15,16,17,18,19,20,21,22,23,24,25,26,27,28,29,30,31,32,33,34,35,36,37,38,39,40] σ)) (fun k=>k≤c.chan.length ∧ ∀ i,i<k→chanI (c.chan.getD i 0)=true) (fun k=>c.chan.length - k) 0 (weak_self ?_) ⟨Nat.zero_le _,by omega⟩ ?_
  ·simp only [go_sem,simprocAttr]<;>simp
  ·rintro k ⟨hk,hi⟩
   refine aw_ok _ ?_
   simp only [go_sem,simprocAttr]
   refine ⟨fun hlt=>?_,fun hge=>?_⟩
   ·simp only [bxx] at hlt
    unfold awS
    simp only [go_sem,simprocAttr]
    refine ⟨⟨by omega,by omega⟩,fun _=>⟨by omega,by omega⟩,?_⟩
    refine brW (b := !chanI (c.chan.getD k 0)) ?_ ⟨fun hc=>?_,fun hc=>?_⟩
    ·unfold chanI
     rw [Bool.eq_iff_iff];simp only [bxx];omega
    ·unfold awS
     simp only [go_sem,simprocAttr]
     have:vClip c=false:=by
      unfold vClip baseOk
      rw [vChans_eq,all_hit (d:=(0:Int)) (p:=chanI) (k:=k) (by omega) (nt hc)]
      simp
     rw [this]
    ·unfold awS
     simp only [go_sem,simprocAttr]
     refine ⟨k+1,weak_self ?_,⟨by omega,upto hi (nf hc)⟩,by omega⟩
     simp only [go_sem,simprocAttr]<;>simp [wrap1 (show k<9223372036854775807 by omega)]
   ·simp only [bxx] at hge
    have hch:vChans c.chan=true:=by
     rw [vChans_eq,all_done (d:=(0:Int)) (p:=chanI) (fun i h2=>hi i (by omega)),Bool.and_true,decide_eq_true (by omega:c.chan.length≤4)]
    unfold awS
    simp only [go_sem,simprocAttr]
    have hv:vClip c=(vSource c.a&&vSource c.b&&kindOk c):=by
     unfold vClip baseOk
     rw [hch,decide_eq_true (by omega : 1≤c.len),decide_eq_true (by omega:c.len≤2147483647),decide_eq_true (by omega : 0≤c.gain),decide_eq_true (by omega:c.gain≤65536)]
     rfl
    rw [hv]
    have hk6:c.kind=0∨c.kind=1∨c.kind=2∨c.kind=3∨c.kind=4∨c.kind=5:=by omega
    refine drawR_of [0,1,2,3,4,5,6,7,8,9,10,11,12] .done rfl (by kernel_rfl) (by kernel_rfl) (by decide) ?_
    rcases hk6 with hk | hk | hk | hk | hk | hk
    all_goals
     simp only [go_sem,simprocAttr,decide_true,decide_false,hk]
     refine ⟨_,cShares _,?_⟩
     simp only [go_sem,simprocAttr,decide_true,decide_false,hk]
    ·refine ⟨vbool false,fun h=>h.elim,?_⟩
     simp only [go_sem,simprocAttr,decide_true,decide_false,hk]
     refine ⟨_,(by first | exact cBlack c.a | exact fun _=>cBlack c.a),?_⟩
     simp only [go_sem,simprocAttr,decide_true,decide_false,hk]
     refine ⟨vbool false,fun h=>h.elim,?_⟩
     simp only [go_sem,simprocAttr,decide_true,decide_false,hk]
     refine ⟨_,(by first | exact cBlack c.b | exact fun _=>cBlack c.b),?_⟩
     simp only [go_sem,simprocAttr,decide_true,decide_false,hk]
     refine brW (b := !(c.a.isZ&&c.b.isZ)) ?_ ⟨fun hd=>?_,fun hd=>?_⟩
     ·(try simp only [bne]);cases (c.a.isZ)<;>cases (c.b.isZ)<;>rfl
     ·unfold awS
      simp only [go_sem,simprocAttr,decide_true,decide_false,hk]
      refine vb_false ?_
      rw [kind0 hk,Bool.eq_false_iff];intro hv;simp only [Bool.and_eq_true] at hv;have z:=nt hd;simp_all
     ·unfold awS
      simp only [go_sem,simprocAttr,decide_true,decide_false,hk]
      refine brW (b := !(c.gain==0&&c.chan.length==0)) ?_ ⟨fun hg=>?_,fun hg=>?_⟩
      ·exact gap_ref
      ·unfold awS
       simp only [go_sem,simprocAttr,decide_true,decide_false,hk]
       refine vb_false ?_
       have z:=nf hd;rw [Bool.and_eq_true] at z;rw [isZ_source z.1,isZ_source z.2,kind0 hk,z.1,z.2]
       have z2:=nt hg
       rw [Bool.and_assoc _ (c.gain==0),z2]
       simp
      unfold awS
      simp only [go_sem,simprocAttr,decide_true,decide_false,hk]
      refine ⟨_,cShares _,?_⟩
      simp only [go_sem,simprocAttr,decide_true,decide_false,hk]
      refine brW (b := !noShare c) ?_ ⟨fun hs=>?_,fun hs=>?_⟩
      ·exact noShare_ref
      ·unfold awS
       simp only [go_sem,simprocAttr,decide_true,decide_false,hk]
       refine vb_false ?_
       have z:=nf hd;rw [Bool.and_eq_true] at z;rw [isZ_source z.1,isZ_source z.2,kind0 hk,z.1,z.2]
       rw [nt hs]
       simp
      unfold awS
      simp only [go_sem,simprocAttr,decide_true,decide_false,hk]
      refine brW (b := !(c.param==0)) ?_ ⟨fun hp=>?_,fun hp=>?_⟩
      ·exact param_ref0
      ·unfold awS
       simp only [go_sem,simprocAttr,decide_true,decide_false,hk]
       refine vb_false ?_
       have z:=nf hd;rw [Bool.and_eq_true] at z;rw [isZ_source z.1,isZ_source z.2,kind0 hk,z.1,z.2]
       have z2:=nt hp
       rw [z2]
       simp
      unfold awS
      simp only [go_sem,simprocAttr,decide_true,decide_false,hk]
      have z:=nf hd;rw [Bool.and_eq_true] at z;rw [isZ_source z.1,isZ_source z.2,kind0 hk,z.1,z.2]
      have z2:=nf hp
      rw [nf hs,z2]
      have z3:=nf hg
      rw [Bool.and_eq_true] at z3
      rw [z3.1,z3.2]
      simp [emp]
    ·refine ⟨_,(by first | exact cRSource _ h.a | exact fun _=>cRSource _ h.a),?_⟩
     simp only [go_sem,simprocAttr,decide_true,decide_false,hk]
     refine ⟨vbool false,fun h=>h.elim,?_⟩
     simp only [go_sem,simprocAttr,decide_true,decide_false,hk]
     refine ⟨vbool false,fun h=>h.elim,?_⟩
     simp only [go_sem,simprocAttr,decide_true,decide_false,hk]
     refine ⟨_,(by first | exact cBlack c.b | exact fun _=>cBlack c.b),?_⟩
     simp only [go_sem,simprocAttr,decide_true,decide_false,hk]
     refine brW (b := !(vSource c.a&&c.b.isZ)) ?_ ⟨fun hd=>?_,fun hd=>?_⟩
     ·(try simp only [bne]);cases (vSource c.a)<;>cases (c.b.isZ)<;>rfl
     ·unfold awS
      simp only [go_sem,simprocAttr,decide_true,decide_false,hk]
      refine vb_false ?_
      rw [kind1 hk,Bool.eq_false_iff];intro hv;simp only [Bool.and_eq_true] at hv;have z:=nt hd;simp_all
     ·unfold awS
      simp only [go_sem,simprocAttr,decide_true,decide_false,hk]
      refine ⟨_,cShares _,?_⟩
      simp only [go_sem,simprocAttr,decide_true,decide_false,hk]
      refine brW (b := !noShare c) ?_ ⟨fun hs=>?_,fun hs=>?_⟩
      ·exact noShare_ref
      ·unfold awS
       simp only [go_sem,simprocAttr,decide_true,decide_false,hk]
       refine vb_false ?_
       have z:=nf hd;rw [Bool.and_eq_true] at z;rw [z.1,isZ_source z.2,kind1 hk,z.2]
       rw [nt hs]
       simp
      unfold awS
      simp only [go_sem,simprocAttr,decide_true,decide_false,hk]
      refine brW (b := !(c.param==0)) ?_ ⟨fun hp=>?_,fun hp=>?_⟩
      ·exact param_ref0
      ·unfold awS
       simp only [go_sem,simprocAttr,decide_true,decide_false,hk]
       refine vb_false ?_
       have z:=nf hd;rw [Bool.and_eq_true] at z;rw [z.1,isZ_source z.2,kind1 hk,z.2]
       have z2:=nt hp
       rw [z2]
       simp
      unfold awS
      simp only [go_sem,simprocAttr,decide_true,decide_false,hk]
      have z:=nf hd;rw [Bool.and_eq_true] at z;rw [z.1,isZ_source z.2,kind1 hk,z.2]
      have z2:=nf hp
      rw [nf hs,z2]
      simp [emp]
    ·refine ⟨_,(by first | exact cRSource _ h.a | exact fun _=>cRSource _ h.a),?_⟩
     simp only [go_sem,simprocAttr,decide_true,decide_false,hk]
     refine ⟨vbool false,fun h=>h.elim,?_⟩
     simp only [go_sem,simprocAttr,decide_true,decide_false,hk]
     refine ⟨_,(by first | exact cRSource _ h.b | exact fun _=>cRSource _ h.b),?_⟩
     simp only [go_sem,simprocAttr,decide_true,decide_false,hk]
     refine ⟨vbool false,fun h=>h.elim,?_⟩
     simp only [go_sem,simprocAttr,decide_true,decide_false,hk]
     refine brW (b := !(vSource c.a&&vSource c.b)) ?_ ⟨fun hd=>?_,fun hd=>?_⟩
     ·(try simp only [bne]);cases (vSource c.a)<;>cases (vSource c.b)<;>rfl
     ·unfold awS
      simp only [go_sem,simprocAttr,decide_true,decide_false,hk]
      refine vb_false ?_
      have z:=nt hd;rw [z];rfl
     ·unfold awS
      simp only [go_sem,simprocAttr,decide_true,decide_false,hk]
      refine ⟨_,cShares _,?_⟩
      simp only [go_sem,simprocAttr,decide_true,decide_false,hk]
      refine brW (b := !shareOk c) ?_ ⟨fun hs=>?_,fun hs=>?_⟩
      ·exact share_ref (by omega) (by omega)
      ·unfold awS
       simp only [go_sem,simprocAttr,decide_true,decide_false,hk]
       refine vb_false ?_
       have z:=nf hd;rw [z,kind2 hk]
       rw [nt hs]
       simp
      unfold awS
      simp only [go_sem,simprocAttr,decide_true,decide_false,hk]
      refine brW (b := !(c.param==0)) ?_ ⟨fun hp=>?_,fun hp=>?_⟩
      ·exact param_ref0
      ·unfold awS
       simp only [go_sem,simprocAttr,decide_true,decide_false,hk]
       refine vb_false ?_
       have z:=nf hd;rw [z,kind2 hk]
       have z2:=nt hp
       rw [z2]
       simp
      unfold awS
      simp only [go_sem,simprocAttr,decide_true,decide_false,hk]
      have z:=nf hd;rw [z,kind2 hk]
      have z2:=nf hp
      rw [nf hs,z2]
      simp [emp]
    ·refine ⟨_,(by first | exact cRSource _ h.a | exact fun _=>cRSource _ h.a),?_⟩
     simp only [go_sem,simprocAttr,decide_true,decide_false,hk]
     refine ⟨vbool false,fun h=>h.elim,?_⟩
     simp only [go_sem,simprocAttr,decide_true,decide_false,hk]
     refine ⟨_,(by first | exact cRSource _ h.b | exact fun _=>cRSource _ h.b),?_⟩
     simp only [go_sem,simprocAttr,decide_true,decide_false,hk]
     refine ⟨vbool false,fun h=>h.elim,?_⟩
     simp only [go_sem,simprocAttr,decide_true,decide_false,hk]
     refine brW (b := !(vSource c.a&&vSource c.b)) ?_ ⟨fun hd=>?_,fun hd=>?_⟩
     ·(try simp only [bne]);cases (vSource c.a)<;>cases (vSource c.b)<;>rfl
     ·unfold awS
      simp only [go_sem,simprocAttr,decide_true,decide_false,hk]
      refine vb_false ?_
      have z:=nt hd;rw [z];rfl
     ·unfold awS
      simp only [go_sem,simprocAttr,decide_true,decide_false,hk]
      refine ⟨_,cShares _,?_⟩
      simp only [go_sem,simprocAttr,decide_true,decide_false,hk]
      refine brW (b := !shareOk c) ?_ ⟨fun hs=>?_,fun hs=>?_⟩
      ·exact share_ref (by omega) (by omega)
      ·unfold awS
       simp only [go_sem,simprocAttr,decide_true,decide_false,hk]
       refine vb_false ?_
       have z:=nf hd;rw [z,kind3 hk]
       rw [nt hs]
       simp
      unfold awS
      simp only [go_sem,simprocAttr,decide_true,decide_false,hk]
      refine brW (b := !(decide (0≤c.param)&&decide (c.param≤3))) ?_ ⟨fun hp=>?_,fun hp=>?_⟩
      ·exact param_ref
      ·unfold awS
       simp only [go_sem,simprocAttr,decide_true,decide_false,hk]
       refine vb_false ?_
       have z:=nf hd;rw [z,kind3 hk]
       have z2:=nt hp
       rw [Bool.and_assoc _ (decide (0≤c.param)),z2]
       simp
      unfold awS
      simp only [go_sem,simprocAttr,decide_true,decide_false,hk]
      have z:=nf hd;rw [z,kind3 hk]
      have z2:=nf hp
      rw [Bool.and_eq_true] at z2;rw [nf hs,z2.1,z2.2]
      simp [emp]
    ·refine ⟨_,(by first | exact cRSource _ h.a | exact fun _=>cRSource _ h.a),?_⟩
     simp only [go_sem,simprocAttr,decide_true,decide_false,hk]
     refine ⟨vbool false,fun h=>h.elim,?_⟩
     simp only [go_sem,simprocAttr,decide_true,decide_false,hk]
     refine ⟨_,(by first | exact cRSource _ h.b | exact fun _=>cRSource _ h.b),?_⟩
     simp only [go_sem,simprocAttr,decide_true,decide_false,hk]
     refine ⟨vbool false,fun h=>h.elim,?_⟩
     simp only [go_sem,simprocAttr,decide_true,decide_false,hk]
     refine brW (b := !(vSource c.a&&vSource c.b)) ?_ ⟨fun hd=>?_,fun hd=>?_⟩
     ·(try simp only [bne]);cases (vSource c.a)<;>cases (vSource c.b)<;>rfl
     ·unfold awS
      simp only [go_sem,simprocAttr,decide_true,decide_false,hk]
      refine vb_false ?_
      have z:=nt hd;rw [z];rfl
     ·unfold awS
      simp only [go_sem,simprocAttr,decide_true,decide_false,hk]
      refine ⟨_,cShares _,?_⟩
      simp only [go_sem,simprocAttr,decide_true,decide_false,hk]
      refine brW (b := !noShare c) ?_ ⟨fun hs=>?_,fun hs=>?_⟩
      ·exact noShare_ref
      ·unfold awS
       simp only [go_sem,simprocAttr,decide_true,decide_false,hk]
       refine vb_false ?_
       have z:=nf hd;rw [z,kind4 hk]
       rw [nt hs]
       simp
      unfold awS
      simp only [go_sem,simprocAttr,decide_true,decide_false,hk]
      refine brW (b := !(decide (0≤c.param)&&decide (c.param≤255))) ?_ ⟨fun hp=>?_,fun hp=>?_⟩
      ·exact param_ref
      ·unfold awS
       simp only [go_sem,simprocAttr,decide_true,decide_false,hk]
       refine vb_false ?_
       have z:=nf hd;rw [z,kind4 hk]
       have z2:=nt hp
       rw [Bool.and_assoc _ (decide (0≤c.param)),z2]
       simp
      unfold awS
      simp only [go_sem,simprocAttr,decide_true,decide_false,hk]
      have z:=nf hd;rw [z,kind4 hk]
      have z2:=nf hp
      rw [Bool.and_eq_true] at z2;rw [nf hs,z2.1,z2.2]
      simp [emp]
    ·refine ⟨_,(by first | exact cRSource _ h.a | exact fun _=>cRSource _ h.a),?_⟩
     simp only [go_sem,simprocAttr,decide_true,decide_false,hk]
     refine ⟨vbool false,fun h=>h.elim,?_⟩
     simp only [go_sem,simprocAttr,decide_true,decide_false,hk]
     refine ⟨vbool false,fun h=>h.elim,?_⟩
     simp only [go_sem,simprocAttr,decide_true,decide_false,hk]
     refine ⟨_,(by first | exact cBlack c.b | exact fun _=>cBlack c.b),?_⟩
     simp only [go_sem,simprocAttr,decide_true,decide_false,hk]
     refine brW (b := !(vSource c.a&&c.b.isZ)) ?_ ⟨fun hd=>?_,fun hd=>?_⟩
     ·(try simp only [bne]);cases (vSource c.a)<;>cases (c.b.isZ)<;>rfl
     ·unfold awS
      simp only [go_sem,simprocAttr,decide_true,decide_false,hk]
      refine vb_false ?_
      rw [kind5 hk,Bool.eq_false_iff];intro hv;simp only [Bool.and_eq_true] at hv;have z:=nt hd;simp_all
     ·unfold awS
      simp only [go_sem,simprocAttr,decide_true,decide_false,hk]
      refine ⟨_,cShares _,?_⟩
      simp only [go_sem,simprocAttr,decide_true,decide_false,hk]
      refine brW (b := !noShare c) ?_ ⟨fun hs=>?_,fun hs=>?_⟩
      ·exact noShare_ref
      ·unfold awS
       simp only [go_sem,simprocAttr,decide_true,decide_false,hk]
       refine vb_false ?_
       have z:=nf hd;rw [Bool.and_eq_true] at z;rw [z.1,isZ_source z.2,kind5 hk,z.2]
       rw [nt hs]
       simp
      unfold awS
      simp only [go_sem,simprocAttr,decide_true,decide_false,hk]
      refine brW (b := !(c.param==0)) ?_ ⟨fun hp=>?_,fun hp=>?_⟩
      ·exact param_ref0
      ·unfold awS
       simp only [go_sem,simprocAttr,decide_true,decide_false,hk]
       refine vb_false ?_
       have z:=nf hd;rw [Bool.and_eq_true] at z;rw [z.1,isZ_source z.2,kind5 hk,z.2]
       have z2:=nt hp
       rw [z2]
       simp
      unfold awS
      simp only [go_sem,simprocAttr,decide_true,decide_false,hk]
      refine ⟨_,cRLine c.text,?_⟩
      simp only [go_sem,simprocAttr,decide_true,decide_false,hk]
      have z:=nf hd;rw [Bool.and_eq_true] at z;rw [z.1,isZ_source z.2,kind5 hk,z.2]
      have z2:=nf hp
      rw [nf hs,z2]
      simp
open Go.RowKit
set_option maxRecDepth 4000
def totL:List ClipR→Int
 | []=>0
 | c::l=>c.len+totL l
theorem totL_take:∀ (l:List ClipR) (k:Nat),k<l.length→totL (l.take (k+1))=totL (l.take k)+(l.getD k default).len
 | [],k,h=>by simp at h
 | c::l,0,h=>by simp [totL]
 | c::l,k+1,h=>by
  have:=totL_take l k (by simpa using h)
  simp only [List.take_succ_cons,totL,List.getD_cons_succ] at this ⊢
  omega
theorem totL_bound:∀ (l:List ClipR),(∀ c∈l,1≤c.len∧c.len≤2147483647)→(l.length:Int)≤totL l∧totL l≤2147483647*l.length
 | [],_=>by simp [totL]
 | c::l,h=>by
  have h1:=totL_bound l fun d hd=>h d (by simp [hd])
  have h2:=h c (by simp)
  simp only [totL,List.length_cons]
  omega
def vTrack (t:List ClipR):Bool:=decide (t.length≤64)&&t.all vClip&&decide (totL t≤2147483647)
def lenT (t:List ClipR):Int:=if vTrack t=true then totL t else 0
theorem vClip_len {c:ClipR} (h:vClip c=true) : 1≤c.len∧c.len≤2147483647:=by
 obtain ⟨h1,h2,_⟩:=vClip_parts h
 exact ⟨h1,h2⟩
theorem mem_getD {α : Type} {l:List α} {d : α} {k:Nat} (h:k<l.length):l.getD k d∈l:=by
 rw [List.getD_eq_getElem?_getD,List.getElem?_eq_getElem h];exact List.getElem_mem h
theorem take_all {t:List ClipR} {k:Nat} (hk:k≤t.length) (hi:∀ i,i<k→vClip (t.getD i default)=true):∀ c∈t.take k,1≤c.len∧c.len≤2147483647:=by
 intro c hc
 obtain ⟨i,hi2,rfl⟩:=List.mem_iff_getElem.1 hc
 have h1:i<k:=by simp at hi2;omega
 have:=vClip_len (hi i h1)
 rw [getD_of_lt (by omega)] at this
 simpa using this
theorem tot_range {t:List ClipR} {k:Nat} (hk:k≤t.length) (h64:t.length≤64) (hi:∀ i,i<k→vClip (t.getD i default)=true) : 0≤totL (t.take k)∧totL (t.take k)≤137438953408:=by
 have h1:=totL_bound _ (take_all hk hi)
 have:(t.take k).length=k:=by simp;omega
 omega
theorem cPTrack (t:List ClipR) (hfit:∀ c∈t,c.fit):CPure Tryz.prog 102 [.t (tclips t)] (vbool (vTrack t)):=by
 refine cpure_of Tryz.xen102 Tryz.func102 rfl Tryz.ntmps102 (by rw [Tryz.results102]) (aw_ok _ ?_)
 simp only [go_sem,simprocAttr]
 refine ⟨fun h=>?_,fun h=>?_⟩
 ·simp only [bxx] at h
  unfold awS
  simp only [go_sem,simprocAttr]
  unfold vTrack
  rw [decide_eq_false (by omega : ¬ t.length≤64)]
  rfl
 ·simp only [bxx] at h
  unfold awS
  simp only [go_sem,simprocAttr]
  refine awp_loop_f (fun (k:Nat) σ => setS 3 (vint (totL (t.take k))) (setS 11 (vint k) (deadS [6,7,8] σ))) (fun k=>k≤t.length ∧ ∀ i,i<k→vClip (t.getD i default)=true) (fun k=>t.length - k) 0 (weak_self ?_) ⟨Nat.zero_le _,by omega⟩ ?_
  ·simp only [go_sem,simprocAttr]<;>simp [totL]
  ·rintro k ⟨hk,hi⟩
   have hr:=tot_range hk (by omega) hi
   refine aw_ok _ ?_
   simp only [go_sem,simprocAttr]
   refine ⟨fun hlt=>?_,fun hge=>?_⟩
   ·simp only [bxx] at hlt
    have hkl:k<t.length:=by omega
    unfold awS
    simp only [go_sem,simprocAttr]
    refine ⟨⟨by omega,by omega⟩,_,cPClip _ (hfit _ (mem_getD hkl)),?_⟩
    simp only [go_sem,simprocAttr]
    refine brW (b := !vClip (t.getD k default)) ?_ ⟨fun hb=>?_,fun hb=>?_⟩
    ·rfl
    ·unfold awS
     simp only [go_sem,simprocAttr]
     unfold vTrack
     rw [all_hit (d:=default) (p:=vClip) (k:=k) hkl (nt hb),Bool.and_false]
     rfl
    ·have hl:=vClip_len (nf hb)
     unfold awS
     simp only [go_sem,simprocAttr]
     refine ⟨k+1,weak_self ?_,⟨by omega,upto hi (nf hb)⟩,by omega⟩
     simp only [go_sem,simprocAttr]
     rw [wrap64 (x:=totL (t.take k)+(t.getD k default).len) (by omega) (by omega),totL_take t k hkl]
     simp [wrap1 (show k<9223372036854775807 by omega)]
   ·simp only [bxx] at hge
    unfold awS
    simp only [go_sem,simprocAttr]
    unfold vTrack
    rw [all_done (d:=default) (p:=vClip) (fun i h2=>hi i (by omega)),decide_eq_true (by omega:t.length≤64),List.take_of_length_le (by omega)]
    rfl
theorem cRTrack (t:List ClipR) (hfit:∀ c∈t,c.fit):CPure Tryz.prog 162 [.t (tclips t)] (vbool (vTrack t)):=by
 refine cpure_of Tryz.xen162 Tryz.func162 rfl Tryz.ntmps162 (by rw [Tryz.results162]) (aw_ok _ ?_)
 simp only [go_sem,simprocAttr]
 refine ⟨fun h=>?_,fun h=>?_⟩
 ·simp only [bxx] at h
  unfold awS
  simp only [go_sem,simprocAttr]
  unfold vTrack
  rw [decide_eq_false (by omega : ¬ t.length≤64)]
  rfl
 ·simp only [bxx] at h
  unfold awS
  simp only [go_sem,simprocAttr]
  refine awp_loop_f (fun (k:Nat) σ => setS 3 (vint (totL (t.take k))) (setS 4 (vint k) (deadS [5,6,7] σ))) (fun k=>k≤t.length ∧ ∀ i,i<k→vClip (t.getD i default)=true) (fun k=>t.length - k) 0 (weak_self ?_) ⟨Nat.zero_le _,by omega⟩ ?_
  ·simp only [go_sem,simprocAttr]<;>simp [totL]
  ·rintro k ⟨hk,hi⟩
   have hr:=tot_range hk (by omega) hi
   refine aw_ok _ ?_
   simp only [go_sem,simprocAttr]
   refine ⟨fun hlt=>?_,fun hge=>?_⟩
   ·simp only [bxx] at hlt
    have hkl:k<t.length:=by omega
    unfold awS
    simp only [go_sem,simprocAttr]
    refine ⟨⟨by omega,by omega⟩,_,cRClip _ (hfit _ (mem_getD hkl)),?_⟩
    simp only [go_sem,simprocAttr]
    refine brW (b := !vClip (t.getD k default)) ?_ ⟨fun hb=>?_,fun hb=>?_⟩
    ·rfl
    ·unfold awS
     simp only [go_sem,simprocAttr]
     unfold vTrack
     rw [all_hit (d:=default) (p:=vClip) (k:=k) hkl (nt hb),Bool.and_false]
     rfl
    ·have hl:=vClip_len (nf hb)
     unfold awS
     simp only [go_sem,simprocAttr]
     refine ⟨⟨by omega,by omega⟩,k+1,weak_self ?_,⟨by omega,upto hi (nf hb)⟩,by omega⟩
     simp only [go_sem,simprocAttr]
     rw [wrap64 (x:=totL (t.take k)+(t.getD k default).len) (by omega) (by omega),totL_take t k hkl]
     simp [wrap1 (show k<9223372036854775807 by omega)]
   ·simp only [bxx] at hge
    unfold awS
    simp only [go_sem,simprocAttr]
    unfold vTrack
    rw [all_done (d:=default) (p:=vClip) (fun i h2=>hi i (by omega)),decide_eq_true (by omega:t.length≤64),List.take_of_length_le (by omega)]
    rfl
theorem track_all {t:List ClipR} (h:vTrack t=true):t.length≤64∧(∀ c∈t,vClip c=true)∧totL t≤2147483647:=by
 unfold vTrack at h
 simp only [Bool.and_eq_true,decide_eq_true_eq,List.all_eq_true] at h
 exact ⟨h.1.1,h.1.2,h.2⟩
theorem at_all {t:List ClipR} (h:∀ c∈t,vClip c=true) (k:Nat):∀ i,i<k→k≤t.length→vClip (t.getD i default)=true:=fun i hi hk=>h _ (mem_getD (by omega))
theorem cPTotal (t:List ClipR) (h64:t.length≤64) (hv:∀ c∈t,vClip c=true):CPure Tryz.prog 103 [.t (tclips t)] (vint (totL t)):=by
 refine cpure_of Tryz.xen103 Tryz.func103 rfl Tryz.ntmps103 (by rw [Tryz.results103]) (aw_ok _ ?_)
 simp only [go_sem,simprocAttr]
 refine awp_loop_f (fun (k:Nat) σ => setS 3 (vint (totL (t.take k))) (setS 8 (vint k) σ)) (fun k=>k≤t.length) (fun k=>t.length - k) 0 (weak_self ?_) (Nat.zero_le _) ?_
 ·simp only [go_sem,simprocAttr]<;>simp [totL]
 ·rintro k hk
  have hr:=tot_range hk h64 fun i hi=>at_all hv k i hi hk
  refine aw_ok _ ?_
  simp only [go_sem,simprocAttr]
  refine ⟨fun hlt=>?_,fun hge=>?_⟩
  ·simp only [bxx] at hlt
   have hkl:k<t.length:=by omega
   have hl:=vClip_len (hv _ (mem_getD (d:=default) hkl))
   unfold awS
   simp only [go_sem,simprocAttr]
   refine ⟨⟨by omega,by omega⟩,k+1,weak_self ?_,by omega,by omega⟩
   simp only [go_sem,simprocAttr]
   rw [wrap64 (x:=totL (t.take k)+(t.getD k default).len) (by omega) (by omega),totL_take t k hkl]
   simp [wrap1 (show k<9223372036854775807 by omega)]
  ·simp only [bxx] at hge
   unfold awS
   simp only [go_sem,simprocAttr]
   rw [List.take_of_length_le (by omega)]
theorem cPLength (t:List ClipR) (hfit:∀ c∈t,c.fit):CPure Tryz.prog 42 [.t (tclips t)] (vint (lenT t)):=by
 refine cpure_of Tryz.xen42 Tryz.func42 rfl Tryz.ntmps42 (by rw [Tryz.results42]) (aw_ok _ ?_)
 simp only [go_sem,simprocAttr]
 refine ⟨_,cPTrack t hfit,?_⟩
 simp only [go_sem,simprocAttr]
 refine brW (b := !vTrack t) ?_ ⟨fun hb=>?_,fun hb=>?_⟩
 ·rfl
 ·unfold awS
  simp only [go_sem,simprocAttr]
  unfold lenT
  rw [nt hb]
  rfl
 ·unfold awS
  simp only [go_sem,simprocAttr]
  obtain ⟨h1,h2,h3⟩:=track_all (nf hb)
  refine ⟨_,cPTotal t h1 h2,?_⟩
  simp only [go_sem,simprocAttr]
  unfold lenT
  rw [if_pos (nf hb)]
end Go.Proofs.YtmbmmijdmdoalaaGreat
