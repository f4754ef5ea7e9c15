/- Proved here: Black clips and the made project whose tracks are lent, for use in the proofs of the given statements; conditions stand in each theorem. -/
import Derived.Test.YtjmoncjecpckhaaGreatVK
import Derived.Test.YtjmoncjecpckhaaGreatVL
import Derived.Test.YtjmoncjecpckhaaGreatVX
set_option linter.unusedSimpArgs false
set_option linter.unusedVariables false
set_option linter.unusedSectionVars false
set_option linter.unnecessarySimpa false
namespace Go.Proofs.YtjmoncjecpckhaaGreat
open Go.RowKit
set_option maxRecDepth 4000
theorem cSourceB (R A Q:MapT) {s:SourceR} (hk:s.kind=0) (k:Rat):CPure Tryz.prog 97 [vmix R A Q,vsource s,vrat (ofQ k)] (vtone 0 0 0 0 0):=by
 refine cpure_of Tryz.xen97 Tryz.func97 rfl Tryz.ntmps97 (by rw [Tryz.results97]) (aw_ok _ ?_)
 simp only [go_sem,simprocAttr,decide_true,decide_false,hk]
theorem tchan_zero (x:Int):tchan 0 0 0 0 0 x=0:=by
 unfold tchan
 rw [if_pos (by omega)]
theorem clipT_black {R A Q:MapT} {E:SndE} {m:Nat} (hm:m≤4) (len:Int) (hl:len≤63):ClipT R A Q E m (blackC len 4096 (([0,1,2,3]:List Int).take m)):=by
 refine ⟨hl,fun k k0 k1 kd=>?_⟩
 have src:=cSourceB R A Q (s:=zSource) rfl k
 have hz:∀ x, -65536≤tchan 0 0 0 0 0 x∧tchan 0 0 0 0 0 x≤65536:=fun x=>by rw [tchan_zero];decide
 have hv:∀ i,chV E m (blackC len 4096 (([0,1,2,3]:List Int).take m)) k i=0:=fun i=>by
  unfold chV
  rw [clip_black,gain_of_zero]
  split<;>rfl
 refine ⟨fun i=>by rw [hv];decide,fun s0 s1 s2 s3 h0 h1 h2 h3=>?_⟩
 simp only [hv,Int.add_zero]
 have hm2:m=0∨m=1∨m=2∨m=3∨m=4:=by omega
 rcases hm2 with rfl | rfl | rfl | rfl | rfl
 ·have:=cAddC0 R A Q (blackC len 4096 []) rfl rfl k 0 0 0 0 0 (by decide) src hz (show (0:Int)≤4096∧(4096:Int)≤65536 by decide) s0 s1 s2 s3 h0 h1 h2 h3
  exact this
 ·have:=cAddC1 R A Q (blackC len 4096 [0]) rfl 0 rfl k 0 0 0 0 0 (by decide) src hz (show (0:Int)≤4096∧(4096:Int)≤65536 by decide) s0 s1 s2 s3 h0 h1 h2 h3
  simp only [tchan_zero,gain_of_zero,Int.add_zero] at this
  exact this
 ·have:=cAddC2 R A Q (blackC len 4096 [0,1]) rfl 0 1 rfl k 0 0 0 0 0 (by decide) src hz (show (0:Int)≤4096∧(4096:Int)≤65536 by decide) s0 s1 s2 s3 h0 h1 h2 h3
  simp only [tchan_zero,gain_of_zero,Int.add_zero] at this
  exact this
 ·have:=cAddC3 R A Q (blackC len 4096 [0,1,2]) rfl 0 1 2 rfl k 0 0 0 0 0 (by decide) src hz (show (0:Int)≤4096∧(4096:Int)≤65536 by decide) s0 s1 s2 s3 h0 h1 h2 h3
  simp only [tchan_zero,gain_of_zero,Int.add_zero] at this
  exact this
 ·have:=cAddC4 R A Q (blackC len 4096 [0,1,2,3]) rfl 0 1 2 3 rfl k 0 0 0 0 0 (by decide) src hz (show (0:Int)≤4096∧(4096:Int)≤65536 by decide) s0 s1 s2 s3 h0 h1 h2 h3
  simp only [tchan_zero,gain_of_zero,Int.add_zero] at this
  exact this
abbrev blkT (m:Nat):List ClipR:=[gapC 3,blackC 4 4096 (([0,1,2,3]:List Int).take m)]
theorem blk_all:((List.range 5).all fun m=>vTrack (blkT m)&&(blkT m).all (audB m))=true:=by kernel_rfl
theorem blk_trk {m:Nat} (hm:m≤4):TrkQ m (blkT m):=by
 have h:=List.all_eq_true.1 blk_all m (List.mem_range.2 (by omega))
 simp only [Bool.and_eq_true] at h
 have i0:I64 0:=⟨by decide,by decide⟩
 have i1:I64 1:=⟨by decide,by decide⟩
 have r0:(⟨0,0⟩:RatR).fit:=⟨i0,i0⟩
 refine ⟨h.1,fun c hc=>?_⟩
 have ha:=List.all_eq_true.1 h.2 c hc
 simp only [List.mem_cons,List.not_mem_nil,or_false] at hc
 rcases hc with rfl | rfl
 ·refine ⟨⟨i64s ⟨show (-1000000:Int)≤3 by decide,show (3:Int)≤1000000 by decide⟩,i0,⟨i0,r0,r0⟩,⟨i0,r0,r0⟩,i0,i0,i0,i0⟩,ha,fun x hx=>?_⟩
  rcases hx with rfl | rfl
  ·exact ⟨(by decide:(0:Int)≠2),fun h=>absurd h (by decide : ¬ (0:Int)=1)⟩
  ·exact ⟨(by decide:(0:Int)≠2),fun h=>absurd h (by decide : ¬ (0:Int)=1)⟩
 ·refine ⟨⟨i64s ⟨show (-1000000:Int)≤4 by decide,show (4:Int)≤1000000 by decide⟩,i1,⟨i0,r0,r0⟩,⟨i0,r0,r0⟩,i0,i0,i0,i64s ⟨show (-1000000:Int)≤4096 by decide,show (4096:Int)≤1000000 by decide⟩⟩,ha,fun x hx=>?_⟩
  rcases hx with rfl | rfl
  ·exact ⟨(by decide:(0:Int)≠2),fun h=>absurd h (by decide : ¬ (0:Int)=1)⟩
  ·exact ⟨(by decide:(0:Int)≠2),fun h=>absurd h (by decide : ¬ (0:Int)=1)⟩
theorem audS_nil:AudS []:=⟨by simp,by simp,fun a ha=>(by cases ha)⟩
theorem out_black {E:SndE} {m:Nat} (hm:m≤4) (r:RatR) (s:Int) (c:Nat):outV E m [blkT m] r s c=0:=by
 have hv:vClip (blackC 4 4096 (([0,1,2,3]:List Int).take m))=true:=by
  have:=(blk_trk hm).ok
  unfold vTrack at this
  simp only [Bool.and_eq_true,List.all_cons] at this
  grind
 unfold outV
 split
 ·exact snd_black (by decide) (by decide) hv r s c
 ·rfl
theorem sndL_zero {f:Nat→Int} (h:∀ i,f i=0) (n:Nat):sndL f n=List.replicate n 0:=by
 unfold sndL
 refine List.ext_getElem (by simp) fun i h1 h2=>?_
 simp [h]
theorem cSilent {m:Nat} (hm:m≤4) (s:Int) (h0 : -2147483648≤s) (h1:s≤2147483647):CPure Tryz.prog 17 [vproj (prjG ⟨25,1⟩ ⟨25,1⟩ ⟨25,1⟩ m [blkT m]),vstr nmS,vint s,vint (9:Nat), .t (taudios [])] (.tup [.t (tchs (List.replicate m (List.replicate 9 0))),vint 0]):=by
 have ok:=soundOk_prj (ra:=⟨25,1⟩) (rb:=⟨25,1⟩) (r:=⟨25,1⟩) (m:=m) (ts:=[blkT m]) (A:=[]) (from0:=s) (n:=9) rateS25 rateS25 rateS25 hm (by simp) (fun t ht=>by
  simp only [List.mem_cons,List.not_mem_nil,or_false] at ht
  subst ht
  exact blk_trk hm) audS_nil (by decide) (by omega) (by omega) (fun t ht x hx hk=>by
  simp only [List.mem_cons,List.not_mem_nil,or_false] at ht
  subst ht
  simp only [List.mem_cons,List.not_mem_nil,or_false] at hx
  rcases hx with rfl | rfl
  ·exact absurd rfl hk
  ·exact clipT_black hm 4 (by decide))
 have z:∀ c:Nat,sndL (fun i:Nat=>outV (prjE ⟨25,1⟩ ⟨25,1⟩ []) m (prjQ ⟨25,1⟩ m [blkT m]).sound (prjQ ⟨25,1⟩ m [blkT m]).rate (s+i) c) 9=List.replicate 9 0:=fun c=>sndL_zero (fun i=>out_black hm _ _ c) 9
 have hm2:m=0∨m=1∨m=2∨m=3∨m=4:=by omega
 rcases hm2 with rfl | rfl | rfl | rfl | rfl
 ·exact cSound0 ok
 ·have h:=cSound1 ok
  rw [z 0] at h
  exact h
 ·have h:=cSound2 ok
  rw [z 0,z 1] at h
  exact h
 ·have h:=cSound3 ok
  rw [z 0,z 1,z 2] at h
  exact h
 ·have h:=cSound4 ok
  rw [z 0,z 1,z 2,z 3] at h
  exact h
open Go.RowKit
set_option maxRecDepth 4000
abbrev rawQv (r:RatR) (t:V):List V:=[.t (tstr nmS), .t (ti r.num), .t (ti r.den), .t (ti 16), .t (ti 16), .t (.lit (.slice none 0 0)),t, .t (.lit (.slice none 0 0)), .t (ti 1)]
theorem cProjS (r:RatR) (zc:List T) (L:List (List T)):CIO Tryz.prog 18 2 [(0, .row 45 1 [.lit (.slice none 0 0)] [[.own 1]]),(1, .row 42 22 zc (tRows L))] [vrat r, .own 0] (.agg [.t (rawMs r), .own 2]) ((2, .row 70 9 zSeqT [rawQv r (.own 0)]) :: [(0, .row 45 1 [.lit (.slice none 0 0)] [[.own 1]]),(1, .row 42 22 zc (tRows L))]) 3:=by
 refine cio_of Tryz.xen18 Tryz.func18 rfl Tryz.ntmps18 (by rw [Tryz.results18]) (aw_ok _ ?_)
 have ww1:IntKind.i64.wrap 1=1:=by decide
 have ww2:IntKind.i64.wrap 2=2:=by decide
 have w01:IntKind.i64.wrap (0+1)=1:=by decide
 have w11:IntKind.i64.wrap (1+1)=2:=by decide
 simp only [go_sem,simprocAttr,decide_true,decide_false]
 refine awp_loopL ?_
 refine awpL_step (aw_ok _ ?_)
 simp only [go_sem,simprocAttr,decide_true,decide_false,↓fillA,↓fillB2,ww1,ww2,w01,w11]
 refine ⟨by decide,?_⟩
 refine awpL_step (aw_ok _ ?_)
 simp only [go_sem,simprocAttr,decide_true,decide_false,↓fillA,↓fillB2,ww1,ww2,w01,w11]
 refine ⟨by decide,?_⟩
 refine awpL_step (aw_ok _ ?_)
 simp only [go_sem,simprocAttr,decide_true,decide_false,↓fillA,↓fillB2,ww1,ww2,w01,w11]
 trace_state
 refine weak_of [(2,some 10),(0,some 0),(1,some 1)] ?_
 simp only [go_sem,simprocAttr,decide_true,decide_false]
 exact ⟨⟨by simp,rfl,by simp,by simp⟩,rfl,by simp⟩
end Go.Proofs.YtjmoncjecpckhaaGreat
