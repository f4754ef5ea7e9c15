/- Proved here: The sounds that the statements make of a tape, as a row of one's own, for use in the proofs of the given statements; conditions stand in each theorem. -/
import Derived.Test.YtkjdkbmfaamhaaaGreatVG
import Derived.Test.YtkjdkbmfaamhaaaGreatZG
import Derived.Test.YtkjdkbmfaamhaaaGreatVW
import Derived.Test.YtkjdkbmfaamhaaaGreatVI
set_option linter.unusedSimpArgs false
set_option linter.unusedVariables false
set_option linter.unusedSectionVars false
set_option linter.unnecessarySimpa false
namespace Go.Proofs.YtkjdkbmfaamhaaaGreat
open Go.RowKit
set_option maxRecDepth 4000
set_option maxHeartbeats 4000000 in
theorem cSoundsIO (L:List Int) (n:Nat) (hn:n≤10000):CIO Tryz.prog 8 0 [] [.t (tints L),vint n] (.own 0) [(0, .row 35 2 [.lit (.string ⟨#[]⟩), .lit (.slice none 0 0)] (tRows ((soundsA L n).map AudioR.c)))] 1:=by
 have ww1:IntKind.i64.wrap 1=1:=by decide
 have ww2:IntKind.i64.wrap 2=2:=by decide
 have w01:IntKind.i64.wrap (0+1)=1:=by decide
 have w11:IntKind.i64.wrap (1+1)=2:=by decide
 have nvA:∀ (d:List T) (x:List V) (l:List (List V)),nthV d (x::l) 0=x:=fun _ _ _=>rfl
 have nvB:∀ (d:List T) (x y:List V) (l:List (List V)),nthV d (x::y::l) 1=y:=fun _ _ _ _=>rfl
 refine cio_of Tryz.xen8 Tryz.func8 rfl Tryz.ntmps8 (by rw [Tryz.results8]) (aw_ok _ ?_)
 simp only [go_sem,simprocAttr,decide_true,decide_false]
 refine awp_loopL ?_
 refine awpL_step (aw_ok _ ?_)
 simp only [go_sem,simprocAttr,decide_true,decide_false,ww1,ww2,w01,w11]
 refine drawC_of 9 .done rfl (by kernel_rfl) (by kernel_rfl) (by decide) ?_
 simp only [go_sem,simprocAttr,decide_true,decide_false,ww1,ww2,w01,w11]
 refine ⟨⟨by omega,by unfold maxLen;omega,by omega⟩,⟨by omega,by unfold maxLen;omega,by omega⟩,by kernel_rfl,?_⟩
 refine icall_box (cNext L 0 9000 (by omega) (by omega) (by omega)) rfl rfl rfl ?_
 have p0:=tapeN_lt (L:=L) (k:=0) (n:=9000) (by omega)
 have q0:=tapeN_lt (L:=L) (k:=1) (n:=700) (by omega)
 simp only [go_sem,simprocAttr,decide_true,decide_false]
 refine icall_box (cNext L 1 700 (by omega) (by omega) (by omega)) rfl rfl rfl ?_
 simp only [go_sem,simprocAttr,decide_true,decide_false,wrap64 (x:=1+tapeN L 1 700) (by omega) (by omega)]
 refine awp_loop_f (fun (i:Nat) σ => setB 4 (.row 76 1 (c16 0) (tRows ((fillP (sndP L 0) n i).map c16))) (setB 6 (.row 76 1 (c16 0) (tRows ((fillP (sndQ L 0) n i).map c16))) (setS 12 (vint i) (deadS [34,35,36,37,38,39,40,41,42,43,44,45,46,47,48,49,50,51,52,53,54,55,56,57,58,59,60,61,62,63,64,65,66,67,68,69,70,71,72,73,74] (cleanS σ))))) (fun i=>i≤n) (fun i=>n - i) 0 (weak_self ?_) (Nat.zero_le _) ?_
 ·simp only [go_sem,simprocAttr]
  refine ⟨by simp,by simp,by simp,(fillP_zero _ n).symm,by simp,(fillP_zero _ n).symm,by simp⟩
 ·intro i hi
  refine aw_ok _ ?_
  simp only [go_sem,simprocAttr]
  refine ⟨fun hlt=>?_,fun hge=>?_⟩
  ·simp only [bxx] at hlt
   have hil:i<n:=by omega
   have hwi:IntKind.i64.wrap ((i:Int)+1)=((i+1:Nat):Int):=by rw [wrap1 (by omega)];omega
   unfold awS
   simp only [go_sem,simprocAttr,decide_true,decide_false,nvA,nvB]
   refine ⟨⟨by omega,by rw [fillP_len];omega⟩,by rw [fillP_len];omega,⟨by omega,by rw [fillP_len];omega⟩,by rw [fillP_len];omega,i+1,weak_self ?_,by omega,by omega⟩
   simp only [go_sem,simprocAttr,decide_true,decide_false,hwi]
   refine ⟨by simp,by simp,by simp,?_,by simp,?_,by simp,by simp⟩
   ·rw [sndQ_val L 0 1 rfl i (by omega)]
    exact fillP_set _ hil
   ·rw [sndP_val L 0 1 rfl i (by omega)]
    exact fillP_set _ hil
  ·simp only [bxx] at hge
   have:n=i:=by omega
   subst this
   unfold awS
   simp only [go_sem,simprocAttr,decide_true,decide_false,ww1,ww2,w01,w11]
   refine ⟨by decide,?_⟩
   refine awpL_step (aw_ok _ ?_)
   simp only [go_sem,simprocAttr,decide_true,decide_false,ww1,ww2,w01,w11]
   refine drawC_of 9 .done rfl (by kernel_rfl) (by kernel_rfl) (by decide) ?_
   simp only [go_sem,simprocAttr,decide_true,decide_false,ww1,ww2,w01,w11]
   refine ⟨⟨by omega,by unfold maxLen;omega,by omega⟩,⟨by omega,by unfold maxLen;omega,by omega⟩,by kernel_rfl,?_⟩
   refine icall_box (cNext L 2 9000 (by omega) (by omega) (by omega)) rfl rfl rfl ?_
   have p2:=tapeN_lt (L:=L) (k:=2) (n:=9000) (by omega)
   have q2:=tapeN_lt (L:=L) (k:=3) (n:=700) (by omega)
   simp only [go_sem,simprocAttr,decide_true,decide_false]
   refine icall_box (cNext L 3 700 (by omega) (by omega) (by omega)) rfl rfl rfl ?_
   simp only [go_sem,simprocAttr,decide_true,decide_false,wrap64 (x:=1+tapeN L 3 700) (by omega) (by omega)]
   refine awp_loop_f (fun (i:Nat) σ => setB 15 (.row 76 1 (c16 0) (tRows ((fillP (sndP L 2) n i).map c16))) (setB 17 (.row 76 1 (c16 0) (tRows ((fillP (sndQ L 2) n i).map c16))) (setS 12 (vint i) (deadS [34,35,36,37,38,39,40,41,42,43,44,45,46,47,48,49,50,51,52,53,54,55,56,57,58,59,60,61,62,63,64,65,66,67,68,69,70,71,72,73,74] (cleanS σ))))) (fun i=>i≤n) (fun i=>n - i) 0 (weak_self ?_) (Nat.zero_le _) ?_
   ·simp only [go_sem,simprocAttr]
    refine ⟨by simp,by simp,by simp,(fillP_zero _ n).symm,by simp,(fillP_zero _ n).symm,?_⟩
    simp
   ·intro i hi
    refine aw_ok _ ?_
    simp only [go_sem,simprocAttr]
    refine ⟨fun hlt=>?_,fun hge=>?_⟩
    ·simp only [bxx] at hlt
     have hil:i<n:=by omega
     have hwi:IntKind.i64.wrap ((i:Int)+1)=((i+1:Nat):Int):=by rw [wrap1 (by omega)];omega
     unfold awS
     simp only [go_sem,simprocAttr,decide_true,decide_false,nvA,nvB]
     refine ⟨⟨by omega,by rw [fillP_len];omega⟩,by rw [fillP_len];omega,⟨by omega,by rw [fillP_len];omega⟩,by rw [fillP_len];omega,i+1,weak_self ?_,by omega,by omega⟩
     simp only [go_sem,simprocAttr,decide_true,decide_false,hwi]
     refine ⟨by simp,by simp,by simp,?_,by simp,?_,?_⟩
     ·rw [sndQ_val L 2 3 rfl i (by omega)]
      exact fillP_set _ hil
     ·rw [sndP_val L 2 3 rfl i (by omega)]
      exact fillP_set _ hil
     ·simp
    ·simp only [bxx] at hge
     have:n=i:=by omega
     subst this
     unfold awS
     simp only [go_sem,simprocAttr,decide_true,decide_false,ww1,ww2,w01,w11]
     refine ⟨by decide,?_⟩
     refine awpL_step (aw_ok _ ?_)
     simp only [go_sem,simprocAttr,decide_true,decide_false,ww1,ww2,w01,w11]
     refine weak_of [(0,some 23)] ?_
     simp only [go_sem,simprocAttr,decide_true,decide_false]
     refine ⟨by simp,?_,by simp,by simp,by simp,by simp,by simp,by simp⟩
     simp only [fillP_full]
     rfl
open Go.RowKit
set_option maxRecDepth 4000
theorem sndL_split (g:Int→Int) (f0:Int) {k m:Nat} (h:k≤m):sndL (fun i:Nat=>g (f0+i)) m=sndL (fun i:Nat=>g (f0+i)) k++sndL (fun i:Nat=>g (f0+k+i)) (m - k):=by
 obtain ⟨j,rfl⟩:∃ j,m=k+j:=⟨m - k,by omega⟩
 unfold sndL
 rw [List.range_add,List.map_append,List.map_map,Nat.add_sub_cancel_left]
 congr 1
 refine List.map_congr_left fun i _=>?_
 simp only [Function.comp]
 congr 1
 push_cast
 omega
theorem smpT_len (E:SndE) (y:SequenceR) (f0:Int) (n:Nat):(smpT E y f0 n).length=y.channels.toNat:=by unfold smpT;rw [List.length_map,List.length_range]
theorem smpT_at (E:SndE) (y:SequenceR) (f0:Int) (n:Nat) {c:Nat} (h:c<y.channels.toNat):(smpT E y f0 n).getD c []=sndL (fun i=>outV E y.channels.toNat y.sound y.rate (f0+i) c) n:=by
 unfold smpT
 rw [List.getD_eq_getElem?_getD,List.getElem?_map,List.getElem?_range h]
 rfl
theorem smpT_split (E:SndE) (y:SequenceR) (f0:Int) {k m:Nat} (h:k≤m) {c:Nat} (hc:c<y.channels.toNat):(smpT E y f0 m).getD c []=(smpT E y f0 k).getD c []++(smpT E y (f0+k) (m - k)).getD c []:=by
 rw [smpT_at _ _ _ _ hc,smpT_at _ _ _ _ hc,smpT_at _ _ _ _ hc]
 exact sndL_split (fun s=>outV E y.channels.toNat y.sound y.rate s c) f0 h
theorem smpT_clen (E:SndE) (y:SequenceR) (f0:Int) (n:Nat) {c:Nat} (hc:c<y.channels.toNat):((smpT E y f0 n).getD c []).length=n:=by
 rw [smpT_at _ _ _ _ hc]
 unfold sndL
 simp
def audT (L:List Int):List AudioR:=[⟨nameB ⟨#[109]⟩ (0:Nat),[sndL (sndP L 0) 6000,sndL (sndQ L 0) 6000]⟩,⟨nameB ⟨#[109]⟩ (1:Nat),[sndL (sndP L 2) 6000,sndL (sndQ L 2) 6000]⟩,⟨nameB ⟨#[109]⟩ (2:Nat),[sndL (sndP L 0) 6000,sndL (sndQ L 0) 6000]⟩]
theorem audT_three (L:List Int):ThreeA (audT L) (sndL (sndP L 0) 6000) (sndL (sndQ L 0) 6000) (sndL (sndP L 2) 6000) (sndL (sndQ L 2) 6000):=by
 have l:∀ f,(sndL f 6000).length=6000:=fun f=>by unfold sndL;simp
 exact ⟨rfl,sndL_i16 fun i=>snd_mod _,sndL_i16 fun i=>snd_mod _,sndL_i16 fun i=>snd_mod _,sndL_i16 fun i=>snd_mod _,by rw [l,l],by rw [l,l],by rw [l,l],by rw [l];decide⟩
set_option maxHeartbeats 4000000 in
theorem pieces5 (L:List Int) (f n a:Int) (hf : 0≤f∧f≤65535) (hn : 0≤n∧n≤255) (ha : 0≤a∧a≤255):CPure Tryz.prog 5 [.t (tints L), .t (.lit (.int .u16 f)), .t (.lit (.int .u8 n)), .t (.lit (.int .u8 a))] (vbool true):=by
 obtain ⟨y,y2,hS⟩:=cSoundT0 L (audT_three L)
 have cs:=cSoundsIO L 6000 (by decide)
 obtain ⟨c1,hc1⟩:∃ c1,c1=tchs [sndL (sndP L 0) 6000,sndL (sndQ L 0) 6000]:=⟨_,rfl⟩
 obtain ⟨c2,hc2⟩:∃ c2,c2=tchs [sndL (sndP L 2) 6000,sndL (sndQ L 2) 6000]:=⟨_,rfl⟩
 have hT:tRows ((soundsA L 6000).map AudioR.c) = [[vstr ⟨#[97]⟩, .t c1],[vstr ⟨#[98]⟩, .t c2]]:=by rw [hc1,hc2];rfl
 rw [hT] at cs
 have hA:taudios (audT L) = .list 2 [.lit (.string ⟨#[]⟩), .lit (.slice none 0 0)] [[tstr ⟨#[109,48]⟩,c1],[tstr ⟨#[109,49]⟩,c2],[tstr ⟨#[109,50]⟩,c1]]:=by
  have e0:nameB ⟨#[109]⟩ ((0:Nat):Int)=⟨#[109,48]⟩:=by kernel_rfl
  have e1:nameB ⟨#[109]⟩ ((1:Nat):Int)=⟨#[109,49]⟩:=by kernel_rfl
  have e2:nameB ⟨#[109]⟩ ((2:Nat):Int)=⟨#[109,50]⟩:=by kernel_rfl
  unfold audT
  rw [hc1,hc2,e0,e1,e2]
  rfl
 rw [hA] at hS
 generalize mdE (projT L).media (sndL (sndP L 0) 6000) (sndL (sndQ L 0) 6000) (sndL (sndP L 2) 6000) (sndL (sndQ L 2) 6000)=E at hS
 have r0:setRow [[vstr ⟨#[97]⟩,V.t c1],[vstr ⟨#[98]⟩,V.t c2]] 0 (vstr ⟨#[109,48]⟩::List.drop 1 (nthV [.lit (.string ⟨#[]⟩), .lit (.slice none 0 0)] [[vstr ⟨#[97]⟩,V.t c1],[vstr ⟨#[98]⟩,V.t c2]] 0)) = [[vstr ⟨#[109,48]⟩,V.t c1],[vstr ⟨#[98]⟩,V.t c2]]:=rfl
 have r1:setRow [[vstr ⟨#[109,48]⟩,V.t c1],[vstr ⟨#[98]⟩,V.t c2]] 1 (vstr ⟨#[109,49]⟩::List.drop 1 (nthV [.lit (.string ⟨#[]⟩), .lit (.slice none 0 0)] [[vstr ⟨#[109,48]⟩,V.t c1],[vstr ⟨#[98]⟩,V.t c2]] 1)) = [[vstr ⟨#[109,48]⟩,V.t c1],[vstr ⟨#[109,49]⟩,V.t c2]]:=rfl
 refine cpure_of Tryz.xen5 Tryz.func5 rfl Tryz.ntmps5 (by rw [Tryz.results5]) ?_
 refine awp_seq (aw_ok _ ?_)
 simp only [go_sem,simprocAttr,decide_true,decide_false]
 refine awp_seq (aw_ok _ ?_)
 simp only [go_sem,simprocAttr,decide_true,decide_false]
 refine ⟨_,cProject L,?_⟩
 simp only [go_sem,simprocAttr,decide_true,decide_false]
 refine awp_seq (awp_region_part 1 ?_)
 simp only [go_sem,simprocAttr,decide_true,decide_false,List.take_succ_cons,List.take_zero,List.drop_succ_cons,List.drop_zero,List.take,List.drop]
 refine semS_io rfl rfl ?_
 simp only [go_sem,simprocAttr,decide_true,decide_false]
 refine icall_io cs [] rfl (by omega) (by decide) ?_ rfl rfl rfl rfl ?_
 ·simp only [go_sem,simprocAttr,decide_true,decide_false]
 simp only [go_sem,simprocAttr,decide_true,decide_false,List.getElem?_nil]
 refine semS_steps ?_
 simp only [go_sem,simprocAttr,decide_true,decide_false]
 refine awp_seq (aw_ok _ ?_)
 simp only [go_sem,simprocAttr,decide_true,decide_false,r0,r1]
 refine awp_seq (aw_ok _ ?_)
 simp only [go_sem,simprocAttr,decide_true,decide_false,nthV_0]
 refine ⟨by decide,?_⟩
 have m0:=tmod_abs n (n:=24) (by decide)
 have m1:=Int.tmod_nonneg 24 hn.1
 obtain ⟨m,hm⟩:=nat_of m1
 have k0:=tmod_abs a (n:=(m:Int)+1) (by omega)
 have k1:=Int.tmod_nonneg ((m:Int)+1) ha.1
 have klt:=Int.tmod_lt_of_pos a (b:=(m:Int)+1) (by omega)
 obtain ⟨k,hk⟩:=nat_of k1
 have hS0:=hS f m (by omega) (by omega) (by omega)
 have hS1:=hS f k (by omega) (by omega) (by omega)
 have hS2:=hS (f+k) (m - k) (by omega) (by omega) (by omega)
 have wa:=wrap64 (x:=a) (by omega) (by omega)
 have wf:=wrap64 (x:=f) (by omega) (by omega)
 have wm:=wrap64 (x:=(m:Int)+1) (by omega) (by omega)
 have wfk:=wrap64 (x:=f+(k:Int)) (by omega) (by omega)
 have wmk:IntKind.i64.wrap ((m:Int) - k)=((m - k:Nat):Int):=by rw [wrap64 (by omega) (by omega)];omega
 refine awp_seq (awp_give [3] ?_)
 simp only [go_sem,simprocAttr,decide_true,decide_false]
 refine aw_ok _ ?_
 simp only [go_sem,simprocAttr,decide_true,decide_false,hm,wrapN (n:=m) (by omega)]
 refine awp_seq (aw_ok _ ?_)
 simp only [go_sem,simprocAttr,decide_true,decide_false,wa,wm,hk]
 refine ⟨by omega,?_⟩
 refine awp_seq (aw_ok _ ?_)
 simp only [go_sem,simprocAttr,decide_true,decide_false,wf,wrapN (n:=k) (by omega)]
 refine ⟨_,hS0,?_⟩
 simp only [go_sem,simprocAttr,decide_true,decide_false]
 refine awp_seq (aw_ok _ ?_)
 simp only [go_sem,simprocAttr,decide_true,decide_false,wf,wrapN (n:=k) (by omega)]
 refine ⟨_,hS1,?_⟩
 simp only [go_sem,simprocAttr,decide_true,decide_false]
 refine awp_seq (aw_ok _ ?_)
 simp only [go_sem,simprocAttr,decide_true,decide_false,wf,wrapN (n:=k) (by omega),wfk,wmk]
 refine ⟨_,hS2,?_⟩
 simp only [go_sem,simprocAttr,decide_true,decide_false]
 obtain ⟨c,hc⟩:∃ c,c=y.channels.toNat:=⟨_,rfl⟩
 have lA:=smpT_len E y f m
 have lB:=smpT_len E y f k
 have lC:=smpT_len E y (f+k) (m - k)
 have sA:∀ i,i<c→(smpT E y f m).getD i []=(smpT E y f k).getD i []++(smpT E y (f+k) (m - k)).getD i []:=fun i hi=>smpT_split E y f (by omega) (by omega)
 have nB:∀ i,i<c→((smpT E y f k).getD i []).length≤1000:=fun i hi=>by rw [smpT_clen E y f k (by omega)];omega
 have nC:∀ i,i<c→((smpT E y (f+k) (m - k)).getD i []).length≤1000:=fun i hi=>by rw [smpT_clen E y (f+k) (m - k) (by omega)];omega
 rw [← hc] at lA lB lC y2
 generalize smpT E y f m=A at *
 generalize smpT E y f k=B at *
 generalize smpT E y (f+k) (m - k)=C at *
 refine awp_seq (aw_ok _ ?_)
 simp only [go_sem,simprocAttr,decide_true,decide_false]
 refine awp_seq (aw_ok _ ?_)
 simp only [go_sem,simprocAttr,decide_true,decide_false,tchs,t16,lA,lB,lC,List.length_map]
 refine awp_seq (aw_ok _ ?_)
 simp only [go_sem,simprocAttr,decide_true,decide_false,tchs,t16,lA,lB,lC,List.length_map]
 refine awp_loop_f (fun (i:Nat) σ => setS 112 (vint i) (deadS [19,113,114,115,116,117,118,119,120,121,122,123,124,125,126,127,128,129,130,131,132,133,134] (cleanS σ))) (fun i=>i≤c) (fun i=>c - i) 0 (weak_self ?_) (Nat.zero_le _) ?_
 ·simp only [go_sem,simprocAttr,decide_true,decide_false]
  simp
 ·intro i hi
  refine aw_ok _ ?_
  simp only [go_sem,simprocAttr,decide_true,decide_false]
  refine ⟨fun hlt=>?_,fun hge=>?_⟩
  ·simp only [bxx] at hlt
   have hil:i<c:=by omega
   have hwi:IntKind.i64.wrap ((i:Int)+1)=((i+1:Nat):Int):=by rw [wrap1 (by omega)];omega
   have eA:=fun d=>ch_nth (L:=A) (k:=i) (by omega) d
   have eB:=fun d=>ch_nth (L:=B) (k:=i) (by omega) d
   have eC:=fun d=>ch_nth (L:=C) (k:=i) (by omega) d
   unfold awS
   simp only [go_sem,simprocAttr,decide_true,decide_false]
   refine drawQ_of [4,16] [15] 19 .done rfl (by kernel_rfl) (by kernel_rfl) (by decide) ?_
   simp only [go_sem,simprocAttr,decide_true,decide_false,eA,eB,eC,tchs,t16]
   have b1:=nB i hil
   have b2:=nC i hil
   have hsm:=cSame27 [A.getD i []] (by simp) (fun x hx=>by
    simp only [List.mem_cons,List.not_mem_nil,or_false] at hx
    rw [hx,sA i hil,List.length_append]
    omega)
   rw [← List.map_append, ← sA i hil]
   refine ⟨⟨by omega,by omega⟩,⟨by omega,by omega⟩,⟨by unfold maxLen;omega,by omega⟩,⟨by omega,by omega⟩,⟨by unfold maxLen;omega,by omega⟩,_,hsm,?_⟩
   simp only [go_sem,simprocAttr,decide_true,decide_false]
   refine ⟨by kernel_rfl,?_⟩
   refine ⟨i+1,weak_self ?_,by omega,by omega⟩
   simp only [go_sem,simprocAttr,decide_true,decide_false,hwi]
   simp
  ·simp only [bxx] at hge
   unfold awS
   simp only [go_sem,simprocAttr,decide_true,decide_false]
   refine aw_ok _ ?_
   simp only [go_sem,simprocAttr,decide_true,decide_false]
   refine ⟨_,cAwake27,?_⟩
   simp only [go_sem,simprocAttr,decide_true,decide_false]
end Go.Proofs.YtkjdkbmfaamhaaaGreat
