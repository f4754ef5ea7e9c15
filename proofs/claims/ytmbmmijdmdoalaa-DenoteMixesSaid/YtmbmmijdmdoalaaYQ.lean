/- Proved here: The project of one medium and one track, for use in the proofs of the given statements; conditions stand in each theorem. -/
import Derived.Test.YtmbmmijdmdoalaaYJ
import Derived.Test.YtmbmmijdmdoalaaYF
import Derived.Test.YtmbmmijdmdoalaaYM
import Derived.Test.YtmbmmijdmdoalaaYP
import Derived.Test.YtmbmmijdmdoalaaY8
import Derived.Test.YtmbmmijdmdoalaaZN
set_option linter.unusedSimpArgs false
set_option linter.unusedVariables false
set_option linter.unusedSectionVars false
set_option linter.unnecessarySimpa false
namespace Go.Proofs.Ytmbmmijdmdoalaa
open Go.RowKit
set_option maxRecDepth 4000
def sgM:MediumR:=⟨⟨#[97]⟩,0,⟨0,0,⟨25,1⟩,false,0,0,fun _=>0⟩,30,0,0,[]⟩
def sgP (t:List ClipR):ProjR:=⟨[sgM],[tSeq ⟨#[115]⟩ [t]]⟩
theorem iL_app {a b:T}:∀ l:List T,Imp a b→ImpL (l ++ [a]) (l ++ [b])
 | [],h=>⟨h,trivial⟩
 | x::l,h=>⟨imp_refl,iL_app l h⟩
theorem cSingle (t:List ClipR):CPure Try.prog 6 [.t (tclips t)] (vproj (sgP t)):=by
 refine cpure_ofW Try.xen6 Try.func6 rfl Try.ntmps6 (by rw [Try.results6]) (aw_ok _ ?_)
 simp only [go_sem,simprocAttr,↓fillA,↓fillB]
 refine pureW_as (r' := .agg [.t (.list 141 (Try.z67.map T.lit) [mHead sgM ++ [.lit (.slice none 0 0)]]), .t (.list 9 (zSeqV.map fun v=>match v with | .t t=>t | _=>default) [[tstr ⟨#[115]⟩,ti 25,ti 1,ti 16,ti 16, .list 1 [.lit (.slice none 0 0)] [[tclips t]], .lit (.slice none 0 0), .lit (.slice none 0 0),ti 0]])]) ?_ rfl ?_
 ·simp only [go_sem,simprocAttr]<;>rfl
 ·refine as_impAgg (by exact ⟨as_imp (imp_list ⟨iL_app _ imp_nil,trivial⟩),as_imp (imp_list (by exact ⟨⟨imp_refl,imp_refl,imp_refl,imp_refl,imp_refl,imp_list (by exact ⟨⟨imp_refl,trivial⟩,trivial⟩),imp_nil,imp_nil,imp_refl,trivial⟩,trivial⟩)),trivial⟩)
structure SgOk (c:ClipR):Prop where
 ok:vClip c=true
 sil:silentB c=true
 src:∀ x,x=c.a∨x=c.b→x.kind≠2∧(x.kind=1→x.name=⟨#[97]⟩)
theorem sgHd:seqHdOk (tSeq ⟨#[115]⟩ [])=true:=by kernel_rfl
theorem sg_lay {c:ClipR} (h:SgOk c):Layered (sgP [c]):=by
 have l1:=vClip_len h.ok
 have hT:vTrack [c]=true:=by
  unfold vTrack
  rw [decide_eq_true (show [c].length≤64 by simp),decide_eq_true (show totL [c]≤2147483647 by simp only [totL];omega)]
  simp [h.ok]
 have hsrc:∀ x∈srcsOf (tSeq ⟨#[115]⟩ [[c]]),x=c.a∨x=c.b:=by
  intro x hx
  unfold srcsOf srcsF at hx
  obtain ⟨d,hd,hx2⟩:=List.mem_flatMap.1 (List.mem_filter.1 hx).1
  unfold clipsOf tSeq at hd
  simp only [List.append_nil,List.flatten_cons,List.flatten_nil,List.mem_cons,List.not_mem_nil,or_false] at hd
  rw [hd] at hx2
  simpa using hx2
 refine ⟨(rfl:smallB (sgP [c])=true),?_,by simp [sgP],by simp [sgP],by simp [sgP],fun j hj x hx k1=>?_,fun j hj x hx k2=>?_⟩
 ·have e1:medOk sgM=true:=by kernel_rfl
  have e2:seqHdOk (tSeq ⟨#[115]⟩ [[c]])=true:=by
   exact sgHd
  have e3:vidOk [c]=true:=by
   unfold vidOk
   rw [hT]
   simp [h.sil]
  simp only [sgP,List.all_cons,List.all_nil,e1,Bool.and_true,Bool.true_and]
  unfold seqOk
  rw [e2]
  simp [tSeq,e3]
 ·simp only [sgP,List.length_cons,List.length_nil] at hj
  have:j=0:=by omega
  subst this
  exact ⟨0,by simp [sgP],((h.src x (hsrc x hx)).2 k1).symm⟩
 ·simp only [sgP,List.length_cons,List.length_nil] at hj
  have:j=0:=by omega
  subst this
  exact absurd k2 (h.src x (hsrc x hx)).1
theorem sg_fit {c:ClipR} (h:c.fit):(sgP [c]).fit:=by
 refine ⟨fun y hy=>?_,fun y hy=>?_⟩
 ·simp only [sgP,List.mem_cons,List.not_mem_nil,or_false] at hy
  subst hy
  have i0:I64 0:=⟨by decide,by decide⟩
  exact ⟨⟨i0,i0,⟨⟨by decide,by decide⟩,⟨by decide,by decide⟩⟩,i0,i0⟩,⟨by decide,by decide⟩,i0,i0,fun c hc=>by cases hc⟩
 ·simp only [sgP,List.mem_cons,List.not_mem_nil,or_false] at hy
  subst hy
  have i0:I64 0:=⟨by decide,by decide⟩
  have i16:I64 16:=⟨by decide,by decide⟩
  have r:(⟨25,1⟩:RatR).fit:=⟨⟨by decide,by decide⟩,⟨by decide,by decide⟩⟩
  refine ⟨r,i16,i16,fun t ht d hd=>?_,fun t ht=>(by cases ht),fun c hc=>(by cases hc),i0⟩
  simp only [tSeq,List.mem_cons,List.not_mem_nil,or_false] at ht
  subst ht
  simp only [List.mem_cons,List.not_mem_nil,or_false] at hd
  subst hd
  exact h
theorem sg_frame {c:ClipR} (h:SgOk c) (hf:c.fit) (hk0:c.kind≠0) {k:Int} (h0 : 0≤k) (h1:k<c.len):frameR (sgP [c]) ⟨#[115]⟩ k=(clipE redX (leafE (sgP [c]) (filmE redX (sgP [c]) 4)) c k,0):=by
 have hv:=layered_valid (sg_lay h)
 have e:topT k [[c]]=some (c,k):=by
  have ef:findL [c] 0 k=(0,k,true):=by rw [findL_cons,if_pos h1];rfl
  unfold topT hitT
  rw [ef]
  simp [h0,hk0]
 unfold frameR
 rw [hv]
 show (filmE redX (sgP [c]) 5 ⟨#[115]⟩ k,(0:Int))=_
 unfold filmE
 have ev:vidsOf (sgP [c]) ⟨#[115]⟩ = [[c]]:=rfl
 rw [ev]
 show (showE redX _ (topT k [[c]]),(0:Int))=_
 rw [e]
 rfl
open Go.RowKit
set_option maxRecDepth 4000
def sgS (pos speed:RatR) (smooth:Bool):SourceR:=⟨1,⟨#[97]⟩,pos,speed,smooth⟩
theorem sgS_ok {pos speed:RatR} {smooth:Bool} (h1:vRat pos=true) (h2:vRat speed=true) (h3:vWith pos 1099511627776=true) (h4:vWith speed 1024=true) (h5:pos.den≤2) (h6:speed.den≤2):vSource (sgS pos speed smooth)=true:=by
 have d1:=vRat_den h1
 have d2:=vRat_den h2
 have n1:vName ⟨#[97]⟩=true:=by kernel_rfl
 have hl:lcmS (sgS pos speed smooth)≤65536:=by
  unfold lcmS sgS
  have e1:pos.den.natAbs=1∨pos.den.natAbs=2:=by omega
  have e2:speed.den.natAbs=1∨speed.den.natAbs=2:=by omega
  rcases e1 with e1 | e1<;>rcases e2 with e2 | e2<;>rw [e1,e2]<;>decide
 unfold vSource
 rw [decide_eq_true hl]
 simp only [sgS,h1,h2,h3,h4,n1]
 simp
def cutC (len:Int) (s:SourceR):ClipR:=⟨len,1,s,zSource,0,0,0,⟨#[]⟩,0,[]⟩
theorem sg_leaf (t:List ClipR) (G:ByteArray→Int→ExprR) (pos speed:RatR) (smooth:Bool) (i:Int):leafE (sgP t) G (sgS pos speed smooth) i=still25 i:=by
 unfold leafE still25
 rw [if_neg (show ¬ (sgS pos speed smooth).kind=2 from (by decide : ¬ (1:Int)=2))]
 have e:medFr (sgP t) (sgS pos speed smooth).name=30:=rfl
 rw [e]
 by_cases h:i<0∨30≤i
 ·rw [if_pos h,if_pos (by simp only [Bool.or_eq_true,decide_eq_true_eq];omega)]
 ·rw [if_neg h,if_neg (by simp only [Bool.or_eq_true,decide_eq_true_eq];omega)]
  rfl
def spE (x z d:Int) (smooth:Bool) (k:Int):ExprR :=
 if smooth=true∧(x+k*z) % d≠0 then redX (shareE 2 0 1 2 (still25 ((x+k*z) / d)) (still25 ((x+k*z) / d+1))) else still25 ((x+k*z) / d)
def halfE (i:Int):ExprR := .mk 2 ⟨#[]⟩ 0 1 2 0 ⟨#[]⟩ [still25 i,still25 (i+1)]
end Go.Proofs.Ytmbmmijdmdoalaa
