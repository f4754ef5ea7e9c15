/- Proved here: The project of one medium and one track, for use in the proofs of the given statements; conditions stand in each theorem. -/
import Derived.Test.YtmbmmijdmdoalaaYJ
import Derived.Test.YtmbmmijdmdoalaaYF
import Derived.Test.YtmbmmijdmdoalaaYM
import Derived.Test.YtmbmmijdmdoalaaYP
import Derived.Test.YtmbmmijdmdoalaaY8
import Derived.Test.YtmbmmijdmdoalaaZN
set_option linter.unusedSimpArgs false
set_option linter.unusedVariables false
set_option linter.unusedSectionVars false
set_option linter.unnecessarySimpa false
namespace Go.Proofs.Ytmbmmijdmdoalaa
open Go.RowKit
set_option maxRecDepth 4000
def sgM:MediumR:=⟨⟨#[97]⟩,0,⟨0,0,⟨25,1⟩,false,0,0,fun _=>0⟩,30,0,0,[]⟩
def sgP (t:List ClipR):ProjR:=⟨[sgM],[tSeq ⟨#[115]⟩ [t]]⟩
theorem iL_app {a b:T}:∀ l:List T,Imp a b→ImpL (l ++ [a]) (l ++ [b])
 | [],h=>⟨h,trivial⟩
 | x::l,h=>⟨imp_refl,iL_app l h⟩
theorem cSingle (t:List ClipR):CPure Try.prog 6 [.t (tclips t)] (vproj (sgP t)):=by
 refine cpure_ofW Try.xen6 Try.func6 rfl Try.ntmps6 (by rw [Try.results6]) (aw_ok _ ?_)
 simp only [go_sem,simprocAttr,↓fillA,↓fillB]
 refine pureW_as (r' := .agg [.t (.list 141 (Try.z67.map T.lit) [mHead sgM ++ [.lit (.slice none 0 0)]]), .t (.list 9 (zSeqV.map fun v=>match v with | .t t=>t | _=>default) [[tstr ⟨#[115]⟩,ti 25,ti 1,ti 16,ti 16, .list 1 [.lit (.slice none 0 0)] [[tclips t]], .lit (.slice none 0 0), .lit (.slice none 0 0),ti 0]])]) ?_ rfl ?_
 ·simp only [go_sem,simprocAttr]<;>rfl
 ·refine as_impAgg (by exact ⟨as_imp (imp_list ⟨iL_app _ imp_nil,trivial⟩),as_imp (imp_list (by exact ⟨⟨imp_refl,imp_refl,imp_refl,imp_refl,imp_refl,imp_list (by exact ⟨⟨imp_refl,trivial⟩,trivial⟩),imp_nil,imp_nil,imp_refl,trivial⟩,trivial⟩)),trivial⟩)
structure SgOk (c:ClipR):Prop where
 ok:vClip c=true
 sil:silentB c=true
 src:∀ x,x=c.a∨x=c.b→x.kind≠2∧(x.kind=1→x.name=⟨#[97]⟩)
theorem sgHd:seqHdOk (tSeq ⟨#[115]⟩ [])=true:=by kernel_rfl
theorem sg_lay {c:ClipR} (h:SgOk c):Layered (sgP [c]):=by
 have l1:=vClip_len h.ok
 have hT:vTrack [c]=true:=by
  unfold vTrack
  rw [decide_eq_true (show [c].length≤64 by simp),decide_eq_true (show totL [c]≤2147483647 by simp only [totL];omega)]
  simp [h.ok]
 have hsrc:∀ x∈srcsOf (tSeq ⟨#[115]⟩ [[c]]),x=c.a∨x=c.b:=by
  intro x hx
  unfold srcsOf srcsF at hx
  obtain ⟨d,hd,hx2⟩:=List.mem_flatMap.1 (List.mem_filter.1 hx).1
  unfold clipsOf tSeq at hd
  simp only [List.append_nil,List.flatten_cons,List.flatten_nil,List.mem_cons,List.not_mem_nil,or_false] at hd
  rw [hd] at hx2
  simpa using hx2
 refine ⟨(rfl:smallB (sgP [c])=true),?_,by simp [sgP],by simp [sgP],by simp [sgP],fun j hj x hx k1=>?_,fun j hj x hx k2=>?_⟩
 ·have e1:medOk sgM=true:=by kernel_rfl
  have e2:seqHdOk (tSeq ⟨#[115]⟩ [[c]])=true:=by
   exact sgHd
  have e3:vidOk [c]=true:=by
   unfold vidOk
   rw [hT]
   simp [h.sil]
  simp only [sgP,List.all_cons,List.all_nil,e1,Bool.and_true,Bool.true_and]
  unfold seqOk
  rw [e2]
  simp [tSeq,e3]
 ·simp only [sgP,List.length_cons,List.length_nil] at hj
  have:j=0:=by omega
  subst this
  exact ⟨0,by simp [sgP],((h.src x (hsrc x hx)).2 k1).symm⟩
 ·simp only [sgP,List.length_cons,List.length_nil] at hj
  have:j=0:=by omega
  subst this
  exact absurd k2 (h.src x (hsrc x hx)).1
theorem sg_fit {c:ClipR} (h:c.fit):(sgP [c]).fit:=by
 refine ⟨fun y hy=>?_,fun y hy=>?_⟩
 ·simp only [sgP,List.mem_cons,List.not_mem_nil,or_false] at hy
  subst hy
  have i0:I64 0:=⟨by decide,by decide⟩
  exact ⟨⟨i0,i0,⟨⟨by decide,by decide⟩,⟨by decide,by decide⟩⟩,i0,i0⟩,⟨by decide,by decide⟩,i0,i0,fun c hc=>by cases hc⟩
 ·simp only [sgP,List.mem_cons,List.not_mem_nil,or_false] at hy
  subst hy
  have i0:I64 0:=⟨by decide,by decide⟩
  have i16:I64 16:=⟨by decide,by decide⟩
  have r:(⟨25,1⟩:RatR).fit:=⟨⟨by decide,by decide⟩,⟨by decide,by decide⟩⟩
  refine ⟨r,i16,i16,fun t ht d hd=>?_,fun t ht=>(by cases ht),fun c hc=>(by cases hc),i0⟩
  simp only [tSeq,List.mem_cons,List.not_mem_nil,or_false] at ht
  subst ht
  simp only [List.mem_cons,List.not_mem_nil,or_false] at hd
  subst hd
  exact h
theorem sg_frame {c:ClipR} (h:SgOk c) (hf:c.fit) (hk0:c.kind≠0) {k:Int} (h0 : 0≤k) (h1:k<c.len):frameR (sgP [c]) ⟨#[115]⟩ k=(clipE redX (leafE (sgP [c]) (filmE redX (sgP [c]) 4)) c k,0):=by
 have hv:=layered_valid (sg_lay h)
 have e:topT k [[c]]=some (c,k):=by
  have ef:findL [c] 0 k=(0,k,true):=by rw [findL_cons,if_pos h1];rfl
  unfold topT hitT
  rw [ef]
  simp [h0,hk0]
 unfold frameR
 rw [hv]
 show (filmE redX (sgP [c]) 5 ⟨#[115]⟩ k,(0:Int))=_
 unfold filmE
 have ev:vidsOf (sgP [c]) ⟨#[115]⟩ = [[c]]:=rfl
 rw [ev]
 show (showE redX _ (topT k [[c]]),(0:Int))=_
 rw [e]
 rfl
open Go.RowKit
set_option maxRecDepth 4000
def sgS (pos speed:RatR) (smooth:Bool):SourceR:=⟨1,⟨#[97]⟩,pos,speed,smooth⟩
theorem sgS_ok {pos speed:RatR} {smooth:Bool} (h1:vRat pos=true) (h2:vRat speed=true) (h3:vWith pos 1099511627776=true) (h4:vWith speed 1024=true) (h5:pos.den≤2) (h6:speed.den≤2):vSource (sgS pos speed smooth)=true:=by
 have d1:=vRat_den h1
 have d2:=vRat_den h2
 have n1:vName ⟨#[97]⟩=true:=by kernel_rfl
 have hl:lcmS (sgS pos speed smooth)≤65536:=by
  unfold lcmS sgS
  have e1:pos.den.natAbs=1∨pos.den.natAbs=2:=by omega
  have e2:speed.den.natAbs=1∨speed.den.natAbs=2:=by omega
  rcases e1 with e1 | e1<;>rcases e2 with e2 | e2<;>rw [e1,e2]<;>decide
 unfold vSource
 rw [decide_eq_true hl]
 simp only [sgS,h1,h2,h3,h4,n1]
 simp
theorem odd_gcd {n d:Int} (ho:n % 2=1) (hd:d=1∨d=2):Nat.gcd n.natAbs d.natAbs=1:=by
 rcases hd with rfl | rfl
 ·exact Nat.gcd_one_right _
 ·have:n.natAbs % 2=1:=by omega
  rw [Nat.gcd_comm,show (2:Int).natAbs=2 from rfl,Nat.gcd_rec,this]
  rfl
theorem odd_rat {n d:Int} (ho:n % 2=1) (h0 : -255≤n) (h1:n≤255) (hd:d=1∨d=2):vRat ⟨n,d⟩=true∧vWith ⟨n,d⟩ 1099511627776=true∧vWith ⟨n,d⟩ 1024=true:=by
 have hg:=odd_gcd ho hd
 refine ⟨?_,decide_eq_true ?_,decide_eq_true ?_⟩
 ·unfold vRat
  simp only
  rw [decide_eq_true hg,decide_eq_true (show (1:Int)≤d by omega),decide_eq_true (show -9223372036854775808<n by omega)]
  rfl
 ·show ((n.natAbs:Nat):Int)≤1099511627776*d
  rcases hd with rfl | rfl<;>omega
 ·show ((n.natAbs:Nat):Int)≤1024*d
  rcases hd with rfl | rfl<;>omega
def cutC (len:Int) (s:SourceR):ClipR:=⟨len,1,s,zSource,0,0,0,⟨#[]⟩,0,[]⟩
theorem cutC_ok {s:SourceR} {len:Int} (hs:vSource s=true) (h1 : 1≤len) (h2:len≤2147483647):vClip (cutC len s)=true:=by
 unfold vClip baseOk kindOk cutC
 simp [hs,zS_ok,zS_isZ,h1,h2,noShare,emp,vChans]
theorem cutC_sg {len:Int} {pos speed:RatR} {smooth:Bool} (hs:vSource (sgS pos speed smooth)=true) (h1 : 1≤len) (h2:len≤2147483647):SgOk (cutC len (sgS pos speed smooth)):=by
 refine ⟨cutC_ok hs h1 h2,rfl,fun x hx=>?_⟩
 rcases hx with rfl | rfl
 ·exact ⟨(by decide:(1:Int)≠2),fun _=>rfl⟩
 ·exact ⟨(by decide:(0:Int)≠2),fun h=>absurd h (by decide : ¬ (0:Int)=1)⟩
theorem sg_leaf (t:List ClipR) (G:ByteArray→Int→ExprR) (pos speed:RatR) (smooth:Bool) (i:Int):leafE (sgP t) G (sgS pos speed smooth) i=still25 i:=by
 unfold leafE still25
 rw [if_neg (show ¬ (sgS pos speed smooth).kind=2 from (by decide : ¬ (1:Int)=2))]
 have e:medFr (sgP t) (sgS pos speed smooth).name=30:=rfl
 rw [e]
 by_cases h:i<0∨30≤i
 ·rw [if_pos h,if_pos (by simp only [Bool.or_eq_true,decide_eq_true_eq];omega)]
 ·rw [if_neg h,if_neg (by simp only [Bool.or_eq_true,decide_eq_true_eq];omega)]
  rfl
def spE (x z d:Int) (smooth:Bool) (k:Int):ExprR :=
 if smooth=true∧(x+k*z) % d≠0 then redX (shareE 2 0 1 2 (still25 ((x+k*z) / d)) (still25 ((x+k*z) / d+1))) else still25 ((x+k*z) / d)
theorem sp_clip (t:List ClipR) (G:ByteArray→Int→ExprR) {x z d:Int} (hd:d=1∨d=2) (smooth:Bool) (k:Int):clipE redX (leafE (sgP t) G) (cutC 20 (sgS ⟨x,d⟩ ⟨z,d⟩ smooth)) k=spE x z d smooth k:=by
 unfold clipE
 rw [if_pos (show (cutC 20 (sgS ⟨x,d⟩ ⟨z,d⟩ smooth)).kind=1 from rfl)]
 show picE redX (leafE (sgP t) G) (sgS ⟨x,d⟩ ⟨z,d⟩ smooth) k=_
 have hb:baseS (sgS ⟨x,d⟩ ⟨z,d⟩ smooth)=d.toNat:=by
  unfold baseS denP denS sgS
  exact Nat.lcm_self _
 have hp:posS (sgS ⟨x,d⟩ ⟨z,d⟩ smooth) k=x+k*z:=by
  unfold posS atS stepS
  rw [hb]
  unfold denP denS sgS
  have e:d.toNat / d.toNat=1:=Nat.div_self (by omega)
  simp only [e]
  show x*1+k*(z*1)=_
  rw [Int.mul_one,Int.mul_one]
 have hdd:((d.toNat:Nat):Int)=d:=by omega
 unfold picE spE
 rw [if_neg (show ¬ (sgS ⟨x,d⟩ ⟨z,d⟩ smooth).kind=0 from (by decide : ¬ (1:Int)=0)),hp,hb,hdd]
 simp only [sg_leaf]
 show (if smooth=true∧(x+k*z) % d≠0 then _ else _)=_
 by_cases h:smooth=true∧(x+k*z) % d≠0
 ·rw [if_pos h,if_pos h]
  have:(x+k*z) % d=1∧d=2:=by
   rcases hd with rfl | rfl
   ·exact absurd (Int.emod_one _) h.2
   ·omega
  rw [this.1,this.2]
 ·rw [if_neg h,if_neg h]
theorem still_good (i:Int) (hi:i≤1000000):goodE (still25 i):=by
 unfold still25
 split
 ·exact goodE_zero
 ·rename_i h
  simp only [Bool.or_eq_true,decide_eq_true_eq,not_or] at h
  have n1:vName ⟨#[97]⟩=true:=by kernel_rfl
  refine ⟨validE_mk ?_ ?_,?_⟩
  ·simp [fieldsOk,noB,n1,show 0≤i by omega,show i≤2147483646 by omega]
  ·intro e he;cases he
  ·simp only [ExprR.fit,ExprR.fits,I64,and_true]
   omega
theorem still_sim (i:Int):simE (still25 i)=still25 i:=by
 unfold still25
 split
 ·exact simE_zero
 ·exact sim_src ..
def halfE (i:Int):ExprR := .mk 2 ⟨#[]⟩ 0 1 2 0 ⟨#[]⟩ [still25 i,still25 (i+1)]
theorem half_sim (i:Int) (hi:i≤999999):simpE (halfE i)=redX (shareE 2 0 1 2 (still25 i) (still25 (i+1)))∧(halfE i).fit:=by
 have hg:=goodE_share (op:=2) (param:=0) (n:=1) (d:=2) (.inl ⟨rfl,rfl⟩) (by decide) (by decide) (by decide) (still_good i (by omega)) (still_good (i+1) (by omega))
 have e:shareE 2 0 1 2 (still25 i) (still25 (i+1))=halfE i:=by
  have g:gcdQ 1 2=1:=by decide
  unfold shareE halfE
  rw [g]
  rfl
 rw [e] at hg ⊢
 refine ⟨?_,hg.2⟩
 unfold simpE
 rw [if_pos hg.1]
 unfold halfE
 rw [sim_mk,still_sim,still_sim]
theorem sp_frame {x z d:Int} (hx:x % 2=1) (hx0 : -255≤x) (hx1:x≤255) (hz:z % 2=1) (hz0 : -255≤z) (hz1:z≤255) (hd:d=1∨d=2) (smooth:Bool) (k:Nat) (hk:k<20) :
  CPure Try.prog 5 [vproj (sgP [cutC 20 (sgS ⟨x,d⟩ ⟨z,d⟩ smooth)]),vstr ⟨#[115]⟩,vint k] (.tup [vexpr (spE x z d smooth k),vint 0]):=by
 obtain ⟨a1,a2,a3⟩:=odd_rat hx hx0 hx1 hd
 obtain ⟨b1,b2,b3⟩:=odd_rat hz hz0 hz1 hd
 have hs:=sgS_ok (smooth:=smooth) a1 b1 a2 b3 (show d≤2 by omega) (show d≤2 by omega)
 have hok:=cutC_sg hs (show (1:Int)≤20 by decide) (by decide)
 have hf:(cutC 20 (sgS ⟨x,d⟩ ⟨z,d⟩ smooth)).fit:=by
  have r1:(⟨x,d⟩:RatR).fit:=⟨⟨by show _≤x;omega,by show x≤_;omega⟩,⟨by show _≤d;omega,by show d≤_;omega⟩⟩
  have r2:(⟨z,d⟩:RatR).fit:=⟨⟨by show _≤z;omega,by show z≤_;omega⟩,⟨by show _≤d;omega,by show d≤_;omega⟩⟩
  have j1:I64 1:=⟨by decide,by decide⟩
  have j2:I64 20:=⟨by decide,by decide⟩
  exact ⟨j2,j1,⟨j1,r1,r2⟩,zfit,i0,i0,i0,i0⟩
 have hc:=cDFrame (sgP [cutC 20 (sgS ⟨x,d⟩ ⟨z,d⟩ smooth)]) (sg_fit hf) ⟨#[115]⟩ (k:Int) ⟨by omega,by omega⟩
 rw [sg_frame hok hf (by decide : ¬ (1:Int)=0) (by omega) (show (k:Int)<20 by omega),sp_clip _ _ hd] at hc
 exact hc
theorem td_pos {n:Int} (h : 0≤n):n.tdiv 2=n / 2∧n.tmod 2=n % 2:=⟨Int.tdiv_eq_ediv_of_nonneg h,Int.tmod_eq_emod_of_nonneg h⟩
theorem td_neg {n:Int} (h:n<0):n.tdiv 2 = -((-n) / 2)∧n.tmod 2 = -((-n) % 2):=by
 obtain ⟨m,rfl⟩:∃ m:Int,n = -m:=⟨-n,by omega⟩
 obtain ⟨e1,e2⟩:=td_pos (n:=m) (by omega)
 rw [Int.neg_tdiv,Int.neg_tmod,e1,e2,Int.neg_neg]
 exact ⟨rfl,rfl⟩
theorem floor_12 {n d:Int} (hd:d=1∨d=2):(decide (n<0)&&(n.tmod d != 0))=true→n.tdiv d - 1=n / d:=by
 intro h
 simp only [Bool.and_eq_true,decide_eq_true_eq,bne_iff_ne,ne_eq] at h
 rcases hd with rfl | rfl
 ·exact absurd (Int.tmod_one n) h.2
 ·obtain ⟨e1,e2⟩:=td_neg h.1
  omega
theorem floor_12' {n d:Int} (hd:d=1∨d=2):(decide (n<0)&&(n.tmod d != 0))=false→n.tdiv d=n / d:=by
 intro h
 simp only [Bool.and_eq_false_iff,decide_eq_false_iff_not,bne_eq_false_iff_eq] at h
 rcases hd with rfl | rfl
 ·rw [Int.tdiv_one,Int.ediv_one]
 ·rcases Int.lt_or_le n 0 with h0 | h0
  ·obtain ⟨e1,e2⟩:=td_neg h0
   omega
  ·exact (td_pos h0).1
theorem rem_12 {n d:Int} (hd:d=1∨d=2):(n.tmod d != 0)=decide (n % d≠0):=by
 rw [Bool.eq_iff_iff,bne_iff_ne,decide_eq_true_eq]
 rcases hd with rfl | rfl
 ·rw [Int.tmod_one,Int.emod_one]
 ·rcases Int.lt_or_le n 0 with h0 | h0
  ·obtain ⟨e1,e2⟩:=td_neg h0
   omega
  ·rw [(td_pos h0).2]
end Go.Proofs.Ytmbmmijdmdoalaa
