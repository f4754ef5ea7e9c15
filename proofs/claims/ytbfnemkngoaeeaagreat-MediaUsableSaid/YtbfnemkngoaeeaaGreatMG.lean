/- Proved here: The project of the statements about media, for use in the proofs of the given statements; conditions stand in each theorem. -/
import Derived.Test.YtbfnemkngoaeeaaGreatTC
import Derived.Test.YtbfnemkngoaeeaaGreatTD
import Derived.Test.YtbfnemkngoaeeaaGreatMB
import Derived.Test.YtbfnemkngoaeeaaGreatZG
import Derived.Test.YtbfnemkngoaeeaaGreatME
import Derived.Test.YtbfnemkngoaeeaaGreatMF
import Derived.Test.YtbfnemkngoaeeaaGreatMC
set_option linter.unusedSimpArgs false
set_option linter.unusedVariables false
set_option linter.unusedSectionVars false
set_option linter.unnecessarySimpa false
namespace Go.Proofs.YtbfnemkngoaeeaaGreat
open Go.RowKit
set_option maxRecDepth 4000
def sizeAs (a b:MediumR):MediumR := { b with seq:=a.seq,frames:=a.frames,channels:=a.channels,samples:=a.samples }
def medM (M:List MediumR):List MediumR:=if 1<M.length then M.set 1 (sizeAs (M.getD 0 default) (M.getD 1 default)) else M
def proj36 (L:List Int):ProjR:=⟨medM (projT L).media ++ [{ (projT L).media.getD 0 default with name:=spareN }],(projT L).seqs⟩
theorem nth_at {α : Type} [Inhabited α] {c : α → List T} {l:List α} {k:Nat} (h:k<l.length) (d:List T):nth d (l.map c) k=c (l.getD k default):=by
 unfold nth
 rw [List.getElem?_map,List.getD_eq_getElem?_getD,List.getElem?_eq_getElem h]
 rfl
theorem nth_set {xs:List (List T)} {k:Nat} (h:k<xs.length) (d r:List T):nth d (xs.set k r) k=r:=by
 unfold nth
 rw [List.getElem?_set_self h]
 rfl
theorem as_dW {k:Nat} {d d':List T} {xs:List (List T)}:∀ (w:World) (E:Env) v,RdV w E (.t (.list k d xs)) v→RdV w E (.t (.list k d' xs)) v:=by
 intro w E v h
 simp only [RdV] at h ⊢
 cases h with
 | list _ _ _ A c hm hc hn hk hb hr=>exact .list k d' xs A c hm hc hn hk hb hr
theorem pureW_pd {M:List MediumR} {d:List T} {R:List (List T)} {Q:List SequenceR} {x:V} {h:Heap} (hx:x.lend h = .agg [.t (.list 141 d R), .t (tseqs Q)]) (e:R=M.map MediumR.c):pureW (vproj ⟨M,Q⟩) x h:=by
 subst e
 exact pureW_as hx rfl (as_impAgg (by exact ⟨as_dW,as_refl,trivial⟩))
def vsq (m:MediumR):List V:=m.seq.c.map V.t
theorem vmed_s (m:MediumR):List.take 135 (List.drop 2 (vmed m))=vsq m:=(Eq.refl _).trans rfl
theorem vmed_141 (m:MediumR):List.take 141 (vmed m)=vmed m:=(Eq.refl _).trans rfl
theorem vsq_len (m:MediumR):(vsq m).length=135:=(Eq.refl _).trans rfl
theorem vput_s (b a:MediumR):List.take 2 (vmed b)++vsq a++List.drop 137 (vmed b)=vmed { b with seq:=a.seq }:=(Eq.refl _).trans rfl
theorem vput_137 (b:MediumR) (x:Int):List.take 137 (vmed b) ++ [V.t (.lit (.int .i64 x))]++List.drop 138 (vmed b)=vmed { b with frames:=x }:=(Eq.refl _).trans rfl
theorem vput_138 (b:MediumR) (x:Int):List.take 138 (vmed b) ++ [V.t (.lit (.int .i64 x))]++List.drop 139 (vmed b)=vmed { b with channels:=x }:=(Eq.refl _).trans rfl
theorem vput_139 (b:MediumR) (x:Int):List.take 139 (vmed b) ++ [V.t (.lit (.int .i64 x))]++List.drop 140 (vmed b)=vmed { b with samples:=x }:=(Eq.refl _).trans rfl
theorem vsq_cell (m:MediumR):(vsq m).all V.isCell=true:=by
 rw [List.all_eq_true]
 intro x hx
 unfold vsq at hx
 obtain ⟨t,_,rfl⟩:=List.mem_map.1 hx
 rfl
theorem sizeAs_t (a b:MediumR):vmed { b with seq:=a.seq,frames:=a.frames,channels:=a.channels,samples:=a.samples }=(MediumR.c (sizeAs a b)).map V.t:=by
 unfold sizeAs vmed
 rfl
theorem cProj36 (L:List Int):CPure Tryz.prog 18 [.t (tints L)] (vproj (proj36 L)):=by
 refine cpure_ofW Tryz.xen18 Tryz.func18 rfl Tryz.ntmps18 (by rw [Tryz.results18]) (aw_ok _ ?_)
 simp only [go_sem,simprocAttr,decide_true,decide_false]
 refine ⟨_,cProject L,?_⟩
 simp only [go_sem,simprocAttr,decide_true,decide_false]
 have hs:=projT_sz L
 obtain ⟨P,hP⟩:∃ P,P=projT L:=⟨_,rfl⟩
 have eP:proj36 L=⟨medM P.media ++ [{ P.media.getD 0 default with name:=spareN }],P.seqs⟩:=by rw [hP];rfl
 rw [eP]
 rw [← hP] at hs ⊢
 refine ⟨⟨by unfold maxLen;omega,by omega⟩,fun h1=>?_,fun h1=>?_⟩
 ·simp only [bxx] at h1
  unfold awS
  simp only [go_sem,simprocAttr,decide_true,decide_false]
  refine drawC_of 32 .done rfl (by kernel_rfl) (by kernel_rfl) (by decide) ?_
  obtain ⟨a,ha⟩:∃ a,a=P.media.getD 0 default:=⟨_,rfl⟩
  obtain ⟨b,hb⟩:∃ b,b=P.media.getD 1 default:=⟨_,rfl⟩
  have n0:∀ d,nth d (P.media.map MediumR.c) 0=MediumR.c a:=fun d=>by rw [ha];exact nth_at (by omega) d
  have n1:∀ d,nth d (P.media.map MediumR.c) 1=MediumR.c b:=fun d=>by rw [hb];exact nth_at (by omega) d
  have hnr:∀ d r,nthV d ((tRows (P.media.map MediumR.c)).set 1 r) 1=r:=fun d r=>rows_nth MediumR.c (by omega) d r
  have hnq:∀ d r,nth d ((P.media.map MediumR.c).set 1 r) 1=r:=fun d r=>nth_set (by rw [List.length_map];omega) d r
  have hnl:∀ r,((P.media.map MediumR.c).set 1 r).length=P.media.length:=fun r=>by rw [List.length_set,List.length_map]
  have hnr:∀ d r,nthV d ((tRows (P.media.map MediumR.c)).set 1 r) 1=r:=fun d r=>rows_nth MediumR.c (by omega) d r
  simp only [go_sem,simprocAttr,decide_true,decide_false,n0,n1,vmed_s,vmed_137,vmed_138,vmed_139,vsq_len,rows_len,List.set_set,hnr,vput_s,vput_137,vput_138,vput_139]
  refine ⟨by omega,by omega,by omega,by omega,by omega,by omega,by omega,by omega,by omega,⟨vsq_cell a,by omega⟩,by omega,by omega,by omega,by omega,by omega,by omega,chkQ (by kernel_rfl),?_⟩
  rw [rows_setG MediumR.c (sizeAs a b) (sizeAs_t a b)]
  have eM:medM P.media=P.media.set 1 (sizeAs a b):=by unfold medM;rw [if_pos (by omega),ha,hb]
  have hl1:(P.media.set 1 (sizeAs a b)).length=P.media.length:=List.length_set
  have m0:∀ d,nth d ((P.media.set 1 (sizeAs a b)).map MediumR.c) 0=MediumR.c a:=fun d=>by
   rw [nth_at (by omega),ha,List.getD_eq_getElem?_getD,List.getElem?_set_ne (by decide), ← List.getD_eq_getElem?_getD]
  rw [eM, ← ha]
  simp only [go_sem,simprocAttr,decide_true,decide_false,m0,hl1,vmed_141]
  refine ⟨by omega,by omega,⟨by unfold maxLen;omega,by omega⟩,?_⟩
  refine pureW_pd (d:=Tryz.z82.map T.lit) (R:=(P.media.set 1 (sizeAs a b)).map MediumR.c ++ [MediumR.c { a with name:=spareN }]) ?_ ?_
  ·simp only [go_sem,simprocAttr,decide_true,decide_false]
   rfl
  ·rw [List.map_append]
   rfl
 ·simp only [bxx] at h1
  have eM:medM P.media=P.media:=by unfold medM;rw [if_neg (by omega)]
  rw [eM]
  obtain ⟨a,ha⟩:∃ a,a=P.media.getD 0 default:=⟨_,rfl⟩
  have n0:∀ d,nth d (P.media.map MediumR.c) 0=MediumR.c a:=fun d=>by rw [ha];exact nth_at (by omega) d
  unfold awS
  simp only [go_sem,simprocAttr,decide_true,decide_false,n0,vmed_s,vmed_137,vmed_138,vmed_139,vsq_len,vmed_141]
  refine ⟨by omega,by omega,⟨by unfold maxLen;omega,by omega⟩,?_⟩
  rw [← ha]
  refine pureW_pd (d:=Tryz.z82.map T.lit) (R:=P.media.map MediumR.c ++ [MediumR.c { a with name:=spareN }]) ?_ ?_
  ·simp only [go_sem,simprocAttr,decide_true,decide_false]
   rfl
  ·rw [List.map_append]
   rfl
open Go.RowKit
set_option maxRecDepth 4000
theorem cSumN:CPure Tryz.prog 68 [.t (.lit (.slice none 0 0))] (vu64 14695981039346656037):=by
 refine cpure_of Tryz.xen68 Tryz.func68 rfl Tryz.ntmps68 (by rw [Tryz.results68]) (aw_ok _ ?_)
 simp only [go_sem,simprocAttr,decide_true,decide_false]
 refine awp_loop_f (fun (k:Nat) σ => σ) (fun k=>k=0) (fun k=>0) 0 (weak_self ?_) rfl ?_
 ·simp only [go_sem,simprocAttr,decide_true,decide_false]
 ·rintro k rfl
  refine aw_ok _ ?_
  simp only [go_sem,simprocAttr,decide_true,decide_false]
def nF:ByteArray:=⟨#[102]⟩
def nA:ByteArray:=⟨#[97]⟩
def e0:ByteArray:=⟨#[]⟩
def aEs:List EventR:=[⟨1,e0,nF,e0,7⟩,⟨3,nA,nF,e0,0⟩,⟨2,e0,nF,e0,0⟩,⟨1,e0,nF,e0,7⟩]
def aSt:StateR:=⟨[⟨nF,7,true⟩],[⟨nA,nF,7,e0⟩]⟩
theorem a_run:runFrom ⟨[],[]⟩ aEs=(aSt,[⟨nA,1⟩,⟨nA,3⟩,⟨nA,1⟩],[0,0,0,0]):=by kernel_rfl
theorem a_st0:status ⟨[],[]⟩ nA=0:=by kernel_rfl
theorem a_st1:status aSt nA=1:=by kernel_rfl
theorem cAwake36:CPure Tryz.prog 24 [] (vbool true):=by
 have c1:=cPRun ⟨[],[]⟩ aEs ok_nil (by decide) (by decide)
 rw [a_run] at c1
 have c2:=cStatus ⟨[],[]⟩ nA (by decide) (by decide)
 rw [a_st0] at c2
 have c3:=cStatus aSt nA (by decide) (by decide)
 rw [a_st1] at c3
 refine cpure_of Tryz.xen24 Tryz.func24 rfl Tryz.ntmps24 (by rw [Tryz.results24]) (aw_ok _ ?_)
 simp only [go_sem,simprocAttr,decide_true,decide_false]
 refine lcall_give ?_
 simp only [go_sem,simprocAttr,decide_true,decide_false]
 refine ⟨_,cpure_as (.cons (as_impAgg (by exact ⟨as_nilL,as_nilL,trivial⟩)) (.cons as_refl .nil)) c1,?_⟩
 simp only [go_sem,simprocAttr,decide_true,decide_false]
 refine ⟨_,cSumN,?_⟩
 simp only [go_sem,simprocAttr,decide_true,decide_false]
 refine ⟨_,cpure_as (.cons (as_impAgg (by exact ⟨as_nilL,as_nilL,trivial⟩)) (.cons as_refl .nil)) c2,?_⟩
 simp only [go_sem,simprocAttr,decide_true,decide_false]
 refine ⟨_,c3,?_⟩
 have t0:∀ (d x:List T) (l:List (List T)),nth d (x::l) 0=x:=fun _ _ _=>rfl
 have t1:∀ (d x y:List T) (l:List (List T)),nth d (x::y::l) 1=y:=fun _ _ _ _=>rfl
 have t2:∀ (d x y z:List T) (l:List (List T)),nth d (x::y::z::l) 2=z:=fun _ _ _ _ _=>rfl
 simp only [go_sem,simprocAttr,decide_true,decide_false,t0,t1,t2]
open Go.RowKit
set_option maxRecDepth 4000
def LinkG (l:LinkR):Prop:=(l.file=bF0∨l.file=bF1∨l.file=bF2)∧(l.proxy=bNil∨l.proxy=bSpare∨l.proxy=bM1)
def EvG (e:EventR):Prop:=(e.kind≠5→(e.file=bF0∨e.file=bF1∨e.file=bF2))∧(e.kind≤5)∧(e.proxy=bNil∨e.proxy=bSpare∨e.proxy=bM1)
theorem pickB_mem {l:List ByteArray} {n:Int} (h0 : 0≤n) (h:n<l.length):pickB l n∈l:=by
 unfold pickB
 rw [List.getD_eq_getElem?_getD,List.getElem?_eq_getElem (by omega)]
 exact List.getElem_mem _
theorem ev1_good (L:List Int) (k:Nat):EvG (ev1 L k).1:=by
 have t9:=tapeN_lt (L:=L) (k:=k) (n:=9) (by omega)
 have t3:=tapeN_lt (L:=L) (k:=k+1) (n:=3) (by omega)
 have t5:=tapeN_lt (L:=L) (k:=k+3) (n:=4) (by omega)
 have hf:=pickB_mem (l:=[bF0,bF1,bF2]) t3.1 t3.2
 have hp:=pickB_mem (l:=[bNil,bSpare,bM1,bSpare]) t5.1 t5.2
 simp only [List.mem_cons,List.not_mem_nil,or_false] at hf hp
 have hk:pickI [1,1,1,2,3,3,3,4,5] (tapeN L k 9)≤5:=by
  have:(tapeN L k 9).toNat=0∨(tapeN L k 9).toNat=1∨(tapeN L k 9).toNat=2∨(tapeN L k 9).toNat=3∨(tapeN L k 9).toNat=4∨(tapeN L k 9).toNat=5∨(tapeN L k 9).toNat=6∨(tapeN L k 9).toNat=7∨(tapeN L k 9).toNat=8:=by omega
  unfold pickI
  rcases this with h | h | h | h | h | h | h | h | h<;>rw [h]<;>decide
 unfold ev1
 simp only
 split
 ·exact ⟨fun _=>hf,by simp only;omega, .inl rfl⟩
 ·split
  ·exact ⟨fun _=>hf,by simp only;omega, .inl rfl⟩
  ·split
   ·exact ⟨fun h=>absurd rfl h,by simp only;omega,by rcases hp with h | h | h | h<;>rw [h]<;>simp⟩
   ·exact ⟨fun _=>hf,hk, .inl rfl⟩
theorem evGo_good (L:List Int):∀ (c k:Nat), ∀ e∈(evGo L c k).1,EvG e
 | 0,k,e,h=>by cases h
 | c+1,k,e,h=>by
  simp only [evGo] at h
  rcases List.mem_cons.1 h with rfl | h
  ·exact ev1_good L k
  ·exact evGo_good L c _ e h
theorem evs_good (L:List Int) (k:Nat) (n:Int):∀ e∈(evsL L k n).1,EvG e:=evGo_good L _ _
theorem getD_set_mem {α : Type} [Inhabited α] {P : α → Prop} {l:List α} {j:Nat} {x : α} (h:∀ y∈l,P y) (hx:j<l.length→P x):∀ y∈l.set j x,P y:=by
 intro y hy
 by_cases hj:j<l.length
 ·rcases mem_set_or hy with hy | rfl
  ·exact h y hy
  ·exact hx hj
 ·rw [List.set_eq_of_length_le (by omega)] at hy
  exact h y hy
theorem perform_links {s:StateR} {e:EventR} (hs:∀ l∈s.links,LinkG l) (he:EvG e) (hv : 1≤e.kind):∀ l∈(performS s e).2.links,LinkG l:=by
 have hf:=he.1
 have hp:=he.2.2
 unfold performS
 split
 ·unfold arriveS
  split
  ·exact hs
  ·split<;>exact hs
 ·split
  ·unfold leaveS
   split<;>exact hs
  ·split
   ·rename_i h3
    unfold connectS
    split
    ·exact hs
    ·split
     ·split
      ·exact hs
      ·intro l hl
       rcases List.mem_append.1 hl with hl | hl
       ·exact hs l hl
       ·rw [List.mem_singleton] at hl
        subst hl
        exact ⟨hf (by omega), .inl rfl⟩
     ·exact hs
   ·split
    ·rename_i h4
     unfold relinkS
     split
     ·exact hs
     ·exact getD_set_mem hs fun hj=>⟨hf (by omega),(hs _ (mem_getD hj)).2⟩
    ·unfold attachS
     split
     ·exact hs
     ·split
      ·exact hs
      ·exact getD_set_mem hs fun hj=>⟨(hs _ (mem_getD hj)).1,hp⟩
theorem validEv_kind {e:EventR} (h:validEv e=true) : 1≤e.kind∧e.kind≤5:=by
 apply Classical.byContradiction
 intro hc
 unfold validEv at h
 rw [if_neg (by omega),if_neg (by omega),if_neg (by omega),if_neg (by omega)] at h
 cases h
theorem run_links:∀ (es:List EventR) (acc:StateR×List OutR×List Int),(∀ e∈es,EvG e)→Ok acc.1→(∀ l∈acc.1.links,LinkG l)→Ok (es.foldl runStep acc).1 ∧ ∀ l∈(es.foldl runStep acc).1.links,LinkG l
 | [],acc,_,h1,h2=>⟨h1,h2⟩
 | e::r,acc,he,h1,h2=>by
  refine run_links r (runStep acc e) (fun x hx=>he x (by simp [hx])) (runStep_ok e h1) ?_
  unfold runStep
  split
  ·rename_i h0
   obtain ⟨q1,q2⟩:=step_inv h1 h0
   rw [step_eq h1 q1 q2]
   exact perform_links h2 (he e (by simp)) (validEv_kind q1).1
  ·exact h2
def madeS (L:List Int):StateR:=(runFrom ⟨[],[]⟩ (evsL L 0 14).1).1
theorem madeS_ok (L:List Int):Ok (madeS L) ∧ ∀ l∈(madeS L).links,LinkG l:=run_links _ _ (evs_good L 0 14) ok_nil (fun l hl=>by cases hl)
def otherN:ByteArray:=⟨#[111,116,104,101,114]⟩
def alienN:ByteArray:=⟨#[97,108,105,101,110]⟩
def oEs (sum:Int):List EventR:=[⟨1,bNil,otherN,bNil,sum⟩,⟨3,alienN,otherN,bNil,0⟩,⟨2,bNil,otherN,bNil,0⟩]
structure SameBut (s t:StateR):Prop where
 ok:Ok t
 lk:∀ n,n≠alienN→linkL t.links n=linkL s.links n
 fl:∀ n,n≠otherN→fileL t.files n=fileL s.files n
theorem size_good {a b:MediumR} (ha:MedGood 0 a) (hb:MedGood 1 b):MedGood 1 (sizeAs a b):=by
 have h1:=ha.ok
 have h2:=hb.ok
 refine ⟨hb.name,?_,⟨ha.fit.seq,ha.fit.frames,ha.fit.channels,ha.fit.samples,hb.fit.cues⟩,?_⟩
 ·unfold medOk at h1 h2 ⊢
  unfold sizeAs
  simp only [Bool.and_eq_true] at h1 h2 ⊢
  exact ⟨⟨⟨⟨⟨h2.1.1.1.1.1,h1.1.1.1.1.2⟩,h1.1.1.1.2⟩,h1.1.1.2⟩,h1.1.2⟩,h2.2⟩
 ·have:=hb.small
  unfold medSmall at this ⊢
  exact this
theorem medM_len (M:List MediumR):(medM M).length=M.length:=by
 unfold medM
 split<;>simp
theorem medM_at {M:List MediumR} {x:Nat} (hx:x<M.length):(medM M).getD x default=if x=1 then sizeAs (M.getD 0 default) (M.getD 1 default) else M.getD x default:=by
 unfold medM
 split
 ·rename_i h1
  rw [List.getD_eq_getElem?_getD,List.getElem?_set]
  by_cases h:x=1
  ·subst h
   simp [h1]
  ·rw [if_neg (fun e=>h e.symm),if_neg h,List.getD_eq_getElem?_getD]
 ·rename_i h1
  rw [if_neg (by omega)]
theorem proj36_ok (L:List Int):∃ M N,SpareP (proj36 L) M N:=by
 obtain ⟨M,N,m1,m3,s1,s3,h1,h2,h3,h4⟩:=projT_parts L
 have hl:=medM_len (projT L).media
 have h0:(medM (projT L).media).getD 0 default=(projT L).media.getD 0 default:=by rw [medM_at (by omega),if_neg (by decide)]
 refine ⟨M,N,m1,m3,s1,s3,?_,h2,fun x hx=>?_,?_,h4⟩
 ·unfold proj36
  rw [List.length_append,hl]
  simp [h1]
 ·unfold proj36
  simp only
  rw [app_at _ (by omega),medM_at (by omega)]
  by_cases hx1:x=1
  ·subst hx1
   rw [if_pos rfl]
   exact size_good (h3 0 (by omega)) (h3 1 hx)
  ·rw [if_neg hx1]
   exact h3 x hx
 ·unfold proj36
  simp only
  rw [app_at _ (by omega : 0<(medM (projT L).media).length),h0,show M=(medM (projT L).media).length by omega,app_end]
def s0N:ByteArray:=⟨#[115,48]⟩
theorem s0_eq:nameB ⟨#[115]⟩ ((0:Nat):Int)=s0N:=ByteArray.ext (by kernel_rfl)
theorem SpareP.uses0 {p:ProjR} {M N:Nat} (h:SpareP p M N):(usesP p s0N).2=0:=by
 have hn:=h.hn
 have h1:=h.n1
 have e:seqOf p.seqs s0N=some (p.seqs.getD 0 default):=by
  have hl:lastOf SequenceR.name (p.seqs.getD 0 default).name p.seqs=_:=lastOf_at h.lay.ns (by omega)
  rw [(h.seq 0 (by omega)).name,s0_eq] at hl
  exact hl
 unfold usesP
 rw [layered_valid h.lay,e]
 rfl
end Go.Proofs.YtbfnemkngoaeeaaGreat
