/- Proved here: The projects that the statements about films make are valid, for use in the proofs of the given statements; conditions stand in each theorem. -/
import Derived.Test.YtinobebofhbnnaaGreatYS
import Derived.Test.YtinobebofhbnnaaGreatWA
set_option linter.unusedSimpArgs false
set_option linter.unusedVariables false
set_option linter.unusedSectionVars false
set_option linter.unnecessarySimpa false
namespace Go.Proofs.YtinobebofhbnnaaGreat
open Go.RowKit
set_option maxRecDepth 4000
structure SrcP (p:ProjR) (x:SourceR):Prop where
 m1:x.kind=1 → ∃ i,i<p.media.length∧(p.media.getD i default).name=x.name
 s2:x.kind=2 → ∃ i,i<p.seqs.length∧(p.seqs.getD i default).name=x.name
theorem srcThere_of {p:ProjR} {x:SourceR} (h:SrcP p x):srcThere p x=true:=by
 unfold srcThere
 have h1:(x.kind==1&&(medOf p.media x.name).isNone)=false:=by
  by_cases hk:x.kind=1
  ·obtain ⟨i,hi,hn⟩:=h.m1 hk
   cases e:medOf p.media x.name with
   | some _=>simp
   | none=>exact absurd hn (lastOf_none.1 e _ (mem_getD hi))
  ·simp [hk]
 have h2:(x.kind==2&&(seqOf p.seqs x.name).isNone)=false:=by
  by_cases hk:x.kind=2
  ·obtain ⟨i,hi,hn⟩:=h.s2 hk
   cases e:seqOf p.seqs x.name with
   | some _=>simp
   | none=>exact absurd hn (lastOf_none.1 e _ (mem_getD hi))
  ·simp [hk]
 rw [h1,h2]
 rfl
structure TrkP (p:ProjR) (t:List ClipR):Prop where
 ok:vTrack t=true
 cl:∀ c∈t,c.fit∧silentB c=true∧SrcP p c.a∧SrcP p c.b
structure SeqIn (p:ProjR) (n:ByteArray) (ts:List (List ClipR)):Prop where
 name:vName n=true
 fresh:∀ q∈p.seqs,q.name≠n
 len:ts.length≤8
 trk:∀ t∈ts,TrkP p t
theorem there_trk {p:ProjR} {t:List ClipR} (h:TrkP p t):∀ c∈t,1≤c.len∧clipThere p c=true:=by
 intro c hc
 obtain ⟨h1,h2,h3,h4⟩:=h.cl c hc
 have hv:=(track_all h.ok).2.1 c hc
 unfold clipThere
 rw [srcThere_of h3,srcThere_of h4]
 exact ⟨(vClip_len hv).1,rfl⟩
theorem tSeq_ok {p:ProjR} {n:ByteArray} {ts:List (List ClipR)} (h:SeqIn p n ts):seqOk (tSeq n ts)=true∧seqSmall (tSeq n ts)=true:=by
 have e1:ts.all vidOk=true:=List.all_eq_true.2 fun t ht=>by
  unfold vidOk
  rw [(h.trk t ht).ok,List.all_eq_true.2 fun c hc=>((h.trk t ht).cl c hc).2.1]
  rfl
 have e2:rateOk ⟨25,1⟩=true:=of_decide_eq_true (by kernel_rfl)
 have e3:sizeOk 16=true:=by decide
 have e4:chanOk 0=true:=by decide
 constructor
 ·unfold seqOk seqHdOk
  simp only [tSeq,h.name,e1,e2,e3,e4]
  rfl
 ·show (decide ((ts.length:Int)≤8)&&decide (((0:Nat):Int)≤8)&&decide (((0:Nat):Int)≤64))=true
  rw [decide_eq_true (show ((ts.length:Nat):Int)≤8 by have:=h.len;omega)]
  rfl
theorem tSeq_fit {p:ProjR} {n:ByteArray} {ts:List (List ClipR)} (h:SeqIn p n ts):(tSeq n ts).fit:=by
 have i0:I64 0:=⟨by decide,by decide⟩
 have i16:I64 16:=⟨by decide,by decide⟩
 have r:(⟨25,1⟩:RatR).fit:=⟨⟨by decide,by decide⟩,⟨by decide,by decide⟩⟩
 exact ⟨r,i16,i16,fun t ht c hc=>((h.trk t ht).cl c hc).1,fun t ht=>(by cases ht),fun c hc=>(by cases hc),i0⟩
theorem getD_app {α : Type} [Inhabited α] (l:List α) (x : α) {i:Nat} (h:i<l.length):(l ++ [x]).getD i default=l.getD i default:=by
 rw [List.getD_eq_getElem?_getD,List.getD_eq_getElem?_getD,List.getElem?_append_left h]
theorem getD_app_last {α : Type} [Inhabited α] (l:List α) (x : α):(l ++ [x]).getD l.length default=x:=by
 rw [List.getD_eq_getElem?_getD,List.getElem?_append_right (Nat.le_refl _),Nat.sub_self]
 rfl
theorem srcs_in {n:ByteArray} {ts:List (List ClipR)} {x:SourceR} (hx:x∈srcsOf (tSeq n ts)):∃ t∈ts, ∃ c∈t,x=c.a∨x=c.b:=by
 unfold srcsOf srcsF at hx
 obtain ⟨c,hc,hx⟩:=List.mem_flatMap.1 (List.mem_filter.1 hx).1
 unfold clipsOf tSeq at hc
 obtain ⟨t,ht,hct⟩:=List.mem_flatten.1 hc
 rw [List.append_nil] at ht
 exact ⟨t,ht,c,hct,by simpa using hx⟩
theorem lay_add {p:ProjR} {n:ByteArray} {ts:List (List ClipR)} (h:Layered p) (hs:SeqIn p n ts) (hl:p.seqs.length≤4):Layered (addP p (tSeq n ts)):=by
 obtain ⟨o1,o2⟩:=tSeq_ok hs
 have key:∀ x∈srcsOf (tSeq n ts),SrcP p x:=fun x hx=>by
  obtain ⟨t,ht,c,hc,hx⟩:=srcs_in hx
  obtain ⟨_,_,h3,h4⟩:=(hs.trk t ht).cl c hc
  rcases hx with rfl | rfl<;>assumption
 refine ⟨?_,?_,h.nm,?_,?_,fun j hj x hx k1=>?_,fun j hj x hx k2=>?_⟩
 ·have:=h.small
  unfold smallB at this
  simp only [Bool.and_eq_true,decide_eq_true_eq] at this
  show (decide ((p.media.length:Int)≤16)&&decide (((p.seqs ++ [tSeq n ts]).length:Int)≤16)&&p.media.all medSmall&&(p.seqs ++ [tSeq n ts]).all seqSmall)=true
  rw [decide_eq_true this.1.1.1,decide_eq_true (show ((p.seqs ++ [tSeq n ts]).length:Int)≤16 by rw [List.length_append];simp only [List.length_cons,List.length_nil];omega),this.1.2,List.all_append,this.2]
  simp [o2]
 ·have:=h.ok
  rw [Bool.and_eq_true] at this
  show (p.media.all medOk&&(p.seqs ++ [tSeq n ts]).all seqOk)=true
  rw [this.1,List.all_append,this.2]
  simp [o1]
 ·unfold addP
  rw [List.map_append]
  refine List.nodup_append.2 ⟨h.ns,by simp,fun a ha b hb=>?_⟩
  obtain ⟨q,hq,rfl⟩:=List.mem_map.1 ha
  simp only [List.map_cons,List.map_nil,List.mem_cons,List.not_mem_nil,or_false] at hb
  rw [hb]
  exact hs.fresh q hq
 ·simp only [addP,List.length_append,List.length_cons,List.length_nil]
  omega
 ·simp only [addP,List.length_append,List.length_cons,List.length_nil] at hj hx ⊢
  by_cases hj2:j<p.seqs.length
  ·rw [getD_app _ _ hj2] at hx
   exact h.m1 j hj2 x hx k1
  ·have:j=p.seqs.length:=by omega
   subst this
   rw [getD_app_last] at hx
   exact (key x hx).m1 k1
 ·simp only [addP,List.length_append,List.length_cons,List.length_nil] at hj hx ⊢
  by_cases hj2:j<p.seqs.length
  ·rw [getD_app _ _ hj2] at hx
   obtain ⟨i,hi,hn⟩:=h.s2 j hj2 x hx k2
   exact ⟨i,hi,by rw [getD_app _ _ (by omega)];exact hn⟩
  ·have:j=p.seqs.length:=by omega
   subst this
   rw [getD_app_last] at hx
   obtain ⟨i,hi,hn⟩:=(key x hx).s2 k2
   exact ⟨i,hi,by rw [getD_app _ _ hi];exact hn⟩
theorem fit_add {p:ProjR} {n:ByteArray} {ts:List (List ClipR)} (h:p.fit) (hs:SeqIn p n ts):(addP p (tSeq n ts)).fit:=by
 refine ⟨h.media,fun s hx=>?_⟩
 unfold addP at hx
 rcases List.mem_append.1 hx with hx | hx
 ·exact h.seqs s hx
 ·simp only [List.mem_cons,List.not_mem_nil,or_false] at hx
  subst hx
  exact tSeq_fit hs
theorem medMade_good (L:List Int) (i k:Nat) (hi:i<9):MedGood i (medMade L i k):=by
 have t40:=tapeN_lt (L:=L) (k:=k) (n:=40) (by omega)
 have i0:I64 0:=⟨by decide,by decide⟩
 have e1:vName (nameB ⟨#[109]⟩ (i:Int))=true:=(tape_name (i:Int) (by omega) (by omega)).2
 have e2:rateOk ⟨25,1⟩=true:=of_decide_eq_true (by kernel_rfl)
 have r:(⟨25,1⟩:RatR).fit:=⟨⟨by decide,by decide⟩,⟨by decide,by decide⟩⟩
 refine ⟨rfl,?_,⟨⟨i0,i0,r,i0,i0⟩,small64 (by simp only [medMade];omega) (by simp only [medMade];omega),i0,i0,fun c hc=>(by cases hc)⟩,?_⟩
 ·show (vName (nameB ⟨#[109]⟩ (i:Int))&&rateOk ⟨25,1⟩&&(decide (0≤5+tapeN L k 40)&&decide (5+tapeN L k 40≤2147483647))&&countOk 0&&chanOk 0&&cuesOk [])=true
  rw [e1,e2,decide_eq_true (show 0≤5+tapeN L k 40 by omega),decide_eq_true (show 5+tapeN L k 40≤2147483647 by omega)]
  rfl
 ·rfl
theorem trk_vid (L:List Int) (k:Nat) (s most:Int) (hs:s≤9) (h0 : 0≤most) (h9:most≤9):vTrack (trkAt L k 3 s most).1=true ∧ ∀ c∈(trkAt L k 3 s most).1,c.fit∧VidOk 3 s c:=by
 obtain ⟨n1,n2⟩:=trkAt_facts L k 3 s most (by omega) hs h0 h9
 exact ⟨vTrack_nice n1 (by omega),fun c hc=>⟨(n1 c hc).fit,trkGo_vid L 3 s (by omega) hs _ _ c hc⟩⟩
def mM (L:List Int):ProjR:=⟨[medMade L 0 0,medMade L 1 1,medMade L 2 2],[]⟩
def mS0 (L:List Int):ProjR:=addP (mM L) (tSeq (nameB ⟨#[115]⟩ 0) (madeV L 0 3).1)
theorem mM_name (L:List Int) (p:ProjR) (hp:p.media=(mM L).media) {i:Nat} (hi:(i:Int)<3):i<p.media.length∧(p.media.getD i default).name=nameB ⟨#[109]⟩ i:=by
 rw [hp]
 have:i=0∨i=1∨i=2:=by omega
 rcases this with rfl | rfl | rfl<;>exact ⟨by simp [mM],rfl⟩
theorem srcP_of {L:List Int} {p:ProjR} {s:Int} {x:SourceR} (hp:p.media=(mM L).media) (hs:∀ i:Nat,(i:Int)<s→i<p.seqs.length∧(p.seqs.getD i default).name=nameB ⟨#[115]⟩ i) (h:SrcIn 3 s x):SrcP p x:=by
 refine ⟨fun k1=>?_,fun k2=>?_⟩
 ·obtain ⟨i,hi,hn⟩:=h.m1 k1
  obtain ⟨q1,q2⟩:=mM_name L p hp hi
  exact ⟨i,q1,by rw [q2,hn]⟩
 ·obtain ⟨i,hi,hn⟩:=h.s2 k2
  obtain ⟨q1,q2⟩:=hs i hi
  exact ⟨i,q1,by rw [q2,hn]⟩
theorem trkP_of {L:List Int} {p:ProjR} {s:Int} {t:List ClipR} (hp:p.media=(mM L).media) (hs:∀ i:Nat,(i:Int)<s→i<p.seqs.length∧(p.seqs.getD i default).name=nameB ⟨#[115]⟩ i) (hv:vTrack t=true) (h:∀ c∈t,c.fit∧VidOk 3 s c):TrkP p t :=
 ⟨hv,fun c hc=>⟨(h c hc).1,(h c hc).2.sil,srcP_of hp hs (h c hc).2.a,srcP_of hp hs (h c hc).2.b⟩⟩
theorem mM_lay (L:List Int):Layered (mM L):=by
 have g0:=medMade_good L 0 0 (by omega)
 have g1:=medMade_good L 1 1 (by omega)
 have g2:=medMade_good L 2 2 (by omega)
 have hnm:((mM L).media.map MediumR.name).Nodup:=by
  have e:(mM L).media.map MediumR.name = [nameB ⟨#[109]⟩ 0,nameB ⟨#[109]⟩ 1,nameB ⟨#[109]⟩ 2]:=rfl
  rw [e]
  have d:(nameB ⟨#[109]⟩ 0≠nameB ⟨#[109]⟩ 1∧nameB ⟨#[109]⟩ 0≠nameB ⟨#[109]⟩ 2)∧nameB ⟨#[109]⟩ 1≠nameB ⟨#[109]⟩ 2 :=
   ⟨⟨fun h=>absurd (nm_inj (i:=0) (j:=1) (by omega) (by omega) (.inl h)) (by decide),fun h=>absurd (nm_inj (i:=0) (j:=2) (by omega) (by omega) (.inl h)) (by decide)⟩,fun h=>absurd (nm_inj (i:=1) (j:=2) (by omega) (by omega) (.inl h)) (by decide)⟩
  simp [d.1.1,d.1.2,d.2]
 refine ⟨?_,?_,hnm,by simp [mM],by simp [mM],fun j hj=>(by simp [mM] at hj),fun j hj=>(by simp [mM] at hj)⟩
 ·rfl
 ·show ([medMade L 0 0,medMade L 1 1,medMade L 2 2].all medOk&&true)=true
  simp [g0.ok,g1.ok,g2.ok]
theorem mM_fit (L:List Int):(mM L).fit:=by
 refine ⟨fun y hy=>?_,fun y hy=>(by cases hy)⟩
 simp only [mM,List.mem_cons,List.not_mem_nil,or_false] at hy
 rcases hy with rfl | rfl | rfl
 ·exact (medMade_good L 0 0 (by omega)).fit
 ·exact (medMade_good L 1 1 (by omega)).fit
 ·exact (medMade_good L 2 2 (by omega)).fit
theorem madeV_in {L:List Int} {p:ProjR} {i k:Nat} (hi:i<9) (hp:p.media=(mM L).media) (hf:∀ q∈p.seqs,q.name≠nameB ⟨#[115]⟩ i) (hs:∀ j:Nat,(j:Int)<(i:Int)→j<p.seqs.length∧(p.seqs.getD j default).name=nameB ⟨#[115]⟩ j):SeqIn p (nameB ⟨#[115]⟩ i) (madeV L i k).1:=by
 refine ⟨(tape_name (i:Int) (by omega) (by omega)).1,hf,by simp [madeV],fun t ht=>?_⟩
 simp only [madeV,List.mem_cons,List.not_mem_nil,or_false] at ht
 rcases ht with rfl | rfl
 ·obtain ⟨h1,h2⟩:=trk_vid L k i 4 (by omega) (by omega) (by omega)
  exact trkP_of hp hs h1 h2
 ·obtain ⟨h1,h2⟩:=trk_vid L (trkAt L k 3 i 4).2 i 2 (by omega) (by omega) (by omega)
  exact trkP_of hp hs h1 h2
theorem mS0_in (L:List Int):SeqIn (mM L) (nameB ⟨#[115]⟩ ((0:Nat):Int)) (madeV L 0 3).1:=madeV_in (by omega) rfl (fun q hq=>(by cases hq)) fun j hj=>(by omega)
theorem made_in (L:List Int):SeqIn (mS0 L) (nameB ⟨#[115]⟩ ((1:Nat):Int)) (madeV L 1 (madeV L 0 3).2).1:=by
 refine madeV_in (by omega) rfl (fun q hq=>?_) fun j hj=>?_
 ·simp only [mS0,addP,mM,List.nil_append,List.mem_cons,List.not_mem_nil,or_false] at hq
  subst hq
  exact fun h=>absurd (nm_inj (i:=0) (j:=1) (by omega) (by omega) (.inr h)) (by decide)
 ·have:j=0:=by omega
  subst this
  exact ⟨by simp [mS0,addP,mM],rfl⟩
theorem madeP_eq (L:List Int):madeP L=addP (mS0 L) (tSeq (nameB ⟨#[115]⟩ ((1:Nat):Int)) (madeV L 1 (madeV L 0 3).2).1):=rfl
theorem made_lay (L:List Int):Layered (madeP L):=by
 rw [madeP_eq]
 exact lay_add (lay_add (mM_lay L) (mS0_in L) (by simp [mM])) (made_in L) (by simp [mS0,addP,mM])
theorem made_fit (L:List Int):(madeP L).fit:=by
 rw [madeP_eq]
 exact fit_add (fit_add (mM_fit L) (mS0_in L)) (made_in L)
theorem made_name (L:List Int):∀ i:Nat,(i:Int)<2→i<(madeP L).seqs.length∧((madeP L).seqs.getD i default).name=nameB ⟨#[115]⟩ i:=by
 intro i hi
 have:i=0∨i=1:=by omega
 rcases this with rfl | rfl<;>exact ⟨by simp [madeP],rfl⟩
theorem made_trk (L:List Int) (k:Nat) (s most:Int) (hs:s≤2) (h0 : 0≤most) (h9:most≤9):TrkP (madeP L) (trkAt L k 3 s most).1:=by
 obtain ⟨h1,h2⟩:=trk_vid L k s most (by omega) h0 h9
 exact trkP_of (s:=s) rfl (fun i hi=>made_name L i (by omega)) h1 h2
def FromC (t:List ClipR) (c:ClipR):Prop := ∃ d∈t,c.a=d.a∧c.b=d.b∧c.gain=d.gain∧c.chan=d.chan
theorem addLast_from {t:List ClipR} (n:Int):∀ l:List ClipR,(∀ c∈l,FromC t c) → ∀ c∈addLast l n,FromC t c
 | [],_,c,hc=>by cases hc
 | [d],h,c,hc=>by
  simp only [addLast,List.mem_cons,List.not_mem_nil,or_false] at hc
  subst hc
  exact h d (by simp)
 | d::e::l,h,c,hc=>by
  rw [addLast] at hc
  rcases List.mem_cons.1 hc with rfl | hc
  ·exact h c (by simp)
  ·exact addLast_from n (e::l) (fun x hx=>h x (by simp [hx])) c hc
theorem packGo_fromC (t:List ClipR):∀ k,k≤t.length → ∀ c∈packGo t k,FromC t c
 | 0,_,c,hc=>by cases hc
 | k+1,hk,c,hc=>by
  rw [packGo] at hc
  split at hc
  ·exact addLast_from _ _ (packGo_fromC t k (by omega)) c hc
  ·rcases List.mem_append.1 hc with hc | hc
   ·exact packGo_fromC t k (by omega) c hc
   ·simp only [List.mem_cons,List.not_mem_nil,or_false] at hc
    exact ⟨t.getD k default,mem_getD (by omega),by rw [hc],by rw [hc],by rw [hc],by rw [hc]⟩
theorem norm_from (t:List ClipR):∀ c∈normT t,FromC t c:=by
 intro c hc
 unfold normT at hc
 obtain ⟨k,e,_⟩:=cleanL_take (packT t)
 rw [e] at hc
 have hc:=List.mem_of_mem_take hc
 unfold packT packP at hc
 split at hc
 ·exact packGo_fromC t _ (Nat.le_refl _) c hc
 ·cases hc
theorem norm_trk {p:ProjR} {t:List ClipR} (h:TrkP p t):TrkP p (normT t):=by
 have hf:∀ c∈t,c.fit:=fun c hc=>(h.cl c hc).1
 refine ⟨norm_vTrack h.ok hf,fun c hc=>?_⟩
 obtain ⟨d,hd,e1,e2,e3,e4⟩:=norm_from t c hc
 obtain ⟨_,h2,h3,h4⟩:=h.cl d hd
 refine ⟨norm_fit h.ok hf c hc,?_,by rw [e1];exact h3,by rw [e2];exact h4⟩
 unfold silentB at h2 ⊢
 rw [e3,e4]
 exact h2
theorem madeT_trk (L:List Int):TrkP (madeP L) (madeT L):=norm_trk (made_trk L _ 2 5 (by omega) (by omega) (by omega))
theorem made_ok (L:List Int):FilmOk (madeP L):=filmOk_of (made_fit L) (layered_valid (made_lay L))
theorem t_name:vName ⟨#[116]⟩=true:=by kernel_rfl
theorem made_fresh (L:List Int) {n:ByteArray} (h0:nameB ⟨#[115]⟩ 0≠n) (h1:nameB ⟨#[115]⟩ 1≠n):∀ q∈(madeP L).seqs,q.name≠n:=by
 intro q hq
 simp only [madeP,List.mem_cons,List.not_mem_nil,or_false] at hq
 rcases hq with rfl | rfl
 ·exact h0
 ·exact h1
theorem nameB_01:nameB ⟨#[115]⟩ 0≠⟨#[116]⟩∧nameB ⟨#[115]⟩ 1≠⟨#[116]⟩:=by
 have e:∀ i:Int,(i=0∨i=1)→(nameB ⟨#[115]⟩ i).toList≠(⟨#[116]⟩:ByteArray).toList:=by
  rintro i (rfl | rfl)<;>exact of_decide_eq_true (by kernel_rfl)
 exact ⟨fun h=>e 0 (.inl rfl) (congrArg ByteArray.toList h),fun h=>e 1 (.inr rfl) (congrArg ByteArray.toList h)⟩
theorem t_in {L:List Int} {ts:List (List ClipR)} (hl:ts.length≤8) (h:∀ t∈ts,TrkP (madeP L) t):SeqIn (madeP L) ⟨#[116]⟩ ts:=⟨t_name,made_fresh L nameB_01.1 nameB_01.2,hl,h⟩
theorem film_made {L:List Int} {ts:List (List ClipR)} (hl:ts.length≤8) (h:∀ t∈ts,TrkP (madeP L) t) (n:Nat) (hn:n≤65536) :
  filmR (addP (madeP L) (tSeq ⟨#[116]⟩ ts)) ⟨#[116]⟩ 0 n=((List.range n).map (fun k:Nat=>trkE (madeP L) ts k),0):=by
 have hin:=t_in hl h
 have hv:=layered_valid (lay_add (made_lay L) hin (by simp [madeP]))
 have hs:seqOf (addP (madeP L) (tSeq ⟨#[116]⟩ ts)).seqs ⟨#[116]⟩=some (tSeq ⟨#[116]⟩ ts):=by
  unfold addP
  simp only
  rw [seqOf_add]
  exact if_pos rfl
 unfold filmR
 rw [hv,hs]
 simp only [ne_eq,not_true_eq_false,if_false]
 rw [if_neg (by omega),if_neg (by omega),Int.toNat_natCast]
 congr 1
 unfold filmL
 refine List.map_congr_left fun k hk=>?_
 rw [List.mem_range] at hk
 have hlt:late 0 k=false:=by unfold late;rw [decide_eq_false_iff_not];omega
 rw [hlt,if_neg (by decide),Int.zero_add]
 exact film_new (made_ok L) hin.fresh (fun t ht=>there_trk (h t ht)) k
open Go.RowKit
set_option maxRecDepth 4000
abbrev rawT (n:ByteArray) (ts:List (List ClipR)):List T:=[tstr n,ti 25,ti 1,ti 16,ti 16, .list 1 (trackC []) (ts.map trackC), .lit (.slice none 0 0), .lit (.slice none 0 0),ti 0]
abbrev zSqT:List T:=[tstr ⟨#[]⟩,ti 0,ti 0,ti 0,ti 0, .lit (.slice none 0 0), .lit (.slice none 0 0), .lit (.slice none 0 0),ti 0]
end Go.Proofs.YtinobebofhbnnaaGreat
