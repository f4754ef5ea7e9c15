/- Proved here: The first sequence of a tape's project has sound clips with small numbers, for use in the proofs of the given statements; conditions stand in each theorem. -/
import Derived.Test.YtkjdkbmfaamhaaaGreatYG
import Derived.Test.YtkjdkbmfaamhaaaGreatVD
import Derived.Test.YtkjdkbmfaamhaaaGreatVR
import Derived.Test.YtkjdkbmfaamhaaaGreatVU
import Derived.Test.YtkjdkbmfaamhaaaGreatVI
import Derived.Test.YtkjdkbmfaamhaaaGreatVT
set_option linter.unusedSimpArgs false
set_option linter.unusedVariables false
set_option linter.unusedSectionVars false
set_option linter.unnecessarySimpa false
namespace Go.Proofs.YtkjdkbmfaamhaaaGreat
open Go.RowKit
set_option maxRecDepth 4000
def smR (p q:RatR):Bool:=vRat p&&vRat q&&decide (p.num.natAbs≤256)&&decide (p.den.natAbs≤1024)&&decide (q.num.natAbs≤4096)&&decide (q.den.natAbs≤2048)
theorem sm_all:((List.range 40).all fun p=>(List.range 6).all fun j=>(List.range 9).all fun i=>smR (ratR (p:Int) (dens.getD j 0)) ⟨(speeds.getD i (0,0)).1,(speeds.getD i (0,0)).2⟩)=true:=by kernel_rfl
theorem tape_sm (L:List Int) (k k':Nat):smR (ratAt L k 40) (speedAt L k')=true:=by
 have h1:=tapeN_lt (L:=L) (k:=k) (n:=40) (by omega)
 have h2:=tapeN_lt (L:=L) (k:=k+1) (n:=6) (by omega)
 have h3:=tapeN_lt (L:=L) (k:=k') (n:=9) (by omega)
 have h:=sm_all
 rw [List.all_eq_true] at h
 have h4:=h (tapeN L k 40).toNat (by simp;omega)
 rw [List.all_eq_true] at h4
 have h5:=h4 (tapeN L (k+1) 6).toNat (by simp;omega)
 rw [List.all_eq_true] at h5
 have h6:=h5 (tapeN L k' 9).toNat (by simp;omega)
 unfold ratAt speedAt
 rwa [Int.toNat_of_nonneg h1.1] at h6
theorem smR_qb {p q:RatR} (h:smR p q=true):vRat p=true∧vRat q=true∧QB (toQ p) 256 1024∧QB (toQ q) 4096 2048:=by
 unfold smR at h
 simp only [Bool.and_eq_true,decide_eq_true_eq] at h
 obtain ⟨⟨⟨⟨⟨h1,h2⟩,h3⟩,h4⟩,h5⟩,h6⟩:=h
 obtain ⟨a1,a2⟩:=toQ_num h1
 obtain ⟨b1,b2⟩:=toQ_num h2
 exact ⟨h1,h2,⟨by rw [a1];exact h3,by omega⟩,⟨by rw [b1];exact h5,by omega⟩⟩
structure SrcSm (x:SourceR):Prop where
 k:x.kind=0∨x.kind=1
 r:x.kind=1→smR x.pos x.speed=true
theorem smz:SrcSm zSource:=⟨.inl rfl,fun h=>absurd h (by decide)⟩
theorem srcAt_sm (L:List Int) (k:Nat) (m:Int):SrcSm (srcAt L k m 0).1:=by
 unfold srcAt
 split
 ·exact smz
 ·split
  ·rename_i h1
   simp at h1
  ·split
   ·exact ⟨.inr rfl,fun _=>tape_sm L (k+1) (k+3)⟩
   ·exact smz
theorem quiet_sm {x:SourceR} (h:SrcSm x):SrcSm (quiet x):=⟨h.k,h.r⟩
structure SndSm (c:ClipR):Prop where
 k:c.kind=0∨c.kind=1∨c.kind=2
 t:c.total≤1000
 a:SrcSm c.a
 b:SrcSm c.b
theorem soundAt0_sm (L:List Int) (k:Nat) (m:Int):SndSm (soundAt0 L k m 0).1:=by
 have n9:=tapeN_lt (L:=L) (k:=k) (n:=9) (by omega)
 have n4:=tapeN_lt (L:=L) (k:=k+1) (n:=4) (by omega)
 obtain ⟨kd,hkd⟩:∃ kd,sKinds.getD (tapeN L (k+1) 4).toNat 0=kd:=⟨_,rfl⟩
 have hk5:kd=0∨kd=1∨kd=2:=by
  have:(tapeN L (k+1) 4).toNat=0∨(tapeN L (k+1) 4).toNat=1∨(tapeN L (k+1) 4).toNat=2∨(tapeN L (k+1) 4).toNat=3:=by omega
  unfold sKinds at hkd
  rcases this with h | h | h | h<;>rw [h] at hkd<;>simp at hkd<;>omega
 obtain ⟨len,hlen⟩:∃ len,1+tapeN L k 9=len:=⟨_,rfl⟩
 have ia:=srcAt_sm L (k+2) m
 have ib:=srcAt_sm L (srcAt L (k+2) m 0).2 m
 generalize ha:srcAt L (k+2) m 0=a at ia ib
 generalize hb:srcAt L a.2 m 0=b at ib
 have o3:=tapeN_lt (L:=L) (k:=b.2) (n:=3) (by omega)
 have p3:=tapeN_lt (L:=L) (k:=b.2+1) (n:=3) (by omega)
 unfold soundAt0
 simp only [hkd,hlen,ha,hb]
 rcases hk5 with rfl | rfl | rfl
 ·exact ⟨.inl rfl,show (0:Int)≤1000 by decide,smz,smz⟩
 ·exact ⟨.inr (.inl rfl),show (0:Int)≤1000 by decide,quiet_sm ia,smz⟩
 ·exact ⟨.inr (.inr rfl),show tapeN L b.2 3+len+tapeN L (b.2+1) 3≤1000 by omega,quiet_sm ia,quiet_sm ib⟩
theorem soundAt1_sm (L:List Int) (k:Nat) (m:Int):SndSm (soundAt1 L k m 0).1:=by
 have n9:=tapeN_lt (L:=L) (k:=k) (n:=9) (by omega)
 have n4:=tapeN_lt (L:=L) (k:=k+1) (n:=4) (by omega)
 obtain ⟨kd,hkd⟩:∃ kd,sKinds.getD (tapeN L (k+1) 4).toNat 0=kd:=⟨_,rfl⟩
 have hk5:kd=0∨kd=1∨kd=2:=by
  have:(tapeN L (k+1) 4).toNat=0∨(tapeN L (k+1) 4).toNat=1∨(tapeN L (k+1) 4).toNat=2∨(tapeN L (k+1) 4).toNat=3:=by omega
  unfold sKinds at hkd
  rcases this with h | h | h | h<;>rw [h] at hkd<;>simp at hkd<;>omega
 obtain ⟨len,hlen⟩:∃ len,1+tapeN L k 9=len:=⟨_,rfl⟩
 have ia:=srcAt_sm L (k+2) m
 have ib:=srcAt_sm L (srcAt L (k+2) m 0).2 m
 generalize ha:srcAt L (k+2) m 0=a at ia ib
 generalize hb:srcAt L a.2 m 0=b at ib
 have o3:=tapeN_lt (L:=L) (k:=b.2) (n:=3) (by omega)
 have p3:=tapeN_lt (L:=L) (k:=b.2+1) (n:=3) (by omega)
 unfold soundAt1
 simp only [hkd,hlen,ha,hb]
 rcases hk5 with rfl | rfl | rfl
 ·exact ⟨.inl rfl,show (0:Int)≤1000 by decide,smz,smz⟩
 ·exact ⟨.inr (.inl rfl),show (0:Int)≤1000 by decide,quiet_sm ia,smz⟩
 ·exact ⟨.inr (.inr rfl),show tapeN L b.2 3+len+tapeN L (b.2+1) 3≤1000 by omega,quiet_sm ia,quiet_sm ib⟩
theorem soundAt_sm (L:List Int) (k:Nat) (m:Int):SndSm (soundAt L k m 0).1:=by
 have n9:=tapeN_lt (L:=L) (k:=k) (n:=9) (by omega)
 have n4:=tapeN_lt (L:=L) (k:=k+1) (n:=4) (by omega)
 obtain ⟨kd,hkd⟩:∃ kd,sKinds.getD (tapeN L (k+1) 4).toNat 0=kd:=⟨_,rfl⟩
 have hk5:kd=0∨kd=1∨kd=2:=by
  have:(tapeN L (k+1) 4).toNat=0∨(tapeN L (k+1) 4).toNat=1∨(tapeN L (k+1) 4).toNat=2∨(tapeN L (k+1) 4).toNat=3:=by omega
  unfold sKinds at hkd
  rcases this with h | h | h | h<;>rw [h] at hkd<;>simp at hkd<;>omega
 obtain ⟨len,hlen⟩:∃ len,1+tapeN L k 9=len:=⟨_,rfl⟩
 have ia:=srcAt_sm L (k+2) m
 have ib:=srcAt_sm L (srcAt L (k+2) m 0).2 m
 generalize ha:srcAt L (k+2) m 0=a at ia ib
 generalize hb:srcAt L a.2 m 0=b at ib
 have o3:=tapeN_lt (L:=L) (k:=b.2) (n:=3) (by omega)
 have p3:=tapeN_lt (L:=L) (k:=b.2+1) (n:=3) (by omega)
 unfold soundAt
 simp only [hkd,hlen,ha,hb]
 rcases hk5 with rfl | rfl | rfl
 ·exact ⟨.inl rfl,show (0:Int)≤1000 by decide,smz,smz⟩
 ·exact ⟨.inr (.inl rfl),show (0:Int)≤1000 by decide,quiet_sm ia,smz⟩
 ·exact ⟨.inr (.inr rfl),show tapeN L b.2 3+len+tapeN L (b.2+1) 3≤1000 by omega,quiet_sm ia,quiet_sm ib⟩
theorem soundC_sm (L:List Int) (k:Nat) (m ch:Int):SndSm (soundC L k m 0 ch).1:=by
 unfold soundC
 split
 ·exact soundAt0_sm L k m
 ·split
  ·exact soundAt1_sm L k m
  ·exact soundAt_sm L k m
theorem sclipsAt_sm (L:List Int) (m ch:Int):∀ (n k:Nat), ∀ c∈(sclipsAt L m 0 ch n k).1,SndSm c
 | 0,k=>fun c hc=>by cases hc
 | n+1,k=>fun c hcc=>by
  simp only [sclipsAt] at hcc
  rcases List.mem_cons.1 hcc with rfl | hcc
  ·exact soundC_sm L k m ch
  ·exact sclipsAt_sm L m ch n _ c hcc
theorem sndsAt_sm (L:List Int) (m ch:Int):∀ (n k:Nat), ∀ t∈(sndsAt L m 0 ch n k).1, ∀ c∈t,SndSm c
 | 0,k=>fun t ht=>by cases ht
 | n+1,k=>fun t ht=>by
  simp only [sndsAt] at ht
  rcases List.mem_cons.1 ht with rfl | ht
  ·exact sclipsAt_sm L m ch _ _
  ·exact sndsAt_sm L m ch n _ t ht
theorem rate3_s (L:List Int) (k:Nat):RateS (rate3 L k):=by
 have t:=tapeN_lt (L:=L) (k:=k) (n:=3) (by omega)
 have:(tapeN L k 3).toNat=0∨(tapeN L k 3).toNat=1∨(tapeN L k 3).toNat=2:=by omega
 unfold rate3
 rcases this with h | h | h<;>rw [h]
 ·exact rateS25
 ·exact rateS24
 ·exact rateS2997
structure SeqS (M:Int) (y:SequenceR):Prop where
 rate:RateS y.rate
 ch : 0≤y.channels∧y.channels≤2
 len:y.sound.length≤2
 trk:∀ t∈y.sound,vTrack t=true ∧ ∀ c∈t,SndSm c∧SndOk M 0 y.channels c
theorem seqAt_s (L:List Int) (m:Int) (k:Nat) (hm:m≤9):SeqS m (seqAt L m 0 k).1:=by
 have t3:=tapeN_lt (L:=L) (k:=k+1) (n:=3) (by omega)
 obtain ⟨V1,hV⟩:∃ V1,vidsAt L m (0:Nat) (1+tapeN L (k+2) 2).toNat (k+3)=V1:=⟨_,rfl⟩
 have ta:=tapeN_lt (L:=L) (k:=V1.2) (n:=3) (by omega)
 obtain ⟨a1,a2⟩:=sndsAt_ok L m (0:Nat) (tapeN L (k+1) 3) hm (by omega) (by omega) (tapeN L V1.2 3).toNat (V1.2+1)
 have a3:=sndsAt_sm L m (tapeN L (k+1) 3) (tapeN L V1.2 3).toNat (V1.2+1)
 obtain ⟨A1,hA⟩:∃ A1,sndsAt L m (0:Nat) (tapeN L (k+1) 3) (tapeN L V1.2 3).toNat (V1.2+1)=A1:=⟨_,rfl⟩
 have a3:∀ t∈A1.1, ∀ c∈t,SndSm c:=by rw [← hA];exact a3
 rw [hA] at a1 a2
 have e:(seqAt L m 0 k).1=⟨nameB ⟨#[115]⟩ (0:Nat),rate3 L k,16,16,V1.1,A1.1,(cuesAt L (tapeN L A1.2 3).toNat (A1.2+1)).1,tapeN L (k+1) 3⟩:=by
  unfold seqAt
  simp only [hV,hA]
 rw [e]
 exact ⟨rate3_s L k,by simp only;omega,by simp only;omega,fun t ht=>⟨(a2 t ht).1,fun c hc=>⟨a3 t ht c hc,((a2 t ht).2 c hc).2⟩⟩⟩
theorem projT_seq0 (L:List Int):∃ (M:Nat) (q:SequenceR) (l:List SequenceR),(projT L).seqs=q::l∧1≤M∧M≤3∧(projT L).media.length=M∧SeqS M q∧q.name=nameB ⟨#[115]⟩ (0:Nat):=by
 have n1:=tapeN_lt (L:=L) (k:=0) (n:=3) (by omega)
 have n2:=tapeN_lt (L:=L) (k:=1) (n:=3) (by omega)
 obtain ⟨M,hM⟩:∃ M:Nat,1+tapeN L 0 3=M:=⟨(1+tapeN L 0 3).toNat,by omega⟩
 obtain ⟨N,hN⟩:∃ N:Nat,1+tapeN L 1 3=((N+1:Nat):Int):=⟨(tapeN L 1 3).toNat,by omega⟩
 obtain ⟨a1,_⟩:=medsAt_good L M 0 2 (by omega)
 unfold projT
 rw [hM,hN]
 simp only [Int.toNat_natCast]
 refine ⟨M,_,_,rfl,by omega,by omega,a1,seqAt_s L M _ (by omega),?_⟩
 rfl
theorem medsAt_rate (L:List Int):∀ (n i k:Nat), ∀ y∈(medsAt L n i k).1,RateS y.seq.rate
 | 0,i,k=>fun y hy=>by cases hy
 | n+1,i,k=>fun y hy=>by
  simp only [medsAt] at hy
  rcases List.mem_cons.1 hy with rfl | hy
  ·exact rate3_s L (k+1)
  ·exact medsAt_rate L n _ _ y hy
theorem projT_rate (L:List Int):∀ y∈(projT L).media,RateS y.seq.rate:=by
 unfold projT
 exact medsAt_rate L _ _ _
open Go.RowKit
set_option maxRecDepth 4000
structure ThreeA (A:List AudioR) (p q u v:List Int):Prop where
 eq:A = [⟨nameB ⟨#[109]⟩ (0:Nat),[p,q]⟩,⟨nameB ⟨#[109]⟩ (1:Nat),[u,v]⟩,⟨nameB ⟨#[109]⟩ (2:Nat),[p,q]⟩]
 ip:I16s p
 iq:I16s q
 iu:I16s u
 iv:I16s v
 nq:q.length=p.length
 nu:u.length=p.length
 nv:v.length=p.length
 n:p.length≤1048576
theorem three_names:(nameB ⟨#[109]⟩ (0:Nat))≠nameB ⟨#[109]⟩ (1:Nat)∧(nameB ⟨#[109]⟩ (0:Nat))≠nameB ⟨#[109]⟩ (2:Nat)∧(nameB ⟨#[109]⟩ (1:Nat))≠nameB ⟨#[109]⟩ (2:Nat) :=
 ⟨fun h=>absurd (nm_inj (by decide) (by decide) (.inl h)) (by decide),fun h=>absurd (nm_inj (by decide) (by decide) (.inl h)) (by decide),fun h=>absurd (nm_inj (by decide) (by decide) (.inl h)) (by decide)⟩
theorem three_aud {A:List AudioR} {p q u v:List Int} (h:ThreeA A p q u v):AudS A:=by
 have h1:=h.n
 have h2:=h.nq
 have h3:=h.nu
 have h4:=h.nv
 have hn:=three_names
 rw [h.eq]
 generalize nameB ⟨#[109]⟩ ((0:Nat):Int)=a0 at *
 generalize nameB ⟨#[109]⟩ ((1:Nat):Int)=a1 at *
 generalize nameB ⟨#[109]⟩ ((2:Nat):Int)=a2 at *
 obtain ⟨n1,n2,n3⟩:=hn
 refine ⟨by simp,by simp [n1,n2,n3],fun a ha=>?_⟩
 simp only [List.mem_cons,List.not_mem_nil,or_false] at ha
 rcases ha with rfl | rfl | rfl
 all_goals
  refine ⟨by simp,fun x hx=>?_⟩
  simp only [List.mem_cons,List.not_mem_nil,or_false] at hx
  rcases hx with rfl | rfl<;>simp<;>omega
def sndOf (p q u v:List Int) (n:ByteArray):List (List Int):=if n=nameB ⟨#[109]⟩ (1:Nat) then [u,v] else [p,q]
theorem three_look {A:List AudioR} {p q u v:List Int} (h:ThreeA A p q u v) {i:Nat} (hi:i<3):lookT (.string (nameB ⟨#[109]⟩ (i:Nat))) (auM A)=some (.agg [vstr (nameB ⟨#[109]⟩ (i:Nat)), .t (tchs (sndOf p q u v (nameB ⟨#[109]⟩ (i:Nat))))]):=by
 have hn:=three_names
 rw [h.eq,look_au]
 unfold sndOf
 have:i=0∨i=1∨i=2:=by omega
 rcases this with rfl | rfl | rfl
 all_goals
  generalize nameB ⟨#[109]⟩ ((0:Nat):Int)=a0 at *
  generalize nameB ⟨#[109]⟩ ((1:Nat):Int)=a1 at *
  generalize nameB ⟨#[109]⟩ ((2:Nat):Int)=a2 at *
  obtain ⟨n1,n2,n3⟩:=hn
 ·simp [lastOf,n1,n2]
 ·simp [lastOf,n3,n1.symm]
 ·simp [lastOf,n3.symm]
def rateOf (md:List MediumR) (n:ByteArray):Rat :=
 match medOf md n with
 | some m=>toQ m.seq.rate
 | none=>25
def mdE (md:List MediumR) (p q u v:List Int):SndE:=⟨rateOf md,sndOf p q u v⟩
theorem snd_i16 {A:List AudioR} {p q u v:List Int} (h:ThreeA A p q u v) (n:ByteArray):(sndOf p q u v n).length=2∧(∀ x∈sndOf p q u v n,I16s x)∧(∀ x∈sndOf p q u v n,x.length≤1048576) ∧ ∀ x∈sndOf p q u v n,x.length=((sndOf p q u v n).getD 0 []).length:=by
 have h1:=h.n
 have h2:=h.nq
 have h3:=h.nu
 have h4:=h.nv
 unfold sndOf
 split
 ·refine ⟨rfl,fun x hx=>?_,fun x hx=>?_,fun x hx=>?_⟩<;>simp only [List.mem_cons,List.not_mem_nil,or_false] at hx<;>rcases hx with rfl | rfl
  ·exact h.iu
  ·exact h.iv
  ·omega
  ·omega
  ·rfl
  ·simp;omega
 ·refine ⟨rfl,fun x hx=>?_,fun x hx=>?_,fun x hx=>?_⟩<;>simp only [List.mem_cons,List.not_mem_nil,or_false] at hx<;>rcases hx with rfl | rfl
  ·exact h.ip
  ·exact h.iq
  ·omega
  ·omega
  ·rfl
  ·simp;omega
theorem srcGv_T {md:List MediumR} {A:List AudioR} {p q u v:List Int} (h:ThreeA A p q u v) {M:Nat} (hM:M≤3) (hmd:∀ i:Nat,i<M → ∃ m,medOf md (nameB ⟨#[109]⟩ (i:Nat))=some m∧RateS m.seq.rate) {Q:MapT} {s:SourceR} (hs:SrcSm s) (hi:SrcIn M 0 s):SrcGv (rtM md) (auM A) Q (mdE md p q u v) s:=by
 rcases hs.k with k0 | k1
 ·exact srcGv_black k0
 ·obtain ⟨i,hiM,hn⟩:=hi.m1 k1
  obtain ⟨m,hm,hr⟩:=hmd i (by omega)
  obtain ⟨v1,v2,q1,q2⟩:=smR_qb (hs.r k1)
  obtain ⟨l2,i16,ln,sm⟩:=snd_i16 h s.name
  have lr:lookT (.string s.name) (rtM md)=some (vrat m.seq.rate):=by rw [look_rt,hn,hm];rfl
  refine srcGv_med (r:=m.seq.rate) (L:=sndOf p q u v s.name) ⟨k1,kinds_rt _,lr,kinds_au _,by rw [hn];exact three_look h (by omega), .inr l2,i16,ln,sm,hr,v1,v2,q1,q2⟩ rfl ?_
  show rateOf md s.name=_
  unfold rateOf
  rw [hn,hm]
theorem clip_T {md:List MediumR} {A:List AudioR} {p q u v:List Int} (h:ThreeA A p q u v) {M:Nat} (hM:M≤3) (hmd:∀ i:Nat,i<M → ∃ m,medOf md (nameB ⟨#[109]⟩ (i:Nat))=some m∧RateS m.seq.rate) {Q:MapT} {ch:Nat} (hch:ch≤2) {c:ClipR} (hs:SndSm c) (ho:SndOk M 0 ch c) (hk:c.kind≠0):ClipT (rtM md) (auM A) Q (mdE md p q u v) ch c:=by
 have hl:=ho.l9
 have hv:=ho.ok
 have hlen:=vClip_len hv
 have ha:=srcGv_T h hM hmd (Q:=Q) hs.a ho.a
 have hb:=srcGv_T h hM hmd (Q:=Q) hs.b ho.b
 have au:=ho.aud
 unfold audB at au
 have hcl:c.chan.length=ch:=by
  rcases hs.k with e | e | e
  ·exact absurd e hk
  ·simp [e] at au;omega
  ·simp [e] at au;omega
 have hv2:=hv
 unfold vClip baseOk at hv2
 simp only [Bool.and_eq_true,decide_eq_true_eq] at hv2
 have hg : 0≤c.gain∧c.gain≤65536:=⟨hv2.1.1.1.1.1.2,hv2.1.1.1.1.2⟩
 rcases hs.k with e | e | e
 ·exact absurd e hk
 ·exact clipT_cut hch e hcl (by omega) ha hg
 ·have hk2:=hv2.2
  unfold kindOk shareOk at hk2
  rw [e] at hk2
  simp at hk2
  have ht:=hs.t
  exact clipT_mix hch e hcl (by omega) (by omega) (by omega) (by omega) (by omega) ha hb hg
theorem med_T (L:List Int) {M:Nat} (hM:(projT L).media.length=M) (hM3:M≤3):∀ i:Nat,i<M → ∃ m,medOf (projT L).media (nameB ⟨#[109]⟩ (i:Nat))=some m∧RateS m.seq.rate:=fun i hi=>by
 obtain ⟨M',N',_,_,_,_,h1,_,h3,_⟩:=projT_parts L
 have e:M'=M:=by omega
 subst e
 cases hm:medOf (projT L).media (nameB ⟨#[109]⟩ (i:Nat)) with
 | some m=>exact ⟨m,rfl,projT_rate L m (lastOf_mem hm).1⟩
 | none=>exact absurd (h3 i hi).name (lastOf_none.1 hm _ (mem_getD (by omega)))
theorem cmp_T (L:List Int) {A:List AudioR} {p q u v:List Int} (h:ThreeA A p q u v) {M:Nat} (hM:(projT L).media.length=M) (hM3:M≤3) {Q:MapT} {y:SequenceR} (hy:SeqS M y) {ch:Nat} (hch:y.channels=ch) (s:Int):CmpOk (rtM (projT L).media) (auM A) Q (mdE (projT L).media p q u v) ch y.sound y.rate s:=by
 have hc2:=hy.ch
 refine cmpOk_of hy.rate (by have:=hy.len;omega) (fun t ht=>(hy.trk t ht).1) (fun t ht x hx hk=>?_) s
 obtain ⟨h1,h2⟩:=(hy.trk t ht).2 x hx
 rw [hch] at h2
 exact clip_T h hM3 (med_T L hM hM3) (by omega) h1 h2 hk
theorem TPj_sizes (L:List Int):∀ s∈(projT L).seqs,s.sound.length≤8 ∧ ∀ t∈s.sound,vTrack t=true:=by
 obtain ⟨M,N,m1,m3,s1,s3,h1,h2,h3,h4⟩:=projT_parts L
 intro s hs
 obtain ⟨i,hi,rfl⟩:=mem_at hs
 have hsm:=(h4 i (by omega)).small
 have hok:=(h4 i (by omega)).ok
 unfold seqSmall at hsm
 unfold seqOk at hok
 simp only [Bool.and_eq_true,decide_eq_true_eq] at hsm hok
 refine ⟨by omega,fun t ht=>?_⟩
 have:=List.all_eq_true.1 hok.2 t ht
 unfold sndOk at this
 simp only [Bool.and_eq_true] at this
 exact this.1
def smpT (E:SndE) (y:SequenceR) (from0:Int) (n:Nat):List (List Int):=(List.range y.channels.toNat).map fun c=>sndL (fun i=>outV E y.channels.toNat y.sound y.rate (from0+i) c) n
theorem cSoundT0 (L:List Int) {A:List AudioR} {p q u v:List Int} (h:ThreeA A p q u v):∃ y:SequenceR,y.channels.toNat≤2 ∧ ∀ (from0:Int) (n:Nat),n≤1000 → -68719476736≤from0→from0+n≤68719476736 →
  CPure Tryz.prog 10 [vproj (projT L),vstr ⟨#[115,48]⟩,vint from0,vint n, .t (taudios A)] (.tup [.t (tchs (smpT (mdE (projT L).media p q u v) y from0 n)),vint 0]):=by
 obtain ⟨M,y,l,hl,m1,m3,hM,hy,hn⟩:=projT_seq0 L
 have hc2:=hy.ch
 refine ⟨y,by omega,fun from0 n n1 f0 f1=>?_⟩
 have nm0:nameB ⟨#[115]⟩ ((0:Nat):Int)=⟨#[115,48]⟩:=by kernel_rfl
 rw [nm0] at hn
 have hA:=three_aud h
 obtain ⟨M',N',_,_,s1,s3,h1,h2,h3,h4⟩:=projT_parts L
 have e:M'=M:=by omega
 subst e
 have fit:=projT_fit L
 have val:=projT_valid L
 have sq:∀ x,x<N'→(projT L).seqs.getD x default∈(projT L).seqs:=fun x hx=>mem_getD (by omega)
 have small:=TPj_sizes L
 have hp:projT L=⟨(projT L).media,y::l⟩:=by
  cases hpp:projT L with
  | mk a b=>rw [hpp] at hl;simp only at hl;rw [hl]
 have hx:∀ x∈y::l,x.sound.length≤8 ∧ ∀ t∈x.sound,vTrack t=true:=fun x hx=>small x (by rw [hl];exact hx)
 have nmn:∀ x z,x<N'→z<N'→x≠z→((y::l).getD x default).name≠((y::l).getD z default).name:=fun x z hx hz hne he=>by
  rw [← hl,(h4 x hx).name,(h4 z hz).name] at he
  exact hne (nm_inj (by omega) (by omega) (.inr he))
 have hln:(y::l).length=N':=by rw [← hl];exact h2
 have hcmp:∀ Q (ch:Nat),y.channels=ch → ∀ s,CmpOk (rtM (projT L).media) (auM A) Q (mdE (projT L).media p q u v) ch y.sound y.rate s:=fun Q ch hch s=>cmp_T L h hM m3 hy hch s
 obtain ⟨md,hmd⟩:∃ md,md=(projT L).media:=⟨_,rfl⟩
 rw [← hmd] at hp hcmp ⊢
 rw [hp] at fit val ⊢
 rw [← hn]
 have h16:md.length≤16:=by rw [hmd];omega
 have hN:N'=1∨N'=2∨N'=3:=by omega
 have hch:y.channels=0∨y.channels=1∨y.channels=2:=by omega
 rcases hN with rfl | rfl | rfl
 ·have:l = []:=len_zero (by simpa using hln)
  subst this
  have ok:∀ m:Nat,y.channels=m→SoundOk md y A (mdE md p q u v) m from0 n:=fun m hm=>⟨fit,val,h16,(hx y (by simp)).1,(hx y (by simp)).2,hA.ha,hA.hn,hA.hp,hm,hy.rate,n1,f0,f1,fun i _=>hcmp _ m hm _⟩
  rcases hch with e | e | e
  ·have:=cSound0 (ok 0 e)
   unfold smpT;rw [e]
   exact this
  ·have:=cSound1 (ok 1 e)
   unfold smpT;rw [e]
   exact this
  ·have:=cSound2 (ok 2 e)
   unfold smpT;rw [e]
   exact this
 ·obtain ⟨r,rfl⟩:=len_one (l:=l) (by simpa using hln)
  have ok:∀ m:Nat,y.channels=m→SoundOk2 md y r A (mdE md p q u v) m from0 n:=fun m hm=>⟨fit,val,h16,(hx y (by simp)).1,(hx y (by simp)).2,nmn 0 1 (by decide) (by decide) (by decide),(hx r (by simp)).1,(hx r (by simp)).2,hA.ha,hA.hn,hA.hp,hm,hy.rate,n1,f0,f1,fun i _=>hcmp _ m hm _⟩
  rcases hch with e | e | e
  ·have:=cSoundF2c0 (ok 0 e)
   unfold smpT;rw [e]
   exact this
  ·have:=cSoundS (ok 1 e)
   unfold smpT;rw [e]
   exact this
  ·have:=cSoundF2c2 (ok 2 e)
   unfold smpT;rw [e]
   exact this
 ·obtain ⟨r,s,rfl⟩:=len_two' (l:=l) (by simpa using hln)
  have ok:∀ m:Nat,y.channels=m→SoundOk3 md y r s A (mdE md p q u v) m from0 n:=fun m hm=>⟨fit,val,h16,(hx y (by simp)).1,(hx y (by simp)).2,nmn 0 1 (by decide) (by decide) (by decide),nmn 0 2 (by decide) (by decide) (by decide),nmn 1 2 (by decide) (by decide) (by decide),(hx r (by simp)).1,(hx r (by simp)).2,(hx s (by simp)).1,(hx s (by simp)).2,hA.ha,hA.hn,hA.hp,hm,hy.rate,n1,f0,f1,fun i _=>hcmp _ m hm _⟩
  rcases hch with e | e | e
  ·have:=cSoundF3c0 (ok 0 e)
   unfold smpT;rw [e]
   exact this
  ·have:=cSoundF3c1 (ok 1 e)
   unfold smpT;rw [e]
   exact this
  ·have:=cSoundF3c2 (ok 2 e)
   unfold smpT;rw [e]
   exact this
end Go.Proofs.YtkjdkbmfaamhaaaGreat
