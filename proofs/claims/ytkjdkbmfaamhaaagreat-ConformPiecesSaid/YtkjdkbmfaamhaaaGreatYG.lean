/- Proved here: The project that a tape gives is valid, for use in the proofs of the given statements; conditions stand in each theorem. -/
import Derived.Test.YtkjdkbmfaamhaaaGreatYF
import Derived.Test.YtkjdkbmfaamhaaaGreatYD
set_option linter.unusedSimpArgs false
set_option linter.unusedVariables false
set_option linter.unusedSectionVars false
set_option linter.unnecessarySimpa false
namespace Go.Proofs.YtkjdkbmfaamhaaaGreat
open Go.RowKit
set_option maxRecDepth 4000
structure SrcIn (m s:Int) (x:SourceR):Prop where
 m1:x.kind=1 → ∃ i:Nat,(i:Int)<m∧x.name=nameB ⟨#[109]⟩ i
 s2:x.kind=2 → ∃ i:Nat,(i:Int)<s∧x.name=nameB ⟨#[115]⟩ i
theorem in_z (m s:Int):SrcIn m s zSource:=⟨fun h=>absurd h (by decide),fun h=>absurd h (by decide)⟩
theorem srcAt_in (L:List Int) (k:Nat) (m s:Int) (hm:m≤9) (hs:s≤9):SrcIn m s (srcAt L k m s).1:=by
 unfold srcAt
 split
 ·exact in_z m s
 ·split
  ·rename_i h1
   simp only [Bool.and_eq_true,decide_eq_true_eq] at h1
   have:=tapeN_lt (L:=L) (k:=k+5) (n:=s) (by omega)
   exact ⟨fun h=>(by simp at h),fun _=>⟨(tapeN L (k+5) s).toNat,by omega,by simp only;rw [Int.toNat_of_nonneg this.1]⟩⟩
  ·split
   ·rename_i h1
    have:=tapeN_lt (L:=L) (k:=k+5) (n:=m) (by omega)
    exact ⟨fun _=>⟨(tapeN L (k+5) m).toNat,by omega,by simp only;rw [Int.toNat_of_nonneg this.1]⟩,fun h=>(by simp at h)⟩
   ·exact in_z m s
structure VidOk (m s:Int) (c:ClipR):Prop where
 a:SrcIn m s c.a
 b:SrcIn m s c.b
 sil:silentB c=true
theorem clipAt_vid (L:List Int) (k:Nat) (m s:Int) (hm:m≤9) (hs:s≤9):VidOk m s (clipAt L k m s).1:=by
 have h1:=srcAt_in L (k+2) m s hm hs
 have h2:=srcAt_in L (srcAt L (k+2) m s).2 m s hm hs
 have z:=in_z m s
 unfold clipAt
 simp only
 split
 ·exact ⟨z,z,rfl⟩
 ·split
  ·split<;>exact ⟨h1,h2,rfl⟩
  ·split
   ·exact ⟨h1,h2,rfl⟩
   ·split<;>exact ⟨h1,z,rfl⟩
theorem split_vid {m s:Int} {c:ClipR} (h:VidOk m s c) (n:Int):VidOk m s (splitD c n):=⟨⟨h.a.m1,h.a.s2⟩,h.b,h.sil⟩
theorem trkStep_vid (L:List Int) (k:Nat) (m s:Int) (hm:m≤9) (hs:s≤9):∀ c∈(trkStep L k m s).1,VidOk m s c:=by
 have h1:=clipAt_vid L k m s hm hs
 unfold trkStep
 split
 ·split
  ·intro c hc
   simp only [List.mem_cons,List.not_mem_nil,or_false] at hc
   rcases hc with rfl | rfl
   ·exact h1
   ·exact split_vid h1 _
  ·intro c hc
   simp only [List.mem_cons,List.not_mem_nil,or_false] at hc
   rw [hc];exact h1
 ·intro c hc
  simp only [List.mem_cons,List.not_mem_nil,or_false] at hc
  rw [hc];exact h1
theorem trkGo_vid (L:List Int) (m s:Int) (hm:m≤9) (hs:s≤9):∀ (n k:Nat), ∀ c∈(trkGo L m s n k).1,VidOk m s c
 | 0,k=>fun c hc=>by simp [trkGo] at hc
 | n+1,k=>fun c hc=>by
  simp only [trkGo] at hc
  rcases List.mem_append.1 hc with hc | hc
  ·exact trkStep_vid L k m s hm hs c hc
  ·exact trkGo_vid L m s hm hs n _ c hc
structure SndOk (m s ch:Int) (c:ClipR):Prop where
 a:SrcIn m s c.a
 b:SrcIn m s c.b
 ok:vClip c=true
 aud:audB ch c=true
 l9:c.len≤9
theorem vSource_quiet {x:SourceR} (h:vSource x=true):vSource (quiet x)=true:=by
 unfold vSource at h ⊢
 rw [Bool.or_eq_true] at h ⊢
 rcases h with h | h
 ·refine .inl ?_
  unfold SourceR.isZ SourceR.eqb at h ⊢
  simp only [Bool.and_eq_true] at h ⊢
  exact ⟨h.1,rfl⟩
 ·exact .inr h
theorem quiet_in {m s:Int} {x:SourceR} (h:SrcIn m s x):SrcIn m s (quiet x):=⟨h.m1,h.s2⟩
theorem gain_ok (i:Nat) : 0≤sGains.getD i 0∧sGains.getD i 0≤65536:=by
 rcases i with _ | _ | _ | _ | _ | _ | i<;>simp [sGains]
theorem snd0 {m s ch len:Int} (hl : 1≤len∧len≤9):SndOk m s ch ⟨len,0,zSource,zSource,0,0,0,⟨#[]⟩,0,[]⟩:=by
 have ez:zSource.isZ=true:=zS_isZ
 refine ⟨in_z m s,in_z m s,?_,rfl,hl.2⟩
 unfold vClip baseOk
 simp only [zS_ok,decide_eq_true hl.1,decide_eq_true (by omega:len≤2147483647),Bool.and_true]
 simp [kindOk,noShare,emp,ez,vChans]
theorem snd1 {m s ch len g:Int} {C:List Int} {a:SourceR} (hl : 1≤len∧len≤9) (hg : 0≤g∧g≤65536) (hC:vChans C=true) (va:vSource a=true) (ia:SrcIn m s a) (hc:(C.length:Int)=ch):SndOk m s ch ⟨len,1,quiet a,zSource,0,0,0,⟨#[]⟩,g,C⟩:=by
 have ez:zSource.isZ=true:=zS_isZ
 refine ⟨quiet_in ia,in_z m s,?_,?_,hl.2⟩
 ·unfold vClip baseOk
  simp only [zS_ok,vSource_quiet va,hC,decide_eq_true hl.1,decide_eq_true (by omega:len≤2147483647),decide_eq_true hg.1,decide_eq_true hg.2,Bool.and_true]
  simp [kindOk,noShare,emp,ez]
 ·unfold audB
  simp [quiet,hc]
theorem snd2 {m s ch len g o t:Int} {C:List Int} {a b:SourceR} (hl : 1≤len∧len≤9) (hg : 0≤g∧g≤65536) (hC:vChans C=true) (va:vSource a=true) (vb:vSource b=true) (ia:SrcIn m s a) (ib:SrcIn m s b) (hc:(C.length:Int)=ch) (h0 : 0≤o) (h1:o+len≤t) (h2:t≤1000):SndOk m s ch ⟨len,2,quiet a,quiet b,o,t,0,⟨#[]⟩,g,C⟩:=by
 refine ⟨quiet_in ia,quiet_in ib,?_,?_,hl.2⟩
 ·unfold vClip baseOk
  simp only [vSource_quiet vb,vSource_quiet va,hC,decide_eq_true hl.1,decide_eq_true (by omega:len≤2147483647),decide_eq_true hg.1,decide_eq_true hg.2,Bool.and_true]
  simp [kindOk,shareOk,emp]
  omega
 ·unfold audB
  simp [quiet,hc]
theorem soundAt0_snd (L:List Int) (k:Nat) (m s:Int) (hm:m≤9) (hs:s≤9):SndOk m s 0 (soundAt0 L k m s).1:=by
 have n9:=tapeN_lt (L:=L) (k:=k) (n:=9) (by omega)
 have n4:=tapeN_lt (L:=L) (k:=k+1) (n:=4) (by omega)
 obtain ⟨kd,hkd⟩:∃ kd,sKinds.getD (tapeN L (k+1) 4).toNat 0=kd:=⟨_,rfl⟩
 have hk5:kd=0∨kd=1∨kd=2:=by
  have:(tapeN L (k+1) 4).toNat=0∨(tapeN L (k+1) 4).toNat=1∨(tapeN L (k+1) 4).toNat=2∨(tapeN L (k+1) 4).toNat=3:=by omega
  unfold sKinds at hkd
  rcases this with h | h | h | h<;>rw [h] at hkd<;>simp at hkd<;>omega
 obtain ⟨len,hlen⟩:∃ len,1+tapeN L k 9=len:=⟨_,rfl⟩
 have hl : 1≤len∧len≤9:=by omega
 have va:=(srcAt_ok L (k+2) m s hm hs).1
 have vb:=(srcAt_ok L (srcAt L (k+2) m s).2 m s hm hs).1
 have ia:=srcAt_in L (k+2) m s hm hs
 have ib:=srcAt_in L (srcAt L (k+2) m s).2 m s hm hs
 generalize ha:srcAt L (k+2) m s=a at va vb ia ib
 generalize hb:srcAt L a.2 m s=b at vb ib
 have o3:=tapeN_lt (L:=L) (k:=b.2) (n:=3) (by omega)
 have p3:=tapeN_lt (L:=L) (k:=b.2+1) (n:=3) (by omega)
 unfold soundAt0
 simp only [hkd,hlen,ha,hb]
 rcases hk5 with rfl | rfl | rfl
 ·exact snd0 hl
 ·refine snd1 hl (gain_ok _) ?_ va ia ?_
  ·simp [vChans]<;>(have := @tapeN_lt L (a.2+1) 4 (by omega);have := @tapeN_lt L (a.2+2) 4 (by omega);omega)
  ·rfl
 ·refine snd2 hl (gain_ok _) ?_ va vb ia ib ?_ (by omega) (by omega) (by omega)
  ·simp [vChans]<;>(have := @tapeN_lt L (b.2+3) 4 (by omega);have := @tapeN_lt L (b.2+4) 4 (by omega);omega)
  ·rfl
theorem soundAt1_snd (L:List Int) (k:Nat) (m s:Int) (hm:m≤9) (hs:s≤9):SndOk m s 1 (soundAt1 L k m s).1:=by
 have n9:=tapeN_lt (L:=L) (k:=k) (n:=9) (by omega)
 have n4:=tapeN_lt (L:=L) (k:=k+1) (n:=4) (by omega)
 obtain ⟨kd,hkd⟩:∃ kd,sKinds.getD (tapeN L (k+1) 4).toNat 0=kd:=⟨_,rfl⟩
 have hk5:kd=0∨kd=1∨kd=2:=by
  have:(tapeN L (k+1) 4).toNat=0∨(tapeN L (k+1) 4).toNat=1∨(tapeN L (k+1) 4).toNat=2∨(tapeN L (k+1) 4).toNat=3:=by omega
  unfold sKinds at hkd
  rcases this with h | h | h | h<;>rw [h] at hkd<;>simp at hkd<;>omega
 obtain ⟨len,hlen⟩:∃ len,1+tapeN L k 9=len:=⟨_,rfl⟩
 have hl : 1≤len∧len≤9:=by omega
 have va:=(srcAt_ok L (k+2) m s hm hs).1
 have vb:=(srcAt_ok L (srcAt L (k+2) m s).2 m s hm hs).1
 have ia:=srcAt_in L (k+2) m s hm hs
 have ib:=srcAt_in L (srcAt L (k+2) m s).2 m s hm hs
 generalize ha:srcAt L (k+2) m s=a at va vb ia ib
 generalize hb:srcAt L a.2 m s=b at vb ib
 have o3:=tapeN_lt (L:=L) (k:=b.2) (n:=3) (by omega)
 have p3:=tapeN_lt (L:=L) (k:=b.2+1) (n:=3) (by omega)
 unfold soundAt1
 simp only [hkd,hlen,ha,hb]
 rcases hk5 with rfl | rfl | rfl
 ·exact snd0 hl
 ·refine snd1 hl (gain_ok _) ?_ va ia ?_
  ·simp [vChans]<;>(have := @tapeN_lt L (a.2+1) 4 (by omega);have := @tapeN_lt L (a.2+2) 4 (by omega);omega)
  ·rfl
 ·refine snd2 hl (gain_ok _) ?_ va vb ia ib ?_ (by omega) (by omega) (by omega)
  ·simp [vChans]<;>(have := @tapeN_lt L (b.2+3) 4 (by omega);have := @tapeN_lt L (b.2+4) 4 (by omega);omega)
  ·rfl
theorem soundAt_snd (L:List Int) (k:Nat) (m s:Int) (hm:m≤9) (hs:s≤9):SndOk m s 2 (soundAt L k m s).1:=by
 have n9:=tapeN_lt (L:=L) (k:=k) (n:=9) (by omega)
 have n4:=tapeN_lt (L:=L) (k:=k+1) (n:=4) (by omega)
 obtain ⟨kd,hkd⟩:∃ kd,sKinds.getD (tapeN L (k+1) 4).toNat 0=kd:=⟨_,rfl⟩
 have hk5:kd=0∨kd=1∨kd=2:=by
  have:(tapeN L (k+1) 4).toNat=0∨(tapeN L (k+1) 4).toNat=1∨(tapeN L (k+1) 4).toNat=2∨(tapeN L (k+1) 4).toNat=3:=by omega
  unfold sKinds at hkd
  rcases this with h | h | h | h<;>rw [h] at hkd<;>simp at hkd<;>omega
 obtain ⟨len,hlen⟩:∃ len,1+tapeN L k 9=len:=⟨_,rfl⟩
 have hl : 1≤len∧len≤9:=by omega
 have va:=(srcAt_ok L (k+2) m s hm hs).1
 have vb:=(srcAt_ok L (srcAt L (k+2) m s).2 m s hm hs).1
 have ia:=srcAt_in L (k+2) m s hm hs
 have ib:=srcAt_in L (srcAt L (k+2) m s).2 m s hm hs
 generalize ha:srcAt L (k+2) m s=a at va vb ia ib
 generalize hb:srcAt L a.2 m s=b at vb ib
 have o3:=tapeN_lt (L:=L) (k:=b.2) (n:=3) (by omega)
 have p3:=tapeN_lt (L:=L) (k:=b.2+1) (n:=3) (by omega)
 unfold soundAt
 simp only [hkd,hlen,ha,hb]
 rcases hk5 with rfl | rfl | rfl
 ·exact snd0 hl
 ·refine snd1 hl (gain_ok _) ?_ va ia ?_
  ·simp [vChans]<;>(have := @tapeN_lt L (a.2+1) 4 (by omega);have := @tapeN_lt L (a.2+2) 4 (by omega);omega)
  ·rfl
 ·refine snd2 hl (gain_ok _) ?_ va vb ia ib ?_ (by omega) (by omega) (by omega)
  ·simp [vChans]<;>(have := @tapeN_lt L (b.2+3) 4 (by omega);have := @tapeN_lt L (b.2+4) 4 (by omega);omega)
  ·rfl
theorem soundC_snd (L:List Int) (k:Nat) (m s ch:Int) (hm:m≤9) (hs:s≤9) (hc : 0≤ch∧ch≤2):SndOk m s ch (soundC L k m s ch).1:=by
 unfold soundC
 split
 ·rename_i h;subst h;exact soundAt0_snd L k m s hm hs
 ·split
  ·rename_i h;subst h;exact soundAt1_snd L k m s hm hs
  ·have:ch=2:=by omega
   subst this
   exact soundAt_snd L k m s hm hs
open Go.RowKit
set_option maxRecDepth 4000
theorem cueLn_ok:((List.range 4).all fun i=>vLine (cueLines.getD i ⟨#[]⟩))=true:=by kernel_rfl
theorem cueLn_ok' (L:List Int) (k:Nat):vLine (cueLn L k)=true:=by
 have t:=tapeN_lt (L:=L) (k:=k) (n:=4) (by omega)
 exact List.all_eq_true.1 cueLn_ok _ (List.mem_range.2 (by omega))
theorem cueAt_ok (L:List Int) (k:Nat):vCue (cueAt L k).1=true∧(cueAt L k).1.fit:=by
 have t50:=tapeN_lt (L:=L) (k:=k) (n:=50) (by omega)
 have t20:=tapeN_lt (L:=L) (k:=k+1) (n:=20) (by omega)
 have l3:=cueLn_ok' L (k+3)
 have l4:=cueLn_ok' L (k+4)
 unfold cueAt
 split
 ·refine ⟨?_,small64 (by simp only;omega) (by simp only;omega),small64 (by simp only;omega) (by simp only;omega)⟩
  simp [vCue,cueOk,l3]
  omega
 ·refine ⟨?_,small64 (by simp only;omega) (by simp only;omega),small64 (by simp only;omega) (by simp only;omega)⟩
  simp [vCue,cueOk,l3,l4]
  omega
theorem cuesAt_ok (L:List Int):∀ (n k:Nat),(cuesAt L n k).1.length=n ∧ ∀ c∈(cuesAt L n k).1,vCue c=true∧c.fit
 | 0,k=>⟨rfl,fun c hc=>by cases hc⟩
 | n+1,k=>by
  obtain ⟨h1,h2⟩:=cuesAt_ok L n (cueAt L k).2
  refine ⟨by simp only [cuesAt,List.length_cons,h1],fun c hc=>?_⟩
  simp only [cuesAt] at hc
  rcases List.mem_cons.1 hc with rfl | hc
  ·exact cueAt_ok L k
  ·exact h2 c hc
theorem rate3_ok (L:List Int) (k:Nat):rateOk (rate3 L k)=true∧(rate3 L k).fit:=by
 have t:=tapeN_lt (L:=L) (k:=k) (n:=3) (by omega)
 have:(tapeN L k 3).toNat=0∨(tapeN L k 3).toNat=1∨(tapeN L k 3).toNat=2:=by omega
 unfold rate3
 rcases this with h | h | h<;>rw [h]
 ·exact ⟨by decide,small64 (by decide) (by decide),small64 (by decide) (by decide)⟩
 ·exact ⟨by decide,small64 (by decide) (by decide),small64 (by decide) (by decide)⟩
 ·exact ⟨by decide,small64 (by decide) (by decide),small64 (by decide) (by decide)⟩
structure MedGood (i:Nat) (y:MediumR):Prop where
 name:y.name=nameB ⟨#[109]⟩ i
 ok:medOk y=true
 fit:y.fit
 small:medSmall y=true
theorem medAt_good (L:List Int) (i k:Nat) (hi:i<9):MedGood i (medAt L i k).1:=by
 obtain ⟨c1,c2⟩:=cuesAt_ok L (tapeN L (k+5) 3).toNat (k+6)
 obtain ⟨r1,r2⟩:=rate3_ok L (k+1)
 have t40:=tapeN_lt (L:=L) (k:=k+2) (n:=40) (by omega)
 have t3:=tapeN_lt (L:=L) (k:=k+3) (n:=3) (by omega)
 have ts:=tapeN_lt (L:=L) (k:=k+4) (n:=20000) (by omega)
 have tc:=tapeN_lt (L:=L) (k:=k+5) (n:=3) (by omega)
 have i16:I64 16:=small64 (by decide) (by decide)
 have i4:I64 400000:=small64 (by decide) (by decide)
 refine ⟨rfl,?_,⟨⟨i16,i16,r2,i4,i4⟩,small64 (by simp only [medAt];omega) (by simp only [medAt];omega),small64 (by simp only [medAt];omega) (by simp only [medAt];omega),small64 (by simp only [medAt];omega) (by simp only [medAt];omega),fun c hc=>(c2 c hc).2⟩,?_⟩
 ·have e1:vName (nameB ⟨#[109]⟩ (i:Int))=true:=(tape_name (i:Int) (by omega) (by omega)).2
  have e2:cuesOk (cuesAt L (tapeN L (k+5) 3).toNat (k+6)).1=true:=List.all_eq_true.2 fun c hc=>(c2 c hc).1
  unfold medOk countOk chanOk
  simp only [medAt,headR,e1,e2,r1,Bool.and_true,Bool.true_and,Bool.and_eq_true,decide_eq_true_eq]
  exact ⟨⟨⟨decide_eq_true (by omega),decide_eq_true (by omega)⟩,decide_eq_true (by omega),decide_eq_true (by omega)⟩,decide_eq_true (by omega),decide_eq_true (by omega)⟩
 ·unfold medSmall
  simp only [medAt,c1,decide_eq_true_eq]
  omega
theorem medsAt_good (L:List Int):∀ (n i k:Nat),i+n≤9→(medsAt L n i k).1.length=n ∧ ∀ x,x<n→MedGood (i+x) ((medsAt L n i k).1.getD x default)
 | 0,i,k,_=>⟨rfl,fun x hx=>absurd hx (Nat.not_lt_zero _)⟩
 | n+1,i,k,h=>by
  obtain ⟨h1,h2⟩:=medsAt_good L n (i+1) (medAt L i k).2 (by omega)
  refine ⟨by simp only [medsAt,List.length_cons,h1],fun x hx=>?_⟩
  simp only [medsAt]
  rcases x with _ | x
  ·exact medAt_good L i k (by omega)
  ·have:=h2 x (by omega)
   rw [show i+(x+1)=i+1+x by omega]
   simpa using this
structure SeqGood (m:Int) (j:Nat) (y:SequenceR):Prop where
 name:y.name=nameB ⟨#[115]⟩ j
 ok:seqOk y=true
 fit:y.fit
 small:seqSmall y=true
 src:∀ t∈y.video++y.sound, ∀ c∈t,SrcIn m j c.a∧SrcIn m j c.b
theorem vidsAt_ok (L:List Int) (m s:Int) (hm:m≤9) (hs:s≤9):∀ (n k:Nat),(vidsAt L m s n k).1.length=n ∧ ∀ t∈(vidsAt L m s n k).1,vTrack t=true ∧ ∀ c∈t,c.fit∧VidOk m s c
 | 0,k=>⟨rfl,fun c hc=>by cases hc⟩
 | n+1,k=>by
  obtain ⟨h1,h2⟩:=vidsAt_ok L m s hm hs n (trkAt L k m s 5).2
  refine ⟨by simp only [vidsAt,List.length_cons,h1],fun t ht=>?_⟩
  simp only [vidsAt] at ht
  rcases List.mem_cons.1 ht with rfl | ht
  ·obtain ⟨n1,n2⟩:=trkAt_facts L k m s 5 hm hs (by omega) (by omega)
   exact ⟨vTrack_nice n1 (by omega),fun c hc=>⟨(n1 c hc).fit,trkGo_vid L m s hm hs _ _ c hc⟩⟩
  ·exact h2 t ht
theorem sclipsAt_ok (L:List Int) (m s ch:Int) (hm:m≤9) (hs:s≤9) (hc : 0≤ch∧ch≤2):∀ (n k:Nat),(sclipsAt L m s ch n k).1.length=n ∧ ∀ c∈(sclipsAt L m s ch n k).1,c.fit∧SndOk m s ch c
 | 0,k=>⟨rfl,fun c hc=>by cases hc⟩
 | n+1,k=>by
  obtain ⟨h1,h2⟩:=sclipsAt_ok L m s ch hm hs hc n (soundC L k m s ch).2
  refine ⟨by simp only [sclipsAt,List.length_cons,h1],fun c hcc=>?_⟩
  simp only [sclipsAt] at hcc
  rcases List.mem_cons.1 hcc with rfl | hcc
  ·exact ⟨soundC_fit L k m s ch hm hs,soundC_snd L k m s ch hm hs hc⟩
  ·exact h2 c hcc
theorem vTrack_snd {t:List ClipR} {m s ch:Int} (h:∀ c∈t,SndOk m s ch c) (hl:t.length≤64):vTrack t=true:=by
 have h1:=totL_nine t fun c hc=>(h c hc).l9
 unfold vTrack
 rw [decide_eq_true hl,decide_eq_true (by omega:totL t≤2147483647),List.all_eq_true.2 fun c hc=>(h c hc).ok]
 rfl
theorem sndsAt_ok (L:List Int) (m s ch:Int) (hm:m≤9) (hs:s≤9) (hc : 0≤ch∧ch≤2):∀ (n k:Nat),(sndsAt L m s ch n k).1.length=n ∧ ∀ t∈(sndsAt L m s ch n k).1,vTrack t=true ∧ ∀ c∈t,c.fit∧SndOk m s ch c
 | 0,k=>⟨rfl,fun c hc=>by cases hc⟩
 | n+1,k=>by
  obtain ⟨h1,h2⟩:=sndsAt_ok L m s ch hm hs hc n (stkAt L m s ch k).2
  refine ⟨by simp only [sndsAt,List.length_cons,h1],fun t ht=>?_⟩
  simp only [sndsAt] at ht
  rcases List.mem_cons.1 ht with rfl | ht
  ·obtain ⟨n1,n2⟩:=sclipsAt_ok L m s ch hm hs hc (tapeN L k 4).toNat (k+1)
   have t4:=tapeN_lt (L:=L) (k:=k) (n:=4) (by omega)
   exact ⟨vTrack_snd (fun c hc=>(n2 c hc).2) (by unfold stkAt;omega),n2⟩
  ·exact h2 t ht
theorem seqAt_good (L:List Int) (m:Int) (j k:Nat) (hm:m≤9) (hj:j<9):SeqGood m j (seqAt L m j k).1:=by
 have t3:=tapeN_lt (L:=L) (k:=k+1) (n:=3) (by omega)
 have t2:=tapeN_lt (L:=L) (k:=k+2) (n:=2) (by omega)
 obtain ⟨v1,v2⟩:=vidsAt_ok L m j hm (by omega) (1+tapeN L (k+2) 2).toNat (k+3)
 have ta:=tapeN_lt (L:=L) (k:=(vidsAt L m j (1+tapeN L (k+2) 2).toNat (k+3)).2) (n:=3) (by omega)
 obtain ⟨a1,a2⟩:=sndsAt_ok L m j (tapeN L (k+1) 3) hm (by omega) (by omega) (tapeN L (vidsAt L m j (1+tapeN L (k+2) 2).toNat (k+3)).2 3).toNat ((vidsAt L m j (1+tapeN L (k+2) 2).toNat (k+3)).2+1)
 generalize hV:vidsAt L m j (1+tapeN L (k+2) 2).toNat (k+3)=V1 at v1 v2 ta a1 a2
 generalize hA:sndsAt L m j (tapeN L (k+1) 3) (tapeN L V1.2 3).toNat (V1.2+1)=A1 at a1 a2
 have tc:=tapeN_lt (L:=L) (k:=A1.2) (n:=3) (by omega)
 obtain ⟨c1,c2⟩:=cuesAt_ok L (tapeN L A1.2 3).toNat (A1.2+1)
 generalize hC:cuesAt L (tapeN L A1.2 3).toNat (A1.2+1)=C1 at c1 c2
 obtain ⟨r1,r2⟩:=rate3_ok L k
 have e:(seqAt L m j k).1=⟨nameB ⟨#[115]⟩ j,rate3 L k,16,16,V1.1,A1.1,C1.1,tapeN L (k+1) 3⟩:=by
  unfold seqAt
  simp only [hV,hA,hC]
 rw [e]
 have i16:I64 16:=small64 (by decide) (by decide)
 refine ⟨rfl,?_,⟨r2,i16,i16,fun t ht c hc=>((v2 t ht).2 c hc).1,fun t ht c hc=>((a2 t ht).2 c hc).1,fun c hc=>(c2 c hc).2,small64 (by simp only;omega) (by simp only;omega)⟩,?_,?_⟩
 ·have e1:vName (nameB ⟨#[115]⟩ (j:Int))=true:=(tape_name (j:Int) (by omega) (by omega)).1
  have e2:cuesOk C1.1=true:=List.all_eq_true.2 fun c hc=>(c2 c hc).1
  have e3:V1.1.all vidOk=true:=List.all_eq_true.2 fun t ht=>by
   unfold vidOk
   rw [(v2 t ht).1,List.all_eq_true.2 fun c hc=>((v2 t ht).2 c hc).2.sil]
   rfl
  have e4:A1.1.all (sndOk (tapeN L (k+1) 3))=true:=List.all_eq_true.2 fun t ht=>by
   unfold sndOk
   rw [(a2 t ht).1,List.all_eq_true.2 fun c hc=>((a2 t ht).2 c hc).2.aud]
   rfl
  have e5:chanOk (tapeN L (k+1) 3)=true:=by
   unfold chanOk
   rw [decide_eq_true t3.1,decide_eq_true (by omega:tapeN L (k+1) 3≤4)]
   rfl
  have e6:sizeOk 16=true:=by decide
  unfold seqOk seqHdOk
  simp only [e1,e2,e3,e4,e5,e6,r1,Bool.and_true]
 ·unfold seqSmall
  simp only [v1,a1,c1,Bool.and_eq_true,decide_eq_true_eq]
  omega
 ·intro t ht c hc
  rcases List.mem_append.1 ht with ht | ht
  ·exact ⟨((v2 t ht).2 c hc).2.a,((v2 t ht).2 c hc).2.b⟩
  ·exact ⟨((a2 t ht).2 c hc).2.a,((a2 t ht).2 c hc).2.b⟩
theorem seqsAt_good (L:List Int) (m:Int) (hm:m≤9):∀ (n i k:Nat),i+n≤9→(seqsAt L m n i k).1.length=n ∧ ∀ x,x<n→SeqGood m (i+x) ((seqsAt L m n i k).1.getD x default)
 | 0,i,k,_=>⟨rfl,fun x hx=>absurd hx (Nat.not_lt_zero _)⟩
 | n+1,i,k,h=>by
  obtain ⟨h1,h2⟩:=seqsAt_good L m hm n (i+1) (seqAt L m i k).2 (by omega)
  refine ⟨by simp only [seqsAt,List.length_cons,h1],fun x hx=>?_⟩
  simp only [seqsAt]
  rcases x with _ | x
  ·exact seqAt_good L m i k hm (by omega)
  ·have:=h2 x (by omega)
   rw [show i+(x+1)=i+1+x by omega]
   simpa using this
theorem nm_ne:((List.range 9).all fun i=>(List.range 9).all fun j=>i==j||((nameB ⟨#[109]⟩ (i:Int)).toList != (nameB ⟨#[109]⟩ (j:Int)).toList&&(nameB ⟨#[115]⟩ (i:Int)).toList != (nameB ⟨#[115]⟩ (j:Int)).toList))=true:=by kernel_rfl
theorem nm_inj {i j:Nat} (hi:i<9) (hj:j<9) (h:nameB ⟨#[109]⟩ (i:Int)=nameB ⟨#[109]⟩ (j:Int)∨nameB ⟨#[115]⟩ (i:Int)=nameB ⟨#[115]⟩ (j:Int)):i=j:=by
 have h1:=List.all_eq_true.1 (List.all_eq_true.1 nm_ne i (List.mem_range.2 hi)) j (List.mem_range.2 hj)
 simp only [Bool.or_eq_true,beq_iff_eq,Bool.and_eq_true,bne_iff_ne,ne_eq] at h1
 rcases h1 with h1 | h1
 ·exact h1
 ·rcases h with h | h
  ·exact absurd (congrArg ByteArray.toList h) h1.1
  ·exact absurd (congrArg ByteArray.toList h) h1.2
theorem projT_parts (L:List Int):∃ M N:Nat,1≤M∧M≤3∧1≤N∧N≤3∧(projT L).media.length=M∧(projT L).seqs.length=N∧(∀ x,x<M→MedGood x ((projT L).media.getD x default)) ∧ ∀ x,x<N→SeqGood M x ((projT L).seqs.getD x default):=by
 have n1:=tapeN_lt (L:=L) (k:=0) (n:=3) (by omega)
 have n2:=tapeN_lt (L:=L) (k:=1) (n:=3) (by omega)
 obtain ⟨M,hM⟩:∃ M:Nat,1+tapeN L 0 3=M:=⟨(1+tapeN L 0 3).toNat,by omega⟩
 obtain ⟨N,hN⟩:∃ N:Nat,1+tapeN L 1 3=N:=⟨(1+tapeN L 1 3).toNat,by omega⟩
 obtain ⟨a1,a2⟩:=medsAt_good L M 0 2 (by omega)
 obtain ⟨b1,b2⟩:=seqsAt_good L M (by omega) N 0 (medsAt L M 0 2).2 (by omega)
 refine ⟨M,N,by omega,by omega,by omega,by omega,?_⟩
 unfold projT
 rw [hM,hN]
 simp only [Int.toNat_natCast]
 exact ⟨a1,b1,fun x hx=>by have:=a2 x hx;rwa [Nat.zero_add] at this,fun x hx=>by have:=b2 x hx;rwa [Nat.zero_add] at this⟩
theorem mem_at {α : Type} [Inhabited α] {l:List α} {x : α} (h:x∈l):∃ i,i<l.length∧l.getD i default=x:=by
 obtain ⟨i,hi,rfl⟩:=List.getElem_of_mem h
 exact ⟨i,hi,getD_of_lt hi⟩
theorem projT_fit (L:List Int):(projT L).fit:=by
 obtain ⟨M,N,_,_,_,_,h1,h2,h3,h4⟩:=projT_parts L
 refine ⟨fun y hy=>?_,fun y hy=>?_⟩
 ·obtain ⟨i,hi,rfl⟩:=mem_at hy
  exact (h3 i (by omega)).fit
 ·obtain ⟨i,hi,rfl⟩:=mem_at hy
  exact (h4 i (by omega)).fit
theorem projT_valid (L:List Int):validP (projT L)=0:=by
 obtain ⟨M,N,m1,m3,s1,s3,h1,h2,h3,h4⟩:=projT_parts L
 obtain ⟨p,hp⟩:∃ p,p=projT L:=⟨_,rfl⟩
 rw [← hp] at h1 h2 h3 h4 ⊢
 have hS:smallB p=true:=by
  unfold smallB
  rw [decide_eq_true (by omega:(p.media.length:Int)≤16),decide_eq_true (by omega:(p.seqs.length:Int)≤16),all_done (d:=default) (p:=medSmall) (fun i hi=>(h3 i (by omega)).small),all_done (d:=default) (p:=seqSmall) (fun i hi=>(h4 i (by omega)).small)]
  rfl
 have hO:(p.media.all medOk&&p.seqs.all seqOk)=true:=by
  rw [all_done (d:=default) (p:=medOk) (fun i hi=>(h3 i (by omega)).ok),all_done (d:=default) (p:=seqOk) (fun i hi=>(h4 i (by omega)).ok)]
  rfl
 have hnm:(p.media.map MediumR.name).Nodup:=by
  refine List.pairwise_iff_getElem.2 fun i j hi hj hij e=>?_
  rw [List.length_map] at hi hj
  simp only [List.getElem_map] at e
  have e1:=(h3 i (by omega)).name
  have e2:=(h3 j (by omega)).name
  rw [getD_of_lt hi] at e1
  rw [getD_of_lt hj] at e2
  rw [e1,e2] at e
  have:=nm_inj (by omega) (by omega) (.inl e)
  omega
 have hns:(p.seqs.map SequenceR.name).Nodup:=by
  refine List.pairwise_iff_getElem.2 fun i j hi hj hij e=>?_
  rw [List.length_map] at hi hj
  simp only [List.getElem_map] at e
  have e1:=(h4 i (by omega)).name
  have e2:=(h4 j (by omega)).name
  rw [getD_of_lt hi] at e1
  rw [getD_of_lt hj] at e2
  rw [e1,e2] at e
  have:=nm_inj (by omega) (by omega) (.inr e)
  omega
 have midx:∀ i:Nat,i<M→mIdx p (nameB ⟨#[109]⟩ (i:Int))=(i:Int):=fun i hi=>by
  rw [← (h3 i hi).name]
  exact fIdx_nodup hnm (by omega)
 have sidx:∀ i:Nat,i<N→sIdx p (nameB ⟨#[115]⟩ (i:Int))=(i:Int):=fun i hi=>by
  rw [← (h4 i hi).name]
  exact fIdx_nodup hns (by omega)
 have srcs:∀ j,j<N → ∀ x∈srcsOf (p.seqs.getD j default),SrcIn M j x:=fun j hj x hx=>by
  unfold srcsOf srcsF at hx
  obtain ⟨c,hc,hx⟩:=List.mem_flatMap.1 (List.mem_filter.1 hx).1
  unfold clipsOf at hc
  obtain ⟨t,ht,hct⟩:=List.mem_flatten.1 hc
  obtain ⟨g1,g2⟩:=(h4 j hj).src t ht c hct
  simp only [List.mem_cons,List.not_mem_nil,or_false] at hx
  rcases hx with rfl | rfl<;>assumption
 have hC:p.seqs.all (complR p)=true:=by
  refine all_done (d:=default) fun j hj=>?_
  unfold complR
  refine List.all_eq_true.2 fun x hx=>?_
  have hin:=srcs j (by omega) x hx
  unfold thereR
  by_cases k1:x.kind=1
  ·obtain ⟨i,hi,hn⟩:=hin.m1 k1
   rw [hn,midx i (by omega),k1]
   have : ¬ (i:Int)<0:=by omega
   simp [this]
  ·by_cases k2:x.kind=2
   ·obtain ⟨i,hi,hn⟩:=hin.s2 k2
    rw [hn,sidx i (by omega),k2]
    have : ¬ (i:Int)<0:=by omega
    simp [this]
   ·simp [k1,k2]
 have hN:NetOk p:=by
  refine ⟨hns,fun s hs x hx hk=>?_⟩
  obtain ⟨j,hj,rfl⟩:=mem_at hs
  obtain ⟨i,hi,hn⟩:=(srcs j (by omega) x hx).s2 hk
  rw [hn,sidx i (by omega)]
  omega
 have walk:∀ (d j:Nat),j<N→Wk p d (p.seqs.getD j default).name→d≤j:=by
  intro d
  induction d with
  | zero=>intro j _ _;omega
  | succ d ih =>
   rintro j hj ⟨m,hm,hw⟩
   obtain ⟨x,hx,hk,rfl⟩:=(mem_inner hN (by omega)).1 hm
   obtain ⟨i,hi,hn⟩:=(srcs j hj x hx).s2 hk
   rw [hn, ← (h4 i (by omega)).name] at hw
   have:=ih i (by omega) hw
   omega
 have dep:∀ j,j<p.seqs.length→depR p (j:Int)≤j+1:=fun j hj=>by
  obtain ⟨d1,_,_⟩:=depR_facts hN hj
  rcases Nat.lt_or_ge (j+1) (depR p (j:Int)) with h | h
  ·have:=walk (j+1) j (by omega) (d1 (j+1) h)
   omega
  ·exact h
 exact (refSays p).s0 hS hO (fun i hi=>uniqM_of hnm hi) (fun i hi=>uniqS_of hns hi) hC (fun i hi=>by have:=dep i hi;omega) (fun i hi=>by have:=dep i hi;omega)
end Go.Proofs.YtkjdkbmfaamhaaaGreat
