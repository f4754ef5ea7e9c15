/- Proved here: The project that a tape gives is valid, for use in the proofs of the given statements; conditions stand in each theorem. -/
import Derived.Test.YtinobebofhbnnaaGreatYF
import Derived.Test.YtinobebofhbnnaaGreatYD
set_option linter.unusedSimpArgs false
set_option linter.unusedVariables false
set_option linter.unusedSectionVars false
set_option linter.unnecessarySimpa false
namespace Go.Proofs.YtinobebofhbnnaaGreat
open Go.RowKit
set_option maxRecDepth 4000
structure SrcIn (m s:Int) (x:SourceR):Prop where
 m1:x.kind=1 → ∃ i:Nat,(i:Int)<m∧x.name=nameB ⟨#[109]⟩ i
 s2:x.kind=2 → ∃ i:Nat,(i:Int)<s∧x.name=nameB ⟨#[115]⟩ i
theorem in_z (m s:Int):SrcIn m s zSource:=⟨fun h=>absurd h (by decide),fun h=>absurd h (by decide)⟩
theorem srcAt_in (L:List Int) (k:Nat) (m s:Int) (hm:m≤9) (hs:s≤9):SrcIn m s (srcAt L k m s).1:=by
 unfold srcAt
 split
 ·exact in_z m s
 ·split
  ·rename_i h1
   simp only [Bool.and_eq_true,decide_eq_true_eq] at h1
   have:=tapeN_lt (L:=L) (k:=k+5) (n:=s) (by omega)
   exact ⟨fun h=>(by simp at h),fun _=>⟨(tapeN L (k+5) s).toNat,by omega,by simp only;rw [Int.toNat_of_nonneg this.1]⟩⟩
  ·split
   ·rename_i h1
    have:=tapeN_lt (L:=L) (k:=k+5) (n:=m) (by omega)
    exact ⟨fun _=>⟨(tapeN L (k+5) m).toNat,by omega,by simp only;rw [Int.toNat_of_nonneg this.1]⟩,fun h=>(by simp at h)⟩
   ·exact in_z m s
structure VidOk (m s:Int) (c:ClipR):Prop where
 a:SrcIn m s c.a
 b:SrcIn m s c.b
 sil:silentB c=true
theorem clipAt_vid (L:List Int) (k:Nat) (m s:Int) (hm:m≤9) (hs:s≤9):VidOk m s (clipAt L k m s).1:=by
 have h1:=srcAt_in L (k+2) m s hm hs
 have h2:=srcAt_in L (srcAt L (k+2) m s).2 m s hm hs
 have z:=in_z m s
 unfold clipAt
 simp only
 split
 ·exact ⟨z,z,rfl⟩
 ·split
  ·split<;>exact ⟨h1,h2,rfl⟩
  ·split
   ·exact ⟨h1,h2,rfl⟩
   ·split<;>exact ⟨h1,z,rfl⟩
theorem split_vid {m s:Int} {c:ClipR} (h:VidOk m s c) (n:Int):VidOk m s (splitD c n):=⟨⟨h.a.m1,h.a.s2⟩,h.b,h.sil⟩
theorem trkStep_vid (L:List Int) (k:Nat) (m s:Int) (hm:m≤9) (hs:s≤9):∀ c∈(trkStep L k m s).1,VidOk m s c:=by
 have h1:=clipAt_vid L k m s hm hs
 unfold trkStep
 split
 ·split
  ·intro c hc
   simp only [List.mem_cons,List.not_mem_nil,or_false] at hc
   rcases hc with rfl | rfl
   ·exact h1
   ·exact split_vid h1 _
  ·intro c hc
   simp only [List.mem_cons,List.not_mem_nil,or_false] at hc
   rw [hc];exact h1
 ·intro c hc
  simp only [List.mem_cons,List.not_mem_nil,or_false] at hc
  rw [hc];exact h1
theorem trkGo_vid (L:List Int) (m s:Int) (hm:m≤9) (hs:s≤9):∀ (n k:Nat), ∀ c∈(trkGo L m s n k).1,VidOk m s c
 | 0,k=>fun c hc=>by simp [trkGo] at hc
 | n+1,k=>fun c hc=>by
  simp only [trkGo] at hc
  rcases List.mem_append.1 hc with hc | hc
  ·exact trkStep_vid L k m s hm hs c hc
  ·exact trkGo_vid L m s hm hs n _ c hc
structure SndOk (m s ch:Int) (c:ClipR):Prop where
 a:SrcIn m s c.a
 b:SrcIn m s c.b
 ok:vClip c=true
 aud:audB ch c=true
 l9:c.len≤9
open Go.RowKit
set_option maxRecDepth 4000
structure MedGood (i:Nat) (y:MediumR):Prop where
 name:y.name=nameB ⟨#[109]⟩ i
 ok:medOk y=true
 fit:y.fit
 small:medSmall y=true
structure SeqGood (m:Int) (j:Nat) (y:SequenceR):Prop where
 name:y.name=nameB ⟨#[115]⟩ j
 ok:seqOk y=true
 fit:y.fit
 small:seqSmall y=true
 src:∀ t∈y.video++y.sound, ∀ c∈t,SrcIn m j c.a∧SrcIn m j c.b
theorem nm_ne:((List.range 9).all fun i=>(List.range 9).all fun j=>i==j||((nameB ⟨#[109]⟩ (i:Int)).toList != (nameB ⟨#[109]⟩ (j:Int)).toList&&(nameB ⟨#[115]⟩ (i:Int)).toList != (nameB ⟨#[115]⟩ (j:Int)).toList))=true:=by kernel_rfl
theorem nm_inj {i j:Nat} (hi:i<9) (hj:j<9) (h:nameB ⟨#[109]⟩ (i:Int)=nameB ⟨#[109]⟩ (j:Int)∨nameB ⟨#[115]⟩ (i:Int)=nameB ⟨#[115]⟩ (j:Int)):i=j:=by
 have h1:=List.all_eq_true.1 (List.all_eq_true.1 nm_ne i (List.mem_range.2 hi)) j (List.mem_range.2 hj)
 simp only [Bool.or_eq_true,beq_iff_eq,Bool.and_eq_true,bne_iff_ne,ne_eq] at h1
 rcases h1 with h1 | h1
 ·exact h1
 ·rcases h with h | h
  ·exact absurd (congrArg ByteArray.toList h) h1.1
  ·exact absurd (congrArg ByteArray.toList h) h1.2
end Go.Proofs.YtinobebofhbnnaaGreat
