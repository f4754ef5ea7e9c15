/- Proved here: Uses and the reference's Uses answer the same, for use in the proofs of the given statements; conditions stand in each theorem. -/
import Derived.Test.YtmbmmijdmdoalaaGreatZUS5
import Derived.Test.YtmbmmijdmdoalaaGreatZT
set_option linter.unusedSimpArgs false
set_option linter.unusedVariables false
set_option linter.unusedSectionVars false
set_option linter.unnecessarySimpa false
namespace Go.Proofs.YtmbmmijdmdoalaaGreat
open Go.RowKit
set_option maxRecDepth 4000
open Go.Sort
theorem bytesU_inj {a b:ByteArray} (h:a.data.toList=b.data.toList):a=b:=by
 rcases a with ⟨⟨a⟩⟩
 rcases b with ⟨⟨b⟩⟩
 have:a=b:=h
 rw [this]
theorem ltB_iff (a b:ByteArray):ltB a b=true ↔ a.data.toList<b.data.toList:=by
 unfold ltB
 rw [bytesLess_eq,decide_eq_true_eq,ByteArray.toList_eq,ByteArray.toList_eq]
theorem ltB_trans {a b c:ByteArray} (h1:ltB a b=true) (h2:ltB b c=true):ltB a c=true:=by
 rw [ltB_iff] at *
 exact List.lt_trans h1 h2
theorem ltB_irr (a:ByteArray):ltB a a=false:=by
 cases h:ltB a a with
 | false=>rfl
 | true=>exact absurd ((ltB_iff _ _).1 h) (List.lt_irrefl _)
theorem ltB_tot {a b:ByteArray} (h:ltB a b=false) (hne:a≠b):ltB b a=true:=by
 cases h2:ltB b a with
 | true=>rfl
 | false =>
  have n1 : ¬ a.data.toList<b.data.toList:=fun hlt=>by rw [(ltB_iff _ _).2 hlt] at h;cases h
  have n2 : ¬ b.data.toList<a.data.toList:=fun hlt=>by rw [(ltB_iff _ _).2 hlt] at h2;cases h2
  exact absurd (bytesU_inj (List.le_antisymm n2 n1)) hne
def Asc (O:List ByteArray):Prop:=O.Pairwise fun a b=>ltB a b=true
theorem asc_nodup {O:List ByteArray} (h:Asc O):O.Nodup:=h.imp fun {a b} hab e=>by
 rw [e,ltB_irr] at hab
 cases hab
theorem asc_ins {O:List ByteArray} {m:ByteArray} (h:Asc O) (hm:m ∉ O):Asc (insL O m):=by
 obtain ⟨j,hj⟩:∃ j,atL O m=j:=⟨_,rfl⟩
 have h1:∀ x∈O.take j,ltB x m=true:=fun x hx=>by
  obtain ⟨i,hi,rfl⟩:=List.getElem_of_mem hx
  rw [List.length_take] at hi
  rw [List.getElem_take]
  have:=List.not_of_lt_findIdx (p:=fun x => !ltB x m) (xs:=O) (i:=i) (by unfold atL at hj;omega)
  simpa using this
 have h2:∀ x∈O.drop j,ltB m x=true:=by
  rcases Nat.lt_or_ge j O.length with hlt | hge
  ·have hf:ltB O[j] m=false:=by
    have:=List.findIdx_getElem (p:=fun x => !ltB x m) (xs:=O) (w:=by unfold atL at hj;omega)
    unfold atL at hj
    simp only [hj] at this
    simpa using this
   have hc:ltB m O[j]=true:=ltB_tot hf fun e=>hm (by rw [← e];exact List.getElem_mem hlt)
   intro x hx
   rw [List.drop_eq_getElem_cons hlt] at hx
   rcases List.mem_cons.1 hx with rfl | hx
   ·exact hc
   ·have hp:(O.drop j).Pairwise fun a b=>ltB a b=true:=h.sublist (List.drop_sublist j O)
    rw [List.drop_eq_getElem_cons hlt,List.pairwise_cons] at hp
    exact ltB_trans hc (hp.1 x hx)
  ·intro x hx
   rw [List.drop_eq_nil_of_le hge] at hx
   cases hx
 unfold insL Asc
 rw [hj,List.pairwise_append,List.pairwise_append]
 refine ⟨⟨h.sublist (List.take_sublist j O),List.pairwise_singleton _ _,fun a ha b hb=>?_⟩,h.sublist (List.drop_sublist j O),fun a ha b hb=>?_⟩
 ·rw [List.mem_singleton.1 hb]
  exact h1 a ha
 ·rcases List.mem_append.1 ha with ha | ha
  ·exact ltB_trans (h1 a ha) (h2 b hb)
  ·rw [List.mem_singleton.1 ha]
   exact h2 b hb
theorem mem_ins {O:List ByteArray} {m x:ByteArray}:x∈insL O m ↔ x=m∨x∈O:=by
 unfold insL
 have e:x∈O ↔ x∈O.take (atL O m)∨x∈O.drop (atL O m):=by
  rw [← List.mem_append,List.take_append_drop]
 rw [List.mem_append,List.mem_append,List.mem_singleton,e]
 constructor
 ·rintro ((h | h) | h)
  ·exact .inr (.inl h)
  ·exact .inl h
  ·exact .inr (.inr h)
 ·rintro (h | h | h)
  ·exact .inl (.inr h)
  ·exact .inl (.inl h)
  ·exact .inr h
theorem sortN_asc {O:List ByteArray} (h:Asc O):sortN O=O:=by
 unfold sortN
 rw [List.mergeSort_of_pairwise]
 ·rw [List.map_map]
  have:((fun b:List UInt8=>(⟨b.toArray⟩:ByteArray)) ∘ fun s:ByteArray=>s.data.toList)=id:=by
   funext s
   simp
  rw [this,List.map_id]
 ·rw [List.pairwise_map]
  exact h.imp fun {a b} hab=>decide_eq_true (List.le_of_lt ((ltB_iff _ _).1 hab))
theorem refU_spec {p:ProjR} (hnd:(p.media.map MediumR.name).Nodup) (n:Int):∀ k,k≤p.media.length→Asc (refU p n k) ∧ ∀ x,x∈refU p n k ↔ ∃ i,i<k∧(p.media.getD i default).name=x∧usesT p x n (p.seqs.length+1)=true
 | 0,_=>⟨List.Pairwise.nil,fun x=>⟨fun h=>(by cases h),fun ⟨i,h,_⟩=>absurd h (by omega)⟩⟩
 | k+1,hk=>by
  obtain ⟨h1,h2⟩:=refU_spec hnd n k (by omega)
  unfold refU
  by_cases hu:usesT p (p.media.getD k default).name n (p.seqs.length+1)=true
  ·rw [if_pos hu]
   refine ⟨asc_ins h1 fun hm=>?_,fun x=>?_⟩
   ·obtain ⟨i,hi,e,_⟩:=(h2 _).1 hm
    have a1:=fIdx_nodup hnd (i:=i) (by omega)
    have a2:=fIdx_nodup hnd (i:=k) (by omega)
    rw [e,a2] at a1
    omega
   ·rw [mem_ins,h2]
    constructor
    ·rintro (rfl | ⟨i,hi,h3⟩)
     ·exact ⟨k,by omega,rfl,hu⟩
     ·exact ⟨i,by omega,h3⟩
    ·rintro ⟨i,hi,h3,h4⟩
     rcases Nat.lt_or_ge i k with h5 | h5
     ·exact .inr ⟨i,h5,h3,h4⟩
     ·rw [show i=k by omega] at h3
      exact .inl h3.symm
  ·rw [if_neg hu]
   refine ⟨h1,fun x=>?_⟩
   rw [h2]
   constructor
   ·rintro ⟨i,hi,h3⟩
    exact ⟨i,by omega,h3⟩
   ·rintro ⟨i,hi,h3,h4⟩
    rcases Nat.lt_or_ge i k with h5 | h5
    ·exact ⟨i,h5,h3,h4⟩
    ·rw [show i=k by omega] at h3
     rw [h3] at hu
     exact absurd h4 hu
theorem refUses_eq (p:ProjR) (hf:p.fit) (name:ByteArray):refUses p name=usesP p name:=by
 unfold refUses usesP
 by_cases hv:validP p≠0
 ·rw [if_pos hv,if_pos hv]
 ·rw [if_neg hv,if_neg hv]
  have hv':validP p=0:=by simpa using hv
  have hok:=filmOk_of hf hv'
  cases hs:seqOf p.seqs name with
  | none =>
   have:sIdx p name<0:=fIdx_neg.2 hs
   rw [if_pos this]
  | some s =>
   have hneg : ¬ sIdx p name<0:=fun hlt=>by
    have h1:=(fIdx_neg (nm:=SequenceR.name)).1 hlt
    rw [show lastOf SequenceR.name name p.seqs=some s from hs] at h1
    cases h1
   rw [if_neg hneg]
   obtain ⟨i,hi,h1,rfl⟩:=sIdx_at (Int.not_lt.1 hneg)
   rw [h1]
   have hsp:=refU_spec hok.uniq.1 (i:Int) p.media.length (Nat.le_refl _)
   have hcm:=coll_med hok 5 (p.seqs.getD i default).name ([],[]) (fun x hx=>by cases hx)
   have huc:=fun m=>uses_coll hok hv' (m:=m) hi
   generalize (collF p 5 (p.seqs.getD i default).name ([],[])).1=C at hcm huc
   generalize refU p (i:Int) p.media.length=O at hsp
   have hp:O.Perm (once C):=(List.perm_ext_iff_of_nodup (asc_nodup hsp.1) (once_nodup C)).2 fun x=>by
    rw [hsp.2,mem_once]
    constructor
    ·rintro ⟨j,_,_,h3⟩
     rw [huc] at h3
     exact memB_iff.1 h3
    ·intro hx
     obtain ⟨hn,_⟩:=med_name hok (hcm x hx)
     obtain ⟨y,hy,rfl⟩:=List.mem_map.1 hn
     obtain ⟨j,hj,rfl⟩:=List.getElem_of_mem hy
     exact ⟨j,hj,by rw [getD_of_lt hj],by rw [huc];exact memB_iff.2 hx⟩
   show (O,(0:Int))=(sortN (once C),0)
   rw [← sortN_of_perm hp,sortN_asc hsp.1]
theorem cRUsesP (p:ProjR) (h:p.fit) (name:ByteArray):CPure Tryz.prog 16 [vproj p,vstr name] (vuses (usesP p name)):=by
 rw [← refUses_eq p h name]
 exact cRUses p h name
end Go.Proofs.YtmbmmijdmdoalaaGreat
