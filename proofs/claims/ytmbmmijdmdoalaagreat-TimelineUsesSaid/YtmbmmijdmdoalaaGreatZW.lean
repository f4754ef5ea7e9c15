/- Proved here: What the program's Valid answers for any project, for use in the proofs of the given statements; conditions stand in each theorem. -/
import Derived.Test.YtmbmmijdmdoalaaGreatZV
set_option linter.unusedSimpArgs false
set_option linter.unusedVariables false
set_option linter.unusedSectionVars false
set_option linter.unnecessarySimpa false
namespace Go.Proofs.YtmbmmijdmdoalaaGreat
open Go.RowKit
set_option maxRecDepth 4000
def chainA (p:ProjR):List SequenceR→KM→Bool×KM
 | [],K=>(true,K)
 | s::l,K=>if (chainF p (p.seqs.length+1) s.name K).1=0 then (false,(chainF p (p.seqs.length+1) s.name K).2) else chainA p l (chainF p (p.seqs.length+1) s.name K).2
theorem chainA_snoc (p:ProjR) (x:SequenceR):∀ (xs:List SequenceR) (K:KM),chainA p (xs ++ [x]) K =
  if (chainA p xs K).1=true then (if (chainF p (p.seqs.length+1) x.name (chainA p xs K).2).1=0 then (false,(chainF p (p.seqs.length+1) x.name (chainA p xs K).2).2) else (true,(chainF p (p.seqs.length+1) x.name (chainA p xs K).2).2)) else chainA p xs K
 | [],K=>by by_cases h:(chainF p (p.seqs.length+1) x.name K).1=0<;>simp [chainA,h]
 | y::xs,K=>by
  simp only [List.cons_append,chainA]
  split
  ·rfl
  ·exact chainA_snoc p x xs _
theorem chainA_stop {p:ProjR}:∀ {xs:List SequenceR} {K:KM} (ys:List SequenceR),(chainA p xs K).1=false→chainA p (xs++ys) K=chainA p xs K
 | [],K,ys,h=>by unfold chainA at h;cases h
 | x::xs,K,ys,h=>by
  by_cases h0:(chainF p (p.seqs.length+1) x.name K).1=0
  ·simp [chainA,h0]
  ·simp only [List.cons_append,chainA,if_neg h0] at h ⊢
   exact chainA_stop ys h
def deepB (K:KM) (s:SequenceR):Bool:=decide (valK s.name K≤5)
def uniqB (p:ProjR):Bool := !(decide (((catM p.media).length:Int)<p.media.length)||decide (((catS p.seqs).length:Int)<p.seqs.length))
def validP (p:ProjR):Int :=
 if smallB p=false then 5 else
 if (p.media.all medOk&&p.seqs.all seqOk)=false then 1 else
 if uniqB p=false then 8 else
 if p.seqs.all (complS p)=false then 7 else
 if (chainA p p.seqs []).1=false then 16 else
 if p.seqs.all (deepB (chainA p p.seqs []).2)=false then 18 else 0
theorem flatLen64 {l:List (List ClipR)} (h:∀ t∈l,t.length≤64):l.flatten.length≤64*l.length:=by
 induction l with
 | nil=>simp
 | cons t l ih =>
  have h1:=h t (by simp)
  have h2:=ih fun u hu=>h u (by simp [hu])
  simp only [List.flatten_cons,List.length_append,List.length_cons]
  omega
theorem namesK_len (kind:Int):∀ l:List ClipR,(namesK kind l).length≤2*l.length
 | []=>by simp [namesK]
 | c::l=>by
  have ih:=namesK_len kind l
  rw [show c::l = [c]++l from rfl,namesK_append]
  simp only [List.length_append,List.length_cons,List.length_nil]
  have:(namesK kind [c]).length≤2:=by
   unfold namesK
   rw [List.length_map]
   refine Nat.le_trans (List.length_filter_le _ _) ?_
   simp
  omega
theorem mem_namesK {kind:Int} {l:List ClipR} {x:ByteArray} (h:x∈namesK kind l):∃ c∈l, ∃ s:SourceR,(s=c.a∨s=c.b)∧s.kind=kind∧s.name=x:=by
 unfold namesK at h
 obtain ⟨s,h1,rfl⟩:=List.mem_map.1 h
 rw [List.mem_filter,List.mem_flatMap] at h1
 obtain ⟨⟨c,hc,h2⟩,h3⟩:=h1
 simp only [List.mem_cons,List.not_mem_nil,or_false] at h2
 exact ⟨c,hc,s,h2,by simpa using h3,rfl⟩
theorem valid_trk {s:SequenceR} (h:seqOk s=true):∀ t∈s.video++s.sound,vTrack t=true:=by
 unfold seqOk at h
 simp only [Bool.and_eq_true,List.all_eq_true] at h
 intro t ht
 rcases List.mem_append.1 ht with ht | ht
 ·have:=h.1.2 t ht
  unfold vidOk at this
  simp only [Bool.and_eq_true] at this
  exact this.1
 ·have:=h.2 t ht
  unfold sndOk at this
  simp only [Bool.and_eq_true] at this
  exact this.1
theorem src_size {s:SourceR} (h:vSource s=true):s.name.size≤maxLen:=by
 unfold vSource at h
 rw [Bool.or_eq_true] at h
 rcases h with h | h
 ·unfold SourceR.isZ SourceR.eqb zSource at h
  simp only [Bool.and_eq_true,beq_iff_eq] at h
  rw [bytes_inj h.1.1.1.1.1.2]
  decide
 ·simp only [Bool.and_eq_true,vName,decide_eq_true_eq] at h
  have:=h.1.1.1.1.1.2.1.2
  unfold maxLen
  omega
theorem clip_srcs {c:ClipR} (h:vClip c=true):vSource c.a=true∧vSource c.b=true :=
 ⟨(vClip_parts h).2.2.2.2.2.1,(vClip_parts h).2.2.2.2.2.2.1⟩
theorem seq_ok {s:SequenceR} (hS:seqSmall s=true) (h:seqOk s=true):SeqOk s:=by
 have ht:=valid_trk h
 have hl:∀ t∈s.video++s.sound,t.length≤64:=fun t h'=>trk_len (ht t h')
 unfold seqSmall at hS
 simp only [Bool.and_eq_true,decide_eq_true_eq] at hS
 have hcl:(clipsOf s).length≤1024:=by
  have:=flatLen64 hl
  rw [List.length_append] at this
  unfold clipsOf
  omega
 refine ⟨by omega,by omega,fun t h'=>Nat.le_trans (hl t h') (by decide),fun kind x hx=>?_,fun kind=>?_⟩
 ·obtain ⟨c,hc,src,h1,_,rfl⟩:=mem_namesK hx
  unfold clipsOf at hc
  obtain ⟨t,h2,h3⟩:=List.mem_flatten.1 hc
  have h4:=ht t h2
  unfold vTrack at h4
  simp only [Bool.and_eq_true,List.all_eq_true] at h4
  have h5:=clip_srcs (h4.1.2 c h3)
  rcases h1 with rfl | rfl
  ·exact src_size h5.1
  ·exact src_size h5.2
 ·have:=namesK_len kind (clipsOf s)
  omega
theorem shown_ok {p:ProjR} (hS:smallB p=true) (h:(p.media.all medOk&&p.seqs.all seqOk)=true) (hc:p.seqs.all (complS p)=true):ShownOk p:=by
 unfold smallB at hS
 simp only [Bool.and_eq_true,List.all_eq_true,decide_eq_true_eq] at hS h hc
 refine ⟨fun s hs=>seq_ok (hS.2 s hs) (h.2 s hs),fun s hs x hx=>?_⟩
 obtain ⟨c,hcm,src,h1,h2,rfl⟩:=mem_namesK hx
 have h3:=hc s hs
 unfold complS at h3
 rw [List.all_eq_true] at h3
 have h4:=h3 c hcm
 unfold clipThere at h4
 rw [Bool.and_eq_true] at h4
 have key:∀ src:SourceR,srcThere p src=true→src.kind=2→(seqOf p.seqs src.name).isSome=true:=fun src h5 h6=>by
  unfold srcThere at h5
  rw [h6] at h5
  cases h7:seqOf p.seqs src.name with
  | none=>rw [h7] at h5;simp at h5
  | some s=>rfl
 rcases h1 with rfl | rfl
 ·exact key _ h4.1 h2
 ·exact key _ h4.2 h2
set_option maxHeartbeats 4000000 in
theorem cValid (p:ProjR) (h:p.fit):CPure Tryz.prog 50 [vproj p] (vint (validP p)):=by
 refine cpure_of Tryz.xen50 Tryz.func50 rfl Tryz.ntmps50 (by rw [Tryz.results50]) (awp_facts fun hf=>aw_ok _ ?_)
 simp only [go_sem,↓reduceIte,Nat.reduceAdd,Nat.reduceSub,Nat.reduceLeDiff,reduceCtorEq]
 refine ⟨_,cLarge p,?_⟩
 simp only [go_sem]
 refine ⟨fun h1=>?_,fun h1=>?_⟩
 ·unfold awS
  simp only [go_sem,↓reduceIte,Nat.reduceLeDiff]
  exact ⟨nopValid,by unfold validP;rw [nt h1];rfl⟩
 ·have hS:=nf h1
  have hS2:=hS
  unfold smallB at hS2
  simp only [Bool.and_eq_true,decide_eq_true_eq,List.all_eq_true] at hS2
  have hsl:∀ s∈p.seqs,s.video.length≤1000000∧s.sound.length≤1000000:=fun s hs=>by
   have h2:=hS2.2 s hs
   unfold seqSmall at h2
   simp only [Bool.and_eq_true,decide_eq_true_eq] at h2
   omega
  unfold awS
  simp only [go_sem,↓reduceIte,reduceCtorEq]
  refine ⟨_,cHasM p.media h.media (by omega),?_⟩
  simp only [go_sem,↓reduceIte,reduceCtorEq]
  refine ⟨_,fun _=>cHasS p.seqs h.seqs (by omega) hsl,?_⟩
  simp only [go_sem,↓reduceIte]
  refine brW (b := !(p.media.all medOk&&p.seqs.all seqOk)) ?_ ⟨fun h2=>?_,fun h2=>?_⟩
  ·rw [Bool.not_and]
  ·unfold awS
   simp only [go_sem,↓reduceIte,Nat.reduceLeDiff]
   exact ⟨nopValid,by unfold validP;rw [hS,nt h2];rfl⟩
  ·have hO:=nf h2
   unfold awS
   simp only [go_sem,↓reduceIte,Nat.reduceAdd,Nat.reduceLeDiff,reduceCtorEq]
   refine icall_pure (cCat p (by omega) (by omega)) rfl ?_
   simp only [go_sem,↓reduceIte,Nat.reduceAdd,Nat.reduceLeDiff,reduceCtorEq]
   refine brW (b := !uniqB p) ?_ ⟨fun h3=>?_,fun h3=>?_⟩
   ·unfold uniqB
    simp only [Bool.not_not]
   ·unfold awS
    simp only [go_sem,↓reduceIte,Nat.reduceLeDiff,Nat.reduceEqDiff]
    exact ⟨nopValid,by unfold validP;rw [hS,hO,nt h3];rfl⟩
   ·have hU:=nf h3
    unfold awS
    simp only [go_sem,↓reduceIte,reduceCtorEq]
    refine awp_loop_f (fun (k:Nat) σ => setS 43 (vint k) (deadS [5,44,45,46,47,48,49,50,51] (cleanS σ))) (fun k=>k≤p.seqs.length ∧ ∀ i,i<k→complS p (p.seqs.getD i default)=true) (fun k=>p.seqs.length - k) 0 (weak_self ?_) ⟨Nat.zero_le _,by omega⟩ ?_
    ·simp only [go_sem,Nat.reduceLT,↓reduceIte,Nat.reduceLeDiff,Nat.reduceEqDiff,reduceCtorEq]<;>simp
    ·rintro k ⟨hk,hi⟩
     refine aw_ok _ ?_
     simp only [go_sem,↓reduceIte,Nat.reduceEqDiff,reduceCtorEq]
     refine ⟨fun hlt=>?_,fun hge=>?_⟩
     ·simp only [decide_eq_true_eq] at hlt
      have hmem:p.seqs.getD k default∈p.seqs:=mem_getD (by omega)
      have hok:=seq_ok (hS2.2 _ hmem) (by rw [Bool.and_eq_true,List.all_eq_true,List.all_eq_true] at hO;exact hO.2 _ hmem)
      unfold awS
      simp only [go_sem,↓reduceIte,Nat.reduceAdd,Nat.reduceLeDiff,Nat.reduceEqDiff]
      refine ⟨⟨by omega,by omega⟩,_,cCompl p _ hok.hv hok.hs hok.hm,?_⟩
      simp only [go_sem]
      refine brW (b := !complS p (p.seqs.getD k default)) ?_ ⟨fun hc=>?_,fun hc=>?_⟩
      ·rfl
      ·unfold awS
       simp only [go_sem,↓reduceIte,Nat.reduceLeDiff,Nat.reduceEqDiff]
       exact ⟨nopValid,by unfold validP;rw [hS,hO,hU,all_hit (d:=default) (p:=complS p) (k:=k) (by omega) (nt hc)];rfl⟩
      ·unfold awS
       simp only [go_sem,↓reduceIte]
       refine ⟨k+1,weak_self ?_,⟨by omega,upto hi (nf hc)⟩,by omega⟩
       simp only [go_sem,Nat.reduceLT,↓reduceIte,Nat.reduceLeDiff,Nat.reduceEqDiff,reduceCtorEq]<;>simp [wrap1 (show k<9223372036854775807 by omega)]
     ·simp only [decide_eq_false_iff_not] at hge
      have hC:p.seqs.all (complS p)=true:=all_done (d:=default) (p:=complS p) (fun i h2=>hi i (by omega))
      have hSh:=shown_ok hS hO hC
      unfold awS
      simp only [go_sem,↓reduceIte,Nat.reduceAdd,reduceCtorEq]
      refine awp_loop_f (fun (k:Nat) σ => setB 3 (.map (kE (chainA p (p.seqs.take k) []).2)) (setS 56 (vint k) (deadS [8,57,58,59,60,61,62,63,64,65,66] (cleanS σ)))) (fun k=>k≤p.seqs.length∧(chainA p (p.seqs.take k) []).1=true) (fun k=>p.seqs.length - k) 0 (weak_self ?_) ⟨Nat.zero_le _,rfl⟩ ?_
      ·simp only [go_sem,Nat.reduceLT,↓reduceIte,Nat.reduceLeDiff,Nat.reduceEqDiff,reduceCtorEq]<;>simp [chainA,kE]
      ·rintro k ⟨hk,hok⟩
       refine aw_ok _ ?_
       simp only [go_sem,↓reduceIte,Nat.reduceEqDiff,reduceCtorEq]
       refine ⟨fun hlt=>?_,fun hge=>?_⟩
       ·simp only [decide_eq_true_eq] at hlt
        have hk':k<p.seqs.length:=by omega
        obtain ⟨s,hs⟩:∃ s,s=p.seqs.getD k default:=⟨_,rfl⟩
        have hmem:s∈p.seqs:=by rw [hs];exact mem_getD hk'
        obtain ⟨r,hr⟩:∃ r,r=chainA p (p.seqs.take k) []:=⟨_,rfl⟩
        have hsn:=chainA_snoc p s (p.seqs.take k) []
        rw [← hr,if_pos (hr ▸ hok),hs, ← take_snoc hk', ← hs] at hsn
        rw [← hr]
        have hseq:(seqOf p.seqs s.name).isSome=true:=by
         cases h9:seqOf p.seqs s.name with
         | none=>exact absurd rfl (lastOf_none.1 h9 s hmem)
         | some _=>rfl
        have hun:unk p.seqs r.2<p.seqs.length+1:=Nat.lt_succ_of_le (List.length_filter_le _ _)
        unfold awS
        simp only [go_sem,↓reduceIte,Nat.reduceAdd,Nat.reduceLeDiff,Nat.reduceEqDiff]
        rw [← hs]
        refine ⟨⟨by omega,by omega⟩,lcall_io Tryz.xen113 (icall_io (cChain p hSh (p.seqs.length+1) s.name r.2 hseq hun) [3] rfl (by omega) (by decide) ?_ rfl rfl rfl rfl ?_)⟩
        ·simp only [go_sem,Nat.reduceLT,↓reduceIte,Nat.reduceEqDiff,(ren_kE id _).2,(ren_kE _ _).1]
        ·simp only [go_sem,Nat.reduceLT,↓reduceIte,Nat.reduceAdd,Nat.reduceSub,Nat.reduceEqDiff,reduceCtorEq]
         refine brW (b:=decide ((chainF p (p.seqs.length+1) s.name r.2).1=0)) ?_ ⟨fun h0=>?_,fun h0=>?_⟩
         ·rfl
         ·rw [decide_eq_true_eq] at h0
          rw [if_pos h0] at hsn
          have hst:=chainA_stop (p:=p) (xs:=p.seqs.take (k+1)) (K:=[]) (p.seqs.drop (k+1)) (by rw [hsn])
          rw [List.take_append_drop,hsn] at hst
          unfold awS
          simp only [go_sem,↓reduceIte,Nat.reduceLeDiff,Nat.reduceEqDiff]
          exact ⟨nopValid,by unfold validP;rw [hS,hO,hU,hC,hst];rfl⟩
         ·rw [decide_eq_false_iff_not] at h0
          rw [if_neg h0] at hsn
          unfold awS
          simp only [go_sem,↓reduceIte]
          refine ⟨k+1,weak_self ?_,⟨by omega,by rw [hsn]⟩,by omega⟩
          simp only [go_sem,Nat.reduceLT,↓reduceIte,Nat.reduceLeDiff,Nat.reduceEqDiff,reduceCtorEq]
          rw [hsn]
          simp [wrap1 (show k<9223372036854775807 by omega),ren_kE]
       ·simp only [decide_eq_false_iff_not] at hge
        rw [List.take_of_length_le (show p.seqs.length≤k by omega)] at hok
        unfold awS
        simp only [go_sem,↓reduceIte,reduceCtorEq]
        rw [List.take_of_length_le (show p.seqs.length≤k by omega)]
        obtain ⟨KK,hKK⟩:∃ KK,KK=(chainA p p.seqs []).2:=⟨_,rfl⟩
        rw [← hKK]
        refine awp_loop_f (fun (k:Nat) σ => setS 70 (vint k) (deadS [10,71,72,73,74,75,76,77,78,79] (cleanS σ))) (fun k=>k≤p.seqs.length ∧ ∀ i,i<k→deepB KK (p.seqs.getD i default)=true) (fun k=>p.seqs.length - k) 0 (weak_self ?_) ⟨Nat.zero_le _,by omega⟩ ?_
        ·simp only [go_sem,Nat.reduceLT,↓reduceIte,Nat.reduceLeDiff,Nat.reduceEqDiff,reduceCtorEq]<;>simp
        ·rintro k ⟨hk,hi⟩
         refine aw_ok _ ?_
         simp only [go_sem,↓reduceIte,Nat.reduceEqDiff,reduceCtorEq]
         refine ⟨fun hlt=>?_,fun hge=>?_⟩
         ·simp only [decide_eq_true_eq] at hlt
          obtain ⟨s,hs⟩:∃ s,s=p.seqs.getD k default:=⟨_,rfl⟩
          unfold awS
          rcases hg:getK s.name KK with _ | v
          all_goals
           simp only [go_sem,↓reduceIte,Nat.reduceAdd,Nat.reduceLeDiff,Nat.reduceEqDiff, ← hs,look_K,hg,Option.map_none,Option.map_some]
           refine ⟨⟨by omega,by omega⟩,?_⟩
           refine brW (b := !deepB KK (p.seqs.getD k default)) ?_ ⟨fun hc=>?_,fun hc=>?_⟩
           ·rw [gt_not]
            unfold deepB valK
            rw [← hs,hg]
            rfl
           ·unfold awS
            simp only [go_sem,↓reduceIte,Nat.reduceLeDiff,Nat.reduceEqDiff]
            exact ⟨nopValid,by unfold validP;rw [hS,hO,hU,hC,hok, ← hKK,all_hit (d:=default) (p:=deepB KK) (k:=k) (by omega) (nt hc)];rfl⟩
           ·unfold awS
            simp only [go_sem,↓reduceIte]
            refine ⟨k+1,weak_self ?_,⟨by omega,upto hi (nf hc)⟩,by omega⟩
            simp only [go_sem,Nat.reduceLT,↓reduceIte,Nat.reduceLeDiff,Nat.reduceEqDiff,reduceCtorEq]<;>simp [wrap1 (show k<9223372036854775807 by omega)]
         ·simp only [decide_eq_false_iff_not] at hge
          unfold awS
          simp only [go_sem,↓reduceIte,Nat.reduceLeDiff,Nat.reduceEqDiff]
          exact ⟨nopValid,by unfold validP;rw [hS,hO,hU,hC,hok, ← hKK,all_done (d:=default) (p:=deepB KK) (fun i h2=>hi i (by omega))];rfl⟩
open Go.RowKit
set_option maxRecDepth 4000
abbrev nilV:V := .t (.lit (.slice none 0 0))
theorem valid0:validP ⟨[],[]⟩=0:=of_decide_eq_true (by kernel_rfl)
theorem cValid0:CPure Tryz.prog 50 [.agg [nilV,nilV]] (vint 0):=by
 have h:=cValid ⟨[],[]⟩ ⟨by simp,by simp⟩
 rw [valid0] at h
 exact cpure_as (.cons (as_agg (by exact ⟨.inr ⟨rfl,_,_,rfl⟩, .inr ⟨rfl,_,_,rfl⟩,trivial⟩)) .nil) h
end Go.Proofs.YtmbmmijdmdoalaaGreat
