/- Proved here: What the reference's Uses answers, for use in the proofs of the given statements; conditions stand in each theorem. -/
import Derived.Test.YtmbmmijdmdoalaaGreatZUS4
import Derived.Test.YtmbmmijdmdoalaaGreatZG
import Derived.Test.YtmbmmijdmdoalaaGreatZUS1
set_option linter.unusedSimpArgs false
set_option linter.unusedVariables false
set_option linter.unusedSectionVars false
set_option linter.unnecessarySimpa false
namespace Go.Proofs.YtmbmmijdmdoalaaGreat
open Go.RowKit
set_option maxRecDepth 4000
def ltB (a b:ByteArray):Bool:=Go.Op.bytesLess a.toList b.toList
def atL (O:List ByteArray) (m:ByteArray):Nat:=O.findIdx (fun x => !ltB x m)
def insL (O:List ByteArray) (m:ByteArray):List ByteArray:=O.take (atL O m) ++ [m]++O.drop (atL O m)
def refU (p:ProjR) (n:Int):Nat→List ByteArray
 | 0=>[]
 | k+1=>if usesT p (p.media.getD k default).name n (p.seqs.length+1)=true then insL (refU p n k) (p.media.getD k default).name else refU p n k
def refUses (p:ProjR) (name:ByteArray):List ByteArray×Int :=
 if validP p≠0 then ([],validP p) else if sIdx p name<0 then ([],7) else (refU p (sIdx p name) p.media.length,0)
theorem atL_le (O:List ByteArray) (m:ByteArray):atL O m≤O.length:=List.findIdx_le_length
theorem atL_at {O:List ByteArray} {m:ByteArray} {j:Nat} (hj:j≤O.length) (hi:∀ i,i<j→ltB (O.getD i default) m=true) (h:j<O.length→ltB (O.getD j default) m=false):atL O m=j:=by
 unfold atL
 rcases Nat.lt_or_ge j O.length with hlt | hge
 ·rw [List.findIdx_eq hlt]
  have h:=h hlt
  rw [getD_of_lt hlt] at h
  refine ⟨by rw [h];rfl,fun i hij=>?_⟩
  have:=hi i hij
  rw [getD_of_lt (Nat.lt_trans hij hlt)] at this
  rw [this]
  rfl
 ·have:j=O.length:=by omega
  subst this
  rw [List.findIdx_eq_length]
  intro x hx
  obtain ⟨i,hi2,rfl⟩:=List.getElem_of_mem hx
  have:=hi i hi2
  rw [getD_of_lt hi2] at this
  rw [this]
  rfl
theorem insL_len (O:List ByteArray) (m:ByteArray):(insL O m).length=O.length+1:=by
 unfold insL
 have:=atL_le O m
 simp only [List.length_append,List.length_take,List.length_drop,List.length_cons,List.length_nil]
 omega
theorem refU_len (p:ProjR) (n:Int):∀ k,(refU p n k).length≤k
 | 0=>Nat.le_refl _
 | k+1=>by
  have:=refU_len p n k
  unfold refU
  split
  ·rw [insL_len];omega
  ·omega
theorem filmOk_sizes {p:ProjR} (hp:FilmOk p):p.media.length≤16∧p.seqs.length≤16 ∧ ∀ s∈p.seqs,s.video.length≤8∧s.sound.length≤8 ∧ ∀ t∈s.video++s.sound,t.length≤64:=by
 have:=hp.small
 unfold smallB at this
 simp only [Bool.and_eq_true,decide_eq_true_eq] at this
 refine ⟨by omega,by omega,fun s hs=>?_⟩
 have a1:=List.all_eq_true.1 this.2 s hs
 unfold seqSmall at a1
 simp only [Bool.and_eq_true,decide_eq_true_eq] at a1
 exact ⟨by omega,by omega,fun t ht=>trk_len (valid_trk (hp.seq s hs) t ht)⟩
set_option maxHeartbeats 4000000 in
theorem cRUses (p:ProjR) (h:p.fit) (name:ByteArray):CPure Tryz.prog 16 [vproj p,vstr name] (vuses (refUses p name)):=by
 refine cpure_ofW Tryz.xen16 Tryz.func16 rfl Tryz.ntmps16 (by rw [Tryz.results16]) (aw_ok _ ?_)
 simp only [go_sem,simprocAttr,decide_true,decide_false]
 refine ⟨_,cRValidP p h,?_⟩
 simp only [go_sem,simprocAttr,decide_true,decide_false]
 refine brW (b:=decide (validP p≠0)) ?_ ⟨fun hv=>?_,fun hv=>?_⟩
 ·rw [Bool.eq_iff_iff,decide_eq_true_eq,bne_iff_ne]
 ·have hv':=of_decide_eq_true hv
  have e:refUses p name=([],validP p):=by unfold refUses;rw [if_pos hv']
  rw [e]
  unfold awS
  simp only [go_sem,simprocAttr,decide_true,decide_false]
  exact pureW_unil _
 ·have hv':validP p=0:=by simpa using hv
  have hok:=filmOk_of h hv'
  obtain ⟨hm,hn,hsz⟩:=filmOk_sizes hok
  unfold awS
  simp only [go_sem,simprocAttr,decide_true,decide_false]
  refine ⟨_,cRSequence p name,?_⟩
  simp only [go_sem,simprocAttr,decide_true,decide_false]
  refine ⟨fun hneg=>?_,fun hpos=>?_⟩
  ·have hneg':sIdx p name<0:=of_decide_eq_true hneg
   have e:refUses p name=([],7):=by unfold refUses;rw [if_neg (by rw [hv'];decide),if_pos hneg']
   rw [e]
   unfold awS
   simp only [go_sem,simprocAttr,decide_true,decide_false]
   exact pureW_unil _
  ·have hpos' : ¬ sIdx p name<0:=of_decide_eq_false hpos
   have e:refUses p name=(refU p (sIdx p name) p.media.length,0):=by unfold refUses;rw [if_neg (by rw [hv'];decide),if_neg hpos']
   rw [e]
   obtain ⟨n,hnn⟩:∃ n,n=sIdx p name:=⟨_,rfl⟩
   rw [← hnn]
   unfold sIdx at hnn
   rw [← hnn]
   unfold awS
   simp only [go_sem,simprocAttr,decide_true,decide_false]
   refine awp_loop_f (fun (k:Nat) σ => setS 8 (.t (tstrs (refU p n k))) (setS 9 (vint k) (deadS [10,21,22,23,24,25,26,27,28,29,30,31,32,33,34,35,36,37,38,39,40,41,42,43,44,45,46,47,48,49,50,51,52,53,54,55,56,57,58,59,60,61,62,63,64,65,66,67,68,69,70,71,72,73] (cleanS σ)))) (fun k=>k≤p.media.length) (fun k=>p.media.length - k) 0 (weak_of [(0,some 0)] ?_) (Nat.zero_le _) ?_
   ·simp only [go_sem,simprocAttr,decide_true,decide_false]
    all_goals first | rfl | (simp [refU];done) | trace_state
   ·intro k hk
    refine aw_ok _ ?_
    simp only [go_sem,simprocAttr,decide_true,decide_false]
    refine ⟨fun hlt=>?_,fun hge=>?_⟩
    ·simp only [bxx] at hlt
     have hkl:k<p.media.length:=by omega
     have hol:=refU_len p n k
     have hsucc:refU p n (k+1)=if usesT p (p.media.getD k default).name n (p.seqs.length+1)=true then insL (refU p n k) (p.media.getD k default).name else refU p n k:=rfl
     generalize refU p n k=O at hol hsucc ⊢
     unfold awS
     simp only [go_sem,simprocAttr,decide_true,decide_false]
     refine drawC_of 10 .done rfl (by kernel_rfl) (by kernel_rfl) (by decide) ?_
     simp only [go_sem,simprocAttr,decide_true,decide_false]
     refine ⟨⟨by omega,by omega⟩,_,cRUses1 p hn hsz n (p.media.getD k default).name,?_⟩
     simp only [go_sem,simprocAttr,decide_true,decide_false]
     obtain ⟨m,hme⟩:∃ m,(p.media.getD k default).name=m:=⟨_,rfl⟩
     rw [hme] at hsucc ⊢
     have hwk:IntKind.i64.wrap ((k:Int)+1)=((k+1:Nat):Int):=by rw [wrap1 (by omega)];omega
     refine ⟨by kernel_rfl,fun hc=>?_,fun hc=>?_⟩
     ·have hc':usesT p m n (p.seqs.length+1)=false:=by simpa using hc
      rw [if_neg (by rw [hc'];decide)] at hsucc
      unfold awS
      simp only [go_sem,simprocAttr,decide_true,decide_false]
      refine ⟨k+1,weak_self ?_,by omega,by omega⟩
      simp only [go_sem,simprocAttr,decide_true,decide_false,hwk,hsucc]
      simp
     ·have hc':usesT p m n (p.seqs.length+1)=true:=by simpa using hc
      rw [if_pos hc'] at hsucc
      unfold awS
      simp only [go_sem,simprocAttr,decide_true,decide_false]
      refine awp_loop_f (fun (j:Nat) σ => setS 10 (vint j) (deadS [38,39,40,41,42,43,44,45,46,47,48,49,50,51,52,53,54,55,56,57,58,59,60,61,62,63,64,65,66,67,68,69,70,71,72,73] (cleanS σ))) (fun j=>j≤O.length ∧ ∀ i,i<j→ltB (O.getD i default) m=true) (fun j=>O.length - j) 0 (weak_self ?_) ⟨Nat.zero_le _,by omega⟩ ?_
      ·simp only [go_sem,simprocAttr,decide_true,decide_false]<;>simp
      ·rintro j ⟨hj,hlj⟩
       refine aw_ok _ ?_
       simp only [go_sem,simprocAttr,decide_true,decide_false]
       refine drawR_of [0,1,2,3,4,5,6,7,8,9,10,11,12,13,14,15,16] .done rfl (by kernel_rfl) (by kernel_rfl) (by decide) ?_
       rcases Nat.lt_or_ge j O.length with hjl | hjl
       ·have hx:=str_nth0 hjl
        have hd:decide ((j:Int)<(O.length:Int))=true:=decide_eq_true (by omega)
        generalize hxx:O.getD j default=x at hx
        simp only [go_sem,simprocAttr,decide_true,decide_false,hx,hd,hme]
        refine ⟨⟨by omega,by omega⟩,⟨by omega,by omega⟩,?_⟩
        refine brW (b:=ltB x m) rfl ⟨fun hb=>?_,fun hb=>?_⟩
        ·unfold awS
         simp only [go_sem,simprocAttr,decide_true,decide_false,wrap1 (show j<9223372036854775807 by omega)]
         refine ⟨j+1,weak_self ?_,⟨by omega,fun i hi=>?_⟩,by omega⟩
         ·simp only [go_sem,simprocAttr,decide_true,decide_false,wrap1 (show j<9223372036854775807 by omega)]
          simp
         ·rcases Nat.lt_or_ge i j with h1 | h1
          ·exact hlj i h1
          ·rw [show i=j by omega,hxx];exact hb
        ·unfold awS
         simp only [go_sem,simprocAttr,decide_true,decide_false]
         have hins:insL O m=O.take j ++ [m]++O.drop j:=by unfold insL;rw [atL_at hj hlj (fun _=>by rw [hxx];exact hb)]
         refine drawP_of [11] 18 .done rfl (by kernel_rfl) (by kernel_rfl) (by decide) ?_
         simp only [go_sem,simprocAttr,decide_true,decide_false,hme]
         have h1:(O.take j).length≤16:=by rw [List.length_take];omega
         have h2:(O.drop j).length≤16:=by rw [List.length_drop];omega
         have e1:(O.take j).map strC=(O.map strC).take j:=List.map_take
         have e2:(O.drop j).map strC=(O.map strC).drop j:=List.map_drop
         have e3:(O.map strC).take O.length=O.map strC:=List.take_of_length_le (by simp)
         rw [e3]
         rw [← e1, ← e2]
         refine ⟨⟨by omega,by omega⟩,⟨?_,?_⟩,⟨by omega,by omega⟩,⟨?_,?_⟩,⟨by omega,by omega,by omega⟩,⟨?_,?_⟩,?_⟩
         iterate 6
          ·simp only [List.length_append,List.length_map,List.length_cons,List.length_nil,maxLen]<;>omega
         refine ⟨by kernel_rfl,k+1,weak_of [(0,some 0)] ?_,by omega,by omega⟩
         simp only [go_sem,simprocAttr,decide_true,decide_false,hwk,hsucc,hins,List.map_append]
         exact ⟨by simp,rfl,by simp⟩
       ·have hd:decide ((j:Int)<(O.length:Int))=false:=decide_eq_false (by omega)
        simp only [go_sem,simprocAttr,decide_true,decide_false,hd]
        refine ⟨fun h=>h.elim,fun h=>h.elim,?_⟩
        have hins:insL O m=O.take j ++ [m]++O.drop j:=by unfold insL;rw [atL_at hj hlj (fun h=>absurd h (by omega))]
        refine drawP_of [11] 18 .done rfl (by kernel_rfl) (by kernel_rfl) (by decide) ?_
        simp only [go_sem,simprocAttr,decide_true,decide_false,hme]
        have h1:(O.take j).length≤16:=by rw [List.length_take];omega
        have h2:(O.drop j).length≤16:=by rw [List.length_drop];omega
        have e1:(O.take j).map strC=(O.map strC).take j:=List.map_take
        have e2:(O.drop j).map strC=(O.map strC).drop j:=List.map_drop
        have e3:(O.map strC).take O.length=O.map strC:=List.take_of_length_le (by simp)
        rw [e3]
        rw [← e1, ← e2]
        refine ⟨⟨by omega,by omega⟩,⟨?_,?_⟩,⟨by omega,by omega⟩,⟨?_,?_⟩,⟨by omega,by omega,by omega⟩,⟨?_,?_⟩,?_⟩
        iterate 6
         ·simp only [List.length_append,List.length_map,List.length_cons,List.length_nil,maxLen]<;>omega
        refine ⟨by kernel_rfl,k+1,weak_of [(0,some 0)] ?_,by omega,by omega⟩
        simp only [go_sem,simprocAttr,decide_true,decide_false,hwk,hsucc,hins,List.map_append]
        exact ⟨by simp,rfl,by simp⟩
    ·simp only [bxx] at hge
     have:k=p.media.length:=by omega
     subst this
     unfold awS
     simp only [go_sem,simprocAttr,decide_true,decide_false]
     exact pureW_self rfl rfl
end Go.Proofs.YtmbmmijdmdoalaaGreat
