/- Proved here: What the reference's uses answers, for use in the proofs of the given statements; conditions stand in each theorem. -/
import Derived.Test.YtmbmmijdmdoalaaGreatYD
import Derived.Test.YtmbmmijdmdoalaaGreatZUS2
set_option linter.unusedSimpArgs false
set_option linter.unusedVariables false
set_option linter.unusedSectionVars false
set_option linter.unnecessarySimpa false
namespace Go.Proofs.YtmbmmijdmdoalaaGreat
open Go.RowKit
set_option maxRecDepth 4000
def usesX (m:ByteArray) (x:SourceR):Bool:=x.kind==1&&x.name.toList==m.toList
def usesS (p:ProjR) (m:ByteArray) (i:Nat):Bool:=(srcsOf (p.seqs.getD i default)).any (usesX m)
def usI (p:ProjR) (K:IM):Nat→IM
 | 0=>K
 | i+1=>lvlI p (usI p K i) (usI p K i) i
def usT (p:ProjR) (n:Int):Nat→IM
 | 0=>[n]
 | t+1=>usI p (usT p n t) p.seqs.length
def usesI (p:ProjR) (m:ByteArray) (K:IM):Nat→Bool
 | 0=>false
 | i+1=>usesI p m K i||(decide ((i:Int)∈usI p K i)&&usesS p m i)
def usesT (p:ProjR) (m:ByteArray) (n:Int):Nat→Bool
 | 0=>false
 | t+1=>usesT p m n t||usesI p m (usT p n t) p.seqs.length
theorem usesI_mono {p:ProjR} {m:ByteArray} {K:IM} {i:Nat} (h:usesI p m K i=true):∀ e,usesI p m K (i+e)=true
 | 0=>h
 | e+1=>by
  rw [← Nat.add_assoc]
  unfold usesI
  rw [usesI_mono h e]
  rfl
theorem usesT_mono {p:ProjR} {m:ByteArray} {n:Int} {t:Nat} (h:usesT p m n t=true):∀ e,usesT p m n (t+e)=true
 | 0=>h
 | e+1=>by
  rw [← Nat.add_assoc]
  unfold usesT
  rw [usesT_mono h e]
  rfl
theorem hit_of {p:ProjR} {m:ByteArray} {n:Int} {t i:Nat} (ht:t≤p.seqs.length) (hi:i<p.seqs.length) (h1:(i:Int)∈usI p (usT p n t) i) (h2:usesS p m i=true):usesT p m n (p.seqs.length+1)=true:=by
 have a1:usesI p m (usT p n t) (i+1)=true:=by
  unfold usesI
  rw [decide_eq_true h1,h2]
  simp
 have a2:=usesI_mono a1 (p.seqs.length - (i+1))
 rw [show i+1+(p.seqs.length - (i+1))=p.seqs.length by omega] at a2
 have a3:usesT p m n (t+1)=true:=by
  unfold usesT
  rw [a2]
  simp
 have a4:=usesT_mono a3 (p.seqs.length - t)
 rwa [show t+1+(p.seqs.length - t)=p.seqs.length+1 by omega] at a4
theorem any_done {α : Type} [Inhabited α] {f : α → Bool} {L:List α} (h:∀ k,k<L.length→f (L.getD k default)=false):L.any f=false:=by
 rw [List.any_eq_false]
 intro x hx
 obtain ⟨k,hk,rfl⟩:=List.getElem_of_mem hx
 have:=h k hk
 rw [getD_of_lt hk] at this
 rw [this]
 decide
theorem any_hit {α : Type} [Inhabited α] {f : α → Bool} {L:List α} {k:Nat} (hk:k<L.length) (h:f (L.getD k default)=true):L.any f=true:=List.any_eq_true.2 ⟨_,mem_getD hk,h⟩
set_option maxHeartbeats 4000000 in
theorem cRUses1 (p:ProjR) (hp:p.seqs.length≤16) (hs:∀ s∈p.seqs,s.video.length≤8∧s.sound.length≤8 ∧ ∀ t∈s.video++s.sound,t.length≤64) (n:Int) (m:ByteArray):CPure Tryz.prog 57 [vproj p,vint n,vstr m] (vbool (usesT p m n (p.seqs.length+1))):=by
 refine cpure_of Tryz.xen57 Tryz.func57 rfl Tryz.ntmps57 (by rw [Tryz.results57]) (aw_ok _ ?_)
 simp only [go_sem,simprocAttr]
 refine ⟨by decide,?_⟩
 refine awp_loop_f (fun (t:Nat) σ => setB 1 (.map (iE (usT p n t))) (setS 8 (vint t) (deadS [9,10,11,15,16,17,18,19,20,21,22,23,24,25,26,27,28,29,30,31,32,33,34,35,36,37,38,39,40,41,42,43,44,45,46,47,48,49,50,51,52,53,54,55,56,57,58,59,60,61,62,63,64,65,66,67,68,69,70,71,72,73] (cleanS σ)))) (fun t=>t≤p.seqs.length+1∧usesT p m n t=false) (fun t=>p.seqs.length+1 - t) 0 (weak_self ?_) ⟨Nat.zero_le _,rfl⟩ ?_
 ·simp only [go_sem,simprocAttr]
  all_goals first | rfl | (simp [usT,iE];done) | trace_state
 ·rintro t ⟨ht,hh⟩
  refine aw_ok _ ?_
  simp only [go_sem,simprocAttr]
  obtain ⟨K,hK⟩:∃ K,K=usT p n t:=⟨_,rfl⟩
  rw [← hK]
  refine ⟨fun hgo=>?_,fun hstop=>?_⟩
  ·simp only [bxx] at hgo
   have htl:t≤p.seqs.length:=by omega
   unfold awS
   simp only [go_sem,simprocAttr]
   refine awp_loop_f (fun (i:Nat) σ => setB 1 (.map (iE (usI p K i))) (setS 9 (vint i) (deadS [10,11,22,23,24,25,26,27,28,29,30,31,32,33,34,35,36,37,38,39,40,41,42,43,44,45,46,47,48,49,50,51,52,53,54,55,56,57,58,59,60,61,62,63,64,65,66,67,68,69,70,71,72,73] (cleanS σ)))) (fun i=>i≤p.seqs.length∧usesI p m K i=false) (fun i=>p.seqs.length - i) 0 (weak_self ?_) ⟨Nat.zero_le _,rfl⟩ ?_
   ·simp only [go_sem,simprocAttr]<;>simp [usI,iE]
   ·rintro i ⟨hi,hhi⟩
    refine aw_ok _ ?_
    simp only [go_sem,simprocAttr]
    refine ⟨fun hlt=>?_,fun hge=>?_⟩
    ·simp only [bxx] at hlt
     have hil:i<p.seqs.length:=by omega
     obtain ⟨N,hN⟩:∃ N,N=usI p K i:=⟨_,rfl⟩
     have hL1:usI p K (i+1)=lvlI p N N i:=by rw [hN];rfl
     have hH1:usesI p m K (i+1)=(usesI p m K i||(decide ((i:Int)∈N)&&usesS p m i)):=by rw [hN];rfl
     rw [hhi,Bool.false_or] at hH1
     have hfin:(i:Int)∈N→usesS p m i=true→usesT p m n (p.seqs.length+1)=true:=fun h1 h2=>hit_of htl hil (by rw [← hK, ← hN];exact h1) h2
     rw [← hN]
     by_cases hm:(i:Int)∈N
     ·have hlk:lookE (.int .i64 (i:Int)) (iE N)=some (vbool true):=by rw [look_I,if_pos hm]
      obtain ⟨s,hsd⟩:∃ s,s=p.seqs.getD i default:=⟨_,rfl⟩
      have hsm:s∈p.seqs:=by rw [hsd];exact mem_getD hil
      obtain ⟨q1,q2,q3⟩:=hs s hsm
      unfold lvlI at hL1
      rw [if_pos hm, ← hsd] at hL1
      have hsl:(srcsOf s).length≤4096:=by
       have a1:=srcsF_len (clipsOf s)
       have a2:=flatLen64 q3
       rw [List.length_append] at a2
       unfold srcsOf clipsOf at *
       omega
      have hfin:=hfin hm
      rw [decide_eq_true hm,Bool.true_and] at hH1
      unfold usesS at hfin hH1
      rw [← hsd] at hfin hH1
      unfold awS
      simp only [go_sem,simprocAttr,hlk, ← hsd]
      refine ⟨by decide,⟨by omega,by omega⟩,_,cRSources s q1 q2 q3,?_⟩
      simp only [go_sem,simprocAttr]
      obtain ⟨L,hL⟩:∃ L,L=srcsOf s:=⟨_,rfl⟩
      rw [← hL] at hL1 hsl hfin hH1
      rw [← hL]
      refine awp_loop_f (fun (j:Nat) σ => setB 1 (.map (iE ((L.take j).foldl (lvlS p) N))) (setS 11 (vint j) (deadS [39,40,41,42,43,44,45,46,47,48,49,50,51,52,53,54,55,56,57,58,59,60,61,62,63,64,65,66,67,68,69,70,71,72,73] (cleanS σ)))) (fun j=>j≤L.length ∧ ∀ k,k<j→usesX m (L.getD k default)=false) (fun j=>L.length - j) 0 (weak_self ?_) ⟨Nat.zero_le _,by omega⟩ ?_
      ·simp only [go_sem,simprocAttr]<;>simp
      ·rintro j ⟨hj,hnx1⟩
       refine aw_ok _ ?_
       simp only [go_sem,simprocAttr]
       refine ⟨fun hlt2=>?_,fun hge2=>?_⟩
       ·simp only [bxx] at hlt2
        have hjl:j<L.length:=by omega
        obtain ⟨x,hx⟩:∃ x,x=L.getD j default:=⟨_,rfl⟩
        have hnx:=nth_srcs hjl
        rw [← hx] at hnx
        have hF:=foldl_take (lvlS p) N hjl
        rw [← hx] at hF
        obtain ⟨M,hM⟩:∃ M,M=(L.take j).foldl (lvlS p) N:=⟨_,rfl⟩
        rw [← hM] at hF
        unfold awS
        simp only [go_sem,simprocAttr,hnx]
        refine ⟨⟨by omega,by omega⟩,fun _=>⟨by omega,by omega⟩,?_⟩
        refine brW (b:=usesX m x) ?_ ⟨fun hc=>?_,fun hc=>?_⟩
        ·unfold usesX
         rfl
        ·unfold awS
         simp only [go_sem,simprocAttr,hfin (any_hit hjl (by rw [← hx];exact hc))]
        ·have hnx2:∀ k,k<j+1→usesX m (L.getD k default)=false:=by
          intro k hk
          rcases Nat.lt_or_ge k j with h | h
          ·exact hnx1 k h
          ·rw [show k=j by omega, ← hx];exact hc
         unfold awS
         simp only [go_sem,simprocAttr,hnx]
         refine ⟨⟨by omega,by omega⟩,fun hk2=>?_,fun hk2=>?_⟩
         ·have e1:lvlS p M x=putI (sIdx p x.name) M:=by unfold lvlS;rw [if_pos (by simpa using hk2)]
          rw [e1] at hF
          unfold awS
          simp only [go_sem,simprocAttr]
          refine drawR_of [0,1,2,3,4,5,6,7] (.step 8 .done) rfl (by kernel_rfl) (by kernel_rfl) (by decide) ?_
          simp only [go_sem,simprocAttr,hnx]
          refine ⟨⟨by omega,by omega⟩,_,cRSequence p x.name,?_⟩
          simp only [go_sem,simprocAttr]
          rw [← hM,put_I]
          refine ⟨by decide,j+1,weak_self ?_,⟨by omega,hnx2⟩,by omega⟩
          simp only [go_sem,simprocAttr]
          rw [hF]
          refine ⟨?_,?_⟩
          ·first
           | exact ⟨by simp,rfl,by simp⟩
           | (simp [sIdx];done)
           | trace_state
          ·first
           | rfl
           | (simp [wrap1 (show j<9223372036854775807 by omega)];done)
           | trace_state
         ·have e1:lvlS p M x=M:=by unfold lvlS;rw [if_neg (by simpa using hk2)]
          rw [e1] at hF
          unfold awS
          simp only [go_sem,simprocAttr]
          refine ⟨j+1,weak_self ?_,⟨by omega,hnx2⟩,by omega⟩
          simp only [go_sem,simprocAttr]
          rw [hF,hM]
          simp [wrap1 (show j<9223372036854775807 by omega)]
       ·simp only [bxx] at hge2
        have:j=L.length:=by omega
        subst this
        unfold awS
        simp only [go_sem,simprocAttr]
        refine ⟨i+1,weak_self ?_,⟨by omega,by rw [hH1];exact any_done hnx1⟩,by omega⟩
        simp only [go_sem,simprocAttr]
        rw [List.take_length, ← hL1]
        simp [wrap1 (show i<9223372036854775807 by omega)]
     ·have hlk:lookE (.int .i64 (i:Int)) (iE N)=none:=by rw [look_I,if_neg hm]
      unfold lvlI at hL1
      rw [if_neg hm] at hL1
      rw [decide_eq_false hm,Bool.false_and] at hH1
      unfold awS
      simp only [go_sem,simprocAttr,hlk]
      refine ⟨by decide,i+1,weak_self ?_,⟨by omega,hH1⟩,by omega⟩
      simp only [go_sem,simprocAttr]
      rw [hL1]
      simp [wrap1 (show i<9223372036854775807 by omega)]
    ·simp only [bxx] at hge
     have:i=p.seqs.length:=by omega
     subst this
     unfold awS
     simp only [go_sem,simprocAttr]
     have hlv:usI p K p.seqs.length=usT p n (t+1):=by rw [hK];rfl
     refine ⟨t+1,weak_self ?_,⟨by omega,by unfold usesT;rw [hh,Bool.false_or, ← hK];exact hhi⟩,by omega⟩
     simp only [go_sem,simprocAttr]
     rw [hlv]
     simp [wrap1 (show t<9223372036854775807 by omega)]
  ·simp only [bxx] at hstop
   have:t=p.seqs.length+1:=by omega
   subst this
   unfold awS
   simp only [go_sem,simprocAttr,hh]
end Go.Proofs.YtmbmmijdmdoalaaGreat
