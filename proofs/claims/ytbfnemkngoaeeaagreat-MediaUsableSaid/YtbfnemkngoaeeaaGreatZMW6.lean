/- Proved here: 'MediaUsable' returns true, for use in the proofs of the given statements; conditions stand in each theorem. -/
import Derived.Test.YtbfnemkngoaeeaaGreatMI
set_option linter.unusedSimpArgs false
set_option linter.unusedVariables false
set_option linter.unusedSectionVars false
set_option linter.unnecessarySimpa false
namespace Go.Proofs.YtbfnemkngoaeeaaGreat
open Go.RowKit
set_option maxRecDepth 4000
def anyN (n:ByteArray) (l:List ByteArray):Bool:=l.any fun x=>x.toList==n.toList
theorem anyN_snoc (n:ByteArray) {l:List ByteArray} {j:Nat} (h:j<l.length):anyN n (l.take (j+1))=(anyN n (l.take j)||((l.getD j default).toList==n.toList)):=by
 unfold anyN
 rw [take_snoc h,List.any_append]
 simp
theorem anyN_iff {n:ByteArray} {l:List ByteArray}:anyN n l=true ↔ n∈l:=by
 unfold anyN
 rw [List.any_eq_true]
 constructor
 ·rintro ⟨x,hx,e⟩
  have:x=n:=toList_eq.1 e
  exact this ▸ hx
 ·exact fun h=>⟨n,h,beq_self_eq_true _⟩
set_option maxHeartbeats 4000000 in
theorem usable36 (L1 L2:List Int):CPure Tryz.prog 5 [.t (tints L1), .t (tints L2)] (vbool true):=by
 obtain ⟨hok,hlk⟩:=madeS_ok L2
 obtain ⟨M,N,hp⟩:=proj36_ok L1
 have hnf:=hok.nf
 have hnl:=hok.nl
 have cm:=cMadeS L2 14 (by decide) (by decide)
 have cp:=cProj36 L1
 have c1:=cResolve (madeS L2) (proj36 L1) s0N (by unfold maxLen;omega) (by unfold maxLen;omega) hp.fit
 obtain ⟨z1,z2,z3⟩:=resolve_zero hok hp
 obtain ⟨u1,u2⟩:=usable_law (s:=madeS L2) hp
 have hfr:(resF (madeS L2) (proj36 L1) (sortN (unus (madeS L2) (usesP (proj36 L1) s0N).1))).1.fit:=by
  have:=resF_fit (s:=madeS L2) hp.fit (sortN (unus (madeS L2) (usesP (proj36 L1) s0N).1)) _ (Nat.le_refl _)
  rw [List.take_length] at this
  exact this
 have hUu:=uses_names (p:=proj36 L1) (name:=s0N) hp.fit hp.uses0
 have hKn:(sortN (unus (madeS L2) (usesP (proj36 L1) s0N).1)).Nodup:=(sortN_perm _).nodup_iff.2 (hUu.2.1.filter _)
 have hKl:(sortN (unus (madeS L2) (usesP (proj36 L1) s0N).1)).length≤16:=by
  rw [(sortN_perm _).length_eq]
  exact Nat.le_trans (List.length_filter_le _ _) hUu.2.2.2
 have hrl:(sortN (resF (madeS L2) (proj36 L1) (sortN (unus (madeS L2) (usesP (proj36 L1) s0N).1))).2).length≤16:=by
  have h1:=resF_nodup (s:=madeS L2) (p:=proj36 L1) hKn _ (Nat.le_refl _)
  have h2:=resF_sub (madeS L2) (proj36 L1) (sortN (unus (madeS L2) (usesP (proj36 L1) s0N).1)) _ (Nat.le_refl _)
  rw [List.take_length] at h1 h2
  rw [(sortN_perm _).length_eq]
  exact Nat.le_trans (nodup_le h1 h2) hKl
 rw [← z2] at u1 u2 hfr
 rw [← z3] at hrl
 rw [← z3] at u2
 obtain ⟨r,hr⟩:∃ r,r=resolveP (madeS L2) (proj36 L1) s0N:=⟨_,rfl⟩
 rw [← hr] at c1 z1 u1 u2 hfr hrl
 have cu:=cUsesP r.1 hfr s0N
 have hul:=(uses_names hfr u1).2.2.2
 obtain ⟨U,hU⟩:∃ U,U=(usesP r.1 s0N).1:=⟨_,rfl⟩
 have eU:usesP r.1 s0N=(U,0):=by rw [hU, ← u1]
 rw [eU] at cu
 rw [← hU] at u2 hul
 obtain ⟨S,hS⟩:∃ S,S=madeS L2:=⟨_,rfl⟩
 obtain ⟨P,hP⟩:∃ P,P=proj36 L1:=⟨_,rfl⟩
 have eS:(runFrom ⟨[],[]⟩ (evsL L2 0 14).1).1=S:=hS.symm
 rw [eS] at cm
 rw [← hS] at c1 u2 hnf hnl
 rw [← hP] at cp c1
 clear hKn hKl hUu
 clear hr hU z2 z3 hS eS
 refine cpure_of Tryz.xen5 Tryz.func5 rfl Tryz.ntmps5 (by rw [Tryz.results5]) (awp_facts fun hf=>aw_ok _ ?_)
 simp only [go_sem,simprocAttr,decide_true,decide_false]
 refine icall_mk cm rfl ?_
 simp only [go_sem,simprocAttr,decide_true,decide_false]
 refine ⟨_,cp,?_⟩
 simp only [go_sem,simprocAttr,decide_true,decide_false]
 refine ⟨_,c1,?_⟩
 simp only [go_sem,simprocAttr,decide_true,decide_false]
 refine ⟨_,cu,?_⟩
 simp only [go_sem,simprocAttr,decide_true,decide_false]
 rw [z1]
 refine ⟨fun h=>absurd h (by decide),fun _=>?_⟩
 unfold awS
 simp only [go_sem,simprocAttr,decide_true,decide_false]
 refine awp_loop_f (fun (k:Nat) σ => setS 45 (vint k) (deadS [14,15,16,17,46,47,48,49,50,51,52,53,54,55,56,57,58,59,60,61,62,63,64,65,66,67,68] (cleanS σ))) (fun k=>k≤U.length) (fun k=>U.length - k) 0 (weak_self ?_) (Nat.zero_le _) ?_
 ·simp only [go_sem,simprocAttr,decide_true,decide_false]
  simp
 ·intro k hk
  refine aw_ok _ ?_
  simp only [go_sem,simprocAttr,decide_true,decide_false]
  refine ⟨fun hlt=>?_,fun hge=>?_⟩
  ·simp only [bxx] at hlt
   have hkl:k<U.length:=by omega
   obtain ⟨n,hn⟩:∃ n,n=U.getD k default:=⟨_,rfl⟩
   have hst:=u2 n (by rw [hn];exact mem_getD hkl)
   unfold awS
   simp only [go_sem,simprocAttr,decide_true,decide_false]
   rw [show U.getD k ⟨#[]⟩=n from hn.symm]
   refine ⟨⟨by omega,by omega⟩,?_⟩
   refine awp_loop_f (fun (j:Nat) σ => setS 15 (vbool (anyN n (r.2.1.take j))) (setS 51 (vint j) (deadS [17,52,53,54,55,56,57,58,59,60,61] (cleanS σ)))) (fun j=>j≤r.2.1.length) (fun j=>r.2.1.length - j) 0 (weak_self ?_) (Nat.zero_le _) ?_
   ·simp only [go_sem,simprocAttr,decide_true,decide_false]
    exact ⟨by simp,rfl⟩
   ·intro j hj
    refine aw_ok _ ?_
    simp only [go_sem,simprocAttr,decide_true,decide_false]
    refine ⟨fun hlt2=>?_,fun hge2=>?_⟩
    ·simp only [bxx] at hlt2
     have hjl:j<r.2.1.length:=by omega
     unfold awS
     simp only [go_sem,simprocAttr,decide_true,decide_false]
     refine ⟨⟨by omega,by omega⟩,j+1,weak_self ?_,by omega,by omega⟩
     simp only [go_sem,simprocAttr,decide_true,decide_false]
     rw [anyN_snoc n hjl,wrap1 (show j<9223372036854775807 by omega)]
     refine ⟨by simp,rfl,?_⟩
     simp
    ·simp only [bxx] at hge2
     have:j=r.2.1.length:=by omega
     subst this
     rw [List.take_length]
     unfold awS
     simp only [go_sem,simprocAttr,decide_true,decide_false]
     refine ⟨_,cStatus S n (by unfold maxLen;omega) (by unfold maxLen;omega),?_⟩
     simp only [go_sem,simprocAttr,decide_true,decide_false]
     have hb:(anyN n r.2.1==(status S n==1))=false:=by
      rw [beq_eq_false_iff_ne]
      by_cases h1:status S n=1
      ·have:anyN n r.2.1=false:=Bool.eq_false_iff.2 fun h=>(hst.1 (anyN_iff.1 h)) h1
       rw [this,h1]
       decide
      ·rw [anyN_iff.2 (hst.2 h1)]
       simpa using h1
     rw [hb]
     refine ⟨fun h=>absurd h (by decide),fun _=>?_⟩
     unfold awS
     simp only [go_sem,simprocAttr,decide_true,decide_false]
     refine ⟨k+1,weak_self ?_,by omega,by omega⟩
     simp only [go_sem,simprocAttr,decide_true,decide_false]
     rw [wrap1 (show k<9223372036854775807 by omega)]
     simp
  ·simp only [bxx] at hge
   unfold awS
   simp only [go_sem,simprocAttr,decide_true,decide_false]
   refine ⟨_,cAwake36,?_⟩
   simp only [go_sem,simprocAttr,decide_true,decide_false]
end Go.Proofs.YtbfnemkngoaeeaaGreat
