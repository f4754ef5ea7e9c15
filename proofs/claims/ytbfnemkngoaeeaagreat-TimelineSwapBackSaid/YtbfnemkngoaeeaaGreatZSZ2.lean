/- Proved here: 'TimelineSwapBack' returns true, for use in the proofs of the given statements; conditions stand in each theorem. -/
import Derived.Test.YtbfnemkngoaeeaaGreatTC
import Derived.Test.YtbfnemkngoaeeaaGreatTD
set_option linter.unusedSimpArgs false
set_option linter.unusedVariables false
set_option linter.unusedSectionVars false
set_option linter.unnecessarySimpa false
namespace Go.Proofs.YtbfnemkngoaeeaaGreat
open Go.RowKit
set_option maxRecDepth 4000
theorem as_dS {k:Nat} {d d':List T} {xs:List (List T)}:∀ (w:World) (E:Env) v,RdV w E (.t (.list k d xs)) v→RdV w E (.t (.list k d' xs)) v:=by
 intro w E v h
 simp only [RdV] at h ⊢
 cases h with
 | list _ _ _ A c hm hc hn hk hb hr=>exact .list k d' xs A c hm hc hn hk hb hr
theorem as_sp (L:List Int) {d:List T}:∀ (w:World) (E:Env) v,RdV w E (.agg [.t (.list 141 d ((projT L).media.map MediumR.c ++ [MediumR.c { (projT L).media.getD 0 default with name:=spareN }])), .t (tseqs (projT L).seqs)]) v→RdV w E (vproj (projSp L)) v:=by
 have e:(projSp L).media.map MediumR.c=(projT L).media.map MediumR.c ++ [MediumR.c { (projT L).media.getD 0 default with name:=spareN }]:=by unfold projSp;rw [List.map_append];rfl
 show ∀ (w:World) (E:Env) v,_→RdV w E (.agg [.t (.list 141 (MediumR.c default) ((projSp L).media.map MediumR.c)), .t (tseqs (projT L).seqs)]) v
 rw [e]
 exact as_impAgg (by exact ⟨as_dS,as_refl,trivial⟩)
theorem swapback37 (L:List Int):CPure Tryz.prog 8 [.t (tints L)] (vbool true):=by
 refine cpure_of Tryz.xen8 Tryz.func8 rfl Tryz.ntmps8 (by rw [Tryz.results8]) (aw_ok _ ?_)
 simp only [go_sem,simprocAttr,decide_true,decide_false]
 refine ⟨_,cProject L,?_⟩
 simp only [go_sem,simprocAttr,decide_true,decide_false]
 have hs:=projT_sz L
 refine ⟨by omega,?_⟩
 refine drawC_of 9 .done rfl (by kernel_rfl) (by kernel_rfl) (by decide) ?_
 simp only [go_sem,simprocAttr,decide_true,decide_false]
 obtain ⟨b1,b2,b3,f1,f2⟩:=back_facts L
 have c1:=cSwapP _ f1 m0N spareN
 have c2:=cSwapP _ f2 spareN m0N
 have c3:=cSwapP _ f2 m0N spareN
 rw [b1] at c1
 rw [b2] at c2
 rw [b3] at c3
 refine ⟨⟨by unfold maxLen;omega,by omega⟩,⟨by unfold maxLen;omega,by omega⟩,by kernel_rfl,?_⟩
 refine lcall_give ?_
 simp only [go_sem,simprocAttr,decide_true,decide_false]
 refine ⟨_,cpure_as (.cons (as_sp L) (.cons as_refl (.cons as_refl .nil))) c1,?_⟩
 simp only [go_sem,simprocAttr,decide_true,decide_false]
 have g1:(projSp L).media.length≤65536∧(projSp L).seqs.length≤65536:=by
  obtain ⟨M,N,h⟩:=projSp_ok L
  have:=h.hm
  have:=h.hn
  have:=h.m3
  have:=h.n3
  omega
 have s1:=cSameProjS _ g1.1 g1.2
 have s2:=cSameProjS (swapT (projSp L) m0N spareN) g1.1 (by unfold swapT;rw [List.length_map];exact g1.2)
 refine ⟨_,c2,?_⟩
 simp only [go_sem,simprocAttr,decide_true,decide_false]
 refine ⟨_,c3,?_⟩
 simp only [go_sem,simprocAttr,decide_true,decide_false]
 refine ⟨_,cpure_as (.cons as_refl (.cons (as_sp L) .nil)) s1,rfl,?_⟩
 simp only [go_sem,simprocAttr,decide_true,decide_false]
 refine ⟨_,s2,?_⟩
 simp only [go_sem,simprocAttr,decide_true,decide_false]
 refine ⟨_,cAwake,?_⟩
 simp only [go_sem,simprocAttr,decide_true,decide_false]
end Go.Proofs.YtbfnemkngoaeeaaGreat
