/- Proved here: 'MediaOthers' returns true, for use in the proofs of the given statements; conditions stand in each theorem. -/
import Derived.Test.YtbfnemkngoaeeaaGreatMG
import Derived.Test.YtbfnemkngoaeeaaGreatMF
import Derived.Test.YtbfnemkngoaeeaaGreatTB
set_option linter.unusedSimpArgs false
set_option linter.unusedVariables false
set_option linter.unusedSectionVars false
set_option linter.unnecessarySimpa false
namespace Go.Proofs.YtbfnemkngoaeeaaGreat
open Go.RowKit
set_option maxRecDepth 4000
theorem swapP_zero {p:ProjR} {f g:ByteArray} (h:(swapP p f g).2=0):(swapP p f g).1=swapT p f g:=by
 unfold swapP at h ⊢
 split
 ·rename_i h1
  rw [if_pos h1] at h
  exact absurd h h1
 ·rename_i h1
  rw [if_neg h1] at h
  split
  ·rename_i a b e1 e2
   simp only [e1,e2] at h
   split
   ·rfl
   ·rename_i h2
    rw [if_neg h2] at h
    exact absurd h (by decide)
  ·rename_i h2
   exfalso
   revert h
   split
   ·rename_i a b e1 e2
    exact absurd e2 (fun e2=>h2 a b e1 e2)
   ·intro h
    exact absurd h (by decide)
theorem resStep_len (s:StateR) (a:ProjR×List ByteArray) (n:ByteArray):(resStep s a n).1.media=a.1.media∧(resStep s a n).1.seqs.length=a.1.seqs.length:=by
 unfold resStep
 split
 ·rename_i h
  rw [swapP_zero h.2]
  exact ⟨rfl,by show (List.map _ _).length=_;rw [List.length_map]⟩
 ·exact ⟨rfl,rfl⟩
theorem resF_len (s:StateR):∀ (K:List ByteArray) (a:ProjR×List ByteArray),(K.foldl (resStep s) a).1.media=a.1.media∧(K.foldl (resStep s) a).1.seqs.length=a.1.seqs.length
 | [],_=>⟨rfl,rfl⟩
 | n::K,a=>by
  have h1:=resF_len s K (resStep s a n)
  have h2:=resStep_len s a n
  simp only [List.foldl_cons]
  exact ⟨h1.1.trans h2.1,h1.2.trans h2.2⟩
theorem resolve_zero {s:StateR} {p:ProjR} {M N:Nat} (hs:Ok s) (h:SpareP p M N):(resolveP s p s0N).2.2=0∧(resolveP s p s0N).1=(resF s p (sortN (unus s (usesP p s0N).1))).1∧(resolveP s p s0N).2.1=sortN (resF s p (sortN (unus s (usesP p s0N).1))).2:=by
 unfold resolveP
 rw [(ok_iff s).2 hs,if_neg (by decide),if_neg (by rw [h.uses0];decide)]
 exact ⟨rfl,rfl,rfl⟩
theorem others36 (L1 L2:List Int) (sum:Int):CPure Tryz.prog 6 [.t (tints L1), .t (tints L2),vu64 sum] (vbool true):=by
 obtain ⟨hok,hlk⟩:=made_ok L2
 obtain ⟨M,N,hp⟩:=proj36_ok L1
 have hmm:=hp.hm
 have hnn:=hp.hn
 have hm3:=hp.m3
 have hn3:=hp.n3
 have hnf:=hok.nf
 have hnl:=hok.nl
 have cm:=cMadeS L2 14 (by decide) (by decide)
 have cp:=cProj36 L1
 have cr:=cPRun (madeS L2) (oEs sum) hok (by simp [oEs]) (by
  intro e he
  simp only [oEs,List.mem_cons,List.not_mem_nil,or_false] at he
  rcases he with rfl | rfl | rfl<;>simp only<;>omega)
 have hO:=run_other hok sum
 have e1:resolveP (runFrom (madeS L2) (oEs sum)).1 (proj36 L1) s0N=resolveP (madeS L2) (proj36 L1) s0N:=by
  refine resolve_same hO hok hlk fun n hn=>?_
  have hu:=uses_names (p:=proj36 L1) (name:=s0N) hp.fit hp.uses0
  exact hp.names (hu.2.2.1 n hn).1
 have hOf:=hO.ok.nf
 have hOl:=hO.ok.nl
 have c1:=cResolve (madeS L2) (proj36 L1) s0N (by unfold maxLen;omega) (by unfold maxLen;omega) hp.fit
 have c2:=cResolve (runFrom (madeS L2) (oEs sum)).1 (proj36 L1) s0N (by unfold maxLen;omega) (by unfold maxLen;omega) hp.fit
 rw [e1] at c2
 obtain ⟨z1,z2,z3⟩:=resolve_zero hok hp
 have zl:=resF_len (madeS L2) (sortN (unus (madeS L2) (usesP (proj36 L1) s0N).1)) (proj36 L1,[])
 obtain ⟨r,hr⟩:∃ r,r=resolveP (madeS L2) (proj36 L1) s0N:=⟨_,rfl⟩
 rw [← hr] at c1 c2 z1 z2
 have hl1:r.1.media.length≤65536∧r.1.seqs.length≤65536:=by
  rw [z2]
  unfold resF
  rw [zl.1,zl.2]
  simp only
  omega
 have c3:=cSameProjS r.1 hl1.1 hl1.2
 have c4:=cStrings r.2.1 r.2.1
 rw [decide_eq_true rfl] at c4
 obtain ⟨S,hS⟩:∃ S,S=madeS L2:=⟨_,rfl⟩
 obtain ⟨P,hP⟩:∃ P,P=proj36 L1:=⟨_,rfl⟩
 have eS:(runFrom ⟨[],[]⟩ (evsL L2 0 14).1).1=S:=hS.symm
 rw [eS] at cm
 rw [← hS] at cr c1 c2
 rw [← hP] at cp c1 c2
 refine cpure_of Tryz.xen6 Tryz.func6 rfl Tryz.ntmps6 (by rw [Tryz.results6]) (aw_ok _ ?_)
 simp only [go_sem,simprocAttr,decide_true,decide_false]
 refine icall_mk cm rfl ?_
 simp only [go_sem,simprocAttr,decide_true,decide_false]
 refine ⟨_,cp,?_⟩
 simp only [go_sem,simprocAttr,decide_true,decide_false]
 refine lcall_give ?_
 simp only [go_sem,simprocAttr,decide_true,decide_false]
 refine ⟨_,cpure_as (.cons as_refl (.cons as_refl .nil)) cr,?_⟩
 simp only [go_sem,simprocAttr,decide_true,decide_false]
 refine ⟨_,c1,?_⟩
 simp only [go_sem,simprocAttr,decide_true,decide_false]
 refine ⟨_,c2,?_⟩
 simp only [go_sem,simprocAttr,decide_true,decide_false]
 refine ⟨_,fun _=>c3,?_⟩
 simp only [go_sem,simprocAttr,decide_true,decide_false]
 refine ⟨_,fun _=>c4,?_⟩
 simp only [go_sem,simprocAttr,decide_true,decide_false]
 refine ⟨_,fun _=>cAwake36,?_⟩
 simp only [go_sem,simprocAttr,decide_true,decide_false]
 rw [z1]
 rfl
end Go.Proofs.YtbfnemkngoaeeaaGreat
