/- Proved here: Steps of media, in the reference, for use in the proofs of the given statements; conditions stand in each theorem. -/
import Derived.Test.YtbfnemkngoaeeaaGreatMB
import Derived.Test.YtbfnemkngoaeeaaGreatZO
import Derived.Test.YtbfnemkngoaeeaaGreatZG
set_option linter.unusedSimpArgs false
set_option linter.unusedVariables false
set_option linter.unusedSectionVars false
set_option linter.unnecessarySimpa false
namespace Go.Proofs.YtbfnemkngoaeeaaGreat
open Go.RowKit
set_option maxRecDepth 4000
theorem emp_vn {a:ByteArray} (h1:emp a=true):vName a=false:=by
 have e1:a=⟨#[]⟩:=toList_eq.1 h1
 rw [e1]
 decide
theorem cREvent (e:EventR):CPure Tryz.prog 188 [vevent e] (vbool (validEv e)):=by
 refine cpure_of Tryz.xen188 Tryz.func188 rfl Tryz.ntmps188 (by rw [Tryz.results188]) (aw_ok _ ?_)
 simp only [go_sem,simprocAttr,decide_true,decide_false]
 refine drawC_of 16 .done rfl (by kernel_rfl) (by kernel_rfl) (by decide) ?_
 simp only [go_sem,simprocAttr,decide_true,decide_false]
 refine ⟨by kernel_rfl,?_⟩
 refine ⟨_,fun _=>cRName _,?_⟩
 simp only [go_sem,simprocAttr,decide_true,decide_false]
 refine ⟨_,fun _=>cRName _,?_⟩
 simp only [go_sem,simprocAttr,decide_true,decide_false]
 refine ⟨_,fun _=>cRName _,?_⟩
 simp only [go_sem,simprocAttr,decide_true,decide_false]
 have a1:emp e.media=true→vName e.media=false:=emp_vn
 have a2:emp e.file=true→vName e.file=false:=emp_vn
 have a3:emp e.proxy=true→vName e.proxy=false:=emp_vn
 have r:∀ x:ByteArray,(x.toList==(⟨#[]⟩:ByteArray).toList)=emp x:=fun _=>rfl
 have eV:validEv e=if e.kind=1 then vName e.file&&emp e.media&&emp e.proxy
  else if e.kind=2 then vName e.file&&emp e.media&&emp e.proxy&&(e.sum==0)
  else if e.kind=3∨e.kind=4 then vName e.media&&vName e.file&&emp e.proxy&&(e.sum==0)
  else if e.kind=5 then vName e.media&&(emp e.proxy||vName e.proxy)&&emp e.file&&(e.sum==0)
  else false:=rfl
 rw [eV]
 simp only [r]
 generalize emp e.media=A at *
 generalize emp e.file=B at *
 generalize emp e.proxy=C at *
 generalize vName e.media=P at *
 generalize vName e.file=Q at *
 generalize vName e.proxy=R at *
 generalize (e.sum==0)=D at *
 refine ⟨fun h=>?_,fun h=>?_⟩
 ·have:(if e.kind=1 then Q&&A&&C else if e.kind=2 then Q&&A&&C&&D else if e.kind=3∨e.kind=4 then P&&Q&&C&&D else if e.kind=5 then P&&(C||R)&&B&&D else false)=false:=by
   revert a1 a2 a3 h
   cases A<;>cases B<;>cases C<;>cases P<;>cases Q<;>cases R<;>simp
  rw [this]
  unfold awS
  simp only [go_sem,simprocAttr,decide_true,decide_false]
 ·unfold awS
  simp only [go_sem,simprocAttr,decide_true,decide_false]
  refine ⟨fun h1=>?_,fun h1=>?_⟩
  ·simp only [bxx] at h1
   rw [if_pos h1]
   have:(A && !B&&C)=(Q&&A&&C):=by
    revert a1 a2 a3 h
    cases A<;>cases B<;>cases C<;>cases P<;>cases Q<;>cases R<;>simp
   unfold awS
   simp only [go_sem,simprocAttr,decide_true,decide_false]
   rw [this]
  ·simp only [bxx] at h1
   rw [if_neg h1]
   unfold awS
   simp only [go_sem,simprocAttr,decide_true,decide_false]
   refine ⟨fun h2=>?_,fun h2=>?_⟩
   ·simp only [bxx] at h2
    rw [if_pos h2]
    have:(A && !B&&C&&D)=(Q&&A&&C&&D):=by
     revert a1 a2 a3 h
     cases A<;>cases B<;>cases C<;>cases P<;>cases Q<;>cases R<;>simp
    unfold awS
    simp only [go_sem,simprocAttr,decide_true,decide_false]
    rw [this]
   ·simp only [bxx] at h2
    rw [if_neg h2]
    have t34:(!A && !B&&C&&D)=(P&&Q&&C&&D):=by
     revert a1 a2 a3 h
     cases A<;>cases B<;>cases C<;>cases P<;>cases Q<;>cases R<;>simp
    have t5:(!A&&B&&D)=(P&&(C||R)&&B&&D):=by
     revert a1 a2 a3 h
     cases A<;>cases B<;>cases C<;>cases P<;>cases Q<;>cases R<;>simp
    unfold awS
    simp only [go_sem,simprocAttr,decide_true,decide_false]
    refine ⟨fun h3=>?_,fun h3=>?_⟩
    ·simp only [bxx] at h3
     rw [if_pos (.inl h3)]
     unfold awS
     simp only [go_sem,simprocAttr,decide_true,decide_false]
     refine ⟨fun _=>?_,fun h'=>by simp only [bxx] at h';omega⟩
     unfold awS
     simp only [go_sem,simprocAttr,decide_true,decide_false]
     rw [t34]
    ·simp only [bxx] at h3
     unfold awS
     simp only [go_sem,simprocAttr,decide_true,decide_false]
     refine ⟨fun h4=>?_,fun h4=>?_⟩
     ·simp only [bxx] at h4
      rw [if_pos (.inr h4)]
      unfold awS
      simp only [go_sem,simprocAttr,decide_true,decide_false]
      rw [t34]
     ·simp only [bxx] at h4
      rw [if_neg (by omega)]
      unfold awS
      simp only [go_sem,simprocAttr,decide_true,decide_false]
      refine ⟨fun h5=>?_,fun h5=>?_⟩
      ·simp only [bxx] at h5
       rw [if_pos h5]
       unfold awS
       simp only [go_sem,simprocAttr,decide_true,decide_false]
       rw [t5]
      ·simp only [bxx] at h5
       rw [if_neg h5]
       unfold awS
       simp only [go_sem,simprocAttr,decide_true,decide_false]
abbrev vstep (r:StateR×List OutR×Int):V := .tup [vstate r.1, .t (touts r.2.1),vint r.2.2]
theorem pureW_step (k:Int) {h:Heap}:pureW (vstep (⟨[],[]⟩,[],k)) (.tup [.agg [.t (.lit (.slice none 0 0)), .t (.lit (.slice none 0 0))], .t (.lit (.slice none 0 0)),vint k]) h :=
 pureW_as (r' := .tup [.agg [.t (.lit (.slice none 0 0)), .t (.lit (.slice none 0 0))], .t (.lit (.slice none 0 0)),vint k]) rfl rfl (as_impTup (by exact ⟨as_impAgg (by exact ⟨as_nilL,as_nilL,trivial⟩),as_nilL,as_refl,trivial⟩))
@[go_sem] abbrev RowO (l:List OutR):Blk := .row 140 2 (OutR.c default) (tRows (l.map OutR.c))
theorem cRStep (s:StateR) (e:EventR) (hf:s.files.length≤65536) (hl:s.links.length≤65536):CPure Tryz.prog 123 [vstate s,vevent e] (vstep (mStep s e)):=by
 refine cpure_ofW Tryz.xen123 Tryz.func123 rfl Tryz.ntmps123 (by rw [Tryz.results123]) (aw_ok _ ?_)
 simp only [go_sem,simprocAttr,decide_true,decide_false]
 have hf':s.files.length≤maxLen:=by unfold maxLen;omega
 have hl':s.links.length≤maxLen:=by unfold maxLen;omega
 refine ⟨_,cRValidS s hf' hl',?_⟩
 simp only [go_sem,simprocAttr,decide_true,decide_false]
 refine ⟨_,fun _=>cREvent e,?_⟩
 simp only [go_sem,simprocAttr,decide_true,decide_false]
 refine ⟨fun h=>?_,fun h=>?_⟩
 ·have eS:mStep s e=(⟨[],[]⟩,[],1):=by
   unfold mStep
   rw [if_neg]
   simp only [Bool.and_eq_true,not_and,Bool.not_eq_true]
   intro h1
   rw [h1,Bool.not_true,Bool.false_or] at h
   exact nt h
  rw [eS]
  unfold awS
  simp only [go_sem,simprocAttr,decide_true,decide_false]
  exact pureW_step 1
 ·rw [Bool.or_eq_false_iff] at h
  have h1:=nf h.1
  have h2:=nf h.2
  unfold awS
  simp only [go_sem,simprocAttr,decide_true,decide_false]
  refine drawC_of 11 .done rfl (by kernel_rfl) (by kernel_rfl) (by decide) ?_
  simp only [go_sem,simprocAttr,decide_true,decide_false]
  have he : 1≤e.kind∧e.kind≤5:=by
   apply Classical.byContradiction
   intro hc
   unfold validEv at h2
   rw [if_neg (by omega),if_neg (by omega),if_neg (by omega),if_neg (by omega)] at h2
   cases h2
  have hsz:=(ok_iff s).1 h1
  refine ⟨⟨by unfold maxLen;omega,by omega⟩,⟨by unfold maxLen;omega,by omega⟩,by kernel_rfl,?_⟩
  refine icall_io (cChange s e hsz.nf hsz.nl he) [12,6,10] rfl (by omega) (by decide) ?_ rfl rfl rfl rfl ?_
  ·simp only [go_sem,simprocAttr,decide_true,decide_false]
   exact ⟨rfl,rfl⟩
  ·simp only [go_sem,simprocAttr,decide_true,decide_false,List.getElem?_nil]
   obtain ⟨r,hr⟩:∃ r,r=performS s e:=⟨_,rfl⟩
   rw [← hr]
   have hsm:r.1=0→Ok r.2:=fun h0=>by rw [hr];exact (perform_ok hsz h2 (by rw [← hr];exact h0)).ok
   refine brW (b:=decide (r.1≠0)) ?_ ⟨fun h3=>?_,fun h3=>?_⟩
   ·rw [Bool.eq_iff_iff,decide_eq_true_eq,bne_iff_ne]
   ·have h4:=of_decide_eq_true h3
    have eS:mStep s e=(⟨[],[]⟩,[],r.1):=by
     unfold mStep
     rw [h1,h2,if_pos (by rfl), ← hr,if_neg h4]
    rw [eS]
    unfold awS
    simp only [go_sem,simprocAttr,decide_true,decide_false]
    exact pureW_step _
   ·have h4:r.1=0:=by simpa using h3
    have eS:mStep s e=(r.2,outsS s r.2,0):=by
     unfold mStep
     rw [h1,h2,if_pos (by rfl), ← hr,if_pos h4]
    have ht:=hsm h4
    rw [eS,h4]
    obtain ⟨t,htt⟩:∃ t,t=r.2:=⟨_,rfl⟩
    rw [← htt] at ht ⊢
    have htf:t.files.length≤maxLen:=by have:=ht.nf;unfold maxLen;omega
    have htl:t.links.length≤maxLen:=by have:=ht.nl;unfold maxLen;omega
    have ht16:=ht.nl
    unfold awS
    simp only [go_sem,simprocAttr,decide_true,decide_false]
    refine awp_give [14,15] ?_
    simp only [go_sem,simprocAttr,decide_true,decide_false]
    refine awp_loop_f (fun (k:Nat) σ => (fun τ : St => { τ with h:=(16,RowO (outsTo s t k))::(τ.h.del 15).del 14,nx:=17 }) (setS 9 (.own 16) (setS 10 (vint k) (deadS [11,20,21,22,23,24,25,26,27,28,29,30,31,32,33,34,35,36,37,38,39,40,41,42,43,44,45,46,47,48,49,50,51,52,53,54,55,56,57,58,59,60,61,62,63] (cleanS σ))))) (fun k=>k≤t.links.length) (fun k=>t.links.length - k) 0 (weak_of [(16,none),(12,some 12),(2,some 2),(1,some 1),(0,some 0)] ?_) (Nat.zero_le _) ?_
    ·simp only [go_sem,simprocAttr,decide_true,decide_false]
     exact ⟨rfl,by simp,by simp,by simp,by simp⟩
    ·intro k hk
     refine aw_ok _ ?_
     simp only [go_sem,simprocAttr,decide_true,decide_false]
     refine ⟨fun hlt=>?_,fun hge=>?_⟩
     ·simp only [bxx] at hlt
      have hkl:k<t.links.length:=by omega
      obtain ⟨n,hn⟩:∃ n,n=(t.links.getD k default).media:=⟨_,rfl⟩
      have eO:=outsTo_succ (s:=s) hkl
      have oL:=outsTo_len s t k
      unfold awS
      simp only [go_sem,simprocAttr,decide_true,decide_false]
      rw [← hn]
      refine ⟨⟨by omega,by omega⟩,?_⟩
      refine drawC_of 7 .done rfl (by kernel_rfl) (by kernel_rfl) (by decide) ?_
      simp only [go_sem,simprocAttr,decide_true,decide_false]
      refine ⟨_,cRStatus s n hf' hl',?_⟩
      simp only [go_sem,simprocAttr,decide_true,decide_false]
      refine ⟨_,cRStatus t n htf htl,?_⟩
      simp only [go_sem,simprocAttr,decide_true,decide_false]
      refine ⟨by kernel_rfl,?_⟩
      refine brW (b:=decide (status s n≠status t n)) ?_ ⟨fun h5=>?_,fun h5=>?_⟩
      ·rw [Bool.eq_iff_iff,decide_eq_true_eq,bne_iff_ne]
      ·have h6:=of_decide_eq_true h5
       have eF:outF s t (t.links.getD k default)=some ⟨n,status t n⟩:=by
        unfold outF
        rw [← hn,if_pos (by rw [bne_iff_ne];exact fun e=>h6 e.symm)]
       rw [eF] at eO
       unfold awS
       simp only [go_sem,simprocAttr,decide_true,decide_false]
       refine ⟨_,cRStatus t n htf htl,?_⟩
       simp only [go_sem,simprocAttr,decide_true,decide_false]
       refine ⟨⟨by unfold maxLen;omega,by omega⟩,k+1,weak_of [(16,some 25),(12,some 12),(2,some 2),(1,some 1),(0,some 0)] ?_,by omega,by omega⟩
       simp only [go_sem,simprocAttr,decide_true,decide_false]
       rw [eO,List.map_append,wrap1 (show k<9223372036854775807 by omega)]
       simp
       rfl
      ·have h6:status s n=status t n:=by simpa using h5
       have eF:outF s t (t.links.getD k default)=none:=by
        unfold outF
        rw [← hn,h6,if_neg (by simp)]
       rw [eF] at eO
       unfold awS
       simp only [go_sem,simprocAttr,decide_true,decide_false]
       refine ⟨k+1,weak_self ?_,by omega,by omega⟩
       simp only [go_sem,simprocAttr,decide_true,decide_false]
       rw [eO,wrap1 (show k<9223372036854775807 by omega)]
       simp
     ·simp only [bxx] at hge
      have:k=t.links.length:=by omega
      subst this
      unfold awS
      simp only [go_sem,simprocAttr,decide_true,decide_false]
      rw [show outsTo s t t.links.length=outsS s t from by unfold outsTo outsS;rw [List.take_length]]
      refine pureW_self ?_ rfl
      simp only [go_sem,simprocAttr,decide_true,decide_false]
open Go.RowKit
set_option maxRecDepth 4000
@[go_sem] abbrev Row23 (l:List Int):Blk := .row 40 1 (intC 0) (tRows (l.map intC))
@[go_sem] abbrev GoodF (acc:StateR×List OutR×List Int) (k:Nat) (s:StateR) (σ : St):St :=
 {fr:=(((σ.fr.take 15++List.replicate (σ.fr.length - 15) V.dead).set 7 (.own 4)).set 8 (.own 3)).set 11 (vint k),
  h:=[(4, .row 140 2 (OutR.c default) (tRows (acc.2.1.map OutR.c))),(3,Row23 acc.2.2),(2, .box [.t (tfiles acc.1.files), .t (tlinks acc.1.links)]),(1, .box [.t (tfiles []), .t (tlinks [])]),(0, .box [.t (tfiles s.files), .t (tlinks s.links)])],nx:=5 }
theorem runFrom_snoc {s:StateR} {l:List EventR} {k:Nat} (h:k<l.length):runFrom s (l.take (k+1))=runStep (runFrom s (l.take k)) (l.getD k default):=by
 unfold runFrom
 rw [List.take_succ_eq_append_getElem h,List.foldl_append,getD_of_lt h];rfl
theorem runStep_len (acc:StateR×List OutR×List Int) (e:EventR):(runStep acc e).2.2.length=acc.2.2.length+1:=by
 unfold runStep;split<;>simp
theorem runFrom_len (s:StateR) (l:List EventR):∀ k,k≤l.length→(runFrom s (l.take k)).2.2.length=k
 | 0,_=>rfl
 | k+1,h=>by rw [runFrom_snoc (by omega),runStep_len,runFrom_len s l k (by omega)]
theorem mStep_outs {s:StateR} (e:EventR) (hs:Ok s):(mStep s e).2.1.length≤16:=by
 by_cases h:(mStep s e).2.2=0
 ·rw [(step_ok hs h).2]
  exact Nat.le_trans (List.length_filterMap_le _ _) (step_ok hs h).1.ok.nl
 ·unfold mStep at h ⊢
  split
  ·rename_i h1
   rw [if_pos h1] at h
   split
   ·rename_i h2
    rw [if_pos h2] at h
    exact absurd rfl h
   ·simp
  ·simp
theorem runStep_ok {acc:StateR×List OutR×List Int} (e:EventR) (h:Ok acc.1):Ok (runStep acc e).1:=by
 unfold runStep
 split
 ·rename_i h0
  exact (step_ok h h0).1.ok
 ·exact h
theorem runFrom_ok {s:StateR} (hs:Ok s) (l:List EventR):∀ k,k≤l.length→Ok (runFrom s (l.take k)).1∧(runFrom s (l.take k)).2.1.length≤16*k
 | 0,_=>⟨hs,Nat.le_refl _⟩
 | k+1,h=>by
  obtain ⟨h1,h2⟩:=runFrom_ok hs l k (by omega)
  rw [runFrom_snoc (by omega)]
  refine ⟨runStep_ok _ h1,?_⟩
  have h3:=mStep_outs (l.getD k default) h1
  unfold runStep
  split
  ·simp only [List.length_append];omega
  ·simp only;omega
theorem cRRun (s:StateR) (es:List EventR) (hs:Ok s) (hes:es.length≤65536):CPure Tryz.prog 54 [vstate s, .t (tevents es)] (.tup [vstate (runFrom s es).1, .t (touts (runFrom s es).2.1), .t (tints (runFrom s es).2.2)]):=by
 refine cpure_of Tryz.xen54 Tryz.func54 rfl Tryz.ntmps54 (by rw [Tryz.results54]) (aw_ok _ ?_)
 have hnf:=hs.nf
 have hnl:=hs.nl
 simp only [go_sem,simprocAttr,decide_true,decide_false]
 refine ⟨_,cRValidS s (by unfold maxLen;omega) (by unfold maxLen;omega),?_⟩
 rw [(ok_iff s).2 hs]
 simp only [go_sem,simprocAttr,decide_true,decide_false]
 refine drawC_of 10 .done rfl (by kernel_rfl) (by kernel_rfl) (by decide) ?_
 simp only [go_sem,simprocAttr,decide_true,decide_false]
 refine ⟨⟨by unfold maxLen;omega,by omega⟩,⟨by unfold maxLen;omega,by omega⟩,by kernel_rfl,?_⟩
 have hel:es.length≤maxLen:=by unfold maxLen;omega
 refine awp_loop_f (fun (k:Nat) σ => GoodF (runFrom s (es.take k)) k s σ) (fun k=>k≤es.length) (fun k=>es.length - k) 0 (weak_of [(4,none),(3,none),(2,some 2),(1,some 1),(0,some 0)] ?_) (Nat.zero_le _) ?_
 ·simp only [go_sem,simprocAttr]
  simp [runFrom]
  exact ⟨rfl,rfl⟩
 ·intro k hk
  refine aw_ok _ ?_
  simp only [go_sem,simprocAttr,decide_true,decide_false]
  refine ⟨fun hlt=>?_,fun hge=>?_⟩
  ·simp only [bxx] at hlt
   have hlt':k<es.length:=by omega
   unfold awS
   simp only [go_sem,simprocAttr,decide_true,decide_false]
   refine drawC_of 14 .done rfl (by kernel_rfl) (by kernel_rfl) (by decide) ?_
   simp only [go_sem,simprocAttr,decide_true,decide_false]
   obtain ⟨hcur,houts⟩:=runFrom_ok hs es k hk
   have hcf:=hcur.nf
   have hcl:=hcur.nl
   refine ⟨⟨by omega,by omega⟩,_,cRStep _ _ (by omega) (by omega),?_⟩
   simp only [go_sem,simprocAttr,decide_true,decide_false]
   have hacc:(runFrom s (List.take k es)).snd.snd.length=k:=runFrom_len s es k hk
   have hnext:=runFrom_snoc (s:=s) hlt'
   have hso:=mStep_outs (es.getD k default) hcur
   generalize es.getD k default=ev at *
   refine ⟨by kernel_rfl,⟨by rw [hacc];unfold maxLen;omega,by rw [hacc];omega⟩,fun h0=>?_,fun h0=>?_⟩
   ·simp only [bxx] at h0
    unfold awS
    simp only [go_sem,simprocAttr,decide_true,decide_false]
    refine drawC_of 6 .done rfl (by kernel_rfl) (by kernel_rfl) (by decide) ?_
    simp only [go_sem,simprocAttr,decide_true,decide_false]
    refine ⟨⟨by unfold maxLen;omega,by omega⟩,by kernel_rfl,k+1,weak_of [(4,some 24),(3,some 20),(2,some 2),(1,some 1),(0,some 0)] ?_,by omega,by omega⟩
    have hA:runFrom s (List.take (k+1) es)=((mStep (runFrom s (List.take k es)).1 ev).1,(runFrom s (List.take k es)).2.1++(mStep (runFrom s (List.take k es)).1 ev).2.1,(runFrom s (List.take k es)).2.2 ++ [0]):=by rw [hnext,runStep,if_pos h0]
    simp only [go_sem,simprocAttr,decide_true,decide_false,hA,h0]
    simp [wrap_of hlt' hel]
    rfl
   ·simp only [bxx] at h0
    unfold awS
    simp only [go_sem,simprocAttr,decide_true,decide_false]
    refine ⟨k+1,weak_of [(4,some 4),(3,some 20),(2,some 2),(1,some 1),(0,some 0)] ?_,by omega,by omega⟩
    have hA:runFrom s (List.take (k+1) es)=((runFrom s (List.take k es)).1,(runFrom s (List.take k es)).2.1,(runFrom s (List.take k es)).2.2 ++ [(mStep (runFrom s (List.take k es)).1 ev).2.2]):=by rw [hnext,runStep,if_neg h0]
    simp only [go_sem,simprocAttr,decide_true,decide_false,hA]
    simp [wrap_of hlt' hel]
    rfl
  ·simp only [bxx] at hge
   unfold awS
   simp only [go_sem,simprocAttr,decide_true,decide_false]
   have:k=es.length:=by omega
   subst this
   simp only [List.take_length]
open Go.RowKit
set_option maxRecDepth 4000
def bF0:ByteArray:=⟨#[102,48]⟩
def bF1:ByteArray:=⟨#[102,49]⟩
def bF2:ByteArray:=⟨#[102,50]⟩
def bM0:ByteArray:=⟨#[109,48]⟩
def bM1:ByteArray:=⟨#[109,49]⟩
def bM2:ByteArray:=⟨#[109,50]⟩
def bSpare:ByteArray:=⟨#[115,112,97,114,101]⟩
def bNil:ByteArray:=⟨#[]⟩
def pickI (l:List Int) (n:Int):Int:=l.getD n.toNat 0
def pickB (l:List ByteArray) (n:Int):ByteArray:=l.getD n.toNat bNil
def ev1 (L:List Int) (k:Nat):EventR×Nat :=
 let kind:=pickI [1,1,1,2,3,3,3,4,5] (tapeN L k 9)
 let f:=pickB [bF0,bF1,bF2] (tapeN L (k+1) 3)
 let m:=pickB [bM0,bM1,bM2,bSpare] (tapeN L (k+2) 4)
 let p:=pickB [bNil,bSpare,bM1,bSpare] (tapeN L (k+3) 4)
 if kind=1 then (⟨1,bNil,f,bNil,1+tapeN L (k+4) 2⟩,k+5)
 else if kind=2 then (⟨2,bNil,f,bNil,0⟩,k+4)
 else if kind=5 then (⟨5,m,bNil,p,0⟩,k+4)
 else (⟨kind,m,f,bNil,0⟩,k+4)
def evGo (L:List Int):Nat→Nat→List EventR×Nat
 | 0,k=>([],k)
 | c+1,k=>((ev1 L k).1::(evGo L c (ev1 L k).2).1,(evGo L c (ev1 L k).2).2)
def evsL (L:List Int) (k:Nat) (n:Int):List EventR×Nat:=evGo L (tapeN L k (n+1)).toNat (k+1)
abbrev StE (L:List Int) (c:Nat) (es:List EventR) (k:Nat) (σ : St):St :=
 {fr:=(σ.fr.set 5 (.own 1)).set 6 (vint c),h:=[(1, .row 69 5 (EventR.c default) (tRows (es.map EventR.c))),(0, .box [.t (tints L),vint k])],nx:=2 }
theorem cEvents (L:List Int) (k:Nat) (n:Int) (hk:k≤1024) (h1 : 0≤n) (h2:n≤64):CBox Tryz.prog 55 [.t (tints L),vint k] [vint n] (.t (tevents (evsL L k n).1)) [.t (tints L),vint (evsL L k n).2]:=by
 refine cbox_of Tryz.xen55 Tryz.func55 rfl Tryz.ntmps55 (by rw [Tryz.results55]) (awp_facts fun hf=>aw_ok _ ?_)
 have w1:IntKind.i64.wrap (n+1)=n+1:=wrap64 (by omega) (by omega)
 simp only [go_sem,simprocAttr,w1]
 refine icall_box (cNext L k (n+1) (by omega) (by omega) (by omega)) rfl rfl rfl ?_
 obtain ⟨N,hN⟩:∃ N:Nat,tapeN L k (n+1)=N:=⟨(tapeN L k (n+1)).toNat,by have:=(tapeN_lt (L:=L) (k:=k) (show 1≤n+1 by omega)).1;omega⟩
 have hNl:N≤64:=by have:=(tapeN_lt (L:=L) (k:=k) (show 1≤n+1 by omega)).2;omega
 simp only [go_sem,simprocAttr,hN]
 refine awp_loop_f (fun (x:Nat×List EventR×Nat) σ => StE L x.1 x.2.1 x.2.2 σ) (fun x=>x.2.1.length+x.1≤64∧x.2.2+5*x.1≤4096∧x.2.1++(evGo L x.1 x.2.2).1=(evsL L k n).1∧(evGo L x.1 x.2.2).2=(evsL L k n).2) (fun x=>x.1) (N,[],k+1) (weak_of [(1,none),(0,some 0)] ?_) ⟨by simp only [List.length_nil];omega,by simp only;omega,?_⟩ ?_
 ·simp only [go_sem,simprocAttr]
  simp
 ·simp only [evsL,hN,Int.toNat_natCast,List.nil_append,and_self]
 ·rintro ⟨c,es,q⟩ ⟨hc,hq,he1,he2⟩
  simp only at hc hq he1 he2
  refine aw_ok _ ?_
  simp only [go_sem,simprocAttr]
  refine ⟨fun hlt=>?_,fun hge=>?_⟩
  all_goals simp only [decide_eq_true_eq,decide_eq_false_iff_not] at *
  ·obtain ⟨c,rfl⟩:∃ c',c=c'+1:=⟨c - 1,by omega⟩
   simp only [evGo] at he1 he2
   unfold awS
   simp only [go_sem,simprocAttr]
   refine icall_box (cNext L q 9 (by omega) (by omega) (by omega)) rfl rfl rfl ?_
   have t9:=tapeN_lt (L:=L) (k:=q) (n:=9) (by omega)
   simp only [go_sem,simprocAttr]
   refine ⟨by omega,by omega,?_⟩
   refine drawC_of 18 .done rfl (by kernel_rfl) (by kernel_rfl) (by decide) ?_
   simp only [go_sem,simprocAttr]
   generalize hkd : [1,1,1,2,3,3,3,4,5].getD (tapeN L q 9).toNat (0:Int)=kd
   refine bcall (cNext L (q+1) 3 (by omega) (by omega) (by omega)) rfl rfl rfl ?_
   have t3:=tapeN_lt (L:=L) (k:=q+1) (n:=3) (by omega)
   simp only [go_sem,simprocAttr]
   refine ⟨by omega,by omega,?_⟩
   generalize hff : [_,_,_].getD (tapeN L (q+1) 3).toNat _=ff
   refine bcall (cNext L (q+2) 4 (by omega) (by omega) (by omega)) rfl rfl rfl ?_
   have t4:=tapeN_lt (L:=L) (k:=q+2) (n:=4) (by omega)
   simp only [go_sem,simprocAttr]
   refine ⟨by omega,by omega,?_⟩
   generalize hmm : [_,_,_,_].getD (tapeN L (q+2) 4).toNat _=mm
   refine bcall (cNext L (q+3) 4 (by omega) (by omega) (by omega)) rfl rfl rfl ?_
   have t5:=tapeN_lt (L:=L) (k:=q+3) (n:=4) (by omega)
   simp only [go_sem,simprocAttr]
   refine ⟨by omega,by omega,?_⟩
   generalize hpp : [_,_,_,_].getD (tapeN L (q+3) 4).toNat _=pp
   have mxl:es.length+1≤maxLen:=by unfold maxLen;omega
   have wc:IntKind.i64.wrap (((c+1:Nat):Int) - 1)=(c:Int):=by rw [wrap64 (by omega) (by omega)];omega
   have t6:=tapeN_lt (L:=L) (k:=q+4) (n:=2) (by omega)
   have w6:IntKind.i64.wrap (1+tapeN L (q+4) 2)=1+tapeN L (q+4) 2:=wrap64 (by omega) (by omega)
   have w7:IntKind.u64.wrap (1+tapeN L (q+4) 2)=1+tapeN L (q+4) 2:=wrapU64 (by omega) (by omega)
   have hk15:kd=1∨kd=2∨kd=3∨kd=4∨kd=5:=by
    have:(tapeN L q 9).toNat=0∨(tapeN L q 9).toNat=1∨(tapeN L q 9).toNat=2∨(tapeN L q 9).toNat=3∨(tapeN L q 9).toNat=4∨(tapeN L q 9).toNat=5∨(tapeN L q 9).toNat=6∨(tapeN L q 9).toNat=7∨(tapeN L q 9).toNat=8:=by omega
    rcases this with h | h | h | h | h | h | h | h | h<;>rw [h] at hkd<;>simp at hkd<;>omega
   refine ⟨by kernel_rfl,fun hk1=>?_,fun hk1=>?_⟩
   ·unfold awS
    simp only [go_sem,simprocAttr]
    refine icall_box (cNext L (q+4) 2 (by omega) (by omega) (by omega)) rfl rfl rfl ?_
    simp only [go_sem,simprocAttr,w6,w7]
    refine ⟨⟨mxl,by omega⟩,(c,es ++ [⟨kd,bNil,ff,bNil,1+tapeN L (q+4) 2⟩],q+5),weak_of [(1,some 23),(0,some 0)] ?_,?_,by simp only;omega⟩
    ·simp only [go_sem,simprocAttr,wc]
     simp [EventR.c,bNil]
    ·have hev:ev1 L q=(⟨kd,bNil,ff,bNil,1+tapeN L (q+4) 2⟩,q+5):=by
      unfold ev1 pickI pickB bF0 bF1 bF2 bM0 bM1 bM2 bSpare bNil
      simp only [hkd,hff,hmm,hpp]
      simp only [beq_iff_eq,beq_eq_false_iff_ne,ne_eq] at *
      subst hk1;rfl
     rw [hev] at he1 he2
     exact ⟨by simp only [List.length_append,List.length_cons,List.length_nil];omega,by simp only;omega,by rw [← he1];simp,he2⟩
   ·unfold awS
    simp only [go_sem,simprocAttr]
    refine ⟨fun hk2=>?_,fun hk2=>?_⟩
    ·unfold awS
     simp only [go_sem,simprocAttr]
     refine ⟨⟨mxl,by omega⟩,(c,es ++ [⟨kd,bNil,ff,bNil,0⟩],q+4),weak_of [(1,some 23),(0,some 0)] ?_,?_,by simp only;omega⟩
     ·simp only [go_sem,simprocAttr,wc]
      simp [EventR.c,bNil]
     ·have hev:ev1 L q=(⟨kd,bNil,ff,bNil,0⟩,q+4):=by
       unfold ev1 pickI pickB bF0 bF1 bF2 bM0 bM1 bM2 bSpare bNil
       simp only [hkd,hff,hmm,hpp]
       simp only [beq_iff_eq,beq_eq_false_iff_ne,ne_eq] at *
       subst hk2;rfl
      rw [hev] at he1 he2
      exact ⟨by simp only [List.length_append,List.length_cons,List.length_nil];omega,by simp only;omega,by rw [← he1];simp,he2⟩
    ·unfold awS
     simp only [go_sem,simprocAttr]
     refine ⟨fun hk3=>?_,fun hk3=>?_⟩
     ·unfold awS
      simp only [go_sem,simprocAttr,hk3]
      refine ⟨⟨mxl,by omega⟩,(c,es ++ [⟨kd,mm,ff,bNil,0⟩],q+4),weak_of [(1,some 23),(0,some 0)] ?_,?_,by simp only;omega⟩
      ·simp only [go_sem,simprocAttr,wc]
       simp [EventR.c,bNil]
      ·have hev:ev1 L q=(⟨kd,mm,ff,bNil,0⟩,q+4):=by
        unfold ev1 pickI pickB bF0 bF1 bF2 bM0 bM1 bM2 bSpare bNil
        simp only [hkd,hff,hmm,hpp]
        simp only [beq_iff_eq,beq_eq_false_iff_ne,ne_eq] at *
        subst hk3;rfl
       rw [hev] at he1 he2
       exact ⟨by simp only [List.length_append,List.length_cons,List.length_nil];omega,by simp only;omega,by rw [← he1];simp,he2⟩
     ·unfold awS
      simp only [go_sem,simprocAttr,hk3]
      refine ⟨fun hk4=>?_,fun hk4=>?_⟩
      ·unfold awS
       simp only [go_sem,simprocAttr,hk4]
       refine ⟨⟨mxl,by omega⟩,(c,es ++ [⟨kd,mm,ff,bNil,0⟩],q+4),weak_of [(1,some 23),(0,some 0)] ?_,?_,by simp only;omega⟩
       ·simp only [go_sem,simprocAttr,wc]
        simp [EventR.c,bNil]
       ·have hev:ev1 L q=(⟨kd,mm,ff,bNil,0⟩,q+4):=by
         unfold ev1 pickI pickB bF0 bF1 bF2 bM0 bM1 bM2 bSpare bNil
         simp only [hkd,hff,hmm,hpp]
         simp only [beq_iff_eq,beq_eq_false_iff_ne,ne_eq] at *
         subst hk4;rfl
        rw [hev] at he1 he2
        exact ⟨by simp only [List.length_append,List.length_cons,List.length_nil];omega,by simp only;omega,by rw [← he1];simp,he2⟩
      ·unfold awS
       simp only [go_sem,simprocAttr]
       refine ⟨fun hk5=>?_,fun hk5=>?_⟩
       ·unfold awS
        simp only [go_sem,simprocAttr,hk5]
        refine ⟨⟨mxl,by omega⟩,(c,es ++ [⟨kd,mm,bNil,pp,0⟩],q+4),weak_of [(1,some 23),(0,some 0)] ?_,?_,by simp only;omega⟩
        ·simp only [go_sem,simprocAttr,wc]
         simp [EventR.c,bNil]
        ·have hev:ev1 L q=(⟨kd,mm,bNil,pp,0⟩,q+4):=by
          unfold ev1 pickI pickB bF0 bF1 bF2 bM0 bM1 bM2 bSpare bNil
          simp only [hkd,hff,hmm,hpp]
          simp only [beq_iff_eq,beq_eq_false_iff_ne,ne_eq] at *
          subst hk5;rfl
         rw [hev] at he1 he2
         exact ⟨by simp only [List.length_append,List.length_cons,List.length_nil];omega,by simp only;omega,by rw [← he1];simp,he2⟩
       ·simp only [beq_eq_false_iff_ne,ne_eq] at *
        omega
  ·unfold awS
   simp only [go_sem,simprocAttr]
   have:c=0:=by omega
   subst this
   simp only [evGo,List.append_nil] at he1 he2
   rw [he1,he2]
   simp
theorem evGo_len (L:List Int):∀ (c k:Nat),(evGo L c k).1.length=c
 | 0,_=>rfl
 | c+1,k=>by simp [evGo,evGo_len L c]
theorem evs_len (L:List Int) (k:Nat) {n:Int} (h1 : 0≤n):(evsL L k n).1.length≤n.toNat:=by
 unfold evsL
 rw [evGo_len]
 have:=(tapeN_lt (L:=L) (k:=k) (show 1≤n+1 by omega)).2
 omega
theorem cMadeS (L:List Int) (n:Int) (h1 : 0≤n) (h2:n≤64):CMk Tryz.prog 17 [.t (tints L),vint n] (vstate (runFrom ⟨[],[]⟩ (evsL L 0 n).1).1) [.t (tints L),vint (evsL L 0 n).2]:=by
 refine cmk_of Tryz.xen17 Tryz.func17 rfl Tryz.ntmps17 (by rw [Tryz.results17]) (aw_ok _ ?_)
 have hl:=evs_len L 0 h1
 simp only [go_sem,simprocAttr]
 refine icall_box (cEvents L 0 n (by omega) h1 h2) rfl rfl rfl ?_
 simp only [go_sem,simprocAttr]
 refine ⟨_,cpure_as (.cons (as_impAgg (by exact ⟨as_nilL,as_nilL,trivial⟩)) (.cons as_refl .nil)) (cRRun ⟨[],[]⟩ _ ok_nil (by omega)),?_⟩
 simp only [go_sem,simprocAttr]
end Go.Proofs.YtbfnemkngoaeeaaGreat
