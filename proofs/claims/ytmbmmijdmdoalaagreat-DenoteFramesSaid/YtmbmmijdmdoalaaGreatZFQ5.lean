/- Proved here: What the statement about frames computes, for use in the proofs of the given statements; conditions stand in each theorem. -/
import Derived.Test.YtmbmmijdmdoalaaGreatYO
import Derived.Test.YtmbmmijdmdoalaaGreatZTPj
import Derived.Test.YtmbmmijdmdoalaaGreatYP
set_option linter.unusedSimpArgs false
set_option linter.unusedVariables false
set_option linter.unusedSectionVars false
set_option linter.unnecessarySimpa false
namespace Go.Proofs.YtmbmmijdmdoalaaGreat
open Go.RowKit
set_option maxRecDepth 4000
theorem and31_64 (n:Int) (h:I64 n):I64 (bits .and .i64 n 31):=by
 have e1:(2:Int) ^ IntKind.i64.bits=18446744073709551616:=by decide
 have e2:(2:Int) ^ (IntKind.i64.bits - 1)=9223372036854775808:=by decide
 have key:∀ x:Int,I64 (IntKind.i64.wrap x):=fun x=>by
  unfold I64 IntKind.wrap
  simp only [IntKind.signed,if_true,e1,e2,Bool.true_and,decide_eq_true_eq]
  split<;>omega
 unfold bits
 exact key _
theorem proj_nth {ps:List ProjR} {k:Nat} (h:k<ps.length) (d:List T):nth d (ps.map ProjR.c) k = [tmedia (ps.getD k default).media,tseqs (ps.getD k default).seqs]:=by
 unfold nth
 rw [List.getElem?_map,List.getElem?_eq_getElem h,getD_of_lt h]
 rfl
theorem str_nth {ps:List ByteArray} {k:Nat} (h:k<ps.length) (d:List T):nth d (ps.map strC) k = [tstr (ps.getD k default)]:=by
 unfold nth
 rw [List.getElem?_map,List.getElem?_eq_getElem h,getD_of_lt h]
 rfl
theorem int_nth {ps:List Int} {k:Nat} (h:k<ps.length) (d:List T):nth d (ps.map intC) k = [ti (ps.getD k default)]:=by
 unfold nth
 rw [List.getElem?_map,List.getElem?_eq_getElem h,getD_of_lt h]
 rfl
theorem frames53 (raw:ProjR) (L K:List Int) (name:ByteArray) (n:Int) (h:raw.fit) (hn:I64 n):CPure Tryz.prog 11 [vproj raw, .t (tints L), .t (tints K),vstr name,vint n] (vbool true):=by
 refine cpure_of Tryz.xen11 Tryz.func11 rfl Tryz.ntmps11 (by rw [Tryz.results11]) (aw_ok _ ?_)
 simp only [go_sem,simprocAttr]
 refine ⟨_,cProject L,?_⟩
 simp only [go_sem,simprocAttr]
 refine ⟨_,cOddT L K,?_⟩
 have hq:=oddT_fit L K
 generalize oddP (projT L) K=q at hq ⊢
 simp only [go_sem,simprocAttr]
 obtain ⟨ns,hns⟩:∃ ns:List ByteArray,ns = [name,⟨#[115,48]⟩,⟨#[115,49]⟩,⟨#[115,50]⟩]:=⟨_,rfl⟩
 have hnl:ns.length=4:=by rw [hns];rfl
 have hn31:=and31_64 n hn
 refine awp_loop_f (fun (k:Nat) σ => { setS 33 (vint k) (deadS [13,15,17,18,19,20,21,22,23,24,25,34,35,36,37,38,39,40,41,42,43,44,45,46,47,48,49,50,51,52,53,54,55,56,57,58,59,60,61,62,63,64,65,66,67,68,69,70,71,72,73,74,75,76,77,78,79,80,81,82,83,84,85,86,87,88,89,90,91,92,93,94,95,96,97,98,99] (cleanS σ)) with h := σ.h.set 2 (.row 9 1 (strC ⟨#[]⟩) (tRows (ns.map strC))) }) (fun k=>k≤4) (fun k=>4 - k) 0 (weak_self ?_) (by omega) ?_
 ·simp only [go_sem,simprocAttr]
  rw [hns]
  simp
  exact ⟨rfl,rfl,rfl,rfl⟩
 ·intro k hk
  refine aw_ok _ ?_
  simp only [go_sem,simprocAttr]
  refine ⟨fun hlt=>?_,fun hge=>?_⟩
  ·simp only [bxx] at hlt
   have hk4:k<4:=by omega
   have hkn:k<ns.length:=by omega
   have hsn:=str_nth hkn
   generalize ns.getD k default=nm at hsn
   unfold awS
   simp only [go_sem,simprocAttr,hsn,hnl]
   obtain ⟨ps,hps⟩:∃ ps:List ProjR,ps = [q,raw]:=⟨_,rfl⟩
   have hpl:ps.length=2:=by rw [hps];rfl
   have hpf:∀ p∈ps,p.fit:=by
    intro p hp
    rw [hps] at hp
    simp only [List.mem_cons,List.not_mem_nil,or_false] at hp
    rcases hp with rfl | rfl
    ·exact hq
    ·exact h
   refine ⟨⟨by omega,by omega⟩,hk4,?_⟩
   refine awp_loop_f (fun (j:Nat) σ => { setS 41 (vint j) (deadS [15,17,18,19,20,21,22,23,24,25,42,43,44,45,46,47,48,49,50,51,52,53,54,55,56,57,58,59,60,61,62,63,64,65,66,67,68,69,70,71,72,73,74,75,76,77,78,79,80,81,82,83,84,85,86,87,88,89,90,91,92,93,94,95,96,97,98] (cleanS σ)) with h := σ.h.set 3 (.row 25 2 (ProjR.c default) (tRows (ps.map ProjR.c))) }) (fun j=>j≤2) (fun j=>2 - j) 0 (weak_self ?_) (by omega) ?_
   ·simp only [go_sem,simprocAttr]
    rw [hps]
    simp
    exact ⟨rfl,rfl⟩
   ·intro j hj
    refine aw_ok _ ?_
    simp only [go_sem,simprocAttr]
    refine ⟨fun hlt2=>?_,fun hge2=>?_⟩
    ·simp only [bxx] at hlt2
     have hj2:j<2:=by omega
     have hjp:j<ps.length:=by omega
     have hpn:=proj_nth hjp
     have hfp:=hpf _ (mem_getD (d:=default) hjp)
     generalize ps.getD j default=p at hpn hfp
     unfold awS
     simp only [go_sem,simprocAttr,hpn,hpl]
     obtain ⟨l,hl⟩:∃ l:List Int,l = [n,bits .and .i64 n 31]:=⟨_,rfl⟩
     have hll:l.length=2:=by rw [hl];rfl
     have hlf:∀ x∈l,I64 x:=by
      intro x hx
      rw [hl] at hx
      simp only [List.mem_cons,List.not_mem_nil,or_false] at hx
      rcases hx with rfl | rfl
      ·exact hn
      ·exact hn31
     refine ⟨⟨by omega,by omega⟩,hj2,?_⟩
     refine awp_loop_f (fun (i:Nat) σ => { setS 50 (vint i) (deadS [17,18,19,20,21,51,52,53,54,55,56,57,58,59,60,61,62,63,64,65,66,67,68,69,70,71,72,73,74,75,76,77] (cleanS σ)) with h := σ.h.set 5 (.row 2 1 (intC 0) (tRows (l.map intC))) }) (fun i=>i≤2) (fun i=>2 - i) 0 (weak_self ?_) (by omega) ?_
     ·simp only [go_sem,simprocAttr]
      rw [hl]
      simp
      exact ⟨rfl,rfl⟩
     ·intro i hi
      refine aw_ok _ ?_
      simp only [go_sem,simprocAttr]
      refine ⟨fun hlt3=>?_,fun hge3=>?_⟩
      ·simp only [bxx] at hlt3
       have hi2:i<2:=by omega
       have hil:i<l.length:=by omega
       have hin:=int_nth hil
       have hix:=hlf _ (mem_getD (d:=default) hil)
       generalize l.getD i default=x at hin hix
       have c1:=cDFrame p hfp nm x hix
       have c2:=cRFrameT p hfp nm x hix
       generalize frameR p nm x=r at c1 c2
       obtain ⟨fx,fe⟩:=r
       have c3:=cSameE fx fx
       rw [eqE_iff.2 (rfl:fx=fx)] at c3
       rcases fx with ⟨op,media,frame,num,den,param,text,args⟩
       unfold awS
       simp only [go_sem,simprocAttr,hin,hll]
       refine ⟨⟨by omega,by omega⟩,hi2,_,c1,?_⟩
       simp only [go_sem,simprocAttr]
       refine ⟨_,c2,?_⟩
       simp only [go_sem,simprocAttr]
       refine ⟨_,c3,?_⟩
       simp only [go_sem,simprocAttr]
       have hwi:IntKind.i64.wrap ((i:Int)+1)=((i+1:Nat):Int):=by rw [wrap1 (by omega)];omega
       refine ⟨i+1,weak_self ?_,by omega,by omega⟩
       simp only [go_sem,simprocAttr,hwi]<;>simp
      ·simp only [bxx] at hge3
       unfold awS
       simp only [go_sem,simprocAttr]
       refine ⟨_,cDLength p hfp nm,?_⟩
       simp only [go_sem,simprocAttr]
       refine ⟨_,cRLengthT p hfp nm,?_⟩
       simp only [go_sem,simprocAttr]
       have hwj:IntKind.i64.wrap ((j:Int)+1)=((j+1:Nat):Int):=by rw [wrap1 (by omega)];omega
       refine ⟨j+1,weak_of [(3,some 3),(2,some 2),(1,some 1),(0,some 0)] ?_,by omega,by omega⟩
       simp only [go_sem,simprocAttr,hwj]<;>simp
    ·simp only [bxx] at hge2
     unfold awS
     simp only [go_sem,simprocAttr]
     have hwk:IntKind.i64.wrap ((k:Int)+1)=((k+1:Nat):Int):=by rw [wrap1 (by omega)];omega
     refine ⟨k+1,weak_of [(2,some 2),(1,some 1),(0,some 0)] ?_,by omega,by omega⟩
     simp only [go_sem,simprocAttr,hwk]<;>simp
  ·simp only [bxx] at hge
   unfold awS
   simp only [go_sem,simprocAttr]
   refine ⟨_,cAwake25,?_⟩
   simp only [go_sem,simprocAttr]
end Go.Proofs.YtmbmmijdmdoalaaGreat
