/- Proved here: What the statement about speeds computes, for use in the proofs of the given statements; conditions stand in each theorem. -/
import Derived.Test.YtmbmmijdmdoalaaYQ
set_option linter.unusedSimpArgs false
set_option linter.unusedVariables false
set_option linter.unusedSectionVars false
set_option linter.unnecessarySimpa false
namespace Go.Proofs.Ytmbmmijdmdoalaa
open Go.RowKit
set_option maxRecDepth 4000
set_option maxHeartbeats 4000000 in
theorem speeds12 (a y:Int) (half smooth:Bool) (ha : -128≤a∧a≤127) (hy : -128≤y∧y≤127):CPure Try.prog 3 [.t (.lit (.int .i8 a)), .t (.lit (.int .i8 y)),vbool half,vbool smooth] (vbool true):=by
 obtain ⟨d,hd⟩:∃ d:Int,d=if half=true then 2 else 1:=⟨_,rfl⟩
 have hd2:d=1∨d=2:=by rw [hd];cases half<;>simp
 obtain ⟨x,hx⟩:∃ x:Int,x=2*a+1:=⟨_,rfl⟩
 obtain ⟨z,hz⟩:∃ z:Int,z=2*y+1:=⟨_,rfl⟩
 have hF:=fun k hk=>sp_frame (x:=x) (z:=z) (d:=d) (by omega) (by omega) (by omega) (by omega) (by omega) (by omega) hd2 smooth k hk
 obtain ⟨lo,hlo⟩:∃ lo:Int→Int, ∀ n,lo n=n / d:=⟨_,fun _=>rfl⟩
 have f1:∀ n:Int,(decide (n<0)&&n.tmod d != 0)=true→n.tdiv d - 1=lo n:=fun n h=>by rw [hlo];exact floor_12 hd2 h
 have f2:∀ n:Int,(decide (n<0)&&n.tmod d != 0)=false→n.tdiv d=lo n:=fun n h=>by rw [hlo];exact floor_12' hd2 h
 have f3:∀ n:Int, -6000≤n∧n≤6000 → -6000≤lo n∧lo n≤6000:=fun n h=>by rw [hlo];rcases hd2 with rfl | rfl<;>omega
 have f6:∀ n:Int, -6000≤n∧n≤6000→IntKind.i64.wrap (n.tdiv d)=n.tdiv d:=fun n h=>by
  have : -6000≤n.tdiv d∧n.tdiv d≤6000:=by
   rcases hd2 with rfl | rfl
   ·rw [Int.tdiv_one];exact h
   ·rcases Int.lt_or_le n 0 with h0 | h0
    ·rw [(td_neg h0).1];omega
    ·rw [(td_pos h0).1];omega
  exact wrap64 (by omega) (by omega)
 obtain ⟨sp,hsp⟩:∃ sp:Int→ExprR, ∀ k,sp k=spE x z d smooth k:=⟨_,fun _=>rfl⟩
 have f4:∀ k,(smooth&&(x+k*z).tmod d != 0)=true→sp k=simpE (halfE (lo (x+k*z))) ∨ ¬ lo (x+k*z)≤999999:=fun k h=>by
  rw [rem_12 hd2,Bool.and_eq_true,decide_eq_true_eq] at h
  by_cases hb:lo (x+k*z)≤999999
  ·left
   rw [(half_sim _ hb).1,hsp,hlo]
   unfold spE
   rw [if_pos h]
  ·exact .inr hb
 have f5:∀ k,(smooth&&(x+k*z).tmod d != 0)=false→sp k=still25 (lo (x+k*z)):=fun k h=>by
  rw [rem_12 hd2] at h
  rw [hsp,hlo]
  unfold spE
  rw [if_neg]
  intro h2
  rw [h2.1,decide_eq_true h2.2] at h
  cases h
 simp only [← hsp] at hF
 clear hsp hlo
 have hS:=cSingle [cutC 20 (sgS ⟨x,d⟩ ⟨z,d⟩ smooth)]
 have w1:IntKind.i64.wrap a=a:=wrap64 (by omega) (by omega)
 have w2:IntKind.i64.wrap (2*a)=2*a:=wrap64 (by omega) (by omega)
 have w3:IntKind.i64.wrap (2*a+1)=x:=by rw [wrap64 (by omega) (by omega),hx]
 have w4:IntKind.i64.wrap y=y:=wrap64 (by omega) (by omega)
 have w5:IntKind.i64.wrap (2*y)=2*y:=wrap64 (by omega) (by omega)
 have w6:IntKind.i64.wrap (2*y+1)=z:=by rw [wrap64 (by omega) (by omega),hz]
 refine cpure_of Try.xen3 Try.func3 rfl Try.ntmps3 (by rw [Try.results3]) (aw_ok _ ?_)
 cases half<;>simp only [if_true,if_false,Bool.false_eq_true] at hd<;>subst hd
 all_goals
  simp only [go_sem,simprocAttr,decide_true,decide_false]
  try unfold awS
  simp only [go_sem,simprocAttr,decide_true,decide_false,w1,w2,w3,w4,w5,w6]
  refine awp_loop_f (fun (k:Nat) σ => setS 13 (vint k) (deadS [14,15,16,17,18,37,38,39,40,41,42,43,44,45,46,47,48,49,50,51,52,53,54,55,56,57,58,59,60,61,62,63,64,65,66,67,68,69,70,71,72,73,74,75,76,77,78,79,80,81,82,83,84,85,86,87,88,89,90,91] (cleanS σ))) (fun k=>k≤20) (fun k=>20 - k) 0 (weak_self ?_) (by omega) ?_
  ·simp only [go_sem,simprocAttr]
   simp
  ·intro k hk
   refine aw_ok _ ?_
   simp only [go_sem,simprocAttr]
   refine ⟨fun hlt=>?_,fun hge=>?_⟩
   ·simp only [bxx] at hlt
    have hk20:k<20:=by omega
    have hFk:=hF k hk20
    have hwk:IntKind.i64.wrap ((k:Int)+1)=((k+1:Nat):Int):=by rw [wrap1 (by omega)];omega
    have z1:=Int.mul_le_mul_of_nonneg_left (show z≤255 by omega) (show (0:Int)≤(k:Int) by omega)
    have z2:=Int.mul_le_mul_of_nonneg_left (show -255≤z by omega) (show (0:Int)≤(k:Int) by omega)
    have u1:IntKind.i64.wrap ((k:Int)*z)=(k:Int)*z:=wrap64 (by omega) (by omega)
    have u2:IntKind.i64.wrap (x+(k:Int)*z)=x+(k:Int)*z:=wrap64 (by omega) (by omega)
    unfold awS
    simp only [go_sem,simprocAttr]
    refine lcall_give ?_
    simp only [go_sem,simprocAttr]
    refine ⟨_,cpure_as (.cons (as_imp (imp_list (by exact ⟨⟨imp_refl,imp_refl,imp_refl,imp_refl,imp_refl,imp_refl,imp_refl,imp_refl,imp_refl,imp_refl,imp_refl,imp_refl,imp_refl,imp_refl,imp_refl,imp_refl,imp_refl,imp_refl,imp_refl,imp_refl,imp_refl,imp_nil,trivial⟩,trivial⟩))) .nil) hS,?_⟩
    simp only [go_sem,simprocAttr]
    refine ⟨_,hFk,?_⟩
    have e4:=f4 (k:Int)
    have e5:=f5 (k:Int)
    generalize sp (k:Int)=e at e4 e5 ⊢
    have hSame:=cSameE e e
    rw [eqE_iff.2 rfl] at hSame
    generalize hm:x+(k:Int)*z=m at e4 e5 u2
    have hmb : -6000≤m∧m≤6000:=by omega
    have hlb:=f3 m hmb
    have g6:=f6 m hmb
    have g1:=f1 m
    have g2:=f2 m
    obtain ⟨l,hl⟩:∃ l,l=lo m:=⟨_,rfl⟩
    rw [← hl] at hlb g1 g2 e4 e5
    have c1:=cStill l
    have c2:=cStill (l+1)
    have hwl:IntKind.i64.wrap (l+1)=l+1:=wrap64 (by omega) (by omega)
    have hh:=half_sim l (by omega)
    have hC:=cSimple (halfE l) hh.2
    unfold halfE at hC e4
    generalize still25 l=s1 at c1 hC e4 e5
    generalize still25 (l+1)=s2 at c2 hC e4
    generalize hsi:simpE (.mk 2 ⟨#[]⟩ 0 1 2 0 ⟨#[]⟩ [s1,s2])=s3 at hC e4
    obtain ⟨op,media,frame,num,den,param,text,args⟩:=e
    obtain ⟨op1,media1,frame1,num1,den1,param1,text1,args1⟩:=s1
    obtain ⟨op2,media2,frame2,num2,den2,param2,text2,args2⟩:=s2
    simp only [go_sem,simprocAttr,decide_true,decide_false,u1,hm,u2]
    have hl0:IntKind.i64.wrap l=l:=wrap64 (by omega) (by omega)
    refine ⟨fun h13=>?_,fun h13=>?_⟩
    ·have hwq:=g1 h13
     unfold awS
     simp only [go_sem,simprocAttr,decide_true,decide_false,g6,hwq,hl0]
     refine ⟨_,c1,?_⟩
     simp only [go_sem,simprocAttr,decide_true,decide_false]
     refine ⟨fun h15=>?_,fun h15=>?_⟩
     ·rcases e4 h15 with e4 | e4
      ·subst e4
       unfold awS
       simp only [go_sem,simprocAttr,decide_true,decide_false]
       refine ⟨_,c1,?_⟩
       simp only [go_sem,simprocAttr,decide_true,decide_false,hwl]
       refine ⟨_,c2,?_⟩
       simp only [go_sem,simprocAttr,decide_true,decide_false]
       refine lcall_give ?_
       simp only [go_sem,simprocAttr,decide_true,decide_false]
       simp only [vexpr,vex,texprs,List.map_cons,List.map_nil,ExprR.c,cs_eq] at hC
       refine ⟨_,hC,?_⟩
       simp only [go_sem,simprocAttr,decide_true,decide_false]
       refine ⟨_,hSame,?_⟩
       simp only [go_sem,simprocAttr,decide_true,decide_false]
       refine ⟨k+1,weak_self ?_,by omega,by omega⟩
       simp only [go_sem,simprocAttr,hwk]
       simp
      ·exact absurd hlb.2 (by omega)
     ·have e5:=e5 h15
      injection e5 with a1 a2 a3 a4 a5 a6 a7 a8
      subst a1 a2 a3 a4 a5 a6 a7 a8
      unfold awS
      simp only [go_sem,simprocAttr,decide_true,decide_false]
      refine ⟨_,hSame,?_⟩
      simp only [go_sem,simprocAttr,decide_true,decide_false]
      refine ⟨k+1,weak_self ?_,by omega,by omega⟩
      simp only [go_sem,simprocAttr,hwk]
      simp
    ·have hwq:=g2 h13
     unfold awS
     simp only [go_sem,simprocAttr,decide_true,decide_false,g6,hwq,hl0]
     refine ⟨_,c1,?_⟩
     simp only [go_sem,simprocAttr,decide_true,decide_false]
     refine ⟨fun h15=>?_,fun h15=>?_⟩
     ·rcases e4 h15 with e4 | e4
      ·subst e4
       unfold awS
       simp only [go_sem,simprocAttr,decide_true,decide_false]
       refine ⟨_,c1,?_⟩
       simp only [go_sem,simprocAttr,decide_true,decide_false,hwl]
       refine ⟨_,c2,?_⟩
       simp only [go_sem,simprocAttr,decide_true,decide_false]
       refine lcall_give ?_
       simp only [go_sem,simprocAttr,decide_true,decide_false]
       simp only [vexpr,vex,texprs,List.map_cons,List.map_nil,ExprR.c,cs_eq] at hC
       refine ⟨_,hC,?_⟩
       simp only [go_sem,simprocAttr,decide_true,decide_false]
       refine ⟨_,hSame,?_⟩
       simp only [go_sem,simprocAttr,decide_true,decide_false]
       refine ⟨k+1,weak_self ?_,by omega,by omega⟩
       simp only [go_sem,simprocAttr,hwk]
       simp
      ·exact absurd hlb.2 (by omega)
     ·have e5:=e5 h15
      injection e5 with a1 a2 a3 a4 a5 a6 a7 a8
      subst a1 a2 a3 a4 a5 a6 a7 a8
      unfold awS
      simp only [go_sem,simprocAttr,decide_true,decide_false]
      refine ⟨_,hSame,?_⟩
      simp only [go_sem,simprocAttr,decide_true,decide_false]
      refine ⟨k+1,weak_self ?_,by omega,by omega⟩
      simp only [go_sem,simprocAttr,hwk]
      simp
   ·simp only [bxx] at hge
    unfold awS
    simp only [go_sem,simprocAttr]
    refine ⟨_,cAwake25,?_⟩
    simp only [go_sem,simprocAttr]
end Go.Proofs.Ytmbmmijdmdoalaa
