/- Proved here: What the statement about dissolves computes, for use in the proofs of the given statements; conditions stand in each theorem. -/
import Derived.Test.YtmbmmijdmdoalaaZSP4
set_option linter.unusedSimpArgs false
set_option linter.unusedVariables false
set_option linter.unusedSectionVars false
set_option linter.unnecessarySimpa false
namespace Go.Proofs.Ytmbmmijdmdoalaa
open Go.RowKit
set_option maxRecDepth 4000
set_option maxHeartbeats 4000000 in
theorem mixes13 (o m r:Int) (wipe:Bool) (ho : 0≤o∧o≤255) (hm : 0≤m∧m≤255) (hr : 0≤r∧r≤255):CPure Try.prog 4 [.t (.lit (.int .u8 o)), .t (.lit (.int .u8 m)), .t (.lit (.int .u8 r)),vbool wipe] (vbool true):=by
 obtain ⟨n,hn⟩:∃ n:Nat,m.tmod 20+1=n:=⟨(m.tmod 20+1).toNat,by have:=Int.tmod_eq_emod_of_nonneg (b:=20) hm.1;omega⟩
 have hnb : 1≤n∧n≤20:=by have:=Int.tmod_eq_emod_of_nonneg (b:=20) hm.1;omega
 obtain ⟨t,ht⟩:∃ t:Int,t=o+n+r:=⟨_,rfl⟩
 have w0:IntKind.u8.wrap (m.tmod 20)=m.tmod 20:=by
  have:=Int.tmod_eq_emod_of_nonneg (b:=20) hm.1
  have e1:(2:Int) ^ IntKind.u8.bits=256:=by decide
  unfold IntKind.wrap
  simp only [IntKind.signed,e1,Bool.false_and]
  simp
  omega
 have w1:IntKind.i64.wrap (m.tmod 20)=m.tmod 20:=wrap64 (by omega) (by omega)
 have w2:IntKind.i64.wrap (n:Int)=n:=wrap64 (by omega) (by omega)
 have w3:IntKind.i64.wrap o=o:=wrap64 (by omega) (by omega)
 have w4:IntKind.i64.wrap (o+n)=o+n:=wrap64 (by omega) (by omega)
 have w5:IntKind.i64.wrap r=r:=wrap64 (by omega) (by omega)
 have w6:IntKind.i64.wrap (o+n+r)=t:=by rw [wrap64 (by omega) (by omega),ht]
 have w7:IntKind.i64.wrap (t+1)=t+1:=wrap64 (by omega) (by omega)
 obtain ⟨kd,hkd⟩:∃ kd:Int,kd=if wipe=true then 3 else 2:=⟨_,rfl⟩
 have hk2:kd=2∨kd=3:=by rw [hkd];cases wipe<;>simp
 have hS:=cSingle [mixC kd n o t]
 have hF:=fun (k:Nat) (hk:(k:Int)<n)=>mix_frame (kind:=kd) (len:=n) (off:=o) (tot:=t) hk2 (by omega) (by omega) (by omega) (by omega) (by omega) k hk
 generalize still25 0=s0 at hF
 generalize still25 1=s1 at hF
 refine cpure_of Try.xen4 Try.func4 rfl Try.ntmps4 (by rw [Try.results4]) (aw_ok _ ?_)
 cases wipe<;>simp only [if_true,if_false,Bool.false_eq_true] at hkd<;>subst hkd
 all_goals
  simp only [go_sem,simprocAttr,decide_true,decide_false,w0,w1,w2,w3,w4,w5,w6,hn]
  refine awp_loop_f (fun (k:Nat) σ => setS 12 (vint k) (deadS [13,14,42,43,44,45,46,47,48,49,50,51,52,53,54,55,56,57,58,59,60,61,62,63,64,65,66,67,68,69,70,71,72,73,74,75,76,77,78,79,80,81,82,83,84,85,86,87,88,89,90,91,92,93,94,95,96,97,98,99] (cleanS σ))) (fun k=>k≤n) (fun k=>n - k) 0 (weak_self ?_) (by omega) ?_
  ·simp only [go_sem,simprocAttr]
   simp
  ·intro k hk
   refine aw_ok _ ?_
   simp only [go_sem,simprocAttr]
   refine ⟨fun hlt=>?_,fun hge=>?_⟩
   ·simp only [bxx] at hlt
    obtain ⟨p,q,b1,b2,b3,b4,b5,hFk⟩:=hF k (by omega)
    have hwk:IntKind.i64.wrap ((k:Int)+1)=((k+1:Nat):Int):=by rw [wrap1 (by omega)];omega
    have hpq:(p:Int)*(t+1)≤100000*(t+1):=Int.mul_le_mul_of_nonneg_right (by omega) (by omega)
    have hpq0 : 0≤(p:Int)*(t+1):=Int.mul_nonneg (by omega) (by omega)
    have v2:IntKind.i64.wrap ((p:Int)*(t+1))=(p:Int)*(t+1):=wrap64 (by omega) (by omega)
    have v3:IntKind.i64.wrap (o+(k:Int))=o+(k:Int):=wrap64 (by omega) (by omega)
    have v4:IntKind.i64.wrap (o+(k:Int)+1)=o+(k:Int)+1:=wrap64 (by omega) (by omega)
    have v5:IntKind.i64.wrap ((o+(k:Int)+1)*(q:Int))=(p:Int)*(t+1):=by rw [← b4,v2]
    have v6:decide ((p:Int)≤0)=false:=decide_eq_false (by omega)
    have v7:decide ((p:Int) ≥ (q:Int))=false:=decide_eq_false (by omega)
    have hG:=cRGcd (p:Int) q (by omega) (by omega)
    rw [Int.natAbs_natCast,b5] at hG
    obtain ⟨op0,media0,frame0,num0,den0,param0,text0,args0⟩:=s0
    obtain ⟨op1,media1,frame1,num1,den1,param1,text1,args1⟩:=s1
    unfold awS
    simp only [go_sem,simprocAttr]
    refine lcall_give ?_
    simp only [go_sem,simprocAttr]
    refine ⟨_,cpure_as (.cons (as_imp (imp_list (by exact ⟨⟨imp_refl,imp_refl,imp_refl,imp_refl,imp_refl,imp_refl,imp_refl,imp_refl,imp_refl,imp_refl,imp_refl,imp_refl,imp_refl,imp_refl,imp_refl,imp_refl,imp_refl,imp_refl,imp_refl,imp_refl,imp_refl,imp_nil,trivial⟩,trivial⟩))) .nil) hS,?_⟩
    simp only [go_sem,simprocAttr]
    refine ⟨_,hFk,?_⟩
    simp only [go_sem,simprocAttr,decide_true,decide_false,w7,v2,v3,v4,v5,v6,v7]
    refine ⟨_,hG,?_⟩
    simp only [go_sem,simprocAttr,decide_true,decide_false]
    refine ⟨k+1,weak_self ?_,by omega,by omega⟩
    simp only [go_sem,simprocAttr,hwk]
    simp
   ·simp only [bxx] at hge
    unfold awS
    simp only [go_sem,simprocAttr]
    refine ⟨_,cAwake25,?_⟩
    simp only [go_sem,simprocAttr]
end Go.Proofs.Ytmbmmijdmdoalaa
