/- Proved here: Contracts of the functions that make tracks from a tape, for use in the proofs of the given statements; conditions stand in each theorem. -/
import Derived.Test.YtinobebofhbnnaaGreatZQ
import Derived.Test.YtinobebofhbnnaaGreatZG
import Derived.Test.YtinobebofhbnnaaGreatZN
set_option linter.unusedSimpArgs false
set_option linter.unusedVariables false
set_option linter.unusedSectionVars false
set_option linter.unnecessarySimpa false
namespace Go.Proofs.YtinobebofhbnnaaGreat
open Go.RowKit
set_option maxRecDepth 4000
abbrev StT (L:List Int) (c:Nat) (es:List ClipR) (k:Nat) (σ : St):St :=
 {fr:=(σ.fr.set 9 (.own 1)).set 10 (vint c),h:=[(1,RowC es),(0, .box [.t (tints L),vint k])],nx:=2 }
theorem cTrackIO (L:List Int) (k:Nat) (m s most:Int) (hk:k≤100000) (hm : 0≤m∧m≤9) (hs : 0≤s∧s≤9) (h0 : 0≤most) (h9:most≤9):CIO Tryz.prog 42 1 [(0, .box [.t (tints L),vint k])] [.own 0,vint m,vint s,vint most] (.own 1)
  [(1,RowC (trkAt L k m s most).1),(0, .box [.t (tints L),vint ((trkAt L k m s most).2:Int)])] 2:=by
 refine cio_of Tryz.xen42 Tryz.func42 rfl Tryz.ntmps42 (by rw [Tryz.results42]) (awp_facts fun hf=>aw_ok _ ?_)
 have w1:IntKind.i64.wrap (most+1)=most+1:=wrap64 (by omega) (by omega)
 simp only [go_sem,simprocAttr,w1]
 refine icall_box (cNext L k (most+1) (by omega) (by omega) (by omega)) rfl rfl rfl ?_
 have tn:=tapeN_lt (L:=L) (k:=k) (n:=most+1) (by omega)
 obtain ⟨N,hN⟩:∃ N:Nat,tapeN L k (most+1)=N:=⟨(tapeN L k (most+1)).toNat,by omega⟩
 simp only [go_sem,simprocAttr,hN]
 refine awp_loop_f (fun (x:Nat×List ClipR×Nat) σ => StT L x.1 x.2.1 x.2.2 σ) (fun x=>x.2.1.length+2*x.1≤18∧x.2.2+19*x.1≤k+200∧x.2.1++(trkGo L m s x.1 x.2.2).1=(trkAt L k m s most).1∧(trkGo L m s x.1 x.2.2).2=(trkAt L k m s most).2) (fun x=>x.1) (N,[],k+1) (weak_of [(1,none),(0,some 0)] ?_) ⟨by simp only [List.length_nil];omega,by simp only;omega,?_⟩ ?_
 ·simp only [go_sem,simprocAttr]<;>simp
 ·simp only [trkAt,hN,Int.toNat_natCast,List.nil_append,and_self]
 ·rintro ⟨c,es,q⟩ ⟨hc,hq,he1,he2⟩
  simp only at hc hq he1 he2
  refine aw_ok _ ?_
  simp only [go_sem,simprocAttr]
  refine ⟨fun hlt=>?_,fun hge=>?_⟩
  ·simp only [bxx] at hlt
   obtain ⟨c,rfl⟩:∃ c',c=c'+1:=⟨c - 1,by omega⟩
   simp only [trkGo] at he1 he2
   have hst:=trkStep_facts L q m s hm.2 hs.2
   unfold awS
   simp only [go_sem,simprocAttr]
   refine icall_box (cClip L q m s (by omega) hm hs) rfl rfl rfl ?_
   have hle:=clipAt_le L q m s
   have hsm:=clipAt_small L q m s
   generalize hcl:clipAt L q m s=C at *
   obtain ⟨d,kq⟩:=C
   simp only [go_sem,simprocAttr]
   have ec:∀ d:ClipR,[T.lit (.int .i64 d.len), .lit (.int .i64 d.kind), .lit (.int .i64 d.a.kind), .lit (.string d.a.name), .lit (.int .i64 d.a.pos.num), .lit (.int .i64 d.a.pos.den), .lit (.int .i64 d.a.speed.num), .lit (.int .i64 d.a.speed.den), .lit (.bool d.a.smooth),
    .lit (.int .i64 d.b.kind), .lit (.string d.b.name), .lit (.int .i64 d.b.pos.num), .lit (.int .i64 d.b.pos.den), .lit (.int .i64 d.b.speed.num), .lit (.int .i64 d.b.speed.den), .lit (.bool d.b.smooth), .lit (.int .i64 d.off), .lit (.int .i64 d.total), .lit (.int .i64 d.param), .lit (.string d.text), .lit (.int .i64 d.gain), .list 1 (intC 0) (d.chan.map intC)]=ClipR.c d:=fun _=>rfl
   have es1:es.map ClipR.c ++ [ClipR.c d]=(es ++ [d]).map ClipR.c:=by simp
   simp only [ec,es1]
   refine ⟨⟨by unfold maxLen;omega,by omega⟩,icall_box (cNext L kq 4 (by omega) (by omega) (by omega)) rfl rfl rfl ?_⟩
   have n4:=tapeN_lt (L:=L) (k:=kq) (n:=4) (by omega)
   simp only [go_sem,simprocAttr]
   have hll:((es ++ [d]).length:Int)<64:=by simp only [List.length_append,List.length_cons,List.length_nil];omega
   have wc:IntKind.i64.wrap (((c+1:Nat):Int) - 1)=(c:Int):=by rw [wrap64 (by omega) (by omega)];omega
   refine brW (b:=tapeN L kq 4==0) ?_ ⟨fun hj=>?_,fun hj=>?_⟩
   ·rw [decide_eq_true hll,Bool.and_true]
   ·unfold awS
    simp only [go_sem,simprocAttr]
    refine icall_box (cNext L (kq+1) 4 (by omega) (by omega) (by omega)) rfl rfl rfl ?_
    have m4:=tapeN_lt (L:=L) (k:=kq+1) (n:=4) (by omega)
    simp only [go_sem,simprocAttr,wrap64 (x:=1+tapeN L (kq+1) 4) (by omega) (by omega)]
    refine ⟨_,fun _=>eqRat d.a.speed one1,_,fun _=>eqSource d.b zSource,fun hb=>?_,fun hb=>?_⟩
    ·have hb2:splitB d=true:=hb
     have hs1:trkStep L q m s=([d,splitD d (1+tapeN L (kq+1) 4)],kq+2):=by
      unfold trkStep
      rw [hcl]
      simp only
      rw [if_pos (by simpa using hj),if_pos hb2]
     rw [hs1] at he1 he2
     obtain ⟨⟨q1,q2,q3⟩,_,q5,q6⟩:=hsm
     simp only at q1 q2 q3 q5 q6
     have wm:(d.len*d.a.pos.den).natAbs≤900000:=by
      rw [Int.natAbs_mul]
      exact Nat.mul_le_mul (show d.len.natAbs≤9 by omega) q2
     unfold awS
     simp only [go_sem,simprocAttr,wrap64 (x:=d.len*d.a.pos.den) (by omega) (by omega),wrap64 (x:=d.a.pos.num+d.len*d.a.pos.den) (by omega) (by omega)]
     have e2:∀ n:Int,[T.lit (.int .i64 n), .lit (.int .i64 d.kind), .lit (.int .i64 d.a.kind), .lit (.string d.a.name), .lit (.int .i64 (d.a.pos.num+d.len*d.a.pos.den)), .lit (.int .i64 d.a.pos.den), .lit (.int .i64 d.a.speed.num), .lit (.int .i64 d.a.speed.den), .lit (.bool d.a.smooth),
      .lit (.int .i64 d.b.kind), .lit (.string d.b.name), .lit (.int .i64 d.b.pos.num), .lit (.int .i64 d.b.pos.den), .lit (.int .i64 d.b.speed.num), .lit (.int .i64 d.b.speed.den), .lit (.bool d.b.smooth), .lit (.int .i64 d.off), .lit (.int .i64 d.total), .lit (.int .i64 d.param), .lit (.string d.text), .lit (.int .i64 d.gain), .list 1 (intC 0) (d.chan.map intC)]=ClipR.c (splitD d n):=fun _=>rfl
     have e3:∀ x:ClipR,(es ++ [d]).map ClipR.c ++ [ClipR.c x]=(es ++ [d,x]).map ClipR.c:=fun x=>by simp
     simp only [e2,e3]
     refine ⟨⟨by simp only [List.length_append,List.length_cons,List.length_nil];unfold maxLen;omega,by simp only [List.length_append,List.length_cons,List.length_nil];omega⟩,(c,es ++ [d,splitD d (1+tapeN L (kq+1) 4)],kq+2),weak_of [(1,some 7),(0,some 0)] ?_,⟨by simp only [List.length_append,List.length_cons,List.length_nil];omega,by simp only;simp only at hle;omega,by rw [← he1];simp,he2⟩,by simp only;omega⟩
     simp only [go_sem,simprocAttr,wc]
     try simp
    ·have hs1:trkStep L q m s=([d],kq+2):=by
      have hb2:splitB d=false:=hb
      unfold trkStep
      rw [hcl]
      simp only
      rw [if_pos (by simpa using hj),hb2]
      rfl
     rw [hs1] at he1 he2
     unfold awS
     simp only [go_sem,simprocAttr]
     refine ⟨(c,es ++ [d],kq+2),weak_of [(1,some 4),(0,some 0)] ?_,⟨by simp only [List.length_append,List.length_cons,List.length_nil];omega,by simp only;simp only at hle;omega,by rw [← he1];simp,he2⟩,by simp only;omega⟩
     simp only [go_sem,simprocAttr,wc]
     try simp
   ·have hs1:trkStep L q m s=([d],kq+1):=by
     unfold trkStep
     rw [hcl]
     simp only
     rw [if_neg (by simpa using hj)]
    rw [hs1] at he1 he2
    unfold awS
    simp only [go_sem,simprocAttr]
    refine ⟨(c,es ++ [d],kq+1),weak_of [(1,some 4),(0,some 0)] ?_,⟨by simp only [List.length_append,List.length_cons,List.length_nil];omega,by simp only;simp only at hle;omega,by rw [← he1];simp,he2⟩,by simp only;omega⟩
    simp only [go_sem,simprocAttr,wc]
    try simp
  ·simp only [bxx] at hge
   unfold awS
   simp only [go_sem,simprocAttr]
   have:c=0:=by omega
   subst this
   simp only [trkGo,List.append_nil] at he1 he2
   rw [he1,he2]
   refine weak_self ?_
   simp only [go_sem,simprocAttr]
   try simp
open Go.RowKit
set_option maxRecDepth 4000
def eqT:List ClipR→List ClipR→Bool
 | [],[]=>true
 | c::l,d::m=>c.eqb d&&eqT l m
 | _,_=>false
def sameT (a b:List ClipR):Bool:=vTrack a&&vTrack b&&eqT (normT a) (normT b)
end Go.Proofs.YtinobebofhbnnaaGreat
