/- Proved here: Frames of films, the program: shares, the search, sources, for use in the proofs of the given statements; conditions stand in each theorem. -/
import Derived.Test.YtinobebofhbnnaaGreatYK
import Derived.Test.YtinobebofhbnnaaGreatYP
import Derived.Test.YtinobebofhbnnaaGreatZG
set_option linter.unusedSimpArgs false
set_option linter.unusedVariables false
set_option linter.unusedSectionVars false
set_option linter.unnecessarySimpa false
namespace Go.Proofs.YtinobebofhbnnaaGreat
open Go.RowKit
set_option maxRecDepth 4000
theorem wNU {n:Nat} (h:n<18446744073709551616):IntKind.u64.wrap (n:Int)=n:=wrapU64 (by omega) (by omega)
theorem cOf (n d:Nat) (hd : 1≤d) (hn:n≤1099511627776) (hd2:d≤1099511627776):CPure Tryz.prog 234 [vint n,vint d] (.tup [vrat ⟨((n / Nat.gcd n d:Nat):Int),((d / Nat.gcd n d:Nat):Int)⟩,vint 0]):=by
 have hg : 0<Nat.gcd n d:=Nat.gcd_pos_of_pos_right _ hd
 have q1:n / Nat.gcd n d≤n:=Nat.div_le_self _ _
 have q2:d / Nat.gcd n d≤d:=Nat.div_le_self _ _
 refine cpure_of Tryz.xen234 Tryz.func234 rfl Tryz.ntmps234 (by rw [Tryz.results234]) (aw_ok _ ?_)
 simp only [go_sem,↓reduceIte,Nat.reduceAdd,Nat.reduceSub]
 refine ⟨fun h=>?_,fun h=>?_⟩
 ·simp only [beq_iff_eq] at h
  omega
 ·unfold awS
  simp only [go_sem,↓reduceIte]
  refine ⟨_,cMagnitude n ⟨by omega,by omega⟩,?_⟩
  simp only [go_sem,↓reduceIte,Int.natAbs_natCast]
  refine ⟨_,cMagnitude d ⟨by omega,by omega⟩,?_⟩
  simp only [go_sem,↓reduceIte,Int.natAbs_natCast]
  refine ⟨_,cGcdU n d,?_⟩
  simp only [go_sem]
  refine drawR_of [0,1,2,3,4,5,6,7] .done rfl (by kernel_rfl) (by kernel_rfl) (by decide) ?_
  simp only [go_sem,↓reduceIte,tdiv_nat,wNU (n:=n / Nat.gcd n d) (by omega),wNU (n:=d / Nat.gcd n d) (by omega)]
  refine ⟨by omega,by omega,fun h2=>?_,fun h2=>?_⟩
  ·simp only [decide_eq_true_eq,Bool.or_eq_true] at h2
   omega
  ·unfold awS
   simp only [go_sem,Nat.reduceGT,↓reduceIte,Nat.reduceAdd,Nat.reduceLeDiff,reduceCtorEq,wrapN (n:=n / Nat.gcd n d) (by omega),wrapN (n:=d / Nat.gcd n d) (by omega)]
   refine ⟨fun h3=>?_,fun h3=>?_⟩
   ·simp only [ne_eq,beq_eq_false_iff_ne,Bool.not_eq_eq_eq_not,Bool.not_true] at h3
    exfalso
    have e1:decide ((n:Int)<0)=false:=decide_eq_false (by omega)
    have e2:decide ((d:Int)<0)=false:=decide_eq_false (by omega)
    rw [e1,e2] at h3
    exact absurd rfl h3
   ·unfold awS
    simp only [go_sem,↓reduceIte,Nat.reduceAdd,Nat.reduceLeDiff,reduceCtorEq]
theorem ends_nth {t:List ClipR} {x:Nat} (h:x<t.length) (d:List T):nth d ((endsT t).map intC) x = [ti (totL (t.take (x+1)))]:=by
 unfold nth endsT
 rw [List.getElem?_map,List.getElem?_map,List.getElem?_range h]
 rfl
theorem ends_len (t:List ClipR):(endsT t).length=t.length:=by unfold endsT;simp
abbrev capN (n:Int):V := .elem 1 [ti n] [[ti n]] 0 0
abbrev capL (t:List ClipR):V := .elem 3 (layC t) [layC t] 0 0
theorem cLess (t:List ClipR) (n:Int) {x:Nat} (hx:x<t.length):CPure Tryz.prog 185 [vint x,capN n,capL t] (vbool (decide (n<totL (t.take (x+1))))):=by
 refine cpure_of Tryz.xen185 Tryz.func185 rfl Tryz.ntmps185 (by rw [Tryz.results185]) (aw_ok _ ?_)
 simp only [go_sem,↓reduceIte,Nat.reduceAdd,Nat.reduceSub]
 refine drawR_of [0,1,2,3,4,5,6,7] .done rfl (by kernel_rfl) (by kernel_rfl) (by decide) ?_
 simp only [go_sem,↓reduceIte,nth_one,layC,ends_nth hx,ends_len]
 omega
theorem cSearch (t:List ClipR) (n:Int) (r:Nat) (h64:t.length≤64) (hr:r≤t.length) (h1:∀ x,x<r→totL (t.take (x+1))≤n) (h2:∀ x,r≤x→x<t.length→n<totL (t.take (x+1))) :
  CPure Tryz.prog 184 [vint t.length, .clo 185 [capN n,capL t]] (vint r):=by
 refine cpure_of Tryz.xen184 Tryz.func184 rfl Tryz.ntmps184 (by rw [Tryz.results184]) (aw_ok _ ?_)
 simp only [go_sem,↓reduceIte,Nat.reduceAdd,Nat.reduceSub]
 refine awp_loop_f (fun (x:Nat×Nat) σ => setS 5 (vint x.1) (setS 6 (vint x.2) (deadS [7,9,10,11,12,13,14,15,16,17,18,19,20,21,22,23,24] σ))) (fun x=>x.1≤r∧r≤x.2∧x.2≤t.length) (fun x=>x.2 - x.1) (0,t.length) (weak_self ?_) ⟨Nat.zero_le _,hr,Nat.le_refl _⟩ ?_
 ·simp only [go_sem,Nat.reduceLeDiff]<;>simp
 ·rintro ⟨i,j⟩ ⟨hi,hj,hjl⟩
  simp only at hi hj hjl
  refine aw_ok _ ?_
  simp only [go_sem,↓reduceIte]
  refine ⟨fun hlt=>?_,fun hge=>?_⟩
  ·simp only [decide_eq_true_eq] at hlt
   have w1:IntKind.i64.wrap ((i:Int)+(j:Int))=((i+j:Nat):Int):=by rw [wrap64 (by omega) (by omega)];omega
   have w2:IntKind.u64.wrap ((i+j:Nat):Int)=((i+j:Nat):Int):=wNU (by omega)
   have p2:(2:Int) ^ min (Int.toNat 1) 64=2:=by decide
   have d2:((i+j:Nat):Int) / 2=(((i+j) / 2:Nat):Int):=rfl
   have w3:IntKind.i64.wrap (((i+j) / 2:Nat):Int)=(((i+j) / 2:Nat):Int):=wrapN (by omega)
   have hh1:i≤(i+j) / 2:=by omega
   have hh2:(i+j) / 2<j:=by omega
   unfold awS
   simp only [go_sem,↓reduceIte,w1,w2,p2,d2,w3]
   obtain ⟨x,hx⟩:∃ x,x=(i+j) / 2:=⟨_,rfl⟩
   rw [← hx] at hh1 hh2 ⊢
   refine ⟨by decide,lcall_pure (cLess t n (x:=x) (by omega)) rfl ?_⟩
   simp only [go_sem]
   refine ⟨fun h3=>?_,fun h3=>?_⟩
   ·simp only [decide_eq_false_iff_not,Bool.not_eq_eq_eq_not,Bool.not_true] at h3
    have hxr:x<r:=by
     rcases Nat.lt_or_ge x r with h4 | h4
     ·exact h4
     ·exact absurd (h2 x h4 (by omega)) h3
    unfold awS
    simp only [go_sem,↓reduceIte]
    refine ⟨(x+1,j),weak_self ?_,⟨by simp only;omega,hj,hjl⟩,by simp only;omega⟩
    simp only [go_sem,Nat.reduceLeDiff]<;>simp [wrap1 (show x<9223372036854775807 by omega)]
   ·have h3':n<totL (t.take (x+1)):=by simpa using h3
    have hxr:r≤x:=by
     rcases Nat.lt_or_ge x r with h4 | h4
     ·have:=h1 x h4;omega
     ·exact h4
    unfold awS
    simp only [go_sem]
    refine ⟨(i,x),weak_self ?_,⟨hi,hxr,by simp only;omega⟩,by simp only;omega⟩
    simp only [go_sem,Nat.reduceLeDiff]
  ·simp only [decide_eq_false_iff_not] at hge
   have:i=r:=by omega
   subst this
   unfold awS
   simp only [go_sem,↓reduceIte]
theorem look_fr (n:ByteArray) (l:List MediumR):lookT (.string n) (frM l)=(medOf l n).map fun m=>vint m.frames:=lookT_mapOf _ _ n l
theorem look_ly (n:ByteArray) (l:List SequenceR):lookT (.string n) (lyM l)=(seqOf l n).map fun s => .t (.list 3 zLayT (s.video.map layC)):=lookT_mapOf _ _ n l
theorem cLeafF (p:ProjR) (G:ByteArray→Int→ExprR) (s:SourceR) (i:Int) (hG:s.kind=2→CPure Tryz.prog 111 [vix p,vstr s.name,vint i] (vexpr (G s.name i))) :
  CPure Tryz.prog 262 [vix p,vsource s,vint i] (vexpr (leafE p G s i)):=by
 refine cpure_ofW Tryz.xen262 Tryz.func262 rfl Tryz.ntmps262 (by rw [Tryz.results262]) (aw_ok _ ?_)
 simp only [go_sem,↓reduceIte,Nat.reduceAdd,Nat.reduceSub,Nat.reduceEqDiff]
 refine ⟨fun h=>?_,fun h=>?_⟩
 ·simp only [beq_iff_eq] at h
  have e:leafE p G s i=G s.name i:=by unfold leafE;rw [if_pos h]
  have hG':=hG h
  rw [e]
  unfold awS
  simp only [go_sem,↓reduceIte,Nat.reduceAdd,Nat.reduceLeDiff,Nat.reduceEqDiff,reduceCtorEq]
  refine ⟨_,hG',?_⟩
  generalize G s.name i=x
  rcases x with ⟨op,media,frame,num,den,param,text,args⟩
  simp only [go_sem,↓reduceIte,Nat.reduceAdd,Nat.reduceLeDiff]
  exact pureW_self rfl rfl
 ·simp only [ne_eq,beq_eq_false_iff_ne] at h
  unfold awS
  cases hmo:medOf p.media s.name with
  | none =>
   have e:leafE p G s i=if i<0∨0≤i then zeroE else .mk 1 s.name i 0 0 0 ⟨#[]⟩ []:=by unfold leafE medFr;rw [if_neg h,hmo]
   simp only [go_sem,↓reduceIte,Nat.reduceEqDiff,reduceCtorEq,look_fr,hmo,Option.map_none]
   rw [e]
   refine ⟨fun h2=>?_,fun h2=>?_⟩
   ·simp only [decide_eq_true_eq,Bool.or_eq_true] at h2
    rw [if_pos h2]
    unfold awS
    simp only [go_sem,↓reduceIte,Nat.reduceAdd,Nat.reduceLeDiff]
    exact pureW_zeroE
   ·simp only [decide_eq_false_iff_not,Bool.or_eq_false_iff] at h2
    omega
  | some m =>
   have e:leafE p G s i=if i<0∨m.frames≤i then zeroE else .mk 1 s.name i 0 0 0 ⟨#[]⟩ []:=by unfold leafE medFr;rw [if_neg h,hmo]
   simp only [go_sem,↓reduceIte,Nat.reduceEqDiff,reduceCtorEq,look_fr,hmo,Option.map_some]
   rw [e]
   refine ⟨fun h2=>?_,fun h2=>?_⟩
   ·simp only [decide_eq_true_eq,Bool.or_eq_true] at h2
    rw [if_pos h2]
    unfold awS
    simp only [go_sem,↓reduceIte,Nat.reduceAdd,Nat.reduceLeDiff]
    exact pureW_zeroE
   ·simp only [decide_eq_false_iff_not,Bool.or_eq_false_iff] at h2
    rw [if_neg (by omega)]
    unfold awS
    simp only [go_sem,Nat.reduceGT,↓reduceIte,Nat.reduceAdd,Nat.reduceLeDiff,Nat.reduceEqDiff,reduceCtorEq]
    exact pureW_vexN ..
theorem ediv_of {a b:Int} (hb : 0<b):(¬ a.tmod b<0→a / b=a.tdiv b∧a % b=a.tmod b)∧(a.tmod b<0→a / b=a.tdiv b - 1∧a % b=a.tmod b+b):=by
 have h1:=Int.mul_tdiv_add_tmod a b
 have h2:=Int.tmod_lt_of_pos a hb
 have h3 : -b<a.tmod b:=by
  have:=Int.lt_tmod_of_pos a hb
  omega
 constructor
 ·intro h
  have:=(Int.ediv_emod_unique hb (a:=a) (q:=a.tdiv b) (r:=a.tmod b)).2 ⟨by omega,by omega,h2⟩
  exact this
 ·intro h
  have:=(Int.ediv_emod_unique hb (a:=a) (q:=a.tdiv b - 1) (r:=a.tmod b+b)).2 ⟨by rw [Int.mul_sub,Int.mul_one];omega,by omega,by omega⟩
  exact this
theorem posS_bound {s:SourceR} {p d:Nat} (ok:SrcOk s p d) {k:Int} (hk : 0≤k∧k≤2147483647):(k*stepS s).natAbs≤144115188075855872∧(posS s k).natAbs≤216172782113783808:=by
 obtain ⟨f1,f2,f3,f4,f5,f6,f7⟩:=place_facts ok
 have h1:(k*stepS s).natAbs≤144115188075855872:=by
  rw [Int.natAbs_mul]
  calc k.natAbs*(stepS s).natAbs≤2147483648*67108864:=Nat.mul_le_mul (by omega) f7
   _=144115188075855872:=by decide
 refine ⟨h1,?_⟩
 unfold posS
 omega
theorem cPicF (p:ProjR) (F:SourceR→Int→ExprR) (s:SourceR) (k:Int) (hv:vSource s=true) (hk : 0≤k∧k≤2147483647)
  (hF:s.kind≠0 → ∀ i,I64 i→CPure Tryz.prog 262 [vix p,vsource s,vint i] (vexpr (F s i))) :
  CPure Tryz.prog 233 [vix p,vplace s,vint k] (vexpr (picE redX F s k)):=by
 refine cpure_ofW Tryz.xen233 Tryz.func233 rfl Tryz.ntmps233 (by rw [Tryz.results233]) (aw_ok _ ?_)
 simp only [go_sem,↓reduceIte,Nat.reduceAdd,Nat.reduceSub,Nat.reduceEqDiff]
 refine ⟨fun h=>?_,fun h=>?_⟩
 ·simp only [beq_iff_eq] at h
  have e:picE redX F s k=zeroE:=by unfold picE;rw [if_pos h]
  rw [e]
  unfold awS
  simp only [go_sem,↓reduceIte,Nat.reduceAdd,Nat.reduceLeDiff]
  exact pureW_zeroE
 ·simp only [ne_eq,beq_eq_false_iff_ne] at h
  obtain ⟨pp,dd,ok⟩:=kind_nz hv h
  obtain ⟨f1,f2,f3,f4,f5,f6,f7⟩:=place_facts ok
  obtain ⟨b1,b2⟩:=posS_bound ok hk
  have e:picE redX F s k=if s.smooth=true∧posS s k % (baseS s:Int)≠0 then redX (shareE 2 0 (posS s k % (baseS s:Int)) (baseS s) (F s (posS s k / (baseS s:Int))) (F s (posS s k / (baseS s:Int)+1))) else F s (posS s k / (baseS s:Int)):=by
   conv=>lhs;unfold picE
   rw [if_neg h]
  rw [e]
  have hpos:IntKind.i64.wrap (atS s+k*stepS s)=posS s k:=wrap64 (x:=posS s k) (by omega) (by omega)
  obtain ⟨t1,t2⟩:=ediv_of (a:=posS s k) (b:=(baseS s:Int)) (by omega)
  unfold awS
  simp only [go_sem,↓reduceIte,Nat.reduceEqDiff,wrap64 (x:=k*stepS s) (by omega) (by omega),hpos]
  have hq:((posS s k).tdiv (baseS s:Int)).natAbs≤(posS s k).natAbs:=by
   rw [Int.natAbs_tdiv]
   exact Nat.div_le_self _ _
  have hrb1:=Int.emod_nonneg (posS s k) (show (baseS s:Int)≠0 by omega)
  have hrb2:=Int.emod_lt_of_pos (posS s k) (show (0:Int)<baseS s by omega)
  refine drawR_of [0,1,2,3,4,5,6,7,8,9] .done rfl (by kernel_rfl) (by kernel_rfl) (by decide) ?_
  simp only [go_sem,↓reduceIte,Nat.reduceEqDiff,wrap64 (x:=(posS s k).tdiv (baseS s:Int)) (by omega) (by omega)]
  refine ⟨by omega,by omega,fun h3=>?_,fun h3=>?_⟩
  ·simp only [decide_eq_true_eq] at h3
   obtain ⟨g1,g2⟩:=t2 h3
   have wq:IntKind.i64.wrap ((posS s k).tdiv (baseS s:Int) - 1)=posS s k / (baseS s:Int):=by rw [← g1];exact wrap64 (by omega) (by omega)
   have wr:IntKind.i64.wrap ((posS s k).tmod (baseS s:Int)+(baseS s:Int))=posS s k % (baseS s:Int):=by rw [← g2];exact wrap64 (by omega) (by omega)
   unfold awS
   simp only [go_sem]
   refine drawR_of [0,1,2,3,4,5,6,7] .done rfl (by kernel_rfl) (by kernel_rfl) (by decide) ?_
   simp only [go_sem,↓reduceIte,Nat.reduceEqDiff,wq,wr]
   refine brW (b := !(s.smooth && !decide (posS s k % (baseS s:Int)=0))) ?_ ⟨fun h4=>?_,fun h4=>?_⟩
   ·rw [Bool.eq_iff_iff]
    cases s.smooth<;>simp
   ·have e2 : ¬ (s.smooth=true∧posS s k % (baseS s:Int)≠0):=fun ⟨q1,q2⟩=>by
     rw [q1,decide_eq_false q2] at h4
     cases h4
    rw [if_neg e2]
    unfold awS
    simp only [go_sem,↓reduceIte,Nat.reduceAdd,Nat.reduceLeDiff,Nat.reduceEqDiff,reduceCtorEq]
    refine ⟨_,hF h _ ⟨by omega,by omega⟩,?_⟩
    generalize F s (posS s k / (baseS s:Int))=x
    rcases x with ⟨op,media,frame,num,den,param,text,args⟩
    simp only [go_sem,↓reduceIte,Nat.reduceAdd,Nat.reduceLeDiff]
    exact pureW_self rfl rfl
   ·have e2:s.smooth=true∧posS s k % (baseS s:Int)≠0:=by
     refine ⟨?_,fun q2=>?_⟩
     ·cases q1:s.smooth with
      | true=>rfl
      | false=>rw [q1] at h4;cases h4
     ·rw [decide_eq_true q2] at h4
      cases q1:s.smooth<;>rw [q1] at h4<;>cases h4
    rw [if_pos e2]
    obtain ⟨rr,hrr⟩:∃ rr:Nat,posS s k % (baseS s:Int)=rr:=⟨(posS s k % (baseS s:Int)).toNat,by omega⟩
    have hgq:shareE 2 0 (posS s k % (baseS s:Int)) (baseS s) (F s (posS s k / (baseS s:Int))) (F s (posS s k / (baseS s:Int)+1)) = .mk 2 ⟨#[]⟩ 0 ((rr / Nat.gcd rr (baseS s):Nat):Int) ((baseS s / Nat.gcd rr (baseS s):Nat):Int) 0 ⟨#[]⟩ [F s (posS s k / (baseS s:Int)),F s (posS s k / (baseS s:Int)+1)]:=by
     unfold shareE gcdQ
     rw [hrr,Int.natAbs_natCast,Int.natAbs_natCast]
     rfl
    have hred:=cReduced2 2 ⟨#[]⟩ 0 ((rr / Nat.gcd rr (baseS s):Nat):Int) ((baseS s / Nat.gcd rr (baseS s):Nat):Int) 0 ⟨#[]⟩ (F s (posS s k / (baseS s:Int))) (F s (posS s k / (baseS s:Int)+1))
    rw [hgq]
    unfold redX
    have c1:=hF h (posS s k / (baseS s:Int)) ⟨by omega,by omega⟩
    have c2:=hF h (posS s k / (baseS s:Int)+1) ⟨by omega,by omega⟩
    have w1:IntKind.i64.wrap (posS s k / (baseS s:Int)+1)=posS s k / (baseS s:Int)+1:=wrap64 (by omega) (by omega)
    unfold awS
    simp only [go_sem,↓reduceIte,Nat.reduceEqDiff,hrr]
    refine ⟨_,cOf rr (baseS s) (by omega) (by omega) (by omega),?_⟩
    simp only [go_sem,↓reduceIte,Nat.reduceAdd,Nat.reduceLeDiff]
    refine drawS_of 17 [.give [19], .op 17, .op 18] rfl (by kernel_rfl) (by kernel_rfl) (by decide) ?_
    simp only [go_sem,↓reduceIte,Nat.reduceAdd,Nat.reduceLeDiff,Nat.reduceEqDiff,reduceCtorEq]
    refine ⟨_,c1,?_⟩
    generalize F s (posS s k / (baseS s:Int))=x at hred ⊢
    rcases x with ⟨op,media,frame,num,den,param,text,args⟩
    simp only [go_sem,↓reduceIte,Nat.reduceAdd,Nat.reduceLeDiff,Nat.reduceEqDiff,reduceCtorEq,w1]
    refine ⟨_,c2,?_⟩
    generalize F s (posS s k / (baseS s:Int)+1)=y at hred ⊢
    rcases y with ⟨op',media',frame',num',den',param',text',args'⟩
    simp only [go_sem,Nat.reduceGT,Nat.reducePow,Nat.reduceLT,↓reduceIte,Nat.reduceAdd,Nat.reduceMul,Nat.reduceLeDiff,Nat.reduceEqDiff,reduceCtorEq]
    refine ⟨by kernel_rfl,?_⟩
    simp only [vex,texprs,List.map_cons,List.map_nil,ExprR.c,cs_eq] at hred
    refine ⟨_,hred,?_⟩
    generalize redE _ _ _ _ _ _ _ _=z
    rcases z with ⟨op3,media3,frame3,num3,den3,param3,text3,args3⟩
    simp only [go_sem,↓reduceIte,Nat.reduceAdd,Nat.reduceLeDiff,Nat.reduceEqDiff]
    exact pureW_self rfl rfl
  ·simp only [decide_eq_false_iff_not] at h3
   obtain ⟨g1,g2⟩:=t1 h3
   unfold awS
   rw [← g1, ← g2]
   simp only [go_sem,↓reduceIte,Nat.reduceEqDiff]
   refine brW (b := !(s.smooth && !decide (posS s k % (baseS s:Int)=0))) ?_ ⟨fun h4=>?_,fun h4=>?_⟩
   ·rw [Bool.eq_iff_iff]
    cases s.smooth<;>simp
   ·have e2 : ¬ (s.smooth=true∧posS s k % (baseS s:Int)≠0):=fun ⟨q1,q2⟩=>by
     rw [q1,decide_eq_false q2] at h4
     cases h4
    rw [if_neg e2]
    unfold awS
    simp only [go_sem,↓reduceIte,Nat.reduceAdd,Nat.reduceLeDiff,Nat.reduceEqDiff,reduceCtorEq]
    refine ⟨_,hF h _ ⟨by omega,by omega⟩,?_⟩
    generalize F s (posS s k / (baseS s:Int))=x
    rcases x with ⟨op,media,frame,num,den,param,text,args⟩
    simp only [go_sem,↓reduceIte,Nat.reduceAdd,Nat.reduceLeDiff]
    exact pureW_self rfl rfl
   ·have e2:s.smooth=true∧posS s k % (baseS s:Int)≠0:=by
     refine ⟨?_,fun q2=>?_⟩
     ·cases q1:s.smooth with
      | true=>rfl
      | false=>rw [q1] at h4;cases h4
     ·rw [decide_eq_true q2] at h4
      cases q1:s.smooth<;>rw [q1] at h4<;>cases h4
    rw [if_pos e2]
    obtain ⟨rr,hrr⟩:∃ rr:Nat,posS s k % (baseS s:Int)=rr:=⟨(posS s k % (baseS s:Int)).toNat,by omega⟩
    have hgq:shareE 2 0 (posS s k % (baseS s:Int)) (baseS s) (F s (posS s k / (baseS s:Int))) (F s (posS s k / (baseS s:Int)+1)) = .mk 2 ⟨#[]⟩ 0 ((rr / Nat.gcd rr (baseS s):Nat):Int) ((baseS s / Nat.gcd rr (baseS s):Nat):Int) 0 ⟨#[]⟩ [F s (posS s k / (baseS s:Int)),F s (posS s k / (baseS s:Int)+1)]:=by
     unfold shareE gcdQ
     rw [hrr,Int.natAbs_natCast,Int.natAbs_natCast]
     rfl
    have hred:=cReduced2 2 ⟨#[]⟩ 0 ((rr / Nat.gcd rr (baseS s):Nat):Int) ((baseS s / Nat.gcd rr (baseS s):Nat):Int) 0 ⟨#[]⟩ (F s (posS s k / (baseS s:Int))) (F s (posS s k / (baseS s:Int)+1))
    rw [hgq]
    unfold redX
    have c1:=hF h (posS s k / (baseS s:Int)) ⟨by omega,by omega⟩
    have c2:=hF h (posS s k / (baseS s:Int)+1) ⟨by omega,by omega⟩
    have w1:IntKind.i64.wrap (posS s k / (baseS s:Int)+1)=posS s k / (baseS s:Int)+1:=wrap64 (by omega) (by omega)
    unfold awS
    simp only [go_sem,↓reduceIte,Nat.reduceEqDiff,hrr]
    refine ⟨_,cOf rr (baseS s) (by omega) (by omega) (by omega),?_⟩
    simp only [go_sem,↓reduceIte,Nat.reduceAdd,Nat.reduceLeDiff]
    refine drawS_of 17 [.give [19], .op 17, .op 18] rfl (by kernel_rfl) (by kernel_rfl) (by decide) ?_
    simp only [go_sem,↓reduceIte,Nat.reduceAdd,Nat.reduceLeDiff,Nat.reduceEqDiff,reduceCtorEq]
    refine ⟨_,c1,?_⟩
    generalize F s (posS s k / (baseS s:Int))=x at hred ⊢
    rcases x with ⟨op,media,frame,num,den,param,text,args⟩
    simp only [go_sem,↓reduceIte,Nat.reduceAdd,Nat.reduceLeDiff,Nat.reduceEqDiff,reduceCtorEq,w1]
    refine ⟨_,c2,?_⟩
    generalize F s (posS s k / (baseS s:Int)+1)=y at hred ⊢
    rcases y with ⟨op',media',frame',num',den',param',text',args'⟩
    simp only [go_sem,Nat.reduceGT,Nat.reducePow,Nat.reduceLT,↓reduceIte,Nat.reduceAdd,Nat.reduceMul,Nat.reduceLeDiff,Nat.reduceEqDiff,reduceCtorEq]
    refine ⟨by kernel_rfl,?_⟩
    simp only [vex,texprs,List.map_cons,List.map_nil,ExprR.c,cs_eq] at hred
    refine ⟨_,hred,?_⟩
    generalize redE _ _ _ _ _ _ _ _=z
    rcases z with ⟨op3,media3,frame3,num3,den3,param3,text3,args3⟩
    simp only [go_sem,↓reduceIte,Nat.reduceAdd,Nat.reduceLeDiff,Nat.reduceEqDiff]
    exact pureW_self rfl rfl
end Go.Proofs.YtinobebofhbnnaaGreat
