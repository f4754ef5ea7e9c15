/- Proved here: Frames of films, the program: shares, the search, sources; conditions stand in each theorem. -/
import Derived.Test.YtbfnemkngoaeeaaGreatQ45
import Derived.Test.YtbfnemkngoaeeaaGreatQ46
import Derived.Test.YtbfnemkngoaeeaaGreatQ06
set_option linter.unusedSimpArgs false
set_option linter.unusedVariables false
set_option linter.unusedSectionVars false
set_option linter.unnecessarySimpa false
namespace Go.Proofs.YtbfnemkngoaeeaaGreat
open Go.RowKit
set_option maxRecDepth 4000
theorem wNU {n:Nat} (h:n<18446744073709551616):IntKind.u64.wrap (n:Int)=n:=Ex (by omega) (by omega)
theorem cOf (n d:Nat) (hd : 1≤d) (hn:n≤1099511627776) (hd2:d≤1099511627776):aM Tryz.prog 221 [aC n,aC d] (.tup [Cr ⟨((n / Nat.gcd n d:Nat):Int),((d / Nat.gcd n d:Nat):Int)⟩,aC 0]):=by
 have hg : 0<Nat.gcd n d:=Nat.gcd_pos_of_pos_right _ hd;have q1:n / Nat.gcd n d≤n:=Nat.div_le_self _ _;have q2:d / Nat.gcd n d≤d:=Nat.div_le_self _ _;refine aH Tryz.X221 Tryz.func221 rfl Tryz.ntmps221 (by rw [Tryz.results221]) (aD _ ?_);simp only [go_sem,simprocAttr];refine ⟨fun h=>?_,fun h=>?_⟩
 ·simp only [beq_iff_eq] at h;omega
 ·unfold awS;simp only [go_sem,simprocAttr];refine ⟨_,nM n ⟨by omega,by omega⟩,?_⟩;simp only [go_sem,simprocAttr,Int.natAbs_natCast];refine ⟨_,nM d ⟨by omega,by omega⟩,?_⟩;simp only [go_sem,simprocAttr,Int.natAbs_natCast];refine ⟨_,Zt n d,?_⟩;simp only [go_sem];refine cL [0,1,2,3,4,5,6,7] .done rfl (by kernel_rfl) (by kernel_rfl) (by decide) ?_;simp only [go_sem,simprocAttr,mY,wNU (n:=n / Nat.gcd n d) (by omega),wNU (n:=d / Nat.gcd n d) (by omega)];refine ⟨by omega,by omega,fun h2=>?_,fun h2=>?_⟩
  ·simp only [decide_eq_true_eq,Bool.or_eq_true] at h2;omega
  ·unfold awS;simp only [go_sem,simprocAttr,fG (n:=n / Nat.gcd n d) (by omega),fG (n:=d / Nat.gcd n d) (by omega)];refine ⟨fun h3=>?_,fun h3=>?_⟩
   ·simp only [ne_eq,beq_eq_false_iff_ne,Bool.not_eq_eq_eq_not,Bool.not_true] at h3;exfalso;have e1:decide ((n:Int)<0)=false:=decide_eq_false (by omega);have e2:decide ((d:Int)<0)=false:=decide_eq_false (by omega);rw [e1,e2] at h3;exact absurd rfl h3
   ·unfold awS;simp only [go_sem,simprocAttr]
theorem aGa {t:List ClipR} {x:Nat} (h:x<t.length) (d:List T):nth d ((vA t).map xQ) x = [ti (bU (t.take (x+1)))]:=by
 unfold nth vA;rw [List.getElem?_map,List.getElem?_map,List.getElem?_range h];rfl
theorem Hk (t:List ClipR):(vA t).length=t.length:=by unfold vA;simp
abbrev capN (n:Int):V := .elem 1 [ti n] [[ti n]] 0 0
abbrev capL (t:List ClipR):V := .elem 3 (Ep t) [Ep t] 0 0
theorem cLess (t:List ClipR) (n:Int) {x:Nat} (hx:x<t.length):aM Tryz.prog 170 [aC x,capN n,capL t] (aS (decide (n<bU (t.take (x+1))))):=by
 refine aH Tryz.X170 Tryz.func170 rfl Tryz.ntmps170 (by rw [Tryz.results170]) (aD _ ?_);simp only [go_sem,simprocAttr];refine cL [0,1,2,3,4,5,6,7] .done rfl (by kernel_rfl) (by kernel_rfl) (by decide) ?_;simp only [go_sem,simprocAttr,Bw,Ep,aGa hx,Hk];omega
theorem cSearch (t:List ClipR) (n:Int) (r:Nat) (h64:t.length≤64) (hr:r≤t.length) (h1:∀ x,x<r→bU (t.take (x+1))≤n) (h2:∀ x,r≤x→x<t.length→n<bU (t.take (x+1))) :
  aM Tryz.prog 169 [aC t.length, .clo 170 [capN n,capL t]] (aC r):=by
 refine aH Tryz.X169 Tryz.func169 rfl Tryz.ntmps169 (by rw [Tryz.results169]) (aD _ ?_);simp only [go_sem,↓reduceIte,Nat.reduceAdd,Nat.reduceSub];refine aF (fun (x:Nat×Nat) σ => cJ 5 (aC x.1) (cJ 6 (aC x.2) (bN [7,9,10,11,12,13,14,15,16,17,18,19,20,21,22,23,24] σ))) (fun x=>x.1≤r∧r≤x.2∧x.2≤t.length) (fun x=>x.2 - x.1) (0,t.length) (aB ?_) ⟨Nat.zero_le _,hr,Nat.le_refl _⟩ ?_
 ·simp only [go_sem,Nat.reduceLeDiff]<;>simp
 ·rintro ⟨i,j⟩ ⟨hi,hj,hjl⟩;simp only at hi hj hjl;refine aD _ ?_;simp only [go_sem,↓reduceIte];refine ⟨fun hlt=>?_,fun hge=>?_⟩
  ·simp only [decide_eq_true_eq] at hlt;have w1:IntKind.i64.wrap ((i:Int)+(j:Int))=((i+j:Nat):Int):=by rw [wrap64 (by omega) (by omega)];omega
   have w2:IntKind.u64.wrap ((i+j:Nat):Int)=((i+j:Nat):Int):=wNU (by omega);have p2:(2:Int) ^ min (Int.toNat 1) 64=2:=by decide
   have d2:((i+j:Nat):Int) / 2=(((i+j) / 2:Nat):Int):=rfl;have w3:IntKind.i64.wrap (((i+j) / 2:Nat):Int)=(((i+j) / 2:Nat):Int):=fG (by omega);have hh1:i≤(i+j) / 2:=by omega
   have hh2:(i+j) / 2<j:=by omega
   unfold awS;simp only [go_sem,↓reduceIte,w1,w2,p2,d2,w3];obtain ⟨x,hx⟩:∃ x,x=(i+j) / 2:=⟨_,rfl⟩
   rw [← hx] at hh1 hh2 ⊢;refine ⟨by decide,jJ (cLess t n (x:=x) (by omega)) rfl ?_⟩;simp only [go_sem];refine ⟨fun h3=>?_,fun h3=>?_⟩
   ·simp only [decide_eq_false_iff_not,Bool.not_eq_eq_eq_not,Bool.not_true] at h3;have hxr:x<r:=by
     rcases Nat.lt_or_ge x r with h4 | h4
     ·exact h4
     ·exact absurd (h2 x h4 (by omega)) h3
    unfold awS;simp only [go_sem,↓reduceIte];refine ⟨(x+1,j),aB ?_,⟨by simp only;omega,hj,hjl⟩,by simp only;omega⟩;simp only [go_sem,Nat.reduceLeDiff]<;>simp [bX (show x<9223372036854775807 by omega)]
   ·have h3':n<bU (t.take (x+1)):=by simpa using h3
    have hxr:r≤x:=by
     rcases Nat.lt_or_ge x r with h4 | h4
     ·have:=h1 x h4;omega
     ·exact h4
    unfold awS;simp only [go_sem];refine ⟨(i,x),aB ?_,⟨hi,hxr,by simp only;omega⟩,by simp only;omega⟩;simp only [go_sem,Nat.reduceLeDiff]
  ·simp only [decide_eq_false_iff_not] at hge;have:i=r:=by omega
   subst this;unfold awS;simp only [go_sem,↓reduceIte]
theorem aMp (n:ByteArray) (l:List MediumR):qJ (.string n) (frM l)=(nC l n).map fun m=>aC m.frames:=rU _ _ n l
theorem look_ly (n:ByteArray) (l:List SequenceR):qJ (.string n) (lyM l)=(bL l n).map fun s => .t (.list 3 Nt (s.video.map Ep)):=rU _ _ n l
theorem cLeafF (p:ProjR) (G:ByteArray→Int→ExprR) (s:SourceR) (i:Int) (hG:s.kind=2→aM Tryz.prog 95 [vix p,bM s.name,aC i] (cY (G s.name i))) :
  aM Tryz.prog 249 [vix p,uL s,aC i] (cY (kH p G s i)):=by
 refine cR Tryz.X249 Tryz.func249 rfl Tryz.ntmps249 (by rw [Tryz.results249]) (aD _ ?_);simp only [go_sem,simprocAttr];refine ⟨fun h=>?_,fun h=>?_⟩
 ·simp only [beq_iff_eq] at h;have e:kH p G s i=G s.name i:=by unfold kH;rw [if_pos h]
  have hG':=hG h;rw [e];unfold awS;simp only [go_sem,simprocAttr];refine ⟨_,hG',?_⟩;generalize G s.name i=x;rcases x with ⟨op,media,frame,num,den,param,text,args⟩;simp only [go_sem,simprocAttr];exact aU rfl rfl
 ·simp only [ne_eq,beq_eq_false_iff_ne] at h;unfold awS;cases hmo:nC p.media s.name with
  | none =>
   have e:kH p G s i=if i<0∨0≤i then zeroE else .mk 1 s.name i 0 0 0 ⟨#[]⟩ []:=by unfold kH uW;rw [if_neg h,hmo]
   simp only [go_sem,simprocAttr,aMp,hmo,Option.map_none];rw [e];refine ⟨fun h2=>?_,fun h2=>?_⟩
   ·simp only [decide_eq_true_eq,Bool.or_eq_true] at h2;rw [if_pos h2];unfold awS;simp only [go_sem,simprocAttr];exact kT
   ·simp only [decide_eq_false_iff_not,Bool.or_eq_false_iff] at h2;omega
  | some m =>
   have e:kH p G s i=if i<0∨m.frames≤i then zeroE else .mk 1 s.name i 0 0 0 ⟨#[]⟩ []:=by unfold kH uW;rw [if_neg h,hmo]
   simp only [go_sem,simprocAttr,aMp,hmo,Option.map_some];rw [e];refine ⟨fun h2=>?_,fun h2=>?_⟩
   ·simp only [decide_eq_true_eq,Bool.or_eq_true] at h2;rw [if_pos h2];unfold awS;simp only [go_sem,simprocAttr];exact kT
   ·simp only [decide_eq_false_iff_not,Bool.or_eq_false_iff] at h2;rw [if_neg (by omega)];unfold awS;simp only [go_sem,simprocAttr];exact aJm ..
theorem ediv_of {a b:Int} (hb : 0<b):(¬ a.tmod b<0→a / b=a.tdiv b∧a % b=a.tmod b)∧(a.tmod b<0→a / b=a.tdiv b - 1∧a % b=a.tmod b+b):=by
 have h1:=Int.mul_tdiv_add_tmod a b;have h2:=Int.tmod_lt_of_pos a hb;have h3 : -b<a.tmod b:=by
  have:=Int.lt_tmod_of_pos a hb;omega
 constructor
 ·intro h;have:=(Int.ediv_emod_unique hb (a:=a) (q:=a.tdiv b) (r:=a.tmod b)).2 ⟨by omega,by omega,h2⟩;exact this
 ·intro h;have:=(Int.ediv_emod_unique hb (a:=a) (q:=a.tdiv b - 1) (r:=a.tmod b+b)).2 ⟨by rw [Int.mul_sub,Int.mul_one];omega,by omega,by omega⟩;exact this
theorem aJr {s:SourceR} {p d:Nat} (ok:SrcOk s p d) {k:Int} (hk : 0≤k∧k≤2147483647):(k*mZ s).natAbs≤144115188075855872∧(dB s k).natAbs≤216172782113783808:=by
 obtain ⟨f1,f2,f3,f4,f5,f6,f7⟩:=zP ok;have h1:(k*mZ s).natAbs≤144115188075855872:=by
  rw [Int.natAbs_mul]
  calc k.natAbs*(mZ s).natAbs≤2147483648*67108864:=Nat.mul_le_mul (by omega) f7
   _=144115188075855872:=by decide
 refine ⟨h1,?_⟩;unfold dB;omega
theorem cPicF (p:ProjR) (F:SourceR→Int→ExprR) (s:SourceR) (k:Int) (hv:aY s=true) (hk : 0≤k∧k≤2147483647)
  (hF:s.kind≠0 → ∀ i,I64 i→aM Tryz.prog 249 [vix p,uL s,aC i] (cY (F s i))) :
  aM Tryz.prog 220 [vix p,Hx s,aC k] (cY (eQ dM F s k)):=by
 refine cR Tryz.X220 Tryz.func220 rfl Tryz.ntmps220 (by rw [Tryz.results220]) (aD _ ?_);simp only [go_sem,simprocAttr];refine ⟨fun h=>?_,fun h=>?_⟩
 ·simp only [beq_iff_eq] at h;have e:eQ dM F s k=zeroE:=by unfold eQ;rw [if_pos h]
  rw [e];unfold awS;simp only [go_sem,simprocAttr];exact kT
 ·simp only [ne_eq,beq_eq_false_iff_ne] at h;obtain ⟨pp,dd,ok⟩:=Ch hv h;obtain ⟨f1,f2,f3,f4,f5,f6,f7⟩:=zP ok;obtain ⟨b1,b2⟩:=aJr ok hk;have e:eQ dM F s k=if s.smooth=true∧dB s k % (aR s:Int)≠0 then dM (jB 2 0 (dB s k % (aR s:Int)) (aR s) (F s (dB s k / (aR s:Int))) (F s (dB s k / (aR s:Int)+1))) else F s (dB s k / (aR s:Int)):=by
   conv=>lhs;unfold eQ
   rw [if_neg h]
  rw [e];have hpos:IntKind.i64.wrap (atS s+k*mZ s)=dB s k:=wrap64 (x:=dB s k) (by omega) (by omega);obtain ⟨t1,t2⟩:=ediv_of (a:=dB s k) (b:=(aR s:Int)) (by omega);unfold awS;simp only [go_sem,simprocAttr,wrap64 (x:=k*mZ s) (by omega) (by omega),hpos];have hq:((dB s k).tdiv (aR s:Int)).natAbs≤(dB s k).natAbs:=by
   rw [Int.natAbs_tdiv];exact Nat.div_le_self _ _
  have hrb1:=Int.emod_nonneg (dB s k) (show (aR s:Int)≠0 by omega);have hrb2:=Int.emod_lt_of_pos (dB s k) (show (0:Int)<aR s by omega);refine cL [0,1,2,3,4,5,6,7,8,9] .done rfl (by kernel_rfl) (by kernel_rfl) (by decide) ?_;simp only [go_sem,simprocAttr,wrap64 (x:=(dB s k).tdiv (aR s:Int)) (by omega) (by omega)];refine ⟨by omega,by omega,fun h3=>?_,fun h3=>?_⟩
  ·simp only [decide_eq_true_eq] at h3;obtain ⟨g1,g2⟩:=t2 h3;have wq:IntKind.i64.wrap ((dB s k).tdiv (aR s:Int) - 1)=dB s k / (aR s:Int):=by rw [← g1];exact wrap64 (by omega) (by omega)
   have wr:IntKind.i64.wrap ((dB s k).tmod (aR s:Int)+(aR s:Int))=dB s k % (aR s:Int):=by rw [← g2];exact wrap64 (by omega) (by omega)
   unfold awS;simp only [go_sem];refine cL [0,1,2,3,4,5,6,7] .done rfl (by kernel_rfl) (by kernel_rfl) (by decide) ?_;simp only [go_sem,simprocAttr,wq,wr];refine brW (b := !(s.smooth && !decide (dB s k % (aR s:Int)=0))) ?_ ⟨fun h4=>?_,fun h4=>?_⟩
   ·rw [Bool.eq_iff_iff];cases s.smooth<;>simp
   ·have e2 : ¬ (s.smooth=true∧dB s k % (aR s:Int)≠0):=fun ⟨q1,q2⟩=>by
     rw [q1,decide_eq_false q2] at h4;cases h4
    rw [if_neg e2];unfold awS;simp only [go_sem,simprocAttr];refine ⟨_,hF h _ ⟨by omega,by omega⟩,?_⟩;generalize F s (dB s k / (aR s:Int))=x;rcases x with ⟨op,media,frame,num,den,param,text,args⟩;simp only [go_sem,simprocAttr];exact aU rfl rfl
   ·have e2:s.smooth=true∧dB s k % (aR s:Int)≠0:=by
     refine ⟨?_,fun q2=>?_⟩
     ·cases q1:s.smooth with
      | true=>rfl
      | false=>rw [q1] at h4;cases h4
     ·rw [decide_eq_true q2] at h4;cases q1:s.smooth<;>rw [q1] at h4<;>cases h4
    rw [if_pos e2];obtain ⟨rr,hrr⟩:∃ rr:Nat,dB s k % (aR s:Int)=rr:=⟨(dB s k % (aR s:Int)).toNat,by omega⟩
    have hgq:jB 2 0 (dB s k % (aR s:Int)) (aR s) (F s (dB s k / (aR s:Int))) (F s (dB s k / (aR s:Int)+1)) = .mk 2 ⟨#[]⟩ 0 ((rr / Nat.gcd rr (aR s):Nat):Int) ((aR s / Nat.gcd rr (aR s):Nat):Int) 0 ⟨#[]⟩ [F s (dB s k / (aR s:Int)),F s (dB s k / (aR s:Int)+1)]:=by
     unfold jB Vm;rw [hrr,Int.natAbs_natCast,Int.natAbs_natCast];rfl
    have hred:=tD 2 ⟨#[]⟩ 0 ((rr / Nat.gcd rr (aR s):Nat):Int) ((aR s / Nat.gcd rr (aR s):Nat):Int) 0 ⟨#[]⟩ (F s (dB s k / (aR s:Int))) (F s (dB s k / (aR s:Int)+1));rw [hgq];unfold dM;have c1:=hF h (dB s k / (aR s:Int)) ⟨by omega,by omega⟩;have c2:=hF h (dB s k / (aR s:Int)+1) ⟨by omega,by omega⟩;have w1:IntKind.i64.wrap (dB s k / (aR s:Int)+1)=dB s k / (aR s:Int)+1:=wrap64 (by omega) (by omega);unfold awS;simp only [go_sem,simprocAttr,hrr];refine ⟨_,cOf rr (aR s) (by omega) (by omega) (by omega),?_⟩;simp only [go_sem,simprocAttr];refine aGc 17 [.give [19], .op 17, .op 18] rfl (by kernel_rfl) (by kernel_rfl) (by decide) ?_;simp only [go_sem,simprocAttr];refine ⟨_,c1,?_⟩;generalize F s (dB s k / (aR s:Int))=x at hred ⊢;rcases x with ⟨op,media,frame,num,den,param,text,args⟩;simp only [go_sem,simprocAttr,w1];refine ⟨_,c2,?_⟩;generalize F s (dB s k / (aR s:Int)+1)=y at hred ⊢;rcases y with ⟨op',media',frame',num',den',param',text',args'⟩;simp only [go_sem,simprocAttr];refine ⟨by kernel_rfl,?_⟩;simp only [vex,pF,List.map_cons,List.map_nil,ExprR.c,jV] at hred;refine ⟨_,hred,?_⟩;generalize uG _ _ _ _ _ _ _ _=z;rcases z with ⟨op3,media3,frame3,aJv,den3,param3,text3,args3⟩;simp only [go_sem,simprocAttr];exact aU rfl rfl
  ·simp only [decide_eq_false_iff_not] at h3;obtain ⟨g1,g2⟩:=t1 h3;unfold awS;rw [← g1, ← g2];simp only [go_sem,simprocAttr];refine brW (b := !(s.smooth && !decide (dB s k % (aR s:Int)=0))) ?_ ⟨fun h4=>?_,fun h4=>?_⟩
   ·rw [Bool.eq_iff_iff];cases s.smooth<;>simp
   ·have e2 : ¬ (s.smooth=true∧dB s k % (aR s:Int)≠0):=fun ⟨q1,q2⟩=>by
     rw [q1,decide_eq_false q2] at h4;cases h4
    rw [if_neg e2];unfold awS;simp only [go_sem,simprocAttr];refine ⟨_,hF h _ ⟨by omega,by omega⟩,?_⟩;generalize F s (dB s k / (aR s:Int))=x;rcases x with ⟨op,media,frame,num,den,param,text,args⟩;simp only [go_sem,simprocAttr];exact aU rfl rfl
   ·have e2:s.smooth=true∧dB s k % (aR s:Int)≠0:=by
     refine ⟨?_,fun q2=>?_⟩
     ·cases q1:s.smooth with
      | true=>rfl
      | false=>rw [q1] at h4;cases h4
     ·rw [decide_eq_true q2] at h4;cases q1:s.smooth<;>rw [q1] at h4<;>cases h4
    rw [if_pos e2];obtain ⟨rr,hrr⟩:∃ rr:Nat,dB s k % (aR s:Int)=rr:=⟨(dB s k % (aR s:Int)).toNat,by omega⟩
    have hgq:jB 2 0 (dB s k % (aR s:Int)) (aR s) (F s (dB s k / (aR s:Int))) (F s (dB s k / (aR s:Int)+1)) = .mk 2 ⟨#[]⟩ 0 ((rr / Nat.gcd rr (aR s):Nat):Int) ((aR s / Nat.gcd rr (aR s):Nat):Int) 0 ⟨#[]⟩ [F s (dB s k / (aR s:Int)),F s (dB s k / (aR s:Int)+1)]:=by
     unfold jB Vm;rw [hrr,Int.natAbs_natCast,Int.natAbs_natCast];rfl
    have hred:=tD 2 ⟨#[]⟩ 0 ((rr / Nat.gcd rr (aR s):Nat):Int) ((aR s / Nat.gcd rr (aR s):Nat):Int) 0 ⟨#[]⟩ (F s (dB s k / (aR s:Int))) (F s (dB s k / (aR s:Int)+1));rw [hgq];unfold dM;have c1:=hF h (dB s k / (aR s:Int)) ⟨by omega,by omega⟩;have c2:=hF h (dB s k / (aR s:Int)+1) ⟨by omega,by omega⟩;have w1:IntKind.i64.wrap (dB s k / (aR s:Int)+1)=dB s k / (aR s:Int)+1:=wrap64 (by omega) (by omega);unfold awS;simp only [go_sem,simprocAttr,hrr];refine ⟨_,cOf rr (aR s) (by omega) (by omega) (by omega),?_⟩;simp only [go_sem,simprocAttr];refine aGc 17 [.give [19], .op 17, .op 18] rfl (by kernel_rfl) (by kernel_rfl) (by decide) ?_;simp only [go_sem,simprocAttr];refine ⟨_,c1,?_⟩;generalize F s (dB s k / (aR s:Int))=x at hred ⊢;rcases x with ⟨op,media,frame,num,den,param,text,args⟩;simp only [go_sem,simprocAttr,w1];refine ⟨_,c2,?_⟩;generalize F s (dB s k / (aR s:Int)+1)=y at hred ⊢;rcases y with ⟨op',media',frame',num',den',param',text',args'⟩;simp only [go_sem,simprocAttr];refine ⟨by kernel_rfl,?_⟩;simp only [vex,pF,List.map_cons,List.map_nil,ExprR.c,jV] at hred;refine ⟨_,hred,?_⟩;generalize uG _ _ _ _ _ _ _ _=z;rcases z with ⟨op3,media3,frame3,aJv,den3,param3,text3,args3⟩;simp only [go_sem,simprocAttr];exact aU rfl rfl
end Go.Proofs.YtbfnemkngoaeeaaGreat
