/- Proved here: The contract of the ratio of two rates, for use in the proofs of the given statements; conditions stand in each theorem. -/
import Derived.Test.YtjmoncjecpckhaaGreatVK
set_option linter.unusedSimpArgs false
set_option linter.unusedVariables false
set_option linter.unusedSectionVars false
set_option linter.unnecessarySimpa false
namespace Go.Proofs.YtjmoncjecpckhaaGreat
open Go.RowKit
set_option maxRecDepth 4000
def ratioR (b a:RatR):RatR:=⟨(b.num*a.den) / (Nat.gcd (b.num*a.den).toNat (b.den*a.num).toNat:Int),(b.den*a.num) / (Nat.gcd (b.num*a.den).toNat (b.den*a.num).toNat:Int)⟩
theorem cRatio {b a:RatR} (hb : 0<b.num∧b.num≤1048576) (hbd : 0<b.den∧b.den≤65536) (ha : 0<a.num∧a.num≤1048576) (had : 0<a.den∧a.den≤65536) :
  CPure Tryz.prog 22 [vrat b,vrat a] (.tup [vrat (ratioR b a),vbool (decide ((ratioR b a).den≤65536))]):=by
 have m1:=mul_abs2 (i:=b.num) (t:=a.den) (M:=1048576) (N:=65536) (by omega) (by omega)
 have m2:=mul_abs2 (i:=b.den) (t:=a.num) (M:=65536) (N:=1048576) (by omega) (by omega)
 have p1 : 0<b.num*a.den:=Int.mul_pos hb.1 had.1
 have p2 : 0<b.den*a.num:=Int.mul_pos hbd.1 ha.1
 unfold ratioR
 obtain ⟨n,hn⟩:=nat_of (n:=b.num*a.den) (by omega)
 obtain ⟨d,hd⟩:=nat_of (n:=b.den*a.num) (by omega)
 have w1:=wrap64 (x:=b.num*a.den) (by omega) (by omega)
 have w2:=wrap64 (x:=b.den*a.num) (by omega) (by omega)
 rw [hn] at w1 m1 p1
 rw [hd] at w2 m2 p2
 have en:((n:Nat):Int).toNat=n:=Int.toNat_natCast n
 have ed:((d:Nat):Int).toNat=d:=Int.toNat_natCast d
 rw [hn,hd,en,ed]
 obtain ⟨g,hg⟩:∃ g,g=Nat.gcd n d:=⟨_,rfl⟩
 have gp : 0<g:=by rw [hg];exact Nat.gcd_pos_of_pos_left _ (by omega)
 rw [← hg]
 refine cpure_of Tryz.xen22 Tryz.func22 rfl Tryz.ntmps22 (by rw [Tryz.results22]) (aw_ok _ ?_)
 simp only [go_sem,simprocAttr,decide_true,decide_false]
 refine drawC_of 12 .done rfl (by kernel_rfl) (by kernel_rfl) (by decide) ?_
 simp only [go_sem,simprocAttr,decide_true,decide_false,hn,hd,w1,w2]
 refine ⟨by kernel_rfl,?_⟩
 refine awp_loop_f (fun (q:Nat×Nat) σ => setS 8 (vint q.1) (setS 9 (vint q.2) (deadS [22,23,24,25,26,27] (cleanS σ)))) (fun q=>0<q.1∧q.1≤68719476736∧q.2≤68719476736∧Nat.gcd q.1 q.2=g) (fun q=>q.2) (n,d) (weak_self ?_) ⟨by omega,by omega,by omega,hg.symm⟩ ?_
 ·simp only [go_sem,simprocAttr]
  simp
 ·rintro ⟨x,y⟩ ⟨hx,hx2,hy2,hg2⟩
  simp only at hx hx2 hy2 hg2
  refine aw_ok _ ?_
  simp only [go_sem,simprocAttr]
  refine ⟨fun hne=>?_,fun heq=>?_⟩
  ·have hy : 0<y:=by
    rcases Nat.eq_zero_or_pos y with h | h
    ·subst h;simp at hne
    ·exact h
   have hm:x % y<y:=Nat.mod_lt _ hy
   have wm:=wrapN (n:=x % y) (by omega)
   have hyb:((y:Int) != 0)=true:=hne
   unfold awS
   simp only [go_sem,simprocAttr,decide_true,decide_false]
   refine drawC_of 6 .done rfl (by kernel_rfl) (by kernel_rfl) (by decide) ?_
   simp only [go_sem,simprocAttr,decide_true,decide_false,tmod_nat,wm]
   refine ⟨by omega,by kernel_rfl,(y,x % y),weak_self ?_,⟨hy,by omega,by show x % y≤68719476736;omega,?_⟩,hm⟩
   ·simp only [go_sem,simprocAttr,decide_true,decide_false]
    simp
   ·show Nat.gcd y (x % y)=g
    rw [Nat.gcd_comm, ← Nat.gcd_rec,Nat.gcd_comm]
    exact hg2
  ·have hy:y=0:=by
    rcases Nat.eq_zero_or_pos y with h | h
    ·exact h
    ·exfalso
     have:((y:Int) != 0)=true:=by simp;omega
     rw [this] at heq
     exact absurd heq (by decide)
   subst hy
   rw [Nat.gcd_zero_right] at hg2
   subst hg2
   unfold awS
   simp only [go_sem,simprocAttr,decide_true,decide_false]
   refine aw_ok _ ?_
   simp only [go_sem,simprocAttr,decide_true,decide_false]
   refine drawC_of 13 .done rfl (by kernel_rfl) (by kernel_rfl) (by decide) ?_
   have t1:(n:Int).tdiv (x:Int)=(n:Int) / (x:Int):=Int.tdiv_eq_ediv_of_nonneg (by omega)
   have t2:(d:Int).tdiv (x:Int)=(d:Int) / (x:Int):=Int.tdiv_eq_ediv_of_nonneg (by omega)
   have b1:=Int.ediv_nonneg (a:=(n:Int)) (b:=(x:Int)) (by omega) (by omega)
   have b2:=Int.ediv_nonneg (a:=(d:Int)) (b:=(x:Int)) (by omega) (by omega)
   have b3:=Int.ediv_le_self (a:=(n:Int)) (x:Int) (by omega)
   have b4:=Int.ediv_le_self (a:=(d:Int)) (x:Int) (by omega)
   have w3:=wrap64 (x:=(n:Int) / (x:Int)) (by omega) (by omega)
   have w4:=wrap64 (x:=(d:Int) / (x:Int)) (by omega) (by omega)
   simp only [go_sem,simprocAttr,decide_true,decide_false,t1,t2,w3,w4]
   exact ⟨by omega,by omega,by omega,by kernel_rfl⟩
open Go.RowKit
set_option maxRecDepth 4000
abbrev rawMv (ra rb:RatR):List (List T):=[mHead (prjM nmA ra) ++ [.lit (.slice none 0 0)],mHead (prjM nmB rb) ++ [.lit (.slice none 0 0)]]
theorem cProjM (r:RatR) (t:T):CIO Tryz.prog 18 0 [] [vrat r, .t t] (.agg [.own 0, .t (.list 9 zSeqT [rawQ1 r t])]) [(0, .row 60 141 (Tryz.z60.map T.lit) (tRows (rawMv r r)))] 1:=by
 refine cio_of Tryz.xen18 Tryz.func18 rfl Tryz.ntmps18 (by rw [Tryz.results18]) (aw_ok _ ?_)
 have ww1:IntKind.i64.wrap 1=1:=by decide
 have ww2:IntKind.i64.wrap 2=2:=by decide
 have w01:IntKind.i64.wrap (0+1)=1:=by decide
 have w11:IntKind.i64.wrap (1+1)=2:=by decide
 simp only [go_sem,simprocAttr,decide_true,decide_false]
 refine awp_loopL ?_
 refine awpL_step (aw_ok _ ?_)
 simp only [go_sem,simprocAttr,decide_true,decide_false,↓fillA,↓fillB2,ww1,ww2,w01,w11]
 refine ⟨by decide,?_⟩
 refine awpL_step (aw_ok _ ?_)
 simp only [go_sem,simprocAttr,decide_true,decide_false,↓fillA,↓fillB2,ww1,ww2,w01,w11]
 refine ⟨by decide,?_⟩
 refine awpL_step (aw_ok _ ?_)
 simp only [go_sem,simprocAttr,decide_true,decide_false,↓fillA,↓fillB2,ww1,ww2,w01,w11]
 refine weak_of [(0,some 7)] ?_
 simp only [go_sem,simprocAttr,decide_true,decide_false]
 exact ⟨⟨by simp,rfl⟩,rfl,by simp⟩
def rts:List RatR:=[⟨25,1⟩,⟨24,1⟩,⟨30,1⟩,⟨30000,1001⟩,⟨24000,1001⟩]
def rtoOk (b a:RatR):Bool:=vClip (cutC nmA ⟨0,1⟩ (ratioR b a) 60 4096 0)&&vRat (ratioR b a)&&decide ((toQ (ratioR b a)).num.natAbs≤4096)&&decide ((toQ (ratioR b a)).den≤2048)&&decide ((ratioR b a).den≤65536)&&decide (-1000000≤(ratioR b a).num)&&decide ((ratioR b a).num≤1000000)&&decide (0≤(ratioR b a).den)&&decide (toQ (ratioR b a)=toQ b / ((a.num:Rat) / a.den))
theorem rto_all:(rts.all fun b=>rts.all fun a=>rtoOk b a)=true:=by kernel_rfl
structure RateP (r:RatR):Prop where
 m:r∈rts
 s:RateS r
theorem rates_at (e:Int) (h0 : 0≤e) (h5:e<5) (d:List T):∃ r,RateP r∧nth d [[ti 25,ti 1],[ti 24,ti 1],[ti 30,ti 1],[ti 30000,ti 1001],[ti 24000,ti 1001]] e.toNat = [ti r.num,ti r.den]:=by
 have:e=0∨e=1∨e=2∨e=3∨e=4:=by omega
 rcases this with rfl | rfl | rfl | rfl | rfl
 ·exact ⟨⟨25,1⟩,⟨by simp [rts],rateS25⟩,rfl⟩
 ·exact ⟨⟨24,1⟩,⟨by simp [rts],rateS24⟩,rfl⟩
 ·exact ⟨⟨30,1⟩,⟨by simp [rts],rateS30⟩,rfl⟩
 ·exact ⟨⟨30000,1001⟩,⟨by simp [rts],rateS2997⟩,rfl⟩
 ·exact ⟨⟨24000,1001⟩,⟨by simp [rts],rateS2398⟩,rfl⟩
structure RatioP (b a:RatR):Prop where
 vc:vClip (cutC nmA ⟨0,1⟩ (ratioR b a) 60 4096 0)=true
 vr:vRat (ratioR b a)=true
 qb:QB (toQ (ratioR b a)) 4096 2048
 ok:decide ((ratioR b a).den≤65536)=true
 fit:(ratioR b a).fit
 eq:toQ (ratioR b a)=toQ b / ((a.num:Rat) / a.den)
theorem ratio_p {b a:RatR} (hb:RateP b) (ha:RateP a):RatioP b a:=by
 have h:=List.all_eq_true.1 (List.all_eq_true.1 rto_all b hb.m) a ha.m
 unfold rtoOk at h
 simp only [Bool.and_eq_true] at h
 obtain ⟨⟨⟨⟨⟨⟨⟨⟨h1,h2⟩,h3⟩,h4⟩,h5⟩,h6⟩,h7⟩,h8⟩,h9⟩:=h
 refine ⟨h1,h2,⟨of_decide_eq_true h3,of_decide_eq_true h4⟩,h5,⟨i64s ⟨of_decide_eq_true h6,of_decide_eq_true h7⟩,i64s ⟨?_,?_⟩⟩,of_decide_eq_true h9⟩
 ·have:=of_decide_eq_true h8
  omega
 ·have:=of_decide_eq_true h5
  omega
end Go.Proofs.YtjmoncjecpckhaaGreat
