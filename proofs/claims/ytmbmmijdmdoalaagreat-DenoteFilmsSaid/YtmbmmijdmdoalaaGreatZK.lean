/- Proved here: Contracts of the functions that compute with wide numbers, within the bounds of positions, for use in the proofs of the given statements; conditions stand in each theorem. -/
import Derived.Test.YtmbmmijdmdoalaaGreatZX
import Derived.Laws.BitsAllLaws
import Derived.Laws.Bits64b
import Derived.Laws.Externs
import Derived.Test.YtmbmmijdmdoalaaGreatZI
set_option linter.unusedSimpArgs false
set_option linter.unusedVariables false
set_option linter.unusedSectionVars false
set_option linter.unnecessarySimpa false
namespace Go.Proofs.YtmbmmijdmdoalaaGreat
open Go.RowKit
set_option maxRecDepth 4000
abbrev vwide (z:Int):V := .agg [vbool (decide (z<0)),vu64 0,vu64 ((z.natAbs:Nat):Int)]
open Go.RowKit
set_option maxRecDepth 4000
def toQ (r:RatR):Rat:=mkRat r.num r.den.toNat
def ofQ (q:Rat):RatR:=⟨q.num,q.den⟩
theorem vRat_ofQ (q:Rat) (h : -9223372036854775808<q.num):vRat (ofQ q)=true:=by
 have h1:=q.den_pos
 have h2:=q.reduced
 unfold vRat ofQ
 simp only [Bool.and_eq_true,decide_eq_true_eq,Int.natAbs_natCast]
 exact ⟨⟨by omega,h⟩,h2⟩
open Go.RowKit
set_option maxRecDepth 4000
abbrev vqe (q:Rat):V := .tup [vrat (ofQ q),vint 0]
theorem exact_div {n:Int} {g:Nat} (h:g ∣ n.natAbs) (hg : 0<g):n.tdiv (g:Int)=n / (g:Int)∧(n / (g:Int)).natAbs≤n.natAbs:=by
 have hd:(g:Int) ∣ n:=Int.ofNat_dvd_left.2 h
 refine ⟨Int.tdiv_eq_ediv_of_dvd hd,?_⟩
 rw [Int.natAbs_ediv_of_dvd hd,Int.natAbs_natCast]
 exact Nat.div_le_self _ _
open Go.RowKit
set_option maxRecDepth 4000
def wayQ (s:SourceR) (n:Int):Rat:=toQ ⟨n,1⟩*toQ s.speed
def movedQ (s:SourceR) (n:Int):Rat:=toQ s.pos+wayQ s n
def movedS (s:SourceR) (n:Int):SourceR:=if s.isZ=true then s else { s with pos:=ofQ (movedQ s n) }
structure SrcOk (s:SourceR) (p d:Nat):Prop where
 kind:s.kind=1∨s.kind=2
 name:vName s.name=true
 pos:vRat s.pos=true
 speed:vRat s.speed=true
 wpos:vWith s.pos 1099511627776=true
 wspeed:vWith s.speed 1024=true
 hp:s.pos.den=p
 hd:s.speed.den=d
 p1 : 1≤p
 d1 : 1≤d
 lcm:Nat.lcm p d≤65536
 ple:p≤65536
 dle:d≤65536
 pnum:s.pos.num.natAbs≤1099511627776*p
 snum:s.speed.num.natAbs≤1024*d
theorem srcOk_of {s:SourceR} (hv:vSource s=true) (hz:s.isZ=false):∃ p d,SrcOk s p d:=by
 unfold vSource at hv
 rw [hz,Bool.false_or] at hv
 simp only [Bool.and_eq_true,Bool.or_eq_true,beq_iff_eq,decide_eq_true_eq] at hv
 obtain ⟨⟨⟨⟨⟨⟨h1,h2⟩,h3⟩,h4⟩,h5⟩,h6⟩,h7⟩:=hv
 have d1:=vRat_den h3
 have d2:=vRat_den h4
 obtain ⟨p,hp⟩:=nat_of (n:=s.pos.den) (by omega)
 obtain ⟨d,hd⟩:=nat_of (n:=s.speed.den) (by omega)
 have hl:=lcm_dens h3 h4 h7
 unfold lcmS at h7
 have h5':=h5
 have h6':=h6
 unfold vWith at h5' h6'
 simp only [decide_eq_true_eq] at h5' h6'
 rw [hp,hd] at h7
 simp only [Int.natAbs_natCast] at h7
 exact ⟨p,d,h1,h2,h3,h4,h5,h6,hp,hd,by omega,by omega,h7,by omega,by omega,by omega,by omega⟩
open Go.RowKit
set_option maxRecDepth 4000
theorem toQ_mk {r:RatR} {p:Nat} (hp:r.den=p):toQ r=mkRat r.num p:=by unfold toQ;rw [hp,Int.toNat_natCast]
def numB (s:SourceR) (n:Int) (p d:Nat):Int:=s.pos.num*((Nat.lcm p d / p:Nat):Int)+n*s.speed.num*((Nat.lcm p d / d:Nat):Int)
theorem moved_norm {s:SourceR} {p d:Nat} (h:SrcOk s p d) (n:Int):movedQ s n=mkRat (numB s n p d) (Nat.lcm p d):=by
 have hb:Nat.lcm p d≠0:=by have:=Nat.lcm_pos h.p1 h.d1;omega
 have p1:=h.p1
 have d1:=h.d1
 unfold movedQ wayQ numB
 rw [toQ_mk h.hp,toQ_mk (r:=⟨n,1⟩) (p:=1) rfl,toQ_mk h.hd,Rat.mkRat_mul_mkRat,Nat.one_mul,Rat.mkRat_add_mkRat _ _ (by omega) (by omega),Rat.mkRat_eq_iff (by have:=Nat.mul_pos p1 d1;omega) hb]
 have e1:Nat.lcm p d=p*(Nat.lcm p d / p):=(Nat.mul_div_cancel' (Nat.dvd_lcm_left p d)).symm
 have e2:Nat.lcm p d=d*(Nat.lcm p d / d):=(Nat.mul_div_cancel' (Nat.dvd_lcm_right p d)).symm
 have f1:((Nat.lcm p d:Nat):Int)=(p:Int)*((Nat.lcm p d / p:Nat):Int):=by rw [← Int.natCast_mul, ← e1]
 have f2:((Nat.lcm p d:Nat):Int)=(d:Int)*((Nat.lcm p d / d:Nat):Int):=by rw [← Int.natCast_mul, ← e2]
 rw [Int.natCast_mul,Int.add_mul,Int.add_mul]
 congr 1
 ·rw [f1]
  generalize ((Nat.lcm p d / p:Nat):Int)=k
  simp only [Int.mul_assoc,Int.mul_comm,Int.mul_left_comm]
 ·rw [f2]
  generalize ((Nat.lcm p d / d:Nat):Int)=k
  simp only [Int.mul_assoc,Int.mul_comm,Int.mul_left_comm]
theorem moved_parts {s:SourceR} {p d:Nat} (h:SrcOk s p d) (n:Int):(movedQ s n).num=numB s n p d / ((Nat.gcd (numB s n p d).natAbs (Nat.lcm p d):Nat):Int)∧(movedQ s n).den=Nat.lcm p d / Nat.gcd (numB s n p d).natAbs (Nat.lcm p d):=by
 have hb:Nat.lcm p d≠0:=by have:=Nat.lcm_pos h.p1 h.d1;omega
 rw [moved_norm h n, ← Rat.normalize_eq_mkRat hb,Rat.normalize_eq]
 exact ⟨rfl,rfl⟩
theorem numB_bounds {s:SourceR} {p d:Nat} (h:SrcOk s p d) {n:Int} (hn:n.natAbs≤2147483648) :
  (s.pos.num*((Nat.lcm p d / p:Nat):Int)).natAbs≤72057594037927936∧(n*s.speed.num).natAbs≤144115188075855872∧(n*s.speed.num*((Nat.lcm p d / d:Nat):Int)).natAbs≤144115188075855872:=by
 have e1:p*(Nat.lcm p d / p)=Nat.lcm p d:=Nat.mul_div_cancel' (Nat.dvd_lcm_left p d)
 have e2:d*(Nat.lcm p d / d)=Nat.lcm p d:=Nat.mul_div_cancel' (Nat.dvd_lcm_right p d)
 refine ⟨?_,?_,?_⟩
 ·rw [Int.natAbs_mul,Int.natAbs_natCast]
  calc s.pos.num.natAbs*(Nat.lcm p d / p)≤1099511627776*p*(Nat.lcm p d / p):=Nat.mul_le_mul_right _ h.pnum
   _=1099511627776*Nat.lcm p d:=by rw [Nat.mul_assoc,e1]
   _≤1099511627776*65536:=Nat.mul_le_mul_left _ h.lcm
   _=72057594037927936:=by decide
 ·rw [Int.natAbs_mul]
  calc n.natAbs*s.speed.num.natAbs≤2147483648*(1024*65536):=Nat.mul_le_mul hn (Nat.le_trans h.snum (Nat.mul_le_mul_left _ h.dle))
   _=144115188075855872:=by decide
 ·rw [Int.natAbs_mul,Int.natAbs_mul,Int.natAbs_natCast]
  calc n.natAbs*s.speed.num.natAbs*(Nat.lcm p d / d)≤2147483648*(1024*d)*(Nat.lcm p d / d):=Nat.mul_le_mul_right _ (Nat.mul_le_mul hn h.snum)
   _=2147483648*1024*Nat.lcm p d:=by rw [← Nat.mul_assoc 2147483648 1024 d,Nat.mul_assoc,e2]
   _≤2147483648*1024*65536:=Nat.mul_le_mul_left _ h.lcm
   _=144115188075855872:=by decide
theorem moved_bounds {s:SourceR} {p d:Nat} (h:SrcOk s p d) {n:Int} (hn:n.natAbs≤2147483648):(movedQ s n).num.natAbs≤216172782113783808∧(movedQ s n).den ∣ Nat.lcm p d:=by
 obtain ⟨m1,m2⟩:=moved_parts h n
 obtain ⟨b1,b2,b3⟩:=numB_bounds h hn
 have hb : 0<Nat.lcm p d:=Nat.lcm_pos h.p1 h.d1
 have hg : 0<Nat.gcd (numB s n p d).natAbs (Nat.lcm p d):=Nat.gcd_pos_of_pos_right _ hb
 refine ⟨?_,?_⟩
 ·rw [m1,Int.natAbs_ediv_of_dvd (Int.ofNat_dvd_left.2 (Nat.gcd_dvd_left _ _)),Int.natAbs_natCast]
  refine Nat.le_trans (Nat.div_le_self _ _) ?_
  unfold numB
  omega
 ·rw [m2]
  exact Nat.div_dvd_of_dvd (Nat.gcd_dvd_right _ _)
theorem moved_ok {s:SourceR} {p d:Nat} (h:SrcOk s p d) {n:Int} (hn:n.natAbs≤2147483648):vRat (ofQ (movedQ s n))=true:=by
 have:=(moved_bounds h hn).1
 exact vRat_ofQ _ (by omega)
open Go.RowKit
set_option maxRecDepth 4000
theorem ofQ_num (q:Rat):(ofQ q).num=q.num:=rfl
theorem ofQ_den (q:Rat):(ofQ q).den=(q.den:Int):=rfl
def placedOk (s:SourceR):Bool:=s.isZ||vWith s.pos 1099511627776
theorem cRMoved (s:SourceR) (n:Int) (h:s.fit) (hv:vSource s=true) (hn:n.natAbs≤2147483648):CPure Tryz.prog 238 [vsource s,vint n] (.tup [vsource (movedS s n),vbool (placedOk (movedS s n))]):=by
 refine cpure_of Tryz.xen238 Tryz.func238 rfl Tryz.ntmps238 (by rw [Tryz.results238]) (aw_ok _ ?_)
 simp only [go_sem,simprocAttr]
 refine ⟨_,cBlack s,?_⟩
 simp only [go_sem,simprocAttr]
 refine brW (b:=s.isZ) ?_ ⟨fun hb=>?_,fun hb=>?_⟩
 ·rfl
 ·unfold awS
  simp only [go_sem,simprocAttr]
  have e1:movedS s n=s:=by unfold movedS;rw [if_pos hb]
  have e2:placedOk s=true:=by unfold placedOk;rw [hb];rfl
  rw [e1,e2]
 ·obtain ⟨p,d,ok⟩:=srcOk_of hv hb
  obtain ⟨b1,b2,b3⟩:=numB_bounds ok hn
  obtain ⟨m1,m2⟩:=moved_parts ok n
  obtain ⟨m3,m4⟩:=moved_bounds ok hn
  have mok:=moved_ok ok hn
  have hms:movedS s n = { s with pos:=ofQ (movedQ s n) }:=by unfold movedS;rw [hb];rfl
  have hpl:placedOk (movedS s n)=vWith (ofQ (movedQ s n)) 1099511627776:=by
   rw [hms]
   unfold placedOk
   have:SourceR.isZ { s with pos:=ofQ (movedQ s n) }=false:=by
    unfold SourceR.isZ SourceR.eqb
    have hk:(s.kind==0)=false:=by rcases ok.kind with e | e<;>rw [e]<;>rfl
    simp only [zSource]
    rw [hk]
    rfl
   rw [this,Bool.false_or]
  have hlp : 0<Nat.lcm p d:=Nat.lcm_pos ok.p1 ok.d1
  have hlb:=ok.lcm
  have p1:=ok.p1
  have d1:=ok.d1
  unfold awS
  simp only [go_sem,simprocAttr]
  refine ⟨_,cBase s ok.hp ok.hd ok.p1 ok.d1 (by have:=ok.ple;omega) (by have:=ok.dle;omega),?_⟩
  rw [baseN_of ok.p1 ok.d1 ok.lcm]
  simp only [go_sem,simprocAttr]
  refine drawR_of [0,1,2,3,4,5,6,7,8,9,10,11,12,13,14,15,16,17,18,19,20,21] .done rfl (by kernel_rfl) (by kernel_rfl) (by decide) ?_
  have k1:Nat.lcm p d / p≤Nat.lcm p d:=Nat.div_le_self _ _
  have k2:Nat.lcm p d / d≤Nat.lcm p d:=Nat.div_le_self _ _
  have hnb:numB s n p d=s.pos.num*((Nat.lcm p d / p:Nat):Int)+n*s.speed.num*((Nat.lcm p d / d:Nat):Int):=rfl
  simp only [go_sem,simprocAttr,ok.hp,ok.hd,tdiv_nat,wrapN (n:=Nat.lcm p d / p) (by omega),wrapN (n:=Nat.lcm p d / d) (by omega),wrap64 (x:=n*s.speed.num) (by omega) (by omega)]
  rw [wrap64 (x:=s.pos.num*((Nat.lcm p d / p:Nat):Int)) (by omega) (by omega),wrap64 (x:=n*s.speed.num*((Nat.lcm p d / d:Nat):Int)) (by omega) (by omega), ← hnb,wrap64 (x:=numB s n p d) (by omega) (by omega)]
  refine ⟨by omega,by omega,_,cRGcd (numB s n p d) (Nat.lcm p d) (by omega) (by omega),?_⟩
  have hg : 0<Nat.gcd (numB s n p d).natAbs (Nat.lcm p d):=Nat.gcd_pos_of_pos_right _ hlp
  obtain ⟨x1,x2⟩:=exact_div (n:=numB s n p d) (Nat.gcd_dvd_left (numB s n p d).natAbs (Nat.lcm p d)) hg
  rw [← m1] at x1 x2
  have k3:Nat.lcm p d / Nat.gcd (numB s n p d).natAbs (Nat.lcm p d)≤Nat.lcm p d:=Nat.div_le_self _ _
  rw [← m2] at k3
  simp only [go_sem,simprocAttr]
  refine drawC_of 9 .done rfl (by kernel_rfl) (by kernel_rfl) (by decide) ?_
  simp only [go_sem,simprocAttr,x1,tdiv_nat, ← m2,wrapN (n:=(movedQ s n).den) (by omega),wrap64 (x:=(movedQ s n).num) (by omega) (by omega)]
  refine ⟨by omega,by omega,by kernel_rfl,?_⟩
  refine drawC_of 6 .done rfl (by kernel_rfl) (by kernel_rfl) (by decide) ?_
  simp only [go_sem,simprocAttr]
  have f1:(ofQ (movedQ s n)).fit:=⟨⟨by rw [ofQ_num];omega,by rw [ofQ_num];omega⟩,⟨by rw [ofQ_den];omega,by rw [ofQ_den];omega⟩⟩
  refine ⟨_,cWithin (ofQ (movedQ s n)) 1099511627776 f1 mok,?_⟩
  simp only [go_sem,simprocAttr]
  refine ⟨by kernel_rfl,?_⟩
  rw [hpl,hms, ← ok.hd]
  rfl
end Go.Proofs.YtmbmmijdmdoalaaGreat
