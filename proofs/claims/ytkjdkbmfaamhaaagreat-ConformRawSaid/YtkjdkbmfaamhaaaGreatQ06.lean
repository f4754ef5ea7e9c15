/- Proved here: Contracts of the sum and the product of rational numbers, with their errors. -/
import Derived.Test.YtkjdkbmfaamhaaaGreatQ05
import Derived.Lib.AppendZeros
import Derived.Shelf.RegionOpenPlain
import Derived.Shelf.SlIter.Nil
import Derived.Shelf.SortM.Plain
import Derived.Shelf.SortM.SortNone
import Derived.RecoverIn
set_option linter.unusedSimpArgs false
set_option linter.unusedVariables false
set_option linter.unnecessarySimpa false
namespace Go.Proofs.YtkjdkbmfaamhaaaGreat
open Go.RowKit
set_option maxRecDepth 4000
def bV (q:Rat):Bool:=decide (q.num.natAbs≤9223372036854775807)&&decide (q.den≤9223372036854775807)
def vqN (n:Int) (d:Nat):V:=bif decide (n.natAbs≤9223372036854775807)&&decide (d≤9223372036854775807) then .tup [bK ⟨n,d⟩,aA 0] else .tup [bK ⟨0,0⟩,aA 2]
def jP (q:Rat):V:=bif bV q then .tup [bK (ofQ q),aA 0] else .tup [bK ⟨0,0⟩,aA 2]
theorem kD {q:Rat} (h:bV q=true):jP q = .tup [bK (ofQ q),aA 0]:=by unfold jP;rw [h];rfl
theorem nP {q:Rat} (h:bV q=false):jP q = .tup [bK ⟨0,0⟩,aA 2]:=by unfold jP;rw [h];rfl
theorem Cq {q:Rat} {n:Int} {d:Nat} (h1:q.num=n) (h2:q.den=d):vqN n d=jP q:=by
 subst h1 h2;rfl
theorem cX {q:Rat}:bV q=true ↔ q.num.natAbs≤9223372036854775807∧q.den≤9223372036854775807:=by
 unfold bV;rw [Bool.and_eq_true,decide_eq_true_eq,decide_eq_true_eq]
theorem aA2 {q:Rat}:bV (-q)=bV q:=by
 unfold bV;rw [Rat.neg_num,Int.natAbs_neg,Rat.neg_den]
theorem dN {q:Rat} (h:bV q=true):(ofQ q).fit∧cU (ofQ q)=true:=by
 obtain ⟨h1,h2⟩:=cX.1 h;have hp:=q.den_pos;refine ⟨⟨⟨?_,?_⟩,⟨?_,?_⟩⟩,aKe q (by omega)⟩
 ·show -9223372036854775808≤q.num
  omega
 ·show q.num≤9223372036854775807
  omega
 ·show -9223372036854775808≤(q.den:Int)
  omega
 ·show (q.den:Int)≤9223372036854775807
  omega
theorem Pf (n:Int) (d:Nat) (hn:I64 n) (hd:d<18446744073709551616*18446744073709551616):aJ Tryz.prog 123 [aA n,vG d] (vqN n d):=by
 obtain ⟨hn1,hn2⟩:=hn;have hdv:=Eb (d:Int) 1 (by rw [Int.natAbs_natCast];exact hd) ⟨by decide,by decide⟩;have e1:(d:Int) / ((1:Nat):Int)=d:=by simp
 rw [e1] at hdv;refine aD Tryz.X123 Tryz.func123 rfl Tryz.ntmps123 (by rw [Tryz.results123]) (aB _ ?_)
 by_cases hf:d≤9223372036854775807
 ·have h2:jV (d:Int)=true:=by
   unfold jV;rw [decide_eq_true (by omega),decide_eq_true (by omega)];rfl
  rw [Au h2] at hdv;simp only [go_sem,simprocAttr];refine ⟨_,hdv,?_⟩;simp only [go_sem,simprocAttr];refine ⟨fun h3=>?_,fun h3=>?_⟩
  ·simp only [bxx] at h3;have:vqN n d = .tup [bK ⟨0,0⟩,aA 2]:=by
    unfold vqN;rw [decide_eq_false (show ¬ n.natAbs≤9223372036854775807 by omega)];rfl
   rw [this];unfold awS;simp only [go_sem,simprocAttr]
  ·simp only [bxx] at h3;have:vqN n d = .tup [bK ⟨n,d⟩,aA 0]:=by
    unfold vqN;rw [decide_eq_true (show n.natAbs≤9223372036854775807 by omega),decide_eq_true hf];rfl
   rw [this];unfold awS;simp only [go_sem,simprocAttr]
 ·have h2:jV (d:Int)=false:=by
   unfold jV;rw [Bool.and_eq_false_iff,decide_eq_false_iff_not,decide_eq_false_iff_not];omega
  rw [Er h2] at hdv;have:vqN n d = .tup [bK ⟨0,0⟩,aA 2]:=by
   unfold vqN;rw [decide_eq_false hf,Bool.and_false];rfl
  rw [this];simp only [go_sem,simprocAttr];refine ⟨_,hdv,?_⟩;simp only [go_sem,simprocAttr]
theorem Ea {p q:Rat} (hp':bV p=true) (hq':bV q=true):aJ Tryz.prog 124 [bK (ofQ p),bK (ofQ q)] (jP (p*q)):=by
 obtain ⟨fa,ha⟩:=dN hp';obtain ⟨fb,hb⟩:=dN hq';obtain ⟨pn,pd⟩:=cX.1 hp';obtain ⟨qn,qd⟩:=cX.1 hq';obtain ⟨mn,md⟩:=mulQ p q;have p0:=p.den_pos;have q0:=q.den_pos;have cpa:=wX _ fa;have cpb:=wX _ fb;rw [ha] at cpa;rw [hb] at cpb;have cma:=gF p.num ⟨by omega,by omega⟩;have cmb:=gF q.num ⟨by omega,by omega⟩;unfold ofQ at cpa cpb ⊢;have hg1 : 0<Nat.gcd p.num.natAbs q.den:=Nat.gcd_pos_of_pos_right _ (by omega);have hg2 : 0<Nat.gcd q.num.natAbs p.den:=Nat.gcd_pos_of_pos_right _ (by omega);have hg1q:Nat.gcd p.num.natAbs q.den≤q.den:=Nat.gcd_le_right _ (by omega);have hg2p:Nat.gcd q.num.natAbs p.den≤p.den:=Nat.gcd_le_right _ (by omega);obtain ⟨x1,x2⟩:=Ss (n:=p.num) (Nat.gcd_dvd_left p.num.natAbs q.den) hg1;obtain ⟨y1,y2⟩:=Ss (n:=q.num) (Nat.gcd_dvd_left q.num.natAbs p.den) hg2;have d1:p.den / Nat.gcd q.num.natAbs p.den≤p.den:=Nat.div_le_self _ _;have d2:q.den / Nat.gcd p.num.natAbs q.den≤q.den:=Nat.div_le_self _ _;have cg1:=Tg p.num.natAbs q.den;have cg2:=Tg q.num.natAbs p.den;have hres:=fun n d (h1:(p*q).num=n) (h2:(p*q).den=d)=>Cq h1 h2
 have hr:=Cq mn md;rw [← hr];clear hr hres mn md;generalize p.num=an at *;generalize q.num=bn at *;generalize p.den=ad at *;generalize q.den=bd at *;generalize Nat.gcd an.natAbs bd=g1 at *;generalize Nat.gcd bn.natAbs ad=g2 at *;generalize hX:an / (g1:Int)=x at *;generalize hY:bn / (g2:Int)=y at *;generalize hP:ad / g2=p' at *;generalize hQ:bd / g1=q' at *;refine aD Tryz.X124 Tryz.func124 rfl Tryz.ntmps124 (by rw [Tryz.results124]) (aB _ ?_);simp only [go_sem,simprocAttr];refine ⟨_,cpa,?_⟩;simp only [go_sem,simprocAttr];refine ⟨_,cpb,?_⟩;simp only [go_sem,simprocAttr];refine bL [0,1,2,3,4,5,6,7,8] .done rfl (by kernel_rfl) (by kernel_rfl) (by decide) ?_;simp only [go_sem,simprocAttr];refine ⟨_,cma,?_⟩;simp only [go_sem,simprocAttr,bN (n:=bd) (by omega)];refine ⟨_,cg1,?_⟩;simp only [go_sem,simprocAttr,fD (n:=g1) (by omega)];refine bL [0,1,2,3,4,5,6,7,8] .done rfl (by kernel_rfl) (by kernel_rfl) (by decide) ?_;simp only [go_sem,simprocAttr];refine ⟨_,cmb,?_⟩;simp only [go_sem,simprocAttr,bN (n:=ad) (by omega)];refine ⟨_,cg2,?_⟩;simp only [go_sem,simprocAttr,fD (n:=g2) (by omega)];refine bL [0,1,2,3,4,5,6,7,8,9,10,11,12,13,14,15,16] .done rfl (by kernel_rfl) (by kernel_rfl) (by decide) ?_;simp only [go_sem,simprocAttr,x1,y1,wrap64 (x:=x) (by omega) (by omega),wrap64 (x:=y) (by omega) (by omega)];have hz:(x*y).natAbs<18446744073709551616*18446744073709551616:=by rw [Int.natAbs_mul];exact Nat.mul_lt_mul'' (by omega) (by omega)
 have hw:p'*q'<18446744073709551616*18446744073709551616:=Nat.mul_lt_mul'' (by omega) (by omega);refine ⟨by omega,by omega,_,rK x y ⟨by omega,by omega⟩ ⟨by omega,by omega⟩,?_⟩;have hdv:=Eb (x*y) 1 hz ⟨by decide,by decide⟩;have e1:x*y / ((1:Nat):Int)=x*y:=by simp
 have e2:(p':Int)*(q':Int)=((p'*q':Nat):Int):=by rw [Int.natCast_mul]
 rw [e1] at hdv;generalize x*y=z at *;have cf:=fun h=>Pf z (p'*q') h hw
 have cp:=rK p' q' ⟨by omega,by omega⟩ ⟨by omega,by omega⟩;rw [e2] at cp;generalize p'*q'=w at *;simp only [go_sem,simprocAttr]
 by_cases hf:jV z=true
 ·rw [Au hf] at hdv;unfold jV at hf;rw [Bool.and_eq_true,decide_eq_true_eq,decide_eq_true_eq] at hf;refine ⟨_,hdv,?_⟩;simp only [go_sem,simprocAttr];refine aQ 15 .done rfl (by kernel_rfl) (by kernel_rfl) (by decide) ?_;simp only [go_sem,simprocAttr,cN,hP,hQ,fD (n:=p') (by omega),fD (n:=q') (by omega)];refine ⟨by omega,by omega,_,cp,?_⟩;simp only [go_sem,simprocAttr];refine ⟨_,cf hf,?_⟩;unfold vqN
  by_cases hv:(decide (z.natAbs≤9223372036854775807)&&decide (w≤9223372036854775807))=true
  ·rw [hv,cond_true];simp only [go_sem,simprocAttr]
   kernel_rfl
  ·rw [Bool.not_eq_true] at hv;rw [hv,cond_false];simp only [go_sem,simprocAttr]
   kernel_rfl
 ·rw [Bool.not_eq_true] at hf;rw [Er hf] at hdv;have:vqN z w = .tup [bK ⟨0,0⟩,aA 2]:=by
   unfold jV at hf;rw [Bool.and_eq_false_iff,decide_eq_false_iff_not,decide_eq_false_iff_not] at hf;unfold vqN;rw [decide_eq_false (show ¬ z.natAbs≤9223372036854775807 by omega)];rfl
  rw [this];refine ⟨_,hdv,?_⟩;simp only [go_sem,simprocAttr]
theorem Tk {p q:Rat} (hp':bV p=true) (hq':bV q=true):aJ Tryz.prog 89 [bK (ofQ p),bK (ofQ q)] (jP (p+q)):=by
 obtain ⟨fa,ha⟩:=dN hp';obtain ⟨fb,hb⟩:=dN hq';obtain ⟨pn,pd⟩:=cX.1 hp';obtain ⟨qn,qd⟩:=cX.1 hq';obtain ⟨mn,md⟩:=addQ p q;have p0:=p.den_pos;have q0:=q.den_pos;have cpa:=wX _ fa;have cpb:=wX _ fb;rw [ha] at cpa;rw [hb] at cpb;unfold ofQ at cpa cpb ⊢;have hg : 0<Nat.gcd p.den q.den:=Nat.gcd_pos_of_pos_right _ (by omega);have hgp:Nat.gcd p.den q.den≤p.den:=Nat.gcd_le_left _ (by omega);have hgq:Nat.gcd p.den q.den≤q.den:=Nat.gcd_le_right _ (by omega);have d1:p.den / Nat.gcd p.den q.den≤p.den:=Nat.div_le_self _ _;have d2:q.den / Nat.gcd p.den q.den≤q.den:=Nat.div_le_self _ _;have cg1:=Tg p.den q.den;have hr:=Cq mn md;rw [← hr];clear hr mn md;generalize p.num=an at *;generalize q.num=bn at *;generalize p.den=ad at *;generalize q.den=bd at *;generalize Nat.gcd ad bd=g at *;generalize hP:ad / g=p' at *;generalize hQ:bd / g=q' at *;refine aD Tryz.X89 Tryz.func89 rfl Tryz.ntmps89 (by rw [Tryz.results89]) (aB _ ?_);simp only [go_sem,simprocAttr];refine ⟨_,cpa,?_⟩;simp only [go_sem,simprocAttr];refine ⟨_,cpb,?_⟩;simp only [go_sem,simprocAttr,bN (n:=ad) (by omega),bN (n:=bd) (by omega)];refine ⟨_,cg1,?_⟩;simp only [go_sem,simprocAttr,fD (n:=g) (by omega)];refine aQ 17 .done rfl (by kernel_rfl) (by kernel_rfl) (by decide) ?_;simp only [go_sem,simprocAttr,cN,hQ,fD (n:=q') (by omega)];have b1:an.natAbs*q'≤9223372036854775807*9223372036854775807:=Nat.mul_le_mul pn (by omega);have b2:bn.natAbs*p'≤9223372036854775807*9223372036854775807:=Nat.mul_le_mul qn (by omega);have e1:(an*(q':Int)).natAbs=an.natAbs*q':=by rw [Int.natAbs_mul,Int.natAbs_natCast]
 have e2:(bn*(p':Int)).natAbs=bn.natAbs*p':=by rw [Int.natAbs_mul,Int.natAbs_natCast]
 rw [← e1] at b1;rw [← e2] at b2;clear e1 e2;refine ⟨by omega,_,rK an q' ⟨by omega,by omega⟩ ⟨by omega,by omega⟩,?_⟩;simp only [go_sem,simprocAttr,cN,hP,fD (n:=p') (by omega)];refine ⟨by omega,_,rK bn p' ⟨by omega,by omega⟩ ⟨by omega,by omega⟩,?_⟩;generalize an*(q':Int)=X at *;generalize bn*(p':Int)=Y at *;simp only [go_sem,simprocAttr];refine ⟨_,cPlusG X Y (by omega),?_⟩;have bS:(X+Y).natAbs<18446744073709551616*18446744073709551616:=by omega
 generalize X+Y=S at *;simp only [go_sem,simprocAttr];refine ⟨by kernel_rfl,?_⟩;rw [bN (n:=g) (by omega)];refine ⟨_,aPr S g bS ⟨by omega,by omega⟩,?_⟩;simp only [go_sem,simprocAttr];rw [bN (n:=g) (by omega)];refine ⟨_,Tg _ _,?_⟩;have hmod:Nat.gcd (S.natAbs % g) g=Nat.gcd S.natAbs g:=by rw [← Nat.gcd_rec,Nat.gcd_comm]
 rw [hmod];have hh : 0<Nat.gcd S.natAbs g:=Nat.gcd_pos_of_pos_right _ hg;have hhg:Nat.gcd S.natAbs g≤g:=Nat.gcd_le_right _ hg;have hhS:Nat.gcd S.natAbs g ∣ S.natAbs:=Nat.gcd_dvd_left _ _;have d5:bd / Nat.gcd S.natAbs g≤bd:=Nat.div_le_self _ _;generalize Nat.gcd S.natAbs g=h at *;have hdv:=Eb S h bS ⟨by omega,by omega⟩;generalize S / (h:Int)=z at *;generalize hQ2:bd / h=q2 at *;have hw:p'*q2<18446744073709551616*18446744073709551616:=Nat.mul_lt_mul'' (by omega) (by omega);have cf:=fun h=>Pf z (p'*q2) h hw
 have cp:=rK p' q2 ⟨by omega,by omega⟩ ⟨by omega,by omega⟩;have e2:(p':Int)*(q2:Int)=((p'*q2:Nat):Int):=by rw [Int.natCast_mul]
 rw [e2] at cp;generalize p'*q2=w at *;simp only [go_sem,simprocAttr,fD (n:=h) (by omega)];rw [bN (n:=h) (by omega)];refine ⟨_,hdv,?_⟩
 by_cases hf:jV z=true
 ·rw [Au hf];unfold jV at hf;rw [Bool.and_eq_true,decide_eq_true_eq,decide_eq_true_eq] at hf;simp only [go_sem,simprocAttr];refine aQ 15 .done rfl (by kernel_rfl) (by kernel_rfl) (by decide) ?_;simp only [go_sem,simprocAttr,cN,hP,hQ2,fD (n:=p') (by omega),fD (n:=q2) (by omega)];refine ⟨by omega,by omega,_,cp,?_⟩;simp only [go_sem,simprocAttr];refine ⟨_,cf hf,?_⟩;unfold vqN
  by_cases hv:(decide (z.natAbs≤9223372036854775807)&&decide (w≤9223372036854775807))=true
  ·rw [hv,cond_true];simp only [go_sem,simprocAttr]
   kernel_rfl
  ·rw [Bool.not_eq_true] at hv;rw [hv,cond_false];simp only [go_sem,simprocAttr]
   kernel_rfl
 ·rw [Bool.not_eq_true] at hf;rw [Er hf];have:vqN z w = .tup [bK ⟨0,0⟩,aA 2]:=by
   unfold jV at hf;rw [Bool.and_eq_false_iff,decide_eq_false_iff_not,decide_eq_false_iff_not] at hf;unfold vqN;rw [decide_eq_false (show ¬ z.natAbs≤9223372036854775807 by omega)];rfl
  rw [this];simp only [go_sem,simprocAttr]
open Go.Lib
theorem aCd:(Tryz.prog.info? 68).map (fun i=>(i.zero,i.size,i.bytes))=some (some (.slice none 0 0),1,24):=by kernel_rfl
set_option maxHeartbeats 2000000 in
theorem aBp (n:Nat) (h0 : 0<n) (hn:n≤1000000) (w:World):Calls Tryz.prog 144 #[.slice none 0 0, .int .i64 n] w fun e w' =>
  e = .returned (.slice (some ⟨w.heap.size,0,none⟩) 0 (grownCap w n 0 68))∧w'=w.drew.alloc (.cells (Builtin.zeroCells #[.slice none 0 0] n++Builtin.zeroCells #[.slice none 0 0] (grownCap w n 0 68 - n)) 68):=by
 obtain ⟨i0,hi,hz0,hz1,hz2⟩:=info_parts aCd;have h1 : ¬ ((n:Int)<0):=by omega
 have h2:Go.RowKit.wrap64 ((0:Int) - 0)=0:=by unfold Go.RowKit.wrap64;omega
 have h3:Go.RowKit.wrap64 ((n:Int) - 0)=(n:Int):=by unfold Go.RowKit.wrap64;omega
 have h4:(n:Int) > 0:=by omega
 have hrz:∀ ty,(Builtin.append_ #[59,3] ty #[.slice none 0 0, .int .i64 n]).run Tryz.prog w = .ok (.slice (some ⟨w.heap.size,0,none⟩) n (grownCap w n 0 68)) (w.drew.alloc (.cells (Builtin.zeroCells #[.slice none 0 0] n++Builtin.zeroCells #[.slice none 0 0] (grownCap w n 0 68 - n)) 68)):=fun ty =>
  run_append_nil_zeros w _ _ ty _ i0 _ .i64 .i64 Tryz.underlying59 Tryz.underlying3 hi hz0 n h0 (by omega) (by omega) (by rw [hz2];omega)
 have hGn:n≤grownCap w n 0 68:=grownCap_ge w _ _ _;obtain ⟨G,hG⟩:∃ G,G=grownCap w n 0 68:=⟨_,rfl⟩
 rw [← hG] at hrz hGn ⊢
 go_enter Tryz.func144,Tryz.ntmps144
 go_wp2_with (at_builtin;refine Lib.wpList_append_run _ rfl _ _ _ _ rfl _ _ rfl rfl _ _ (hrz _) ?_)
 all_goals (go_ret;exact ⟨rfl,rfl⟩)
set_option maxHeartbeats 2000000 in
theorem Xq (w:World):Calls Tryz.prog 144 #[.slice none 0 0, .int .i64 0] w fun e w'=>e = .returned (.slice none 0 0)∧w'=w:=by
 have h2:Go.RowKit.wrap64 ((0:Int) - 0)=0:=by unfold Go.RowKit.wrap64;omega
 go_enter Tryz.func144,Tryz.ntmps144
 go_wp2
 all_goals (go_ret;exact ⟨rfl,rfl⟩)
theorem aCf {P : Program} {σ : St} {d : Option Tmp} {f : FuncId} {n e k : Nat} {dd : List T} {K : St → Prop} (he : P.enters f = true) (hrun : ∀ w : World, Calls P f #[.slice none 0 0, .int .i64 n] w fun en w' => (n = 0 ∧ en = .returned (.slice none 0 0) ∧ w' = w) ∨
      ∃ cap cells, en = .returned (.slice (some ⟨w.heap.size, 0, none⟩) 0 cap) ∧ w' = w.drew.alloc (.cells cells e) ∧ cells.size = cap * k ∧ cap ≤ maxLen)
    (hK : K ((σ.add (.row e k dd [])).put d (.own σ.nx))) : ICall P σ d f [.t (.lit (.slice none 0 0)), aA n] K := by
  refine tG he fun E w vs hr hbd hvs => ?_
  obtain ⟨v1, v2, hv, h1, h2⟩ := aKf (vs := vs.toArray) (by simpa using hvs);rw [hv, (aG h1).1, (aG h2).1];have hrF : RelF E { σ with fr := [], df := aGu E } { tmps := #[], defers := [] } w := ⟨hr, hbd, by show RdVs w E [] []; simp only [RdVs], Jd⟩;refine (hrun w).mono ?_;rintro en w' (⟨rfl, rfl, rfl⟩ | ⟨cap, cells, rfl, rfl, hsz, hcap⟩)
  · obtain ⟨k1, k2, k3⟩ := hrF.add (hv := .slice none 0 0) (blk := .row e k dd []) (S' := E.S) (Below.refl _ _) (fun _ h => h) (fun _ h => .inl h) hr.slt (fun _ => ⟨[], World.ownsRow_nil _ 0 e k, by simp only [List.flatten_nil, RdVs], by simp, rfl⟩) (fun b hb => by cases hb) rfl rfl
    exact ⟨_, _, _, _, _, rfl, k1.rel, k1.bound, k2, k3, hK⟩
  · have hb : Below w.heap.size w (w.drew.alloc (.cells cells e)) := (Below.refl _ _).drew.alloc (Nat.le_refl _) _
    have hnew : (w.drew.alloc (.cells cells e)).heap[w.heap.size]? = some (.cells cells e (0, 0)) := World.alloc_heap_new w.drew _;obtain ⟨k1, k2, k3⟩ := hrF.add (hv := .slice (some ⟨w.heap.size, 0, none⟩) 0 cap) (blk := .row e k dd []) (S' := E.S) hb (fun _ h => h) (fun _ h => .inl h) (fun b hb' => Nat.lt_of_lt_of_le (hr.slt b hb') hb.size)
      (fun _ => ⟨[], ⟨by simp, .inr ⟨w.heap.size, cap, cells, rfl, Nat.zero_le _, hnew, Nat.zero_le _, hcap, hsz, by simp⟩⟩, by simp only [List.flatten_nil, RdVs], by simp, rfl⟩)
      (fun b hb' => by injection hb' with hb'; subst hb'; exact ⟨Nat.le_refl _, (Array.getElem?_eq_some_iff.1 hnew).1, fun hs => absurd (hr.slt _ hs) (by simp)⟩) rfl rfl
    exact ⟨_, _, _, _, _, rfl, k1.rel, k1.bound, k2, k3, hK⟩
theorem aBg (z:Array Value) (n:Nat):(Builtin.zeroCells z n).size=n*z.size:=by unfold Builtin.zeroCells;simp
theorem igrowTr {σ : St} {d:Option Tmp} {n:Nat} {K:St→Prop} (hn:n≤1000000) (dd:List T) (hK:K ((σ.add (.row 68 1 dd [])).put d (.own σ.nx))):ICall Tryz.prog σ d 144 [.t (.lit (.slice none 0 0)),aA n] K:=by
 refine aCf Tryz.X144 (fun w=>?_) hK;rcases Nat.eq_zero_or_pos n with rfl | h0
 ·exact (Xq w).mono fun e w' h => .inl ⟨rfl,h⟩
 ·refine (aBp n h0 hn w).mono ?_;rintro e w' ⟨rfl,rfl⟩;have h1:=grownCap_ge w n 0 68;refine .inr ⟨_,_,rfl,rfl,?_,grownCap_le_maxLen w n 0 _ (by unfold maxLen;omega)⟩;simp only [Array.size_append,aBg];simp;omega
end Go.Proofs.YtkjdkbmfaamhaaaGreat
namespace Go.Proofs.YtkjdkbmfaamhaaaGreat
open Go.Proofs Go.RowKit Go.Maps Go.Sort Go.Shelf
def Ha:Go.Shelf.Ren:=⟨fun | 7=>118 | 10=>147 | n=>n,fun | 23=>187 | 26=>9 | 3=>4 | 28=>190 | 0=>0 | 27=>189 | 33=>147 | 4=>4 | n=>n,fun | n=>n⟩
theorem keysLay:Go.Proofs.SlLaysZ.n7 Tryz.prog Ha where
 mixed:=by kernel_rfl
 f7 := ⟨"maps.Keys[map[string]bool,string,bool]", by decide, Tryz.func118.trans (congrArg some (by kernel_rfl))⟩
 f10 := ⟨"maps.Keys[map[string]bool,string,bool]$1", by decide, Tryz.func147.trans (congrArg some (by kernel_rfl))⟩
 t0:=Tryz.underlying0
 a0:=Tryz.isAgg0
 z0:=Tryz.sizeOf0
 v0:=Tryz.zeroValue0
 t4:=Tryz.underlying4
 a4:=Tryz.isAgg4
 z4:=Tryz.sizeOf4
 v4:=Tryz.zeroValue4
 t23:=Tryz.underlying187
 a23:=Tryz.isAgg187
 z23:=Tryz.sizeOf187
 v23:=Tryz.zeroValue187
 t26:=Tryz.underlying9
 a26:=Tryz.isAgg9
 z26:=Tryz.sizeOf9
 v26:=Tryz.zeroValue9
 t27:=Tryz.underlying189
 a27:=Tryz.isAgg189
 z27:=Tryz.sizeOf189
 v27:=Tryz.zeroValue189
 t28:=Tryz.underlying190
 a28:=Tryz.isAgg190
 z28:=Tryz.sizeOf190
 v28:=Tryz.zeroValue190
 t33:=Tryz.underlying147
 a33:=Tryz.isAgg147
 z33:=Tryz.sizeOf147
 v33:=Tryz.zeroValue147
def tP:Go.Shelf.Ren:=⟨fun | 6=>117 | 8=>145 | 9=>146 | 11=>160 | 13=>162 | 12=>161 | 23=>175 | 24=>176 | 14=>166 | 15=>167 | 16=>168 | 17=>169 | 18=>170 | 19=>171 | 20=>172 | 21=>173 | 22=>174 | 25=>177 | 26=>178 | 27=>179 | 28=>180 | 29=>181 | 30=>182 | 31=>183 | n=>n,fun | 26=>9 | 28=>190 | 24=>38 | 0=>0 | 3=>3 | 37=>173 | 48=>240 | 50=>50 | 4=>4 | 40=>232 | 39=>231 | 45=>237 | 5=>5 | 9=>9 | 51=>241 | 55=>245 | 57=>247 | 58=>248 | 33=>147 | n=>n,fun | n=>n⟩
theorem aGj:Go.Proofs.SlLaysZ.n6 Tryz.prog tP where
 mixed:=by kernel_rfl
 f6 := ⟨"slices.Sorted[string]", by decide, Tryz.func117.trans (congrArg some (by kernel_rfl))⟩
 f8 := ⟨"slices.Collect[string]", by decide, Tryz.func145.trans (congrArg some (by kernel_rfl))⟩
 f11 := ⟨"slices.AppendSeq[[]string,string]", by decide, Tryz.func160.trans (congrArg some (by kernel_rfl))⟩
 t0:=Tryz.underlying0
 a0:=Tryz.isAgg0
 z0:=Tryz.sizeOf0
 v0:=Tryz.zeroValue0
 t24:=Tryz.underlying38
 a24:=Tryz.isAgg38
 z24:=Tryz.sizeOf38
 v24:=Tryz.zeroValue38
 t26:=Tryz.underlying9
 a26:=Tryz.isAgg9
 z26:=Tryz.sizeOf9
 v26:=Tryz.zeroValue9
 t28:=Tryz.underlying190
 a28:=Tryz.isAgg190
 z28:=Tryz.sizeOf190
 v28:=Tryz.zeroValue190
 i26:=by kernel_rfl
def Xg:Go.Shelf.Ren:=⟨fun | 6=>146 | 8=>162 | 9=>161 | 19=>175 | 20=>176 | 21=>166 | 22=>167 | 23=>168 | 24=>169 | 25=>170 | 26=>171 | 27=>172 | 28=>173 | 29=>174 | 36=>177 | 31=>178 | 32=>179 | 37=>180 | 38=>181 | 39=>182 | 41=>183 | n=>n,fun | 27=>38 | 29=>9 | 3=>3 | 32=>173 | 26=>38 | 0=>0 | 44=>240 | 46=>50 | 4=>4 | 36=>232 | 35=>231 | 41=>237 | 5=>5 | 9=>9 | 53=>241 | 57=>245 | 63=>247 | 64=>248 | n=>n,fun | n=>n⟩
theorem aDk:Go.Proofs.SlLaysM.n6 Tryz.prog Xg where
 mixed:=by kernel_rfl
 f6 := ⟨"slices.Sort[[]string,string]", by decide, Tryz.func146.trans (congrArg some (by kernel_rfl))⟩
 f8:=Tryz.func162.trans (congrArg some (by kernel_rfl))
 f9 := ⟨"slices.pdqsortOrdered[string]", by decide, Tryz.func161.trans (congrArg some (by kernel_rfl))⟩
 f19:=Tryz.func175.trans (congrArg some (by kernel_rfl))
 f20:=Tryz.func176.trans (congrArg some (by kernel_rfl))
 f21 := ⟨"slices.insertionSortOrdered[string]", by decide, Tryz.func166.trans (congrArg some (by kernel_rfl))⟩
 f22 := ⟨"slices.heapSortOrdered[string]", by decide, Tryz.func167.trans (congrArg some (by kernel_rfl))⟩
 f23 := ⟨"slices.breakPatternsOrdered[string]", by decide, Tryz.func168.trans (congrArg some (by kernel_rfl))⟩
 f24 := ⟨"slices.choosePivotOrdered[string]", by decide, Tryz.func169.trans (congrArg some (by kernel_rfl))⟩
 f25 := ⟨"slices.reverseRangeOrdered[string]", by decide, Tryz.func170.trans (congrArg some (by kernel_rfl))⟩
 f26 := ⟨"slices.partialInsertionSortOrdered[string]", by decide, Tryz.func171.trans (congrArg some (by kernel_rfl))⟩
 f27 := ⟨"cmp.Less[string]", by decide, Tryz.func172.trans (congrArg some (by kernel_rfl))⟩
 f28 := ⟨"slices.partitionEqualOrdered[string]", by decide, Tryz.func173.trans (congrArg some (by kernel_rfl))⟩
 f29 := ⟨"slices.partitionOrdered[string]", by decide, Tryz.func174.trans (congrArg some (by kernel_rfl))⟩
 f31:=Tryz.func178.trans (congrArg some (by kernel_rfl))
 f32:=Tryz.func179.trans (congrArg some (by kernel_rfl))
 f36 := ⟨"slices.siftDownOrdered[string]", by decide, Tryz.func177.trans (congrArg some (by kernel_rfl))⟩
 f37 := ⟨"slices.medianAdjacentOrdered[string]", by decide, Tryz.func180.trans (congrArg some (by kernel_rfl))⟩
 f38 := ⟨"slices.medianOrdered[string]", by decide, Tryz.func181.trans (congrArg some (by kernel_rfl))⟩
 f39 := ⟨"cmp.isNaN[string]", by decide, Tryz.func182.trans (congrArg some (by kernel_rfl))⟩
 f41 := ⟨"slices.order2Ordered[string]", by decide, Tryz.func183.trans (congrArg some (by kernel_rfl))⟩
 t0:=Tryz.underlying0
 a0:=Tryz.isAgg0
 z0:=Tryz.sizeOf0
 v0:=Tryz.zeroValue0
 t3:=Tryz.underlying3
 a3:=Tryz.isAgg3
 z3:=Tryz.sizeOf3
 v3:=Tryz.zeroValue3
 t4:=Tryz.underlying4
 a4:=Tryz.isAgg4
 z4:=Tryz.sizeOf4
 v4:=Tryz.zeroValue4
 t5:=Tryz.underlying5
 a5:=Tryz.isAgg5
 z5:=Tryz.sizeOf5
 v5:=Tryz.zeroValue5
 t9:=Tryz.underlying9
 a9:=Tryz.isAgg9
 z9:=Tryz.sizeOf9
 v9:=Tryz.zeroValue9
 t26:=Tryz.underlying38
 a26:=Tryz.isAgg38
 z26:=Tryz.sizeOf38
 v26:=Tryz.zeroValue38
 t27:=Tryz.underlying38
 a27:=Tryz.isAgg38
 z27:=Tryz.sizeOf38
 v27:=Tryz.zeroValue38
 t29:=Tryz.underlying9
 a29:=Tryz.isAgg9
 z29:=Tryz.sizeOf9
 v29:=Tryz.zeroValue9
 t32:=Tryz.underlying173
 a32:=Tryz.isAgg173
 z32:=Tryz.sizeOf173
 v32:=Tryz.zeroValue173
 t35:=Tryz.underlying231
 a35:=Tryz.isAgg231
 z35:=Tryz.sizeOf231
 v35:=Tryz.zeroValue231
 t36:=Tryz.underlying232
 a36:=Tryz.isAgg232
 z36:=Tryz.sizeOf232
 v36:=Tryz.zeroValue232
 t41:=Tryz.underlying237
 a41:=Tryz.isAgg237
 z41:=Tryz.sizeOf237
 v41:=Tryz.zeroValue237
 t44:=Tryz.underlying240
 a44:=Tryz.isAgg240
 z44:=Tryz.sizeOf240
 v44:=Tryz.zeroValue240
 t46:=Tryz.underlying50
 a46:=Tryz.isAgg50
 z46:=Tryz.sizeOf50
 v46:=Tryz.zeroValue50
 t53:=Tryz.underlying241
 a53:=Tryz.isAgg241
 z53:=Tryz.sizeOf241
 v53:=Tryz.zeroValue241
 t57:=Tryz.underlying245
 a57:=Tryz.isAgg245
 z57:=Tryz.sizeOf245
 v57:=Tryz.zeroValue245
 t63:=Tryz.underlying247
 a63:=Tryz.isAgg247
 z63:=Tryz.sizeOf247
 v63:=Tryz.zeroValue247
 t64:=Tryz.underlying248
 a64:=Tryz.isAgg248
 z64:=Tryz.sizeOf248
 v64:=Tryz.zeroValue248
open Go.RowKit
set_option maxRecDepth 4000
open Go.Maps Go.Sort Go.Shelf Go.WideShapes
def uG (l:List ByteArray):List ByteArray:=((l.map fun s=>s.data.toList).mergeSort leB).map fun b=>⟨b.toArray⟩
theorem aC6 (l:List (List UInt8)):l.map encStr=(l.map fun b=>(⟨b.toArray⟩:ByteArray)).map Value.string:=by
 rw [List.map_map];rfl
theorem vL (l:List ByteArray):(uG l).Perm l:=by
 unfold uG;refine ((List.mergeSort_perm _ leB).map _).trans ?_;rw [List.map_map];have:((fun b:List UInt8=>(⟨b.toArray⟩:ByteArray)) ∘ fun s:ByteArray=>s.data.toList)=id:=by
  funext s;simp
 rw [this,List.map_id]
theorem sortsIn (m : Nat) : AnyZ.SortsIn Tryz.prog tP Fence.wide m :=
  ⟨fun blk off cap ss W hH hblk hsz => callsIn_wide.2 (AnyM.slices_Sort_string aDk blk off cap ss W hH hblk hsz),
   fun p cap W => callsIn_wide.2 (AnyM.slices_Sort_string_none aDk p cap W)⟩
theorem Rp {w:World} {E:Env}:∀ {es:List (Value×V)} {l:List MapEntry},RdEs w E es l→l.map (·.key)=es.map (·.1)
 | [],[],_=>rfl
 | (k,x)::es,e::l,h=>by
  unfold RdEs at h;rw [List.map_cons,List.map_cons,Rp h.2.2,h.1]
 | [],_::_,h=>h.elim
 | _::_,[],h=>h.elim
theorem aMz {k:TypeId} (hk:Tryz.prog.underlying k=some .string) {s:ByteArray} (hs:s.size≤maxLen):keyOf Tryz.prog k (.string s)=some (.string s.data.toList):=by
 unfold keyOf;rw [hk];simp only [mapKey,hk,hs,if_true]
theorem Rm {w:World} {S:Nat→Prop}:∀ {l:List ByteArray},(∀ s∈l,s.size≤maxLen)→RdTs w S (l.map fun s=>T.lit (.string s)) (l.map Value.string)
 | [],_=>trivial
 | s::l,h=>⟨.lit _ rfl (h s (by simp)),Rm fun x hx=>h x (by simp [hx])⟩
set_option maxHeartbeats 2000000 in
theorem aGh {w:World} {b0 r:Nat} {ty:TypeId} {entries:Array MapEntry} {clock:Nat} {ks:List ByteArray} (hb0:w.heap[b0]? = some (.cells #[.map (some r)] ty (0,0))) (hr0:w.heap[r]? = some (.map entries clock))
  (hbn:(∀ e∈entries.toList,e.born<clock)∧(entries.toList.map (·.born)).Nodup) (hks:entries.toList.map (·.key)=ks.map Value.string) (hnd:ks.Nodup) (hsz:∀ k∈ks,k.size≤maxLen) (hlen:ks.length≤1000000) :
  Calls Tryz.prog 117 #[.func (.func 147) #[] #[.pointer (some ⟨b0,0,none⟩)]] w fun e w' => ∃ v,e = .returned v ∧
   w'.ownsRow w.heap.size 9 1 v (uG ks).length ((uG ks).map Value.string)∧Below w.heap.size w w':=by
 have hesz:entries.size=ks.length:=by
  have:=congrArg List.length hks;simpa using this
 have hkind:Tryz.prog.underlying 9=some .string:=Tryz.underlying9;have hmem:∀ x∈entries.toList, ∃ s∈ks,x.key = .string s:=fun x hx=>by
  have h1:x.key∈entries.toList.map (·.key):=List.mem_map_of_mem hx;rw [hks,List.mem_map] at h1;obtain ⟨s,h2,h3⟩:=h1;exact ⟨s,h2,h3.symm⟩
 let R:Value→Option (DataW Unit×List MemPlace):=fun _=>some (.nil,[])
 have hstr:∀ l:List ByteArray,l.Nodup→(l.map Value.string).Nodup:=fun l h=>by
  refine List.pairwise_map.2 (h.imp fun hne e=>hne ?_);injection e
 have hF:Go.WideElems.Fit Tryz.prog 9 R entries clock:=⟨by rw [hesz];unfold maxLen;omega,⟨hbn.1,hbn.2,by rw [hks];exact hstr _ hnd⟩,fun x hx=>by
  obtain ⟨s,h1,h2⟩:=hmem x hx;exact ⟨_,Go.WideElems.rd_mk (key:=x.key) (val:=x.val) (born:=x.born) (by rw [h2];exact aMz hkind (hsz s h1)) rfl⟩⟩
 have hown:w.ownsMap Tryz.prog 9 R r ks.length (.map ((entries.toList.map (Go.WideElems.rg Tryz.prog 9 R)).foldr DataW.insert [])):=⟨entries,clock,hr0,hF,by omega,rfl⟩
 have hcell:w.cell? ⟨b0,0,none⟩=some (.map (some r)):=by simp [World.cell?,hb0]
 have hlt:b0<w.heap.size:=(Array.getElem?_eq_some_iff.1 hb0).1;have hsize:Maps.size (DataW.map ((entries.toList.map (Go.WideElems.rg Tryz.prog 9 R)).foldr DataW.insert []):DataW Unit)=ks.length:=by
  show List.length _=_
  rw [List.Perm.length_eq (sorted_perm _),List.length_map,Array.length_toList,hesz]
 have hseq:=AnyZ.keys_gives (ρ := Ha) { keysLay with } Fence.wide 2 trivial rfl (by omega) b0 r ks.length _ w hlt hcell hown;rw [hsize] at hseq;have hperm:(strKeys (DataW.map ((entries.toList.map (Go.WideElems.rg Tryz.prog 9 R)).foldr DataW.insert []):DataW Unit)).Perm (ks.map fun s=>s.data.toList):=by
  show (List.map _ _).Perm _
  refine (List.Perm.map _ (sorted_perm _)).trans ?_;rw [List.map_map];have:entries.toList.map ((fun p:Lit×DataW Unit=>strOf p.1) ∘ Go.WideElems.rg Tryz.prog 9 R)=(entries.toList.map (·.key)).map fun v=>(Cb v).data.toList:=by
   rw [List.map_map];refine List.map_congr_left fun x hx=>?_
   obtain ⟨s,h1,h2⟩:=hmem x hx;simp only [Function.comp_apply];have h3:Go.WideElems.rd Tryz.prog 9 R x=some (.string s.data.toList,DataW.nil):=Go.WideElems.rd_mk (key:=x.key) (val:=x.val) (born:=x.born) (kl := .string s.data.toList) (yv:=(DataW.nil,[])) (by rw [h2];exact aMz hkind (hsz s h1)) rfl;rw [Go.WideElems.rg_of h3,h2];rfl
  rw [this,hks,List.map_map];exact .refl _
 have hS:=AnyZ.sorted_in (ρ := tP) aGj Fence.wide 5 trivial trivial trivial trivial rfl (by omega) (sortsIn _) (enters_of Tryz.func146 (by kernel_rfl) rfl) 147 #[.pointer (some ⟨b0,0,none⟩)] trivial (enters_of Tryz.func147 (by kernel_rfl) rfl) _ ks.length (by unfold maxLen;omega) (by omega) w hseq;refine (callsIn_wide.1 hS).mono ?_;rintro e w' ⟨v,ss,rfl,hp,hrow,hnil,hb⟩;refine ⟨v,rfl,?_,hb⟩;have e1:ss.mergeSort leB=(ks.map fun s=>s.data.toList).mergeSort leB:=mergeSort_of_perm (hp.trans hperm);have e2:(ss.mergeSort leB).map encStr=(uG ks).map Value.string:=by
  rw [e1,aC6];rfl
 have e3:ss.length=(uG ks).length:=by
  rw [(hp.trans hperm).length_eq,(vL ks).length_eq,List.length_map]
 rw [← e3, ← e2];exact hrow
theorem aJa (es:List (Value×V)) (ks:List ByteArray) (d:List T) (hk:es.map (·.1)=ks.map Value.string) (hnd:ks.Nodup) (hsz:∀ k∈ks,k.size≤maxLen) (hlen:ks.length≤1000000) :
  CIO Tryz.prog 117 2 [(0, .box [.own 1]),(1, .map es)] [.clo 147 [.own 0]] (.t (.list 1 d ((uG ks).map fun k=>[.lit (.string k)]))) [(0, .box [.own 1]),(1, .map es)] 2:=by
 refine ⟨Tryz.X117,fun E w vs hr hbd hargs=>?_⟩;obtain ⟨hv0,hat0,b0,vs0,ty,rfl,hheap0,hrd0,hone0⟩:=hr.has 0 (.box [.own 1]) rfl;obtain ⟨hv1,hat1,r,entries,clock,rfl,hheap1,hrd1,hborn⟩:=hr.has 1 (.map es) rfl;have h0:∃ u,vs0 = #[u]∧RdV w E (.own 1) u:=by
  obtain ⟨vl⟩:=vs0
  match vl,hrd0 with
  | [u],h=>exact ⟨u,rfl,by simpa only [RdVs,and_true] using h⟩
  | [],h=>simp only [RdVs] at h
  | _::_::_,h=>simp only [RdVs,and_false] at h
 obtain ⟨u,rfl,hu⟩:=h0;simp only [RdV] at hu;have hu':=hu.2.2 _ (.inl hat1);subst hu';obtain ⟨v,rfl,hv⟩:∃ v,vs = [v]∧RdV w E (.clo 147 [.own 0]) v:=by
  match vs,hargs with
  | [v],h=>exact ⟨v,rfl,by simpa only [RdVs,and_true] using h⟩
  | [],h=>simp only [RdVs] at h
  | _::_::_,h=>simp only [RdVs,and_false] at h
 simp only [RdV] at hv;obtain ⟨cs,rfl,hcs⟩:=hv;obtain ⟨p,rfl,hp⟩:∃ p,cs = #[p]∧RdV w E (.own 0) p:=by
  obtain ⟨cl⟩:=cs
  match cl,hcs with
  | [u],h=>exact ⟨u,rfl,by simpa only [RdVs,and_true] using h⟩
  | [],h=>simp only [RdVs] at h
  | _::_::_,h=>simp only [RdVs,and_false] at h
 simp only [RdV] at hp;have hb2:=hp.2.2 _ (.inl hat0);subst hb2;refine (aGh hheap0 hheap1 hborn (by rw [Rp hrd1,hk]) hnd hsz hlen).mono ?_;rintro e w' ⟨v,rfl,hrow,hb⟩;have hnew:∀ b,aP v=some b→w.heap.size≤b∧b<w'.heap.size:=fun b hb'=>by
  rcases hrow.2 with ⟨rfl,_⟩ | ⟨g,cap,cur,rfl,h1,h2,_⟩
  ·cases hb'
  ·injection hb' with hb';subst hb';exact ⟨h1,(Array.getElem?_eq_some_iff.1 h2).1⟩
 obtain ⟨k1,k2⟩:=hr.later (S':=fun b=>E.S b∨aP v=some b) hb (fun _ h => .inl h) (fun b h=>h.imp id fun h=>(hnew b h).1) (fun b h=>h.elim (fun h=>Nat.lt_of_lt_of_le (hr.slt b h) hb.size) fun h=>(hnew b h).2);refine ⟨v,_,rfl,k1,hbd,k2,?_⟩;simp only [RdV];have hsz':∀ s∈uG ks,s.size≤maxLen:=fun s hs=>hsz s ((vL ks).mem_iff.1 hs)
 refine Jf (S:=fun _=>False) (e:=9) (cells:=(uG ks).map Value.string) ?_ ?_ ?_ (fun _ h=>h.elim) (fun b hb' => .inr hb')
 ·rw [List.length_map];exact ownsRow_base_a hrow (Nat.zero_le _)
 ·have:(List.map (fun k=>[T.lit (.string k)]) (uG ks)).flatten=(uG ks).map fun s=>T.lit (.string s):=by
   induction uG ks with
   | nil=>rfl
   | cons x l ih=>rw [List.map_cons,List.flatten_cons,ih];rfl
  rw [this];exact Rm hsz'
 ·intro x hx;obtain ⟨s,_,rfl⟩:=List.mem_map.1 hx;rfl
theorem put_med (k:Value) (m:MediumR) (es:List Ent):sS k (.agg (tN m)) (tEs es)=tEs (gT k (medC m) es):=rY k (medC m) es
theorem put_seq (k:Value) (s:SequenceR) (es:List Ent):sS k (cT s) (tEs es)=tEs (gT k (seqC s) es):=rY k (seqC s) es
theorem kinds_M (l:List MediumR):dL .string (Qf l)=true:=jJ (gR _ _ _)
theorem kinds_S (l:List SequenceR):dL .string (Pb l)=true:=jJ (gR _ _ _)
theorem lend_M (l:List MediumR) (h:Heap) (n:Nat):mF (aV h n) (tEs (Qf l))=some (Qf l):=tF _ (pN h n) _ (jW _ _ (fun _=>rfl) _)
theorem lend_S (l:List SequenceR) (h:Heap) (n:Nat):mF (aV h n) (tEs (Pb l))=some (Pb l):=tF _ (pN h n) _ (jW _ _ (fun _=>rfl) _)
attribute [go_sem] kinds_M kinds_S lend_M lend_S
theorem cCat (p:ProjR) (h1:p.media.length≤16) (h2:p.seqs.length≤16):aJ Tryz.prog 41 [jZ p] (vcat p):=by
 refine aD Tryz.X41 Tryz.func41 rfl Tryz.ntmps41 (by rw [Tryz.results41]) (aB _ ?_);simp only [go_sem,simprocAttr];refine aE (fun (k:Nat) σ => { σ with fr := σ.fr.set 14 (aA k),h := σ.h.set 2 (.map (tEs (Qf (p.media.take k)))) }) (fun k=>k≤p.media.length) (fun k=>p.media.length - k) 0 (aC ?_) (Nat.zero_le _) ?_
 ·simp only [go_sem,simprocAttr]<;>simp [Qf,gY,tEs]
 ·intro k hk;refine aB _ ?_;simp only [go_sem,simprocAttr];refine ⟨fun hlt=>?_,fun hge=>?_⟩
  ·simp only [bxx] at hlt;unfold awS;simp only [go_sem,simprocAttr];refine ⟨⟨by omega,by omega⟩,k+1,aC ?_,by omega,by omega⟩;simp only [go_sem,simprocAttr];rw [put_med,bF (show k<9223372036854775807 by omega)];unfold Qf;rw [Be _ _ (show k<p.media.length by omega)];simp
  ·simp only [bxx] at hge;unfold awS;simp only [go_sem,simprocAttr];rw [List.take_of_length_le (show p.media.length≤k by omega)];refine aE (fun (k:Nat) σ => { σ with fr := σ.fr.set 27 (aA k),h := σ.h.set 3 (.map (tEs (Pb (p.seqs.take k)))) }) (fun k=>k≤p.seqs.length) (fun k=>p.seqs.length - k) 0 (aC ?_) (Nat.zero_le _) ?_
   ·simp only [go_sem,simprocAttr]<;>simp [Pb,gY,tEs]
   ·intro j hj;refine aB _ ?_;simp only [go_sem,simprocAttr];refine ⟨fun hlt=>?_,fun hge=>?_⟩
    ·simp only [bxx] at hlt;unfold awS;simp only [go_sem,simprocAttr];refine ⟨⟨by omega,by omega⟩,j+1,aC ?_,by omega,by omega⟩;simp only [go_sem,simprocAttr];have e1:=put_seq (.string (p.seqs.getD j default).name) (p.seqs.getD j default) (Pb (p.seqs.take j));unfold cT at e1;rw [e1,bF (show j<9223372036854775807 by omega)];unfold Pb;rw [Be _ _ (show j<p.seqs.length by omega)];simp
    ·simp only [bxx] at hge;unfold awS;simp only [go_sem,simprocAttr];rw [List.take_of_length_le (show p.seqs.length≤j by omega)]
def cY (s:SequenceR):List ClipR:=(s.video++s.sound).flatten
theorem aPz (s:SequenceR):aJ Tryz.prog 81 [cT s] (.clo 115 [.elem 9 (SequenceR.c s) [SequenceR.c s] 0 0]):=by
 refine aD Tryz.X81 Tryz.func81 rfl Tryz.ntmps81 (by rw [Tryz.results81]) (aB _ ?_);simp only [go_sem,simprocAttr]<;>rfl
theorem Th (d:List T) (a b:List (List ClipR)) (ha:a.length≤8) (hb:b.length≤8):aJ Tryz.prog 116 [.t (.list 1 d [[fZ a],[fZ b]])] (.t (fZ (a++b))):=by
 refine aD Tryz.X116 Tryz.func116 rfl Tryz.ntmps116 (by rw [Tryz.results116]) (aB _ ?_);simp only [go_sem,simprocAttr];have c2:((2:Nat):Int)=2:=rfl;have w1:IntKind.i64.wrap 1=1:=by decide
 have w2:IntKind.i64.wrap 2=2:=by decide
 have e0:IntKind.i64.wrap (0+(a.length:Int))=a.length:=by rw [wrap64 (by omega) (by omega)];omega
 have e0':IntKind.i64.wrap (a.length:Int)=a.length:=by rw [wrap64 (by omega) (by omega)]
 have e1:IntKind.i64.wrap ((a.length:Int)+(b.length:Int))=((a++b).length:Nat):=by rw [wrap64 (by omega) (by omega),List.length_append];omega
 have n0 : ¬ ((a.length:Int)<0):=by omega
 have n1 : ¬ ((((a++b).length:Nat):Int)<0):=by omega
 refine bR ?_;refine aH (aB _ ?_);simp only [go_sem,simprocAttr,dtf,nth,Option.getD_some,List.getElem?_cons_zero,w1,c2,e0,n0,forall_const];refine aH (aB _ ?_);simp only [go_sem,simprocAttr,dtf,nth,Option.getD_some,List.getElem?_cons_zero,List.getElem?_cons_succ,w2,c2,e1,n1,forall_const];refine aH (aB _ ?_);simp only [go_sem,simprocAttr,decide_false,forall_const];refine igrowTr (n:=(a++b).length) (by rw [List.length_append];omega) (nE []) ?_;simp only [go_sem,simprocAttr];refine bR ?_;refine aH (aB _ ?_);simp only [go_sem,simprocAttr,decide_true,nth,Option.getD_some,List.getElem?_cons_zero,w1,c2,forall_const];refine ⟨by unfold maxLen;omega,?_⟩;refine aH (aB _ ?_);simp only [go_sem,simprocAttr,decide_true,nth,Option.getD_some,List.getElem?_cons_zero,List.getElem?_cons_succ,w2,c2,forall_const];refine ⟨⟨by unfold maxLen;omega,by omega⟩,?_⟩;refine aH (aB _ ?_);simp only [go_sem,simprocAttr,decide_false,forall_const];rw [List.map_append]
theorem sC:aJu Tryz.prog 35:=by
 refine ⟨Tryz.X35,fun cap w=>callsDIn_of_wpSIn Tryz.func35 rfl trivial fun c₀ cs hu=>?_⟩;have k1 : 1<cap.size+(3 - cap.size):=by omega
 have k2 : 2<cap.size+(3 - cap.size):=by omega
 have k3 : 1<max 3 cap.size:=by omega
 have k4 : 2<max 3 cap.size:=by omega
 apply wpSIn_seq;apply wpSIn_region;simp [wpOpsSIn,Fence.wide,go_sem,recoverD,hu,Tryz.ntmps35,Exit.thenS,k1];refine wpSIn_cond (t:=false) (by simp [Act.eval,k2]) ?_;refine wpSIn_of_wpIn rfl (wpIn_skip ?_);refine ⟨rfl, .returning,by rw [← hu], .tuple #[],?_,⟨_,rfl⟩,rfl,rfl⟩;simp [results,Tryz.results35,go_sem]
def dE (p:ProjR) (x:SourceR):Bool := !(x.kind==1&&(Cy p.media x.name).isNone||x.kind==2&&(gW p.seqs x.name).isNone)
def eE (p:ProjR) (c:ClipR):Bool:=dE p c.a&&dE p c.b
def gU (p:ProjR) (s:SequenceR):Bool:=(cY s).all (eE p)
theorem Jj (d a:List T):nth d [a] 0=a:=rfl
theorem wr1:IntKind.i64.wrap 1=1:=by decide
theorem wr2:IntKind.i64.wrap 2=2:=by decide
theorem aAn:((2:Nat):Int)=2:=rfl
theorem Fj (n:ByteArray) (l:List MediumR):eP (.string n) (Qf l)=(Cy l n).map fun m => .agg (tN m):=yC _ _ n l
theorem Bf (n:ByteArray) (l:List SequenceR):eP (.string n) (Pb l)=(gW l n).map fun m=>cT m:=yC _ _ n l
theorem Lv {p:ProjR} {s:SequenceR} {tr:List (List ClipR)} {i k:Nat} {c:ClipR} (htr:tr=s.video++s.sound) (hi:i<tr.length) (hk:k<(tr.getD i []).length) (hc:c=(tr.getD i []).getD k default) (hn:eE p c=false):gU p s=false:=by
 unfold gU cY;rw [← htr,List.all_eq_false];refine ⟨c,?_,by rw [hn];exact Bool.false_ne_true⟩;rw [List.mem_flatten];refine ⟨tr.getD i [],?_,?_⟩
 ·rw [List.getD_eq_getElem?_getD,List.getElem?_eq_getElem hi];exact List.getElem_mem hi
 ·rw [hc,bD hk];exact List.getElem_mem hk
set_option maxHeartbeats 20000000 in
theorem cCompl (p:ProjR) (s:SequenceR) (hv:s.video.length≤8) (hs:s.sound.length≤8) (hm:∀ t∈s.video++s.sound,t.length≤maxLen):aJ Tryz.prog 42 [vcat p,cT s] (aL (gU p s)):=by
 refine aD Tryz.X42 Tryz.func42 rfl Tryz.ntmps42 (by rw [Tryz.results42]) (aB _ ?_);simp only [go_sem,simprocAttr];refine Bm (aPz s) rfl ?_;simp only [go_sem,simprocAttr];refine ⟨Tryz.X115,?_⟩;unfold Uk;refine ⟨rfl,Dj Tryz.X115 Tryz.func115 rfl Tryz.ntmps115 (by rw [Tryz.results115]) (aB _ ?_)⟩;simp only [go_sem,simprocAttr,Jj,SequenceR.c];refine pB ?_;simp only [go_sem,simprocAttr];refine ⟨_,Th _ s.video s.sound hv hs,?_⟩;simp only [go_sem,simprocAttr];obtain ⟨tr,htr⟩:∃ tr,tr=s.video++s.sound:=⟨_,rfl⟩
 rw [← htr];have hlen:tr.length≤16:=by rw [htr,List.length_append];omega
 refine aE (fun (i:Nat) σ => bM 14 (aA i) (aW [4,6,15,16,17,18,19,20,21,22,23,24,25,26,27,28,29] (bE σ))) (fun i=>i≤tr.length∧(tr.take i).flatten.all (eE p)=true) (fun i=>tr.length - i) 0 (aC ?_) ⟨Nat.zero_le _,rfl⟩ ?_
 ·simp only [go_sem,simprocAttr]<;>simp
 ·rintro i ⟨hi,hall⟩;refine aB _ ?_;simp only [go_sem,simprocAttr];refine ⟨fun hlt=>?_,fun hge=>?_⟩
  ·simp only [bxx] at hlt;have hi':i<tr.length:=by omega
   unfold awS;simp only [go_sem,simprocAttr,List.length_map];refine ⟨⟨by omega,by omega⟩,?_⟩;refine aE (fun (k:Nat) σ => bM 20 (aA k) (aW [6,21,22,23,24,25,26,27,28] (bE σ))) (fun k=>k≤(tr.getD i []).length∧((tr.getD i []).take k).all (eE p)=true) (fun k=>(tr.getD i []).length - k) 0 (aC ?_) ⟨Nat.zero_le _,rfl⟩ ?_
   ·simp only [go_sem,simprocAttr]<;>simp
   ·rintro k ⟨hk,hallk⟩;refine aB _ ?_;simp only [go_sem,simprocAttr];refine ⟨fun hlt=>?_,fun hge=>?_⟩
    ·simp only [bxx] at hlt;have hk':k<(tr.getD i []).length:=by omega
     have hmt:(tr.getD i []).length≤maxLen:=hm _ (by rw [← htr,List.getD_eq_getElem?_getD,List.getElem?_eq_getElem hi'];exact List.getElem_mem hi');have hk9:k<9223372036854775807:=by unfold maxLen at hmt;omega
     unfold awS;simp only [go_sem,simprocAttr,List.length_map];refine ⟨⟨by omega,by omega⟩,aB _ ?_⟩;simp only [go_sem,simprocAttr];refine aB _ ?_;simp only [go_sem,simprocAttr];refine bR ?_;refine aH (aB _ ?_);simp only [go_sem,simprocAttr,decide_true,aAn];obtain ⟨c,hc⟩:∃ c,c=(tr.getD i []).getD k default:=⟨_,rfl⟩
     rw [← hc];rcases h1:Cy p.media c.a.name with _ | m1<;>rcases h2:gW p.seqs c.a.name with _ | q1
     rotate_left 3
     ·simp only [go_sem,simprocAttr,wr1,Fj,Bf,h1,h2,Option.map_some];have hb:(!dE p c.a)=false:=by unfold dE;rw [h1,h2];cases (c.a.kind==1)<;>cases (c.a.kind==2)<;>rfl
      refine aH (aB _ ?_);simp only [go_sem,simprocAttr,decide_true,aAn];rcases h3:Cy p.media c.b.name with _ | m2<;>rcases h4:gW p.seqs c.b.name with _ | q2
      rotate_left 3
      ·simp only [go_sem,simprocAttr,wr2,Fj,Bf,h3,h4,Option.map_some];have hb':(!dE p c.b)=false:=by unfold dE;rw [h3,h4];cases (c.b.kind==1)<;>cases (c.b.kind==2)<;>rfl
       refine aH (aB _ ?_);simp only [go_sem,simprocAttr,decide_false];refine ⟨fun h=>absurd h (by decide),fun _=>?_⟩;unfold awS;simp only [go_sem,simprocAttr];refine ⟨k+1,aC ?_,⟨by omega,?_⟩,by omega⟩
       ·simp only [go_sem,simprocAttr]<;>simp [bF hk9]
       ·simp only [Bool.not_eq_false'] at hb hb';rw [dD hk',List.all_append,hallk, ← hc];simp [eE,hb,hb']
      all_goals
       simp only [go_sem,simprocAttr,Fj,Bf,h3,h4,Option.map_some,Option.map_none];refine brW (b := !dE p c.b) (by unfold dE;rw [h3,h4];cases (c.b.kind==1)<;>cases (c.b.kind==2)<;>rfl) ⟨fun hb'=>?_,fun hb'=>?_⟩
       ·unfold awS;simp only [go_sem,simprocAttr];refine ⟨fun _=>?_,fun h=>absurd h (by decide)⟩;unfold awS;simp only [go_sem,simprocAttr];simp only [Bool.not_eq_true'] at hb';rw [Lv htr hi' hk' hc (by unfold eE;rw [hb',Bool.and_false])]
       ·unfold awS;simp only [go_sem,simprocAttr,wr2];refine aH (aB _ ?_);simp only [go_sem,simprocAttr,decide_false];refine ⟨fun h=>absurd h (by decide),fun _=>?_⟩;unfold awS;simp only [go_sem,simprocAttr];refine ⟨k+1,aC ?_,⟨by omega,?_⟩,by omega⟩
        ·simp only [go_sem,simprocAttr]<;>simp [bF hk9]
        ·simp only [Bool.not_eq_false'] at hb hb';rw [dD hk',List.all_append,hallk, ← hc];simp [eE,hb,hb']
     all_goals
      simp only [go_sem,simprocAttr,Fj,Bf,h1,h2,Option.map_some,Option.map_none];refine brW (b := !dE p c.a) (by unfold dE;rw [h1,h2];cases (c.a.kind==1)<;>cases (c.a.kind==2)<;>rfl) ⟨fun hb=>?_,fun hb=>?_⟩
      ·unfold awS;simp only [go_sem,simprocAttr];refine ⟨fun _=>?_,fun h=>absurd h (by decide)⟩;unfold awS;simp only [go_sem,simprocAttr];simp only [Bool.not_eq_true'] at hb;rw [Lv htr hi' hk' hc (by unfold eE;rw [hb];rfl)]
      ·unfold awS;simp only [go_sem,simprocAttr,wr1];refine aH (aB _ ?_);simp only [go_sem,simprocAttr,decide_true,aAn];rcases h3:Cy p.media c.b.name with _ | m2<;>rcases h4:gW p.seqs c.b.name with _ | q2
       rotate_left 3
       ·simp only [go_sem,simprocAttr,wr2,Fj,Bf,h3,h4,Option.map_some];have hb':(!dE p c.b)=false:=by unfold dE;rw [h3,h4];cases (c.b.kind==1)<;>cases (c.b.kind==2)<;>rfl
        refine aH (aB _ ?_);simp only [go_sem,simprocAttr,decide_false];refine ⟨fun h=>absurd h (by decide),fun _=>?_⟩;unfold awS;simp only [go_sem,simprocAttr];refine ⟨k+1,aC ?_,⟨by omega,?_⟩,by omega⟩
        ·simp only [go_sem,simprocAttr]<;>simp [bF hk9]
        ·simp only [Bool.not_eq_false'] at hb hb';rw [dD hk',List.all_append,hallk, ← hc];simp [eE,hb,hb']
       all_goals
        simp only [go_sem,simprocAttr,Fj,Bf,h3,h4,Option.map_some,Option.map_none];refine brW (b := !dE p c.b) (by unfold dE;rw [h3,h4];cases (c.b.kind==1)<;>cases (c.b.kind==2)<;>rfl) ⟨fun hb'=>?_,fun hb'=>?_⟩
        ·unfold awS;simp only [go_sem,simprocAttr];refine ⟨fun _=>?_,fun h=>absurd h (by decide)⟩;unfold awS;simp only [go_sem,simprocAttr];simp only [Bool.not_eq_true'] at hb';rw [Lv htr hi' hk' hc (by unfold eE;rw [hb',Bool.and_false])]
        ·unfold awS;simp only [go_sem,simprocAttr,wr2];refine aH (aB _ ?_);simp only [go_sem,simprocAttr,decide_false];refine ⟨fun h=>absurd h (by decide),fun _=>?_⟩;unfold awS;simp only [go_sem,simprocAttr];refine ⟨k+1,aC ?_,⟨by omega,?_⟩,by omega⟩
         ·simp only [go_sem,simprocAttr]<;>simp [bF hk9]
         ·simp only [Bool.not_eq_false'] at hb hb';rw [dD hk',List.all_append,hallk, ← hc];simp [eE,hb,hb']
    ·simp only [bxx] at hge;unfold awS;simp only [go_sem,simprocAttr];refine ⟨i+1,aC ?_,⟨by omega,?_⟩,by omega⟩
     ·simp only [go_sem,simprocAttr]<;>simp [bF (show i<9223372036854775807 by omega)]
     ·rw [List.take_of_length_le (show (tr.getD i []).length≤k by omega)] at hallk;rw [dD hi',List.flatten_append,List.all_append,hall,show (default:List ClipR) = [] from rfl];simpa using hallk
  ·simp only [bxx] at hge;unfold awS;simp only [go_sem,simprocAttr];rw [List.take_of_length_le (show tr.length≤i by omega)] at hall;unfold gU cY;rw [← htr,hall]
def dQ (kind:Int) (l:List ClipR):List ByteArray:=((l.flatMap fun c=>[c.a,c.b]).filter fun x=>x.kind==kind).map fun x=>x.name
theorem Ak (kind:Int) (l r:List ClipR):dQ kind (l++r)=dQ kind l++dQ kind r:=by
 unfold dQ;rw [List.flatMap_append,List.filter_append,List.map_append]
def addK (kind:Int) (x:SourceR) (l:List ByteArray):List ByteArray:=if x.kind==kind then l ++ [x.name] else l
theorem Za (kind:Int) (l:List ClipR) (c:ClipR):dQ kind (l ++ [c])=addK kind c.b (addK kind c.a (dQ kind l)):=by
 rw [Ak];unfold addK;simp only [dQ,List.flatMap_cons,List.flatMap_nil,List.append_nil,List.filter_cons,List.filter_nil];cases h1:(c.a.kind==kind)<;>cases h2:(c.b.kind==kind)<;>simp
def yesC:Bool×List T:=(false,[.lit (.bool true)])
def Ez (l:List ByteArray):List Ent:=gY (fun n:ByteArray=>n) (fun _=>yesC) l
theorem aGr (l:List ByteArray) (n:ByteArray):Ez (l ++ [n])=gT (.string n) yesC (Ez l):=vY _ _ l n
theorem aE0 (n:ByteArray) (l:List ByteArray):sS (.string n) (aL true) (tEs (Ez l))=tEs (Ez (l ++ [n])):=by
 rw [aGr];exact rY (.string n) yesC (Ez l)
theorem kinds_N (l:List ByteArray):dL .string (Ez l)=true:=jJ (gR _ _ _)
attribute [go_sem] kinds_N
theorem aHp (l:List ByteArray):(tEs (Ez l)).map (·.1)=(sT l).map Value.string:=by
 have h1:(Ez l).map (fun e=>Cb e.1)=sT l:=by
  have:=Ms (fun n:ByteArray=>n) (fun _=>yesC) l;rw [List.map_id'] at this;exact this
 have h2:xE (Ez l):=gR _ _ _;unfold tEs;rw [List.map_map, ← h1,List.map_map];refine List.map_congr_left fun e he=>?_
 obtain ⟨s,hs⟩:=h2 e he;simp only [Function.comp_apply,hs,Cb]
theorem Ug (g:Nat→Nat):∀ es:List Ent,V.renE g (tEs es)=tEs es∧Cw (tEs es) = []
 | []=>⟨rfl,rfl⟩
 | e::es=>by
  have h:=Ug g es;have h1:=Lg g (mkV e.2) (Zc e.2);unfold tEs at h ⊢;simp only [List.map_cons,V.renE,Cw,h1.1,h1.2,h.1,h.2,List.nil_append,and_self]
def xX (s:SequenceR) (kind:Int):List ByteArray:=uG (sT (dQ kind (cY s)))
abbrev tnames (l:List ByteArray):T:=Ws l
@[go_sem] def qF (i:Nat) (b:Blk) (σ : St):St := { σ with h := σ.h.set i b }
set_option maxHeartbeats 20000000 in
theorem aPn (p:ProjR) (n:ByteArray) (kind:Int) (s:SequenceR) (hs:gW p.seqs n=some s) (hv:s.video.length≤8) (hs':s.sound.length≤8) (hm:∀ t∈s.video++s.sound,t.length≤maxLen)
  (hz:∀ x∈dQ kind (cY s),x.size≤maxLen) (hn:(dQ kind (cY s)).length≤1000000) :
  aJ Tryz.prog 82 [vcat p,cA n,aA kind] (.t (tnames (xX s kind))):=by
 refine aD Tryz.X82 Tryz.func82 rfl Tryz.ntmps82 (by rw [Tryz.results82]) (aB _ ?_);simp only [go_sem,simprocAttr,Bf,hs,Option.map_some];refine Bm (aPz s) rfl ?_;simp only [go_sem,simprocAttr];refine ⟨Tryz.X115,?_⟩;unfold Uk;refine ⟨rfl,Dj Tryz.X115 Tryz.func115 rfl Tryz.ntmps115 (by rw [Tryz.results115]) (aB _ ?_)⟩;simp only [go_sem,simprocAttr,Jj,SequenceR.c];refine pB ?_;simp only [go_sem,simprocAttr];refine ⟨_,Th _ s.video s.sound hv hs',?_⟩;simp only [go_sem,simprocAttr];obtain ⟨tr,htr⟩:∃ tr,tr=s.video++s.sound:=⟨_,rfl⟩
 rw [← htr];have hlen:tr.length≤16:=by rw [htr,List.length_append];omega
 refine aE (fun (i:Nat) σ => qF 2 (.map (tEs (Ez (dQ kind (tr.take i).flatten)))) (bM 14 (aA i) (aW [4,6,15,16,17,18,19,20,21,22,23,24,25,26,27,28,29] (bE σ)))) (fun i=>i≤tr.length) (fun i=>tr.length - i) 0 (aC ?_) (Nat.zero_le _) ?_
 ·simp only [go_sem,simprocAttr]<;>simp [Ez,dQ,gY,tEs]
 ·intro i hi;refine aB _ ?_;simp only [go_sem,simprocAttr];refine ⟨fun hlt=>?_,fun hge=>?_⟩
  ·simp only [bxx] at hlt;have hi':i<tr.length:=by omega
   have hmt:(tr.getD i []).length≤maxLen:=hm _ (by rw [← htr,List.getD_eq_getElem?_getD,List.getElem?_eq_getElem hi'];exact List.getElem_mem hi');unfold awS;simp only [go_sem,simprocAttr,List.length_map];refine ⟨⟨by omega,by omega⟩,?_⟩;refine aE (fun (k:Nat) σ => qF 2 (.map (tEs (Ez (dQ kind ((tr.take i).flatten++(tr.getD i []).take k))))) (bM 20 (aA k) (aW [6,21,22,23,24,25,26,27,28] (bE σ)))) (fun k=>k≤(tr.getD i []).length) (fun k=>(tr.getD i []).length - k) 0 (aC ?_) (Nat.zero_le _) ?_
   ·simp only [go_sem,simprocAttr]<;>simp
   ·intro k hk;refine aB _ ?_;simp only [go_sem,simprocAttr];refine ⟨fun hlt=>?_,fun hge=>?_⟩
    ·simp only [bxx] at hlt;have hk':k<(tr.getD i []).length:=by omega
     have hk9:k<9223372036854775807:=by unfold maxLen at hmt;omega
     unfold awS;simp only [go_sem,simprocAttr,List.length_map];refine ⟨⟨by omega,by omega⟩,aB _ ?_⟩;simp only [go_sem,simprocAttr];refine aB _ ?_;simp only [go_sem,simprocAttr];obtain ⟨c,hc⟩:∃ c,c=(tr.getD i []).getD k default:=⟨_,rfl⟩
     rw [← hc];obtain ⟨l,hl⟩:∃ l,l=dQ kind ((tr.take i).flatten++(tr.getD i []).take k):=⟨_,rfl⟩
     rw [← hl];refine bR ?_;rcases ha:(c.a.kind==kind) with _ | _<;>rcases hb:(c.b.kind==kind) with _ | _
     all_goals
      refine aH (aB _ ?_);simp only [go_sem,simprocAttr,decide_true,wr1,aAn,ha,aE0];refine aH (aB _ ?_);simp only [go_sem,simprocAttr,decide_true,wr2,aAn,hb,aE0];refine aH (aB _ ?_);simp only [go_sem,simprocAttr,decide_false];refine ⟨fun h=>absurd h (by decide),fun _=>?_⟩;unfold awS;simp only [go_sem,simprocAttr];refine ⟨k+1,aC ?_,by omega,by omega⟩;simp only [go_sem,simprocAttr];rw [dD hk', ← hc, ← List.append_assoc,Za, ← hl];simp [bF hk9,addK,ha,hb]
    ·simp only [bxx] at hge;unfold awS;simp only [go_sem,simprocAttr];refine ⟨i+1,aC ?_,by omega,by omega⟩;simp only [go_sem,simprocAttr];rw [dD hi',List.flatten_append,show (default:List ClipR) = [] from rfl,List.take_of_length_le (show (tr.getD i []).length≤k by omega)];simp [bF (show i<9223372036854775807 by omega)]
  ·simp only [bxx] at hge;unfold awS;simp only [go_sem,simprocAttr];rw [List.take_of_length_le (show tr.length≤i by omega)];refine Dj Tryz.X118 Tryz.func118 rfl Tryz.ntmps118 (by rw [Tryz.results118]) (aB _ ?_);simp only [go_sem,simprocAttr];have hcl:tr.flatten=cY s:=by rw [htr];rfl
   rw [hcl];refine Df Tryz.X117 (Dk (aJa (tEs (Ez (dQ kind (cY s)))) (sT (dQ kind (cY s))) (aBb ⟨#[]⟩) (aHp _) (aC2 _) (fun x hx=>hz x (Cx.1 hx)) (Nat.le_trans (sA _) hn)) [7,2] rfl (by omega) (by decide) ?_ rfl rfl rfl rfl ?_)
   ·simp only [go_sem,simprocAttr,(Ug id _).2,(Ug _ _).1];exact decide_eq_true trivial
   ·simp only [go_sem,simprocAttr]<;>rfl
abbrev KM:=List (ByteArray×Int)
def kE (K:KM):List (Value×V):=K.map fun e=>(Value.string e.1,aA e.2)
def Hx (n:ByteArray):KM→Option Int
 | []=>none
 | e::K=>if n=e.1 then some e.2 else Hx n K
def nQ (n:ByteArray) (v:Int):KM→KM
 | []=>[(n,v)]
 | e::K=>if n=e.1 then (n,v)::K else e::nQ n v K
theorem Md (n:ByteArray):∀ K:KM,fE (.string n) (kE K)=(Hx n K).map fun v=>aA v
 | []=>rfl
 | e::K=>by
  have h:=Md n K;unfold kE at h ⊢;simp only [List.map_cons,fE,Hx,mZ,decide_eq_true_eq,h];split<;>rfl
theorem Yh (n:ByteArray) (v:Int):∀ K:KM,sS (.string n) (aA v) (kE K)=kE (nQ n v K)
 | []=>rfl
 | e::K=>by
  have h:=Yh n v K;unfold kE at h ⊢;simp only [List.map_cons,sS,nQ,mZ,decide_eq_true_eq,h];split<;>rfl
theorem aEu:∀ K:KM,eZ .string (kE K)=true
 | []=>rfl
 | e::K=>by
  have h:=aEu K;unfold kE at h ⊢;simp only [List.map_cons,eZ,fN,h,Bool.and_self]
attribute [go_sem] aEu
theorem Zz (n m:ByteArray) (v:Int):∀ K:KM,Hx n (nQ m v K)=if n=m then some v else Hx n K
 | []=>rfl
 | e::K=>by
  have ih:=Zz n m v K;unfold nQ;split
  ·rename_i h;subst h;simp only [Hx];split<;>rfl
  ·rename_i h;simp only [Hx,ih];split
   ·rename_i h2;subst h2;rw [if_neg (fun h3=>h h3.symm)]
   ·rfl
def dF (n:ByteArray) (K:KM):Int:=(Hx n K).getD 0
def gJ (p:ProjR) (n:ByteArray):List ByteArray:=xX ((gW p.seqs n).getD default) 2
def bG (go:ByteArray→KM→Int×KM):List ByteArray→KM→Int→Bool×Int×KM
 | [],K,l=>(true,l,K)
 | x::xs,K,l=>if (go x K).1=0 then (false,l,(go x K).2) else bG go xs (go x K).2 (max l (IntKind.i64.wrap ((go x K).1+1)))
theorem yQ (go:ByteArray→KM→Int×KM) (x:ByteArray):∀ (xs:List ByteArray) (K:KM) (l:Int),bG go (xs ++ [x]) K l =
  if (bG go xs K l).1=true then (if (go x (bG go xs K l).2.2).1=0 then (false,(bG go xs K l).2.1,(go x (bG go xs K l).2.2).2) else (true,max (bG go xs K l).2.1 (IntKind.i64.wrap ((go x (bG go xs K l).2.2).1+1)),(go x (bG go xs K l).2.2).2)) else bG go xs K l
 | [],K,l=>by by_cases h:(go x K).1=0<;>simp [bG,h]
 | y::xs,K,l=>by
  simp only [List.cons_append,bG];split
  ·rfl
  ·exact yQ go x xs _ _
theorem yP {go:ByteArray→KM→Int×KM}:∀ {xs:List ByteArray} {K:KM} {l:Int} (ys:List ByteArray),(bG go xs K l).1=false→bG go (xs++ys) K l=bG go xs K l
 | [],K,l,ys,h=>by unfold bG at h;cases h
 | x::xs,K,l,ys,h=>by
  by_cases h0:(go x K).1=0
  ·simp [bG,h0]
  ·simp only [List.cons_append,bG,if_neg h0] at h ⊢;exact yP ys h
@[go_sem] theorem aHe:∀ K:KM,vX (kE K)=false
 | []=>rfl
 | e::K=>by
  have h:=aHe K;unfold kE at h ⊢;simp only [List.map_cons,vX,Mv,h,Bool.false_or]
theorem Rq:∀ K:KM,tR (kE K)=True
 | []=>rfl
 | e::K=>by
  have h:=Rq K;unfold kE at h ⊢;simp only [List.map_cons,tR,h,and_true];exact eq_true rfl
attribute [go_sem] Rq
theorem qJ (g:Nat→Nat):∀ K:KM,V.renE g (kE K)=kE K∧Cw (kE K) = []
 | []=>⟨rfl,rfl⟩
 | e::K=>by
  have h:=qJ g K;unfold kE at h ⊢;simp only [List.map_cons,V.renE,Cw,h.1,h.2,V.ren,V.ment,List.nil_append,and_self]
def bB (p:ProjR):Nat→ByteArray→KM→Int×KM
 | 0,_,K=>(0,K)
 | f+1,n,K=>if dF n K≠0 then (max (dF n K) 0,K) else
   if (bG (bB p f) (gJ p n) (nQ n (-1) K) 1).1=true
   then ((bG (bB p f) (gJ p n) (nQ n (-1) K) 1).2.1,nQ n (bG (bB p f) (gJ p n) (nQ n (-1) K) 1).2.1 (bG (bB p f) (gJ p n) (nQ n (-1) K) 1).2.2)
   else (0,(bG (bB p f) (gJ p n) (nQ n (-1) K) 1).2.2)
theorem xB (n m:ByteArray) (v:Int) (K:KM):dF n (nQ m v K)=if n=m then v else dF n K:=by
 unfold dF;rw [Zz];split<;>rfl
def unk (l:List SequenceR) (K:KM):Nat:=(l.filter fun s=>decide (dF s.name K=0)).length
def grows (K K':KM):Prop := ∀ n,dF n K≠0→dF n K'≠0
theorem grows.refl (K:KM):grows K K:=fun _ h=>h
theorem grows.trans {a b c:KM} (h:grows a b) (h':grows b c):grows a c:=fun n hn=>h' n (h n hn)
theorem Fq (n:ByteArray) {v:Int} (hv:v≠0) (K:KM):grows K (nQ n v K):=fun m h=>by
 rw [xB];split
 ·exact hv
 ·exact h
theorem Kd {K K':KM} (h:grows K K'):∀ l:List SequenceR,unk l K'≤unk l K
 | []=>Nat.le_refl _
 | s::l=>by
  have ih:=Kd h l;unfold unk at ih ⊢;simp only [List.filter_cons];have h1:=h s.name
  by_cases h2:dF s.name K=0
  ·rw [decide_eq_true h2];split<;>simp<;>omega
  ·rw [decide_eq_false h2,decide_eq_false (h1 h2)];simpa using ih
theorem Tz {K:KM} {n:ByteArray} {v:Int} (hv:v≠0) (hn:dF n K=0):∀ {l:List SequenceR},(∃ s∈l,s.name=n)→unk l (nQ n v K)<unk l K
 | [],h=>by obtain ⟨s,hs,_⟩:=h;cases hs
 | s::l,h=>by
  have hle:=Kd (Fq n hv K) l;have ih:=fun h'=>Tz (K:=K) (n:=n) hv hn (l:=l) h'
  unfold unk at ih hle ⊢;simp only [List.filter_cons]
  by_cases hs:s.name=n
  ·rw [hs,decide_eq_true hn,xB,if_pos rfl,decide_eq_false hv];simp;omega
  ·have h':∃ s∈l,s.name=n:=by
    obtain ⟨s',h1,h2⟩:=h;rcases List.mem_cons.1 h1 with rfl | h1
    ·exact absurd h2 hs
    ·exact ⟨s',h1,h2⟩
   have ih:=ih h';rw [xB,if_neg hs];split<;>simp<;>omega
theorem Tb {go:ByteArray→KM→Int×KM}:∀ (xs:List ByteArray) (K:KM) (l:Int),l≤(bG go xs K l).2.1
 | [],K,l=>Int.le_refl _
 | x::xs,K,l=>by
  unfold bG;split
  ·exact Int.le_refl _
  ·exact Int.le_trans (Int.le_max_left _ _) (Tb xs _ _)
theorem rD {go:ByteArray→KM→Int×KM} (hg:∀ x K,grows K (go x K).2):∀ (xs:List ByteArray) (K:KM) (l:Int),grows K (bG go xs K l).2.2
 | [],K,l=>grows.refl K
 | x::xs,K,l=>by
  unfold bG;split
  ·exact hg x K
  ·exact (hg x K).trans (rD hg xs _ _)
theorem rE (p:ProjR):∀ (f:Nat) (n:ByteArray) (K:KM),grows K (bB p f n K).2
 | 0,n,K=>grows.refl K
 | f+1,n,K=>by
  unfold bB;split
  ·exact grows.refl K
  ·have h:=(Fq n (v := -1) (by decide) K).trans (rD (rE p f) (gJ p n) (nQ n (-1) K) 1);split
   ·refine h.trans (Fq _ ?_ _);have:=Tb (go:=bB p f) (gJ p n) (nQ n (-1) K) 1;omega
   ·exact h
structure SeqOk (s:SequenceR):Prop where
 hv:s.video.length≤8
 hs:s.sound.length≤8
 hm:∀ t∈s.video++s.sound,t.length≤maxLen
 hz:∀ kind, ∀ x∈dQ kind (cY s),x.size≤maxLen
 hn:∀ kind,(dQ kind (cY s)).length≤1000000
structure ShownOk (p:ProjR):Prop where
 ok:∀ s∈p.seqs,SeqOk s
 there:∀ s∈p.seqs, ∀ x∈dQ 2 (cY s),(gW p.seqs x).isSome=true
theorem Bd {s:SequenceR} {kind:Int} {x:ByteArray}:x∈xX s kind ↔ x∈dQ kind (cY s):=by
 unfold xX;rw [(vL _).mem_iff,Cx]
set_option maxHeartbeats 4000000 in
theorem aQ0 (p:ProjR) (hp:ShownOk p):∀ (f:Nat) (n:ByteArray) (K:KM),(gW p.seqs n).isSome=true→unk p.seqs K<f →
  CIO Tryz.prog 43 1 [(0, .map (kE K))] [vcat p,cA n, .own 0] (aA (bB p f n K).1) [(0, .map (kE (bB p f n K).2))] 1
 | 0,n,K,_,h=>absurd h (Nat.not_lt_zero _)
 | f+1,n,K,hs,hk=>by
  obtain ⟨s,hsn⟩:=Option.isSome_iff_exists.1 hs;obtain ⟨hsm,hsname⟩:=pC hsn;have hso:=hp.ok s hsm;have ih:=aQ0 p hp f;refine cio_of Tryz.X43 Tryz.func43 rfl Tryz.ntmps43 (by rw [Tryz.results43]) (aB _ ?_)
  by_cases hv:dF n K=0
  ·have e0:bB p (f+1) n K=if (bG (bB p f) (gJ p n) (nQ n (-1) K) 1).1=true
   then ((bG (bB p f) (gJ p n) (nQ n (-1) K) 1).2.1,nQ n (bG (bB p f) (gJ p n) (nQ n (-1) K) 1).2.1 (bG (bB p f) (gJ p n) (nQ n (-1) K) 1).2.2)
   else (0,(bG (bB p f) (gJ p n) (nQ n (-1) K) 1).2.2):=by
    conv=>lhs;unfold bB
    rw [if_neg (fun h=>h hv)]
   have hin:gJ p n=xX s 2:=by unfold gJ;rw [hsn];rfl
   obtain ⟨ns,hns⟩:∃ ns,ns=xX s 2:=⟨_,rfl⟩
   rw [hin, ← hns] at e0;have hu:unk p.seqs (nQ n (-1) K)<f:=Nat.lt_of_lt_of_le (Tz (by decide) hv ⟨s,hsm,hsname⟩) (Nat.le_of_lt_succ hk);have hthere:∀ x∈ns,(gW p.seqs x).isSome=true:=fun x hx=>hp.there s hsm x (Bd.1 (hns ▸ hx))
   obtain ⟨K1,hK1⟩:∃ K1,K1=nQ n (-1) K:=⟨_,rfl⟩
   have hnl:ns.length≤1000000:=by
    rw [hns];unfold xX;rw [(vL _).length_eq];exact Nat.le_trans (sA _) (hso.hn 2)
   rw [← hK1] at e0 hu;rw [e0];clear e0;rcases hg:Hx n K with _ | v
   ·simp only [go_sem,simprocAttr,Md,hg,Option.map_none];refine ⟨_,aPn p n 2 s hsn hso.hv hso.hs hso.hm (hso.hz 2) (hso.hn 2),?_⟩;simp only [go_sem,simprocAttr,Yh];rw [← hns, ← hK1];refine aE (fun (k:Nat) σ => qF 0 (.map (kE (bG (bB p f) (ns.take k) K1 1).2.2)) (bM 8 (aA (bG (bB p f) (ns.take k) K1 1).2.1) (bM 25 (aA k) (aW [10,11,26,27,28,29,30,31,32,33,34,35,36,37,38,39] (bE σ))))) (fun k=>k≤ns.length∧(bG (bB p f) (ns.take k) K1 1).1=true) (fun k=>ns.length - k) 0 (aC ?_) ⟨Nat.zero_le _,rfl⟩ ?_
    ·simp only [go_sem,simprocAttr]<;>simp [bG]
    ·rintro k ⟨hk,hok⟩;refine aB _ ?_;simp only [go_sem,simprocAttr];refine ⟨fun hlt=>?_,fun hge=>?_⟩
     ·simp only [bxx] at hlt;have hk':k<ns.length:=by omega
      obtain ⟨x,hx⟩:∃ x,x=ns.getD k default:=⟨_,rfl⟩
      have hxm:x∈ns:=by rw [hx,bD hk'];exact List.getElem_mem hk'
      obtain ⟨r,hr⟩:∃ r,r=bG (bB p f) (ns.take k) K1 1:=⟨_,rfl⟩
      have hur:unk p.seqs r.2.2<f:=Nat.lt_of_le_of_lt (Kd (hr ▸ rD (rE p f) (ns.take k) K1 1) p.seqs) hu;have hsn':=yQ (bB p f) x (ns.take k) K1 1;rw [← hr,if_pos (hr ▸ hok),hx, ← dD hk', ← hx] at hsn';rw [← hr];unfold awS;simp only [go_sem,simprocAttr,List.length_map];have hxd:ns.getD k { data := #[] }=x:=by rw [hx];rfl
      rw [hxd];refine ⟨⟨by omega,by omega⟩,Df Tryz.X43 (Dk (ih x r.2.2 (hthere x hxm) hur) [0] rfl (by omega) (by decide) ?_ rfl rfl rfl rfl ?_)⟩
      ·simp only [go_sem,simprocAttr,(qJ id _).2,(qJ _ _).1]
      ·simp only [go_sem,simprocAttr];refine brW (b:=decide ((bB p f x r.2.2).1=0)) rfl ⟨fun h0=>?_,fun h0=>?_⟩
       ·rw [decide_eq_true_eq] at h0;rw [if_pos h0] at hsn';unfold awS;simp only [go_sem,simprocAttr];have hst:=yP (go:=bB p f) (xs:=ns.take (k+1)) (K:=K1) (l:=1) (ns.drop (k+1)) (by rw [hsn']);rw [List.take_append_drop,hsn'] at hst;rw [hst];refine aC ?_;simp only [go_sem,simprocAttr]<;>simp [qJ]
       ·rw [decide_eq_false_iff_not] at h0;rw [if_neg h0] at hsn';unfold awS;simp only [go_sem,simprocAttr];refine ⟨k+1,aC ?_,⟨by omega,by rw [hsn']⟩,by omega⟩;simp only [go_sem,simprocAttr];rw [hsn'];simp [bF (show k<9223372036854775807 by omega),qJ]
     ·simp only [bxx] at hge;unfold awS;simp only [go_sem,simprocAttr];rw [List.take_of_length_le (show ns.length≤k by omega)] at hok;rw [List.take_of_length_le (show ns.length≤k by omega)];rw [hok,if_pos rfl];refine aC ?_;simp only [go_sem,simprocAttr,Yh]<;>simp
   ·have hv0:v=0:=by simpa [dF,hg] using hv
    subst hv0;simp only [go_sem,simprocAttr,Md,hg,Option.map_some];refine ⟨_,aPn p n 2 s hsn hso.hv hso.hs hso.hm (hso.hz 2) (hso.hn 2),?_⟩;simp only [go_sem,simprocAttr,Yh];rw [← hns, ← hK1];refine aE (fun (k:Nat) σ => qF 0 (.map (kE (bG (bB p f) (ns.take k) K1 1).2.2)) (bM 8 (aA (bG (bB p f) (ns.take k) K1 1).2.1) (bM 25 (aA k) (aW [10,11,26,27,28,29,30,31,32,33,34,35,36,37,38,39] (bE σ))))) (fun k=>k≤ns.length∧(bG (bB p f) (ns.take k) K1 1).1=true) (fun k=>ns.length - k) 0 (aC ?_) ⟨Nat.zero_le _,rfl⟩ ?_
    ·simp only [go_sem,simprocAttr]<;>simp [bG]
    ·rintro k ⟨hk,hok⟩;refine aB _ ?_;simp only [go_sem,simprocAttr];refine ⟨fun hlt=>?_,fun hge=>?_⟩
     ·simp only [bxx] at hlt;have hk':k<ns.length:=by omega
      obtain ⟨x,hx⟩:∃ x,x=ns.getD k default:=⟨_,rfl⟩
      have hxm:x∈ns:=by rw [hx,bD hk'];exact List.getElem_mem hk'
      obtain ⟨r,hr⟩:∃ r,r=bG (bB p f) (ns.take k) K1 1:=⟨_,rfl⟩
      have hur:unk p.seqs r.2.2<f:=Nat.lt_of_le_of_lt (Kd (hr ▸ rD (rE p f) (ns.take k) K1 1) p.seqs) hu;have hsn':=yQ (bB p f) x (ns.take k) K1 1;rw [← hr,if_pos (hr ▸ hok),hx, ← dD hk', ← hx] at hsn';rw [← hr];unfold awS;simp only [go_sem,simprocAttr,List.length_map];have hxd:ns.getD k { data := #[] }=x:=by rw [hx];rfl
      rw [hxd];refine ⟨⟨by omega,by omega⟩,Df Tryz.X43 (Dk (ih x r.2.2 (hthere x hxm) hur) [0] rfl (by omega) (by decide) ?_ rfl rfl rfl rfl ?_)⟩
      ·simp only [go_sem,simprocAttr,(qJ id _).2,(qJ _ _).1]
      ·simp only [go_sem,simprocAttr];refine brW (b:=decide ((bB p f x r.2.2).1=0)) rfl ⟨fun h0=>?_,fun h0=>?_⟩
       ·rw [decide_eq_true_eq] at h0;rw [if_pos h0] at hsn';unfold awS;simp only [go_sem,simprocAttr];have hst:=yP (go:=bB p f) (xs:=ns.take (k+1)) (K:=K1) (l:=1) (ns.drop (k+1)) (by rw [hsn']);rw [List.take_append_drop,hsn'] at hst;rw [hst];refine aC ?_;simp only [go_sem,simprocAttr]<;>simp [qJ]
       ·rw [decide_eq_false_iff_not] at h0;rw [if_neg h0] at hsn';unfold awS;simp only [go_sem,simprocAttr];refine ⟨k+1,aC ?_,⟨by omega,by rw [hsn']⟩,by omega⟩;simp only [go_sem,simprocAttr];rw [hsn'];simp [bF (show k<9223372036854775807 by omega),qJ]
     ·simp only [bxx] at hge;unfold awS;simp only [go_sem,simprocAttr];rw [List.take_of_length_le (show ns.length≤k by omega)] at hok;rw [List.take_of_length_le (show ns.length≤k by omega)];rw [hok,if_pos rfl];refine aC ?_;simp only [go_sem,simprocAttr,Yh]<;>simp
  ·obtain ⟨v,hg⟩:∃ v,Hx n K=some v:=by
    cases h:Hx n K with
    | none=>exact absurd (by unfold dF;rw [h];rfl) hv
    | some v=>exact ⟨v,rfl⟩
   have hvv:dF n K=v:=by unfold dF;rw [hg];rfl
   have e0:bB p (f+1) n K=(max v 0,K):=by
    conv=>lhs;unfold bB
    rw [if_pos hv,hvv]
   rw [e0];simp only [go_sem,simprocAttr,Md,hg,Option.map_some];refine brW (b:=true) (by rw [hvv] at hv;simpa using hv) ⟨fun _=>?_,fun h=>absurd h (by decide)⟩;unfold awS;simp only [go_sem,simprocAttr];refine aC ?_;simp only [go_sem,simprocAttr]<;>simp
theorem aQc (f:FuncId):∀ (w:World) (E:Env) v,RdV w E (.t (.lit (.func (.func f) #[] #[]))) v→RdV w E (.clo f []) v:=by
 intro w E v h;obtain ⟨rfl,_⟩:=aG h;simp only [RdV];exact ⟨#[],rfl,by simp only [RdVs]⟩
theorem yJ {α : Type} [Inhabited α] {l:List α} {p : α → Bool} {k:Nat} (hk:k<l.length) (hi:∀ i,i<k→p (l.getD i default)=true) (h:p (l.getD k default)=false):l.findIdx (fun m => !p m)=k:=by
 rw [List.findIdx_eq hk];refine ⟨?_,fun j hj=>?_⟩
 ·rw [bD hk] at h;rw [h];rfl
 ·have:=hi j hj;rw [bD (by omega)] at this;rw [this];rfl
theorem cEveryS (t:List ClipR) (hm:t.length≤maxLen):aJ Tryz.prog 77 [.t (gB t), .clo 78 []] (aL (t.all kP)):=by
 refine aD Tryz.X77 Tryz.func77 rfl Tryz.ntmps77 (by rw [Tryz.results77]) (aB _ ?_);simp only [go_sem,simprocAttr];refine aE (fun (k:Nat) σ => bM 9 (aA k) (aW [6,10,11,12,13,14,15,16,17] (bE σ))) (fun k=>k≤t.length ∧ ∀ i,i<k→kP (t.getD i default)=true) (fun k=>t.length - k) 0 (aC ?_) ⟨Nat.zero_le _,by omega⟩ ?_
 ·simp only [go_sem,simprocAttr]<;>simp
 ·rintro k ⟨hk,hi⟩;refine aB _ ?_;simp only [go_sem,simprocAttr];refine ⟨fun hlt=>?_,fun hge=>?_⟩
  ·simp only [bxx] at hlt;unfold awS;simp only [go_sem,simprocAttr];refine ⟨⟨by omega,by omega⟩,?_⟩;refine nZ (aPh _) rfl ?_;simp only [go_sem,simprocAttr];refine ⟨fun h2=>?_,fun h2=>?_⟩
   ·unfold awS;simp only [go_sem,simprocAttr];rw [bX (d:=default) (p:=kP) (k:=k) (by omega) (nt h2)]
   ·unfold awS;simp only [go_sem,simprocAttr];refine ⟨k+1,aC ?_,⟨by omega,upto hi (nf h2)⟩,by omega⟩;simp only [go_sem,simprocAttr]<;>simp [fP (show k<t.length by omega) hm]
  ·simp only [bxx] at hge;unfold awS;simp only [go_sem,simprocAttr];rw [cC (d:=default) (p:=kP) (fun i h2=>hi i (by omega))]
theorem aPu (t:List ClipR) (hm:t.length≤maxLen):aJ Tryz.prog 77 [.t (gB t), .t (.lit (.func (.func 78) #[] #[]))] (aL (t.all kP)) :=
 uZ (.cons rG (.cons (aQc _) .nil)) (cEveryS t hm)
theorem cAud (s:SequenceR) (c:ClipR):aJ Tryz.prog 79 [kZ c, .elem 9 (SequenceR.c s) [SequenceR.c s] 0 0] (aL (vC s.channels c)):=by
 refine aD Tryz.X79 Tryz.func79 rfl Tryz.ntmps79 (by rw [Tryz.results79]) (aB _ ?_);simp only [go_sem,simprocAttr,Jj,SequenceR.c];refine ⟨_,aJe c s.channels,?_⟩;simp only [go_sem,simprocAttr]
theorem cEveryA (s:SequenceR) (t:List ClipR) (hm:t.length≤maxLen):aJ Tryz.prog 77 [.t (gB t), .clo 79 [.elem 9 (SequenceR.c s) [SequenceR.c s] 0 0]] (aL (t.all (vC s.channels))):=by
 refine aD Tryz.X77 Tryz.func77 rfl Tryz.ntmps77 (by rw [Tryz.results77]) (aB _ ?_);simp only [go_sem,simprocAttr];refine aE (fun (k:Nat) σ => bM 9 (aA k) (aW [6,10,11,12,13,14,15,16,17] (bE σ))) (fun k=>k≤t.length ∧ ∀ i,i<k→(vC s.channels) (t.getD i default)=true) (fun k=>t.length - k) 0 (aC ?_) ⟨Nat.zero_le _,by omega⟩ ?_
 ·simp only [go_sem,simprocAttr]<;>simp
 ·rintro k ⟨hk,hi⟩;refine aB _ ?_;simp only [go_sem,simprocAttr];refine ⟨fun hlt=>?_,fun hge=>?_⟩
  ·simp only [bxx] at hlt;unfold awS;simp only [go_sem,simprocAttr];refine ⟨⟨by omega,by omega⟩,?_⟩;refine nZ (cAud s _) rfl ?_;simp only [go_sem,simprocAttr];refine ⟨fun h2=>?_,fun h2=>?_⟩
   ·unfold awS;simp only [go_sem,simprocAttr];rw [bX (d:=default) (p:=(vC s.channels)) (k:=k) (by omega) (nt h2)]
   ·unfold awS;simp only [go_sem,simprocAttr];refine ⟨k+1,aC ?_,⟨by omega,upto hi (nf h2)⟩,by omega⟩;simp only [go_sem,simprocAttr]<;>simp [fP (show k<t.length by omega) hm]
  ·simp only [bxx] at hge;unfold awS;simp only [go_sem,simprocAttr];rw [cC (d:=default) (p:=(vC s.channels)) (fun i h2=>hi i (by omega))]
theorem cIdxM (l:List MediumR) (h:∀ m∈l,m.fit) (hm:l.length≤1000000):aJ Tryz.prog 68 [.t (gA l), .clo 38 []] (aA (if l.all eN then -1 else (l.findIdx fun m => !eN m:Nat))):=by
 refine aD Tryz.X68 Tryz.func68 rfl Tryz.ntmps68 (by rw [Tryz.results68]) (aB _ ?_);simp only [go_sem,simprocAttr];refine aE (fun (k:Nat) σ => bM 8 (aA k) (aW [5,9,10,11,12,13,14,15,16,17,18] (bE σ))) (fun k=>k≤l.length ∧ ∀ i,i<k→eN (l.getD i default)=true) (fun k=>l.length - k) 0 (aC ?_) ⟨Nat.zero_le _,by omega⟩ ?_
 ·simp only [go_sem,simprocAttr]<;>simp
 ·rintro k ⟨hk,hi⟩;refine aB _ ?_;simp only [go_sem,simprocAttr];refine ⟨fun hlt=>?_,fun hge=>?_⟩
  ·simp only [bxx] at hlt;unfold awS;simp only [go_sem,simprocAttr];refine ⟨⟨by omega,by omega⟩,?_⟩;refine nZ (cPMed _ (h _ (aR (by omega)))) rfl ?_;simp only [go_sem,simprocAttr];refine ⟨fun h2=>?_,fun h2=>?_⟩
   ·unfold awS;simp only [go_sem,simprocAttr];rw [bX (d:=default) (p:=eN) (k:=k) (by omega) (nt h2),if_neg Bool.false_ne_true,yJ (by omega) hi (nt h2)]
   ·unfold awS;simp only [go_sem,simprocAttr];refine ⟨k+1,aC ?_,⟨by omega,upto hi (nf h2)⟩,by omega⟩;simp only [go_sem,simprocAttr]<;>simp [bF (show k<9223372036854775807 by omega)]
  ·simp only [bxx] at hge;unfold awS;simp only [go_sem,simprocAttr];rw [cC (d:=default) (p:=eN) (fun i h2=>hi i (by omega)),if_pos rfl]
theorem cHasM (l:List MediumR) (h:∀ m∈l,m.fit) (hm:l.length≤1000000):aJ Tryz.prog 37 [.t (gA l), .t (.lit (.func (.func 38) #[] #[]))] (aL (!l.all eN)):=by
 refine uZ (.cons rG (.cons (aQc _) .nil)) (args:=[.t (gA l), .clo 38 []]) ?_;refine aD Tryz.X37 Tryz.func37 rfl Tryz.ntmps37 (by rw [Tryz.results37]) (aB _ ?_);simp only [go_sem,simprocAttr];refine ⟨_,cIdxM l h hm,?_⟩;simp only [go_sem,simprocAttr];cases l.all eN<;>simp<;>omega
def vN (s:SequenceR):Bool:=gZ s.name&&tQ s.rate&&nK s.w&&nK s.h&&wL s.channels&&qM s.cues
def qQ (t:List ClipR):Bool:=cG t&&t.all kP
def rR (ch:Int) (t:List ClipR):Bool:=cG t&&t.all (vC ch)
def cS (s:SequenceR):Bool:=vN s&&s.video.all qQ&&s.sound.all (rR s.channels)
theorem yZ {t:List ClipR} (h:cG t=true):t.length≤64:=by
 unfold cG at h;simp only [Bool.and_eq_true,decide_eq_true_eq] at h;exact h.1.1
theorem cMalS (s:SequenceR) (h:s.fit) (hv:s.video.length≤1000000) (hs:s.sound.length≤1000000):aJ Tryz.prog 40 [cT s] (aL (!cS s)):=by
 refine aD Tryz.X40 Tryz.func40 rfl Tryz.ntmps40 (by rw [Tryz.results40]) (aB _ ?_);simp only [go_sem,simprocAttr];refine ⟨_,aD0 s.name,?_⟩;simp only [go_sem,simprocAttr];refine ⟨_,fun _=>aPj s.rate h.rate,?_⟩;simp only [go_sem,simprocAttr];refine ⟨_,fun _=>aPg s.w,?_⟩;simp only [go_sem,simprocAttr];refine ⟨_,fun _=>aPg s.h,?_⟩;simp only [go_sem,simprocAttr];refine ⟨_,fun _=>Hn s.channels,?_⟩;simp only [go_sem,simprocAttr];refine ⟨_,fun _=>aPm s.cues h.cues,?_⟩;simp only [go_sem,simprocAttr];refine brW (b := !vN s) ?_ ⟨fun hh=>?_,fun hh=>?_⟩
 ·unfold vN;simp only [Bool.not_and]
 ·unfold awS;simp only [go_sem,simprocAttr];unfold cS;rw [nt hh];rfl
 ·unfold awS;simp only [go_sem,simprocAttr];refine aE (fun (k:Nat) σ => bM 44 (aA k) (aW [4,45,46,47,48,49,50,51,52,53,54,55,56] (bE σ))) (fun k=>k≤s.video.length ∧ ∀ i,i<k→qQ (s.video.getD i default)=true) (fun k=>s.video.length - k) 0 (aC ?_) ⟨Nat.zero_le _,by omega⟩ ?_
  ·simp only [go_sem,simprocAttr]<;>simp
  ·rintro k ⟨hk,hi⟩;refine aB _ ?_;simp only [go_sem,simprocAttr];refine ⟨fun hlt=>?_,fun hge=>?_⟩
   ·simp only [bxx] at hlt;have hd:s.video.getD k []=s.video.getD k default:=rfl;have hmem:s.video.getD k default∈s.video:=aR (by omega);unfold awS;simp only [go_sem,simprocAttr,hd];refine ⟨⟨by omega,by omega⟩,_,aFq _ (h.video _ hmem),?_⟩;simp only [go_sem,simprocAttr];refine ⟨_,fun hg=>aPu _ (Nat.le_trans (yZ (by simpa using hg)) (by decide)),?_⟩;simp only [go_sem,simprocAttr];refine brW (b := !qQ (s.video.getD k default)) ?_ ⟨fun hc=>?_,fun hc=>?_⟩
    ·unfold qQ
     (try simp only [bne]);cases (cG (s.video.getD k default))<;>cases ((s.video.getD k default).all kP)<;>rfl
    ·unfold awS;simp only [go_sem,simprocAttr];unfold cS;rw [bX (d:=default) (p:=qQ) (k:=k) (by omega) (nt hc),Bool.and_false];rfl
    ·unfold awS;simp only [go_sem,simprocAttr];refine ⟨k+1,aC ?_,⟨by omega,upto hi (nf hc)⟩,by omega⟩;simp only [go_sem,simprocAttr]<;>simp [bF (show k<9223372036854775807 by omega)]
   ·simp only [bxx] at hge;have hva:s.video.all qQ=true:=cC (d:=default) (p:=qQ) (fun i h2=>hi i (by omega));unfold awS;simp only [go_sem,simprocAttr];refine aE (fun (k:Nat) σ => bM 60 (aA k) (aW [6,61,62,63,64,65,66,67,68,69,70,71,72,73] (bE σ))) (fun k=>k≤s.sound.length ∧ ∀ i,i<k→rR s.channels (s.sound.getD i default)=true) (fun k=>s.sound.length - k) 0 (aC ?_) ⟨Nat.zero_le _,by omega⟩ ?_
    ·simp only [go_sem,simprocAttr]<;>simp
    ·rintro k ⟨hk,hi⟩;refine aB _ ?_;simp only [go_sem,simprocAttr];refine ⟨fun hlt=>?_,fun hge=>?_⟩
     ·simp only [bxx] at hlt;have hd:s.sound.getD k []=s.sound.getD k default:=rfl;have hmem:s.sound.getD k default∈s.sound:=aR (by omega);unfold awS;simp only [go_sem,simprocAttr,hd];refine ⟨⟨by omega,by omega⟩,_,aFq _ (h.sound _ hmem),?_⟩;simp only [go_sem,simprocAttr];refine ⟨_,fun hg=>cEveryA s _ (Nat.le_trans (yZ (by simpa using hg)) (by decide)),?_⟩;simp only [go_sem,simprocAttr];refine brW (b := !rR s.channels (s.sound.getD k default)) ?_ ⟨fun hc=>?_,fun hc=>?_⟩
      ·unfold rR
       (try simp only [bne]);cases (cG (s.sound.getD k default))<;>cases ((s.sound.getD k default).all (vC s.channels))<;>rfl
      ·unfold awS;simp only [go_sem,simprocAttr];unfold cS;rw [bX (d:=default) (p:=rR s.channels) (k:=k) (by omega) (nt hc),Bool.and_false];rfl
      ·unfold awS;simp only [go_sem,simprocAttr];refine ⟨k+1,aC ?_,⟨by omega,upto hi (nf hc)⟩,by omega⟩;simp only [go_sem,simprocAttr]<;>simp [bF (show k<9223372036854775807 by omega)]
     ·simp only [bxx] at hge;unfold awS;simp only [go_sem,simprocAttr];unfold cS;rw [nf hh,hva,cC (d:=default) (p:=rR s.channels) (fun i h2=>hi i (by omega))];rfl
theorem cIdxS (l:List SequenceR) (h:∀ m∈l,m.fit) (hm:l.length≤1000000) (hl:∀ s∈l,s.video.length≤1000000∧s.sound.length≤1000000):aJ Tryz.prog 74 [.t (mK l), .clo 40 []] (aA (if l.all cS then -1 else (l.findIdx fun m => !cS m:Nat))):=by
 refine aD Tryz.X74 Tryz.func74 rfl Tryz.ntmps74 (by rw [Tryz.results74]) (aB _ ?_);simp only [go_sem,simprocAttr];refine aE (fun (k:Nat) σ => bM 8 (aA k) (aW [5,9,10,11,12,13,14,15,16,17,18] (bE σ))) (fun k=>k≤l.length ∧ ∀ i,i<k→cS (l.getD i default)=true) (fun k=>l.length - k) 0 (aC ?_) ⟨Nat.zero_le _,by omega⟩ ?_
 ·simp only [go_sem,simprocAttr]<;>simp
 ·rintro k ⟨hk,hi⟩;refine aB _ ?_;simp only [go_sem,simprocAttr];refine ⟨fun hlt=>?_,fun hge=>?_⟩
  ·simp only [bxx] at hlt;unfold awS;simp only [go_sem,simprocAttr];refine ⟨⟨by omega,by omega⟩,?_⟩;refine nZ (cMalS _ (h _ (aR (by omega))) (hl _ (aR (by omega))).1 (hl _ (aR (by omega))).2) rfl ?_;simp only [go_sem,simprocAttr];refine ⟨fun h2=>?_,fun h2=>?_⟩
   ·unfold awS;simp only [go_sem,simprocAttr];rw [bX (d:=default) (p:=cS) (k:=k) (by omega) (nt h2),if_neg Bool.false_ne_true,yJ (by omega) hi (nt h2)]
   ·unfold awS;simp only [go_sem,simprocAttr];refine ⟨k+1,aC ?_,⟨by omega,upto hi (nf h2)⟩,by omega⟩;simp only [go_sem,simprocAttr]<;>simp [bF (show k<9223372036854775807 by omega)]
  ·simp only [bxx] at hge;unfold awS;simp only [go_sem,simprocAttr];rw [cC (d:=default) (p:=cS) (fun i h2=>hi i (by omega)),if_pos rfl]
theorem cHasS (l:List SequenceR) (h:∀ m∈l,m.fit) (hm:l.length≤1000000) (hl:∀ s∈l,s.video.length≤1000000∧s.sound.length≤1000000):aJ Tryz.prog 39 [.t (mK l), .t (.lit (.func (.func 40) #[] #[]))] (aL (!l.all cS)):=by
 refine uZ (.cons rG (.cons (aQc _) .nil)) (args:=[.t (mK l), .clo 40 []]) ?_;refine aD Tryz.X39 Tryz.func39 rfl Tryz.ntmps39 (by rw [Tryz.results39]) (aB _ ?_);simp only [go_sem,simprocAttr];refine ⟨_,cIdxS l h hm hl,?_⟩;simp only [go_sem,simprocAttr];cases l.all cS<;>simp<;>omega
def fU (m:MediumR):Bool:=decide ((m.cues.length:Int)≤64)
def eG (s:SequenceR):Bool:=decide ((s.video.length:Int)≤8)&&decide ((s.sound.length:Int)≤8)&&decide ((s.cues.length:Int)≤64)
def dA (p:ProjR):Bool:=decide ((p.media.length:Int)≤16)&&decide ((p.seqs.length:Int)≤16)&&p.media.all fU&&p.seqs.all eG
theorem pD (a b:Int):decide (a > b) = !decide (a≤b):=by
 by_cases h:a≤b
 ·rw [decide_eq_true h,decide_eq_false (by omega)];rfl
 ·rw [decide_eq_false h,decide_eq_true (by omega)];rfl
theorem cLarge (p:ProjR):aJ Tryz.prog 36 [jZ p] (aL (!dA p)):=by
 refine aD Tryz.X36 Tryz.func36 rfl Tryz.ntmps36 (by rw [Tryz.results36]) (aB _ ?_);simp only [go_sem,simprocAttr];refine brW (b := !(decide ((p.media.length:Int)≤16)&&decide ((p.seqs.length:Int)≤16))) ?_ ⟨fun hh=>?_,fun hh=>?_⟩
 ·rw [pD,pD,Bool.not_and]
 ·unfold awS;simp only [go_sem,simprocAttr];unfold dA;rw [nt hh];rfl
 ·have hh2:=nf hh;simp only [Bool.and_eq_true,decide_eq_true_eq] at hh2;unfold awS;simp only [go_sem,simprocAttr];refine aE (fun (k:Nat) σ => bM 20 (aA k) (aW [4,21,22,23,24,25,26,27,28] (bE σ))) (fun k=>k≤p.media.length ∧ ∀ i,i<k→fU (p.media.getD i default)=true) (fun k=>p.media.length - k) 0 (aC ?_) ⟨Nat.zero_le _,by omega⟩ ?_
  ·simp only [go_sem,simprocAttr]<;>simp
  ·rintro k ⟨hk,hi⟩;refine aB _ ?_;simp only [go_sem,simprocAttr];refine ⟨fun hlt=>?_,fun hge=>?_⟩
   ·simp only [bxx] at hlt;unfold awS;simp only [go_sem,simprocAttr];refine ⟨⟨by omega,by omega⟩,?_⟩;refine brW (b := !fU (p.media.getD k default)) ?_ ⟨fun hc=>?_,fun hc=>?_⟩
    ·unfold fU;exact pD _ _
    ·unfold awS;simp only [go_sem,simprocAttr];unfold dA;rw [nf hh,bX (d:=default) (p:=fU) (k:=k) (by omega) (nt hc)];rfl
    ·unfold awS;simp only [go_sem,simprocAttr];refine ⟨k+1,aC ?_,⟨by omega,upto hi (nf hc)⟩,by omega⟩;simp only [go_sem,simprocAttr]<;>simp [bF (show k<9223372036854775807 by omega)]
   ·simp only [bxx] at hge;have hva:p.media.all fU=true:=cC (d:=default) (p:=fU) (fun i h2=>hi i (by omega));unfold awS;simp only [go_sem,simprocAttr];refine aE (fun (k:Nat) σ => bM 32 (aA k) (aW [6,33,34,35,36,37,38,39,40,41,42,43,44,45,46,47,48,49,50,51,52] (bE σ))) (fun k=>k≤p.seqs.length ∧ ∀ i,i<k→eG (p.seqs.getD i default)=true) (fun k=>p.seqs.length - k) 0 (aC ?_) ⟨Nat.zero_le _,by omega⟩ ?_
    ·simp only [go_sem,simprocAttr]<;>simp
    ·rintro k ⟨hk,hi⟩;refine aB _ ?_;simp only [go_sem,simprocAttr];refine ⟨fun hlt=>?_,fun hge=>?_⟩
     ·simp only [bxx] at hlt;unfold awS;simp only [go_sem,simprocAttr];refine ⟨⟨by omega,by omega⟩,?_⟩;refine brW (b := !eG (p.seqs.getD k default)) ?_ ⟨fun hc=>?_,fun hc=>?_⟩
      ·unfold eG;rw [pD,pD,pD,Bool.not_and,Bool.not_and]
      ·unfold awS;simp only [go_sem,simprocAttr];unfold dA;rw [nf hh,hva,bX (d:=default) (p:=eG) (k:=k) (by omega) (nt hc)];rfl
      ·unfold awS;simp only [go_sem,simprocAttr];refine ⟨k+1,aC ?_,⟨by omega,upto hi (nf hc)⟩,by omega⟩;simp only [go_sem,simprocAttr]<;>simp [bF (show k<9223372036854775807 by omega)]
     ·simp only [bxx] at hge;unfold awS;simp only [go_sem,simprocAttr];unfold dA;rw [nf hh,hva,cC (d:=default) (p:=eG) (fun i h2=>hi i (by omega))];rfl
def cH (p:ProjR):List SequenceR→KM→Bool×KM
 | [],K=>(true,K)
 | s::l,K=>if (bB p (p.seqs.length+1) s.name K).1=0 then (false,(bB p (p.seqs.length+1) s.name K).2) else cH p l (bB p (p.seqs.length+1) s.name K).2
theorem Hm (p:ProjR) (x:SequenceR):∀ (xs:List SequenceR) (K:KM),cH p (xs ++ [x]) K =
  if (cH p xs K).1=true then (if (bB p (p.seqs.length+1) x.name (cH p xs K).2).1=0 then (false,(bB p (p.seqs.length+1) x.name (cH p xs K).2).2) else (true,(bB p (p.seqs.length+1) x.name (cH p xs K).2).2)) else cH p xs K
 | [],K=>by by_cases h:(bB p (p.seqs.length+1) x.name K).1=0<;>simp [cH,h]
 | y::xs,K=>by
  simp only [List.cons_append,cH];split
  ·rfl
  ·exact Hm p x xs _
theorem Hj {p:ProjR}:∀ {xs:List SequenceR} {K:KM} (ys:List SequenceR),(cH p xs K).1=false→cH p (xs++ys) K=cH p xs K
 | [],K,ys,h=>by unfold cH at h;cases h
 | x::xs,K,ys,h=>by
  by_cases h0:(bB p (p.seqs.length+1) x.name K).1=0
  ·simp [cH,h0]
  ·simp only [List.cons_append,cH,if_neg h0] at h ⊢;exact Hj ys h
def At (K:KM) (s:SequenceR):Bool:=decide (dF s.name K≤5)
def wS (p:ProjR):Bool := !(decide (((Qf p.media).length:Int)<p.media.length)||decide (((Pb p.seqs).length:Int)<p.seqs.length))
def dR (p:ProjR):Int :=
 if dA p=false then 5 else
 if (p.media.all eN&&p.seqs.all cS)=false then 1 else
 if wS p=false then 8 else
 if p.seqs.all (gU p)=false then 7 else
 if (cH p p.seqs []).1=false then 16 else
 if p.seqs.all (At (cH p p.seqs []).2)=false then 18 else 0
theorem uW {l:List (List ClipR)} (h:∀ t∈l,t.length≤64):l.flatten.length≤64*l.length:=by
 induction l with
 | nil=>simp
 | cons t l ih =>
  have h1:=h t (by simp);have h2:=ih fun u hu=>h u (by simp [hu])
  simp only [List.flatten_cons,List.length_append,List.length_cons];omega
theorem Lx (kind:Int):∀ l:List ClipR,(dQ kind l).length≤2*l.length
 | []=>by simp [dQ]
 | c::l=>by
  have ih:=Lx kind l;rw [show c::l = [c]++l from rfl,Ak];simp only [List.length_append,List.length_cons,List.length_nil];have:(dQ kind [c]).length≤2:=by
   unfold dQ;rw [List.length_map];refine Nat.le_trans (List.length_filter_le _ _) ?_;simp
  omega
theorem Ma {kind:Int} {l:List ClipR} {x:ByteArray} (h:x∈dQ kind l):∃ c∈l, ∃ s:SourceR,(s=c.a∨s=c.b)∧s.kind=kind∧s.name=x:=by
 unfold dQ at h;obtain ⟨s,h1,rfl⟩:=List.mem_map.1 h;rw [List.mem_filter,List.mem_flatMap] at h1;obtain ⟨⟨c,hc,h2⟩,h3⟩:=h1;simp only [List.mem_cons,List.not_mem_nil,or_false] at h2;exact ⟨c,hc,s,h2,by simpa using h3,rfl⟩
theorem Qn {s:SequenceR} (h:cS s=true):∀ t∈s.video++s.sound,cG t=true:=by
 unfold cS at h;simp only [Bool.and_eq_true,List.all_eq_true] at h;intro t ht;rcases List.mem_append.1 ht with ht | ht
 ·have:=h.1.2 t ht;unfold qQ at this;simp only [Bool.and_eq_true] at this;exact this.1
 ·have:=h.2 t ht;unfold rR at this;simp only [Bool.and_eq_true] at this;exact this.1
theorem Xe {s:SourceR} (h:aX s=true):s.name.size≤maxLen:=by
 unfold aX at h;rw [Bool.or_eq_true] at h;rcases h with h | h
 ·unfold SourceR.isZ SourceR.eqb cE at h;simp only [Bool.and_eq_true,beq_iff_eq] at h;rw [Tn h.1.1.1.1.1.2];decide
 ·simp only [Bool.and_eq_true,gZ,decide_eq_true_eq] at h;have:=h.1.1.1.1.1.2.1.2;unfold maxLen;omega
theorem aJ6 {c:ClipR} (h:cZ c=true):aX c.a=true∧aX c.b=true :=
 ⟨(sV h).2.2.2.2.2.1,(sV h).2.2.2.2.2.2.1⟩
theorem aL5 {s:SequenceR} (hS:eG s=true) (h:cS s=true):SeqOk s:=by
 have ht:=Qn h;have hl:∀ t∈s.video++s.sound,t.length≤64:=fun t h'=>yZ (ht t h')
 unfold eG at hS;simp only [Bool.and_eq_true,decide_eq_true_eq] at hS;have hcl:(cY s).length≤1024:=by
  have:=uW hl;rw [List.length_append] at this;unfold cY;omega
 refine ⟨by omega,by omega,fun t h'=>Nat.le_trans (hl t h') (by decide),fun kind x hx=>?_,fun kind=>?_⟩
 ·obtain ⟨c,hc,src,h1,_,rfl⟩:=Ma hx;unfold cY at hc;obtain ⟨t,h2,h3⟩:=List.mem_flatten.1 hc;have h4:=ht t h2;unfold cG at h4;simp only [Bool.and_eq_true,List.all_eq_true] at h4;have h5:=aJ6 (h4.1.2 c h3);rcases h1 with rfl | rfl
  ·exact Xe h5.1
  ·exact Xe h5.2
 ·have:=Lx kind (cY s);omega
theorem Xn {p:ProjR} (hS:dA p=true) (h:(p.media.all eN&&p.seqs.all cS)=true) (hc:p.seqs.all (gU p)=true):ShownOk p:=by
 unfold dA at hS;simp only [Bool.and_eq_true,List.all_eq_true,decide_eq_true_eq] at hS h hc;refine ⟨fun s hs=>aL5 (hS.2 s hs) (h.2 s hs),fun s hs x hx=>?_⟩;obtain ⟨c,hcm,src,h1,h2,rfl⟩:=Ma hx;have h3:=hc s hs;unfold gU at h3;rw [List.all_eq_true] at h3;have h4:=h3 c hcm;unfold eE at h4;rw [Bool.and_eq_true] at h4;have key:∀ src:SourceR,dE p src=true→src.kind=2→(gW p.seqs src.name).isSome=true:=fun src h5 h6=>by
  unfold dE at h5;rw [h6] at h5;cases h7:gW p.seqs src.name with
  | none=>rw [h7] at h5;simp at h5
  | some s=>rfl
 rcases h1 with rfl | rfl
 ·exact key _ h4.1 h2
 ·exact key _ h4.2 h2
set_option maxHeartbeats 4000000 in
theorem cValid (p:ProjR) (h:p.fit):aJ Tryz.prog 20 [jZ p] (aA (dR p)):=by
 refine aD Tryz.X20 Tryz.func20 rfl Tryz.ntmps20 (by rw [Tryz.results20]) (eT fun hf=>aB _ ?_);simp only [go_sem,↓reduceIte,Nat.reduceAdd,Nat.reduceSub,Nat.reduceLeDiff,reduceCtorEq];refine ⟨_,cLarge p,?_⟩;simp only [go_sem];refine ⟨fun h1=>?_,fun h1=>?_⟩
 ·unfold awS;simp only [go_sem,↓reduceIte,Nat.reduceLeDiff];exact ⟨sC,by unfold dR;rw [nt h1];rfl⟩
 ·have hS:=nf h1;have hS2:=hS;unfold dA at hS2;simp only [Bool.and_eq_true,decide_eq_true_eq,List.all_eq_true] at hS2;have hsl:∀ s∈p.seqs,s.video.length≤1000000∧s.sound.length≤1000000:=fun s hs=>by
   have h2:=hS2.2 s hs;unfold eG at h2;simp only [Bool.and_eq_true,decide_eq_true_eq] at h2;omega
  unfold awS;simp only [go_sem,↓reduceIte,reduceCtorEq];refine ⟨_,cHasM p.media h.media (by omega),?_⟩;simp only [go_sem,↓reduceIte,reduceCtorEq];refine ⟨_,fun _=>cHasS p.seqs h.seqs (by omega) hsl,?_⟩;simp only [go_sem,↓reduceIte];refine brW (b := !(p.media.all eN&&p.seqs.all cS)) ?_ ⟨fun h2=>?_,fun h2=>?_⟩
  ·rw [Bool.not_and]
  ·unfold awS;simp only [go_sem,↓reduceIte,Nat.reduceLeDiff];exact ⟨sC,by unfold dR;rw [hS,nt h2];rfl⟩
  ·have hO:=nf h2;unfold awS;simp only [go_sem,↓reduceIte,Nat.reduceAdd,Nat.reduceLeDiff,reduceCtorEq];refine Bm (cCat p (by omega) (by omega)) rfl ?_;simp only [go_sem,↓reduceIte,Nat.reduceAdd,Nat.reduceLeDiff,reduceCtorEq];refine brW (b := !wS p) ?_ ⟨fun h3=>?_,fun h3=>?_⟩
   ·unfold wS;simp only [Bool.not_not]
   ·unfold awS;simp only [go_sem,↓reduceIte,Nat.reduceLeDiff,Nat.reduceEqDiff];exact ⟨sC,by unfold dR;rw [hS,hO,nt h3];rfl⟩
   ·have hU:=nf h3;unfold awS;simp only [go_sem,↓reduceIte,reduceCtorEq];refine aE (fun (k:Nat) σ => bM 43 (aA k) (aW [5,44,45,46,47,48,49,50,51] (bE σ))) (fun k=>k≤p.seqs.length ∧ ∀ i,i<k→gU p (p.seqs.getD i default)=true) (fun k=>p.seqs.length - k) 0 (aC ?_) ⟨Nat.zero_le _,by omega⟩ ?_
    ·simp only [go_sem,Nat.reduceLT,↓reduceIte,Nat.reduceLeDiff,Nat.reduceEqDiff,reduceCtorEq]<;>simp
    ·rintro k ⟨hk,hi⟩;refine aB _ ?_;simp only [go_sem,↓reduceIte,Nat.reduceEqDiff,reduceCtorEq];refine ⟨fun hlt=>?_,fun hge=>?_⟩
     ·simp only [decide_eq_true_eq] at hlt;have hmem:p.seqs.getD k default∈p.seqs:=aR (by omega);have hok:=aL5 (hS2.2 _ hmem) (by rw [Bool.and_eq_true,List.all_eq_true,List.all_eq_true] at hO;exact hO.2 _ hmem);unfold awS;simp only [go_sem,↓reduceIte,Nat.reduceAdd,Nat.reduceLeDiff,Nat.reduceEqDiff];refine ⟨⟨by omega,by omega⟩,_,cCompl p _ hok.hv hok.hs hok.hm,?_⟩;simp only [go_sem];refine brW (b := !gU p (p.seqs.getD k default)) ?_ ⟨fun hc=>?_,fun hc=>?_⟩
      ·rfl
      ·unfold awS;simp only [go_sem,↓reduceIte,Nat.reduceLeDiff,Nat.reduceEqDiff];exact ⟨sC,by unfold dR;rw [hS,hO,hU,bX (d:=default) (p:=gU p) (k:=k) (by omega) (nt hc)];rfl⟩
      ·unfold awS;simp only [go_sem,↓reduceIte];refine ⟨k+1,aC ?_,⟨by omega,upto hi (nf hc)⟩,by omega⟩;simp only [go_sem,Nat.reduceLT,↓reduceIte,Nat.reduceLeDiff,Nat.reduceEqDiff,reduceCtorEq]<;>simp [bF (show k<9223372036854775807 by omega)]
     ·simp only [decide_eq_false_iff_not] at hge;have hC:p.seqs.all (gU p)=true:=cC (d:=default) (p:=gU p) (fun i h2=>hi i (by omega));have hSh:=Xn hS hO hC;unfold awS;simp only [go_sem,↓reduceIte,Nat.reduceAdd,reduceCtorEq];refine aE (fun (k:Nat) σ => qF 3 (.map (kE (cH p (p.seqs.take k) []).2)) (bM 56 (aA k) (aW [8,57,58,59,60,61,62,63,64,65,66] (bE σ)))) (fun k=>k≤p.seqs.length∧(cH p (p.seqs.take k) []).1=true) (fun k=>p.seqs.length - k) 0 (aC ?_) ⟨Nat.zero_le _,rfl⟩ ?_
      ·simp only [go_sem,Nat.reduceLT,↓reduceIte,Nat.reduceLeDiff,Nat.reduceEqDiff,reduceCtorEq]<;>simp [cH,kE]
      ·rintro k ⟨hk,hok⟩;refine aB _ ?_;simp only [go_sem,↓reduceIte,Nat.reduceEqDiff,reduceCtorEq];refine ⟨fun hlt=>?_,fun hge=>?_⟩
       ·simp only [decide_eq_true_eq] at hlt;have hk':k<p.seqs.length:=by omega
        obtain ⟨s,hs⟩:∃ s,s=p.seqs.getD k default:=⟨_,rfl⟩
        have hmem:s∈p.seqs:=by rw [hs];exact aR hk'
        obtain ⟨r,hr⟩:∃ r,r=cH p (p.seqs.take k) []:=⟨_,rfl⟩
        have hsn:=Hm p s (p.seqs.take k) [];rw [← hr,if_pos (hr ▸ hok),hs, ← dD hk', ← hs] at hsn;rw [← hr];have hseq:(gW p.seqs s.name).isSome=true:=by
         cases h9:gW p.seqs s.name with
         | none=>exact absurd rfl (jG.1 h9 s hmem)
         | some _=>rfl
        have hun:unk p.seqs r.2<p.seqs.length+1:=Nat.lt_succ_of_le (List.length_filter_le _ _);unfold awS;simp only [go_sem,↓reduceIte,Nat.reduceAdd,Nat.reduceLeDiff,Nat.reduceEqDiff];rw [← hs];refine ⟨⟨by omega,by omega⟩,Df Tryz.X43 (Dk (aQ0 p hSh (p.seqs.length+1) s.name r.2 hseq hun) [3] rfl (by omega) (by decide) ?_ rfl rfl rfl rfl ?_)⟩
        ·simp only [go_sem,Nat.reduceLT,↓reduceIte,Nat.reduceEqDiff,(qJ id _).2,(qJ _ _).1]
        ·simp only [go_sem,Nat.reduceLT,↓reduceIte,Nat.reduceAdd,Nat.reduceSub,Nat.reduceEqDiff,reduceCtorEq];refine brW (b:=decide ((bB p (p.seqs.length+1) s.name r.2).1=0)) ?_ ⟨fun h0=>?_,fun h0=>?_⟩
         ·rfl
         ·rw [decide_eq_true_eq] at h0;rw [if_pos h0] at hsn;have hst:=Hj (p:=p) (xs:=p.seqs.take (k+1)) (K:=[]) (p.seqs.drop (k+1)) (by rw [hsn]);rw [List.take_append_drop,hsn] at hst;unfold awS;simp only [go_sem,↓reduceIte,Nat.reduceLeDiff,Nat.reduceEqDiff];exact ⟨sC,by unfold dR;rw [hS,hO,hU,hC,hst];rfl⟩
         ·rw [decide_eq_false_iff_not] at h0;rw [if_neg h0] at hsn;unfold awS;simp only [go_sem,↓reduceIte];refine ⟨k+1,aC ?_,⟨by omega,by rw [hsn]⟩,by omega⟩;simp only [go_sem,Nat.reduceLT,↓reduceIte,Nat.reduceLeDiff,Nat.reduceEqDiff,reduceCtorEq];rw [hsn];simp [bF (show k<9223372036854775807 by omega),qJ]
       ·simp only [decide_eq_false_iff_not] at hge;rw [List.take_of_length_le (show p.seqs.length≤k by omega)] at hok;unfold awS;simp only [go_sem,↓reduceIte,reduceCtorEq];rw [List.take_of_length_le (show p.seqs.length≤k by omega)];obtain ⟨KK,hKK⟩:∃ KK,KK=(cH p p.seqs []).2:=⟨_,rfl⟩
        rw [← hKK];refine aE (fun (k:Nat) σ => bM 70 (aA k) (aW [10,71,72,73,74,75,76,77,78,79] (bE σ))) (fun k=>k≤p.seqs.length ∧ ∀ i,i<k→At KK (p.seqs.getD i default)=true) (fun k=>p.seqs.length - k) 0 (aC ?_) ⟨Nat.zero_le _,by omega⟩ ?_
        ·simp only [go_sem,Nat.reduceLT,↓reduceIte,Nat.reduceLeDiff,Nat.reduceEqDiff,reduceCtorEq]<;>simp
        ·rintro k ⟨hk,hi⟩;refine aB _ ?_;simp only [go_sem,↓reduceIte,Nat.reduceEqDiff,reduceCtorEq];refine ⟨fun hlt=>?_,fun hge=>?_⟩
         ·simp only [decide_eq_true_eq] at hlt;obtain ⟨s,hs⟩:∃ s,s=p.seqs.getD k default:=⟨_,rfl⟩
          unfold awS;rcases hg:Hx s.name KK with _ | v
          all_goals
           simp only [go_sem,↓reduceIte,Nat.reduceAdd,Nat.reduceLeDiff,Nat.reduceEqDiff, ← hs,Md,hg,Option.map_none,Option.map_some];refine ⟨⟨by omega,by omega⟩,?_⟩;refine brW (b := !At KK (p.seqs.getD k default)) ?_ ⟨fun hc=>?_,fun hc=>?_⟩
           ·rw [pD];unfold At dF;rw [← hs,hg];rfl
           ·unfold awS;simp only [go_sem,↓reduceIte,Nat.reduceLeDiff,Nat.reduceEqDiff];exact ⟨sC,by unfold dR;rw [hS,hO,hU,hC,hok, ← hKK,bX (d:=default) (p:=At KK) (k:=k) (by omega) (nt hc)];rfl⟩
           ·unfold awS;simp only [go_sem,↓reduceIte];refine ⟨k+1,aC ?_,⟨by omega,upto hi (nf hc)⟩,by omega⟩;simp only [go_sem,Nat.reduceLT,↓reduceIte,Nat.reduceLeDiff,Nat.reduceEqDiff,reduceCtorEq]<;>simp [bF (show k<9223372036854775807 by omega)]
         ·simp only [decide_eq_false_iff_not] at hge;unfold awS;simp only [go_sem,↓reduceIte,Nat.reduceLeDiff,Nat.reduceEqDiff];exact ⟨sC,by unfold dR;rw [hS,hO,hU,hC,hok, ← hKK,cC (d:=default) (p:=At KK) (fun i h2=>hi i (by omega))];rfl⟩
abbrev nilV:V := .t (.lit (.slice none 0 0))
