/- Proved here: Contracts of a sound track's index and of its search, for use in the proofs of the given statements; conditions stand in each theorem. -/
import Derived.Test.YtkjdkbmfaamhaaaGreatYL
import Derived.Test.YtkjdkbmfaamhaaaGreatVA
import Derived.Test.YtkjdkbmfaamhaaaGreatZL
import Derived.Test.YtkjdkbmfaamhaaaGreatVB
set_option linter.unusedSimpArgs false
set_option linter.unusedVariables false
set_option linter.unusedSectionVars false
set_option linter.unnecessarySimpa false
namespace Go.Proofs.YtkjdkbmfaamhaaaGreat
open Go.RowKit
set_option maxRecDepth 4000
def begsT (t:List ClipR):List Int:=(List.range t.length).map fun i=>totL (t.take i)
def trkC (t:List ClipR):List T:=[tclips t,tints (begsT t),ti (totL t)]
abbrev vtrk (t:List ClipR):V := .agg [.t (tclips t), .t (tints (begsT t)),vint (totL t)]
theorem begs_len (t:List ClipR):(begsT t).length=t.length:=by unfold begsT;simp
theorem begs_nth {t:List ClipR} {x:Nat} (h:x<t.length) (d:List T):nth d ((begsT t).map intC) x = [ti (totL (t.take x))]:=by
 unfold nth begsT
 rw [List.getElem?_map,List.getElem?_map,List.getElem?_range h]
 rfl
theorem begs_take {t:List ClipR} {k:Nat} (h:k<t.length):begsT (t.take (k+1))=begsT (t.take k) ++ [totL (t.take k)]:=by
 unfold begsT
 rw [List.length_take,List.length_take,Nat.min_eq_left (by omega),Nat.min_eq_left (by omega),List.range_succ,List.map_append]
 congr 1
 ·refine List.map_congr_left fun i hi=>?_
  rw [List.mem_range] at hi
  rw [List.take_take,List.take_take,Nat.min_eq_left (by omega),Nat.min_eq_left (by omega)]
 ·simp [List.take_take]
theorem cNewTrack (t : List ClipR) (hv : vTrack t = true) : CPure Tryz.prog 44 [.t (tclips t)] (vtrk t) := by
  have hv' := hv
  unfold vTrack at hv'
  simp only [Bool.and_eq_true, decide_eq_true_eq, List.all_eq_true] at hv'
  obtain ⟨⟨h64, hvc⟩, hsum⟩ := hv'
  have hpos : ∀ c ∈ t, 1 ≤ c.len ∧ c.len ≤ 2147483647 := fun c hc => vClip_len (hvc c hc)
  refine cpure_of Tryz.xen44 Tryz.func44 rfl Tryz.ntmps44 (by rw [Tryz.results44]) (aw_ok _ ?_)
  simp only [go_sem, simprocAttr]
  refine awp_loop_f (fun (k : Nat) σ => { fr := (deadS [5, 11, 12, 13, 14, 15, 16, 17, 18, 19, 20, 21, 22, 23, 24, 25, 26, 27] (setS 10 (vint k) σ)).fr, h := [(2, .row 2 1 (intC 0) (tRows ((begsT (t.take k)).map intC))), (1, .box [.t (tclips t), .own 2, vint (totL (t.take k))]), (0, .box [.t (.lit (.slice none 0 0)), .t (.lit (.slice none 0 0)), vint 0])], nx := 3 })
    (fun k => k ≤ t.length) (fun k => t.length - k) 0 (weak_of [(2, none), (1, some 1), (0, some 0)] ?_) (Nat.zero_le _) ?_
  · simp only [go_sem, simprocAttr] <;> simp [tRows, begsT, totL_nil]
  · intro k hk
    refine aw_ok _ ?_
    simp only [go_sem, simprocAttr]
    refine ⟨fun hlt => ?_, fun hge => ?_⟩
    · simp only [bxx] at hlt
      have hkl : k < t.length := by omega
      have tk := totL_take t k hkl
      have b0 := totL_bound (t.take k) fun c hc => hpos c (List.mem_of_mem_take hc)
      have b1 := totL_bound (t.take (k + 1)) fun c hc => hpos c (List.mem_of_mem_take hc)
      have hlt' : (t.take k).length = k := by rw [List.length_take]; omega
      have hw : IntKind.i64.wrap (totL (t.take k) + (t.getD k default).len) = totL (t.take (k + 1)) := by
        rw [← tk, wrap64 (by omega) (by have : (t.take (k + 1)).length ≤ 64 := by rw [List.length_take]; omega
                                        omega)]
      have hel : (begsT (t.take k)).length = k := by rw [begs_len, hlt']
      have hwk : IntKind.i64.wrap ((k : Int) + 1) = ((k + 1 : Nat) : Int) := by rw [wrap1 (by omega)]; omega
      unfold awS
      simp only [go_sem, simprocAttr, hw]
      refine ⟨⟨by omega, by omega⟩, ⟨by unfold maxLen; omega, by omega⟩, k + 1, weak_of [(2, some 5), (1, some 1), (0, some 0)] ?_, by omega, by omega⟩
      simp only [go_sem, simprocAttr, hwk]
      rw [begs_take hkl, List.map_append]
      exact ⟨by simp, rfl, by simp⟩
    · simp only [bxx] at hge
      have : k = t.length := by omega
      subst this
      unfold awS
      simp only [go_sem, simprocAttr, List.take_length]
abbrev capT (t:List ClipR):V := .elem 3 (trkC t) [trkC t] 0 0
theorem cLessB (t:List ClipR) (n:Int) {x:Nat} (hx:x<t.length):CPure Tryz.prog 88 [vint x,capT t,capN n] (vbool (decide (n<totL (t.take x)))):=by
 refine cpure_of Tryz.xen88 Tryz.func88 rfl Tryz.ntmps88 (by rw [Tryz.results88]) (aw_ok _ ?_)
 simp only [go_sem,simprocAttr]
 refine drawR_of [0,1,2,3,4,5,6,7] .done rfl (by kernel_rfl) (by kernel_rfl) (by decide) ?_
 simp only [go_sem,simprocAttr,nth_one,trkC,begs_nth hx,begs_len]
 omega
theorem cSearchB (t:List ClipR) (n:Int) (r:Nat) (h64:t.length≤64) (hr:r≤t.length) (h1:∀ x,x<r→totL (t.take x)≤n) (h2:∀ x,r≤x→x<t.length→n<totL (t.take x)) :
  CPure Tryz.prog 87 [vint t.length, .clo 88 [capT t,capN n]] (vint r):=by
 refine cpure_of Tryz.xen87 Tryz.func87 rfl Tryz.ntmps87 (by rw [Tryz.results87]) (aw_ok _ ?_)
 simp only [go_sem,simprocAttr]
 refine awp_loop_f (fun (x:Nat×Nat) σ => setS 5 (vint x.1) (setS 6 (vint x.2) (deadS [7,9,10,11,12,13,14,15,16,17,18,19,20,21,22,23,24] σ))) (fun x=>x.1≤r∧r≤x.2∧x.2≤t.length) (fun x=>x.2 - x.1) (0,t.length) (weak_self ?_) ⟨Nat.zero_le _,hr,Nat.le_refl _⟩ ?_
 ·simp only [go_sem,simprocAttr]<;>simp
 ·rintro ⟨i,j⟩ ⟨hi,hj,hjl⟩
  simp only at hi hj hjl
  refine aw_ok _ ?_
  simp only [go_sem,simprocAttr]
  refine ⟨fun hlt=>?_,fun hge=>?_⟩
  ·simp only [bxx] at hlt
   have w1:IntKind.i64.wrap ((i:Int)+(j:Int))=((i+j:Nat):Int):=by rw [wrap64 (by omega) (by omega)];omega
   have w2:IntKind.u64.wrap ((i+j:Nat):Int)=((i+j:Nat):Int):=wNU (by omega)
   have p2:(2:Int) ^ min (Int.toNat 1) 64=2:=by decide
   have p3:(2:Int) ^ min 1 64=2:=by decide
   have d2:((i+j:Nat):Int) / 2=(((i+j) / 2:Nat):Int):=rfl
   have w3:IntKind.i64.wrap (((i+j) / 2:Nat):Int)=(((i+j) / 2:Nat):Int):=wrapN (by omega)
   have hh1:i≤(i+j) / 2:=by omega
   have hh2:(i+j) / 2<j:=by omega
   unfold awS
   simp only [go_sem,simprocAttr,w1,w2,p2,p3,d2,w3]
   obtain ⟨x,hx⟩:∃ x,x=(i+j) / 2:=⟨_,rfl⟩
   rw [← hx] at hh1 hh2 ⊢
   refine lcall_pure (cLessB t n (x:=x) (by omega)) rfl ?_
   simp only [go_sem,simprocAttr]
   refine ⟨fun h3=>?_,fun h3=>?_⟩
   ·simp only [bxx] at h3
    have hxr:x<r:=by
     rcases Nat.lt_or_ge x r with h4 | h4
     ·exact h4
     ·exact absurd (h2 x h4 (by omega)) h3
    unfold awS
    simp only [go_sem,simprocAttr]
    refine ⟨(x+1,j),weak_self ?_,⟨by simp only;omega,hj,hjl⟩,by simp only;omega⟩
    simp only [go_sem,simprocAttr]<;>simp [wrap1 (show x<9223372036854775807 by omega)]
   ·have h3':n<totL (t.take x):=by simpa using h3
    have hxr:r≤x:=by
     rcases Nat.lt_or_ge x r with h4 | h4
     ·have:=h1 x h4;omega
     ·exact h4
    unfold awS
    simp only [go_sem,simprocAttr]
    refine ⟨(i,x),weak_self ?_,⟨hi,hxr,by simp only;omega⟩,by simp only;omega⟩
    simp only [go_sem,simprocAttr]
  ·simp only [bxx] at hge
   have:i=r:=by omega
   subst this
   unfold awS
   simp only [go_sem,simprocAttr]
open Go.RowKit
set_option maxRecDepth 4000
abbrev noClip:V := .tup [.agg zVs,vint 0,vbool false]
theorem cAtOut (t:List ClipR) (f:Int) (h:f<0∨totL t≤f):CPure Tryz.prog 50 [vtrk t,vint f] noClip:=by
 refine cpure_of Tryz.xen50 Tryz.func50 rfl Tryz.ntmps50 (by rw [Tryz.results50]) (aw_ok _ ?_)
 simp only [go_sem,simprocAttr]
 refine ⟨fun h2=>?_,fun h2=>?_⟩
 ·unfold awS
  simp only [go_sem,simprocAttr]
  exact ⟨rfl,rfl⟩
 ·exfalso
  simp only [bxx] at h2
  omega
theorem totL_mono {t:List ClipR} (hp:∀ c∈t,1≤c.len):∀ (j i:Nat),i≤j→j≤t.length→totL (t.take i)≤totL (t.take j)
 | 0,i,h,_=>by
  have:i=0:=by omega
  subst this
  exact Int.le_refl _
 | j+1,i,h,hj=>by
  rcases Nat.lt_or_ge i (j+1) with h1 | h1
  ·have h2:=totL_mono hp j i (by omega) (by omega)
   have h3:=totL_take t j (by omega)
   have h4:=hp _ (mem_getD (d:=default) (show j<t.length by omega))
   omega
  ·have:i=j+1:=by omega
   subst this
   exact Int.le_refl _
theorem cAtIn (t:List ClipR) (f:Int) (h64:t.length≤64) (hp:∀ c∈t,1≤c.len) (ht:totL t≤2147483647) {i:Nat} (hi:i<t.length) (h0:totL (t.take i)≤f) (h1:f<totL (t.take i)+(t.getD i default).len) (hz : 0≤f) :
  CPure Tryz.prog 50 [vtrk t,vint f] (if (t.getD i default).kind=0 then noClip else .tup [vclip (t.getD i default),vint (totL (t.take i)),vbool true]):=by
 have htk:=totL_take t i hi
 have hm:=totL_mono hp t.length (i+1) (by omega) (Nat.le_refl _)
 rw [List.take_length] at hm
 refine cpure_of Tryz.xen50 Tryz.func50 rfl Tryz.ntmps50 (by rw [Tryz.results50]) (aw_ok _ ?_)
 simp only [go_sem,simprocAttr]
 refine ⟨fun h2=>?_,fun h2=>?_⟩
 ·exfalso
  simp only [bxx] at h2
  omega
 ·unfold awS
  simp only [go_sem,simprocAttr,begs_len]
  have hsr:=cSearchB t f (i+1) h64 (by omega) (fun x hx=>by have:=totL_mono hp i x (by omega) (by omega);omega) (fun x hx hx2=>by have:=totL_mono hp x (i+1) (by omega) (by omega);omega)
  have w1:IntKind.i64.wrap (((i+1:Nat):Int) - 1)=(i:Int):=by rw [wrap64 (by omega) (by omega)];omega
  refine lcall_lend ?_
  simp only [go_sem,simprocAttr,begs_len]
  refine ⟨_,hsr,rfl,?_⟩
  simp only [go_sem,simprocAttr,w1,begs_len]
  refine ⟨by omega,fun h3=>?_,fun h3=>?_⟩
  ·simp only [bxx] at h3
   unfold awS
   simp only [go_sem,simprocAttr]
   rw [if_pos (by omega)]
   exact ⟨rfl,rfl⟩
  ·simp only [bxx] at h3
   unfold awS
   simp only [go_sem,simprocAttr]
   refine drawC_of 13 .done rfl (by kernel_rfl) (by kernel_rfl) (by decide) ?_
   simp only [go_sem,simprocAttr,begs_nth hi,begs_len]
   have hk : ¬ (t.getD i default).kind=0:=by omega
   rw [if_neg hk]
   exact ⟨by omega,by omega,by kernel_rfl,rfl,rfl⟩
open Go.RowKit
set_option maxRecDepth 4000
abbrev vtone (n:Int) (a b c d:Int):V := .agg [vint n,vint a,vint b,vint c,vint d]
theorem cChannel0 (n a b c d i:Int) (h:i<0∨n≤i):CPure Tryz.prog 92 [vtone n a b c d,vint i] (vint 0):=by
 refine cpure_of Tryz.xen92 Tryz.func92 rfl Tryz.ntmps92 (by rw [Tryz.results92]) (aw_ok _ ?_)
 simp only [go_sem,simprocAttr]
 refine ⟨fun h2=>?_,fun h2=>?_⟩
 ·unfold awS
  simp only [go_sem,simprocAttr]
 ·exfalso
  simp only [bxx] at h2
  omega
theorem cChannel1 (n a b c d:Int) (i:Nat) (h:i<4) (hn:(i:Int)<n):CPure Tryz.prog 92 [vtone n a b c d,vint i] (vint ([a,b,c,d].getD i 0)):=by
 refine cpure_of Tryz.xen92 Tryz.func92 rfl Tryz.ntmps92 (by rw [Tryz.results92]) (aw_ok _ ?_)
 simp only [go_sem,simprocAttr]
 refine ⟨fun h2=>?_,fun h2=>?_⟩
 ·exfalso
  simp only [bxx] at h2
  omega
 ·unfold awS
  rcases i with _ | _ | _ | _ | i
  ·simp only [go_sem,simprocAttr]
  ·simp only [go_sem,simprocAttr]
  ·simp only [go_sem,simprocAttr]
  ·simp only [go_sem,simprocAttr]
  ·omega
open Go.RowKit
set_option maxRecDepth 4000
theorem cBetween0 (m:V) (d:Int) (n a b c e n2 a2 b2 c2 e2:Int):CPure Tryz.prog 127 [m,vtone n a b c e,vtone n2 a2 b2 c2 e2,vint 0,vint d] (vtone n a b c e):=by
 refine cpure_of Tryz.xen127 Tryz.func127 rfl Tryz.ntmps127 (by rw [Tryz.results127]) (aw_ok _ ?_)
 simp only [go_sem,simprocAttr]
open Go.RowKit
set_option maxRecDepth 4000
abbrev MapT:=List (Value×Bool×List T)
abbrev vmix (R A Q:MapT):V := .elem 3 [.map R, .map A, .map Q] [[.map R, .map A, .map Q]] 0 0
theorem cRateM (R A Q:MapT) (s:SourceR) (hk:s.kind=1) (r:RatR) (hR:kindsT .string R=true) (hl:lookT (.string s.name) R=some (vrat r)):CPure Tryz.prog 125 [vmix R A Q,vsource s] (vrat r):=by
 refine cpure_of Tryz.xen125 Tryz.func125 rfl Tryz.ntmps125 (by rw [Tryz.results125]) (aw_ok _ ?_)
 simp only [go_sem,simprocAttr,hk]
 refine drawC_of 8 .done rfl (by kernel_rfl) (by kernel_rfl) (by decide) ?_
 simp only [go_sem,simprocAttr,nth_one,hl,hR]
 kernel_rfl
open Go.RowKit
set_option maxRecDepth 4000
def I16 (x:Int):Prop := -32768≤x∧x≤32767
theorem near_64 {x n:Int} {d:Nat} (hx : -65535≤x∧x≤65535) (hn : 0≤n∧n<d) (hd : 1≤d) : -65535≤near x ((n:Rat) / ((d:Int):Rat))∧near x ((n:Rat) / ((d:Int):Rat))≤65535:=by
 have dp:=ratpos (d:=(d:Int)) (by omega)
 have n0:(0:Rat)≤(n:Rat):=by exact_mod_cast hn.1
 have n1:(n:Rat)≤((d:Int):Rat):=by exact_mod_cast (show n≤(d:Int) by omega)
 obtain ⟨u,hu⟩:∃ u:Rat,u=(n:Rat) / ((d:Int):Rat):=⟨_,rfl⟩
 have hu2:((d:Int):Rat)*u=n:=by rw [hu];grind
 rw [← hu]
 have u0 : 0≤u:=nonneg_of dp (by grind)
 have u1 : 0≤1 - u:=nonneg_of dp (by grind)
 rcases Int.le_total 0 x with h | h
 ·have:=near_le (x:=x) u0 (by grind) h
  omega
 ·have:=near_ge (x:=x) u0 (by grind) h
  omega
theorem cBetween2 (m:V) (hm:m.pure=true) (n:Int) (d:Nat) (hn : 0<n∧n<d) (hd:d<35184372088832) (a b a2 b2:Int) (ha:I16 a) (hb:I16 b) (ha2:I16 a2) (hb2:I16 b2) :
  CPure Tryz.prog 127 [m,vtone 2 a b 0 0,vtone 2 a2 b2 0 0,vint n,vint d] (vtone 2 (a+near (a2 - a) ((n:Rat) / ((d:Int):Rat))) (b+near (b2 - b) ((n:Rat) / ((d:Int):Rat))) 0 0):=by
 unfold I16 at ha hb ha2 hb2
 have na:=near_64 (x:=a2 - a) (n:=n) (d:=d) (by omega) (by omega) (by omega)
 have nb:=near_64 (x:=b2 - b) (n:=n) (d:=d) (by omega) (by omega) (by omega)
 have bd:∀ x:Int, -65535≤x∧x≤65535 → -4611686018427387904<x*n∧x*n<4611686018427387904:=fun x hx=>by
  have h1:(x*n).natAbs≤65535*35184372088832:=by rw [Int.natAbs_mul];exact Nat.mul_le_mul (by omega) (by omega)
  omega
 have p1:=cPortion (a2 - a) n d ⟨by omega,by omega⟩ ⟨by omega,by omega⟩ (bd _ (by omega)) (by omega) (by omega)
 have p2:=cPortion (b2 - b) n d ⟨by omega,by omega⟩ ⟨by omega,by omega⟩ (bd _ (by omega)) (by omega) (by omega)
 generalize near (a2 - a) ((n:Rat) / ((d:Int):Rat))=u at *
 generalize near (b2 - b) ((n:Rat) / ((d:Int):Rat))=v at *
 refine cpure_of Tryz.xen127 Tryz.func127 rfl Tryz.ntmps127 (by rw [Tryz.results127]) (aw_ok _ ?_)
 simp only [go_sem,simprocAttr]
 refine ⟨fun h=>?_,fun h=>?_⟩
 ·exfalso
  simp only [bxx] at h
  omega
 unfold awS
 simp only [go_sem,simprocAttr]
 refine awp_loopL ?_
 refine awpL_step (aw_ok _ ?_)
 simp only [go_sem,simprocAttr]
 refine ⟨fun _=>?_,fun h=>absurd h (by decide)⟩
 unfold awS
 simp only [go_sem,simprocAttr]
 refine drawC_of 20 .done rfl (by kernel_rfl) (by kernel_rfl) (by decide) ?_
 simp only [go_sem,simprocAttr,wrap64 (x:=a2 - a) (by omega) (by omega)]
 refine ⟨_,p1,?_⟩
 simp only [go_sem,simprocAttr,wrap64 (x:=a+u) (by omega) (by omega)]
 refine ⟨by kernel_rfl,?_⟩
 have ww1:IntKind.i64.wrap 1=1:=by decide
 have ww2:IntKind.i64.wrap 2=2:=by decide
 refine awpL_step (aw_ok _ ?_)
 simp only [go_sem,simprocAttr,ww1,ww2]
 refine ⟨fun _=>?_,fun h=>absurd h (by decide)⟩
 unfold awS
 simp only [go_sem,simprocAttr,ww1,ww2]
 refine drawC_of 20 .done rfl (by kernel_rfl) (by kernel_rfl) (by decide) ?_
 simp only [go_sem,simprocAttr,ww1,ww2,wrap64 (x:=b2 - b) (by omega) (by omega)]
 refine ⟨_,p2,?_⟩
 simp only [go_sem,simprocAttr,ww1,ww2,wrap64 (x:=b+v) (by omega) (by omega)]
 refine ⟨by kernel_rfl,?_⟩
 refine awpL_step (aw_ok _ ?_)
 simp only [go_sem,simprocAttr,ww1,ww2]
 refine ⟨fun h=>absurd h (by decide),fun _=>?_⟩
 unfold awS
 simp only [go_sem,simprocAttr,ww1,ww2]
open Go.RowKit
set_option maxRecDepth 4000
theorem cBetween1 (m:V) (hm:m.pure=true) (n:Int) (d:Nat) (hn : 0<n∧n<d) (hd:d<35184372088832) (a a2:Int) (ha:I16 a) (ha2:I16 a2) :
  CPure Tryz.prog 127 [m,vtone 1 a 0 0 0,vtone 1 a2 0 0 0,vint n,vint d] (vtone 1 (a+near (a2 - a) ((n:Rat) / ((d:Int):Rat))) 0 0 0):=by
 unfold I16 at ha ha2
 have na:=near_64 (x:=a2 - a) (n:=n) (d:=d) (by omega) (by omega) (by omega)
 have bd:∀ x:Int, -65535≤x∧x≤65535 → -4611686018427387904<x*n∧x*n<4611686018427387904:=fun x hx=>by
  have h1:(x*n).natAbs≤65535*35184372088832:=by rw [Int.natAbs_mul];exact Nat.mul_le_mul (by omega) (by omega)
  omega
 have p1:=cPortion (a2 - a) n d ⟨by omega,by omega⟩ ⟨by omega,by omega⟩ (bd _ (by omega)) (by omega) (by omega)
 generalize near (a2 - a) ((n:Rat) / ((d:Int):Rat))=u at *
 refine cpure_of Tryz.xen127 Tryz.func127 rfl Tryz.ntmps127 (by rw [Tryz.results127]) (aw_ok _ ?_)
 simp only [go_sem,simprocAttr]
 refine ⟨fun h=>?_,fun h=>?_⟩
 ·exfalso
  simp only [bxx] at h
  omega
 unfold awS
 simp only [go_sem,simprocAttr]
 refine awp_loopL ?_
 refine awpL_step (aw_ok _ ?_)
 simp only [go_sem,simprocAttr]
 refine ⟨fun _=>?_,fun h=>absurd h (by decide)⟩
 unfold awS
 simp only [go_sem,simprocAttr]
 refine drawC_of 20 .done rfl (by kernel_rfl) (by kernel_rfl) (by decide) ?_
 simp only [go_sem,simprocAttr,wrap64 (x:=a2 - a) (by omega) (by omega)]
 refine ⟨_,p1,?_⟩
 simp only [go_sem,simprocAttr,wrap64 (x:=a+u) (by omega) (by omega)]
 refine ⟨by kernel_rfl,?_⟩
 have ww1:IntKind.i64.wrap 1=1:=by decide
 refine awpL_step (aw_ok _ ?_)
 simp only [go_sem,simprocAttr,ww1]
 refine ⟨fun h=>absurd h (by decide),fun _=>?_⟩
 unfold awS
 simp only [go_sem,simprocAttr,ww1]
end Go.Proofs.YtkjdkbmfaamhaaaGreat
