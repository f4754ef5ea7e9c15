/- Proved here: Rows of which one cell is a row of one's own; conditions stand in each theorem. -/
import Derived.Test.YtbfnemkngoaeeaaGreatQ07
import Derived.Test.YtbfnemkngoaeeaaGreatQ06
import Derived.Test.YtbfnemkngoaeeaaGreatQ27
import Derived.Test.YtbfnemkngoaeeaaGreatQ32
import Derived.Test.YtbfnemkngoaeeaaGreatQ33
set_option linter.unusedSimpArgs false
set_option linter.unusedVariables false
set_option linter.unusedSectionVars false
set_option linter.unnecessarySimpa false
namespace Go.Proofs.YtbfnemkngoaeeaaGreat
open Go.RowKit
set_option maxRecDepth 4000
theorem Sf (ρ : Ren) (h:Heap):∀ x:List T,wkVs ρ h (x.map V.t) (x.map V.t)
 | []=>by simp only [List.map_nil,wkVs]
 | a::x=>by
  simp only [List.map_cons,wkVs,wkV];exact ⟨Gu a,Sf ρ h x⟩
theorem aCw (ρ : Ren) (h:Heap):∀ xs:List (List T),Nk ρ h (aK xs) (aK xs)
 | []=>trivial
 | x::xs=>⟨Sf ρ h x,aCw ρ h xs⟩
theorem By (ρ : Ren) (h:Heap) {k:Nat} (hk : ρ.look k=some (some k)):∀ (xs:List (List T)) (i:Nat),Nk ρ h ((aK xs).set i [.own k]) ((aK xs).set i [.own k])
 | [],_=>trivial
 | x::xs,0=>by
  refine ⟨?_,aCw ρ h xs⟩;simp only [wkVs,wkV,and_true];exact hk
 | x::xs,i+1=>⟨Sf ρ h x,By ρ h hk xs i⟩
theorem Hy {k:Nat}:∀ (xs:List (List T)) (i:Nat),i<xs.length→vC ((aK xs).set i [.own k])=true
 | [],_,h=>absurd h (by simp)
 | x::xs,0,_=>rfl
 | x::xs,i+1,h=>by
  have:=Hy (k:=k) xs i (by simpa using h);show (_||vC ((aK xs).set i [.own k]))=true
  rw [this,Bool.or_true]
theorem Ct {f:V→Option T} (hf:∀ a,f (.t a)=some a):∀ x:List T,lendCs f (x.map V.t)=some x
 | []=>rfl
 | a::x=>by
  simp only [List.map_cons,lendCs,hf,Ct hf x]
theorem Qr {f:V→Option T} (hf:∀ a,f (.t a)=some a):∀ xs:List (List T),lendRs f (aK xs)=some xs
 | []=>rfl
 | x::xs=>by
  show lendRs f (x.map V.t::aK xs)=_
  simp only [lendRs,Ct hf,Qr hf xs]
theorem Kj {f:V→Option T} (hf:∀ a,f (.t a)=some a) {k:Nat} {t:T} (hk:f (.own k)=some t):∀ (xs:List (List T)) (i:Nat),lendRs f ((aK xs).set i [.own k])=some (xs.set i [t])
 | [],_=>rfl
 | x::xs,0=>by
  show lendRs f ([.own k]::aK xs)=_
  simp only [lendRs,lendCs,hk,Qr hf xs];rfl
 | x::xs,i+1=>by
  show lendRs f (x.map V.t::(aK xs).set i [.own k])=_
  simp only [lendRs,Ct hf,Kj hf hk xs i];rfl
theorem Dx {f:V→List Nat} (hf:∀ x,f (.t x) = []) {k:Nat}:∀ (xs:List (List T)) (i:Nat),i<xs.length→reachRs f ((aK xs).set i [.own k])=f (.own k)
 | [],_,h=>absurd h (by simp)
 | x::xs,0,_=>by
  show reachL f [.own k]++reachRs f (aK xs)=_
  rw [wV f hf xs];simp only [reachL,List.append_nil]
 | x::xs,i+1,h=>by
  show reachL f (x.map V.t)++reachRs f ((aK xs).set i [.own k])=_
  rw [vD f hf x,List.nil_append];exact Dx hf xs i (by simpa using h)
open Go.RowKit
set_option maxRecDepth 4000
def Bq (f g:ByteArray) (x:SourceR):SourceR:=if (x.kind==1&&x.name.toList==f.toList)=true then { x with name:=g } else x
def qL (f g:ByteArray) (c:ClipR):Nat→ClipR
 | 0=>c
 | 1 => { c with a:=Bq f g c.a }
 | _ => { c with a:=Bq f g c.a,b:=Bq f g c.b }
theorem Pg (L:List ClipR) (n:Nat) (x y:ClipR) {r:List T} (h:r=ClipR.c y):((L.set n x).map ClipR.c).set n r=(L.set n y).map ClipR.c:=by
 rw [h,List.map_set,List.set_set,List.map_set]
open Go.RowKit
set_option maxRecDepth 4000
def mJ (f g:ByteArray) (c:ClipR):ClipR:=qL f g c 2
def chgT (f g:ByteArray) (ts:List (List ClipR)):List (List ClipR):=ts.map fun t=>t.map (mJ f g)
def chgQ (f g:ByteArray) (s:SequenceR):SequenceR := { s with video:=chgT f g s.video,sound:=chgT f g s.sound }
def aJg (p:ProjR) (f g:ByteArray):ProjR:=⟨p.media,p.seqs.map (chgQ f g)⟩
open Go.RowKit
set_option maxRecDepth 4000
abbrev strP (s:ByteArray):V := .elem 1 [eX s] [[eX s]] 0 0
theorem cSwap2 (f g:ByteArray) (L:List ClipR) (n:Nat) (hn:n<L.length):CIO Tryz.prog 80 1 [(0,qS L)] [.rptr 0 22 n 0,strP f,strP g] (.tup [])
  [(0,qS (L.set n (qL f g (L.getD n default) 2)))] 1:=by
 refine zN Tryz.X80 Tryz.func80 rfl Tryz.ntmps80 (by rw [Tryz.results80]) (aD _ ?_);simp only [go_sem,simprocAttr];refine aV 8 .done rfl (by kernel_rfl) (by kernel_rfl) (by decide) ?_;simp only [go_sem,simprocAttr];refine ⟨by kernel_rfl,?_⟩;obtain ⟨c,hc⟩:∃ c,c=L.getD n default:=⟨_,rfl⟩
 rw [← hc];refine aF (fun (i:Nat) σ => Fd 0 (qS (L.set n (qL f g c i))) (bL 13 (aC i) (aX [5,14,15,16,17,18,19,20,21,22,23,24,25,26,27,28,29,30,31,32,33] (bF σ)))) (fun i=>i≤2) (fun i=>2 - i) 0 (aA ?_) (by omega) ?_
 ·simp only [go_sem,simprocAttr];have e0:L.set n (qL f g c 0)=L:=rZ hn (by rw [hc,aU hn];rfl);rw [e0];exact ⟨by simp,rfl⟩
 ·intro i hi;refine aD _ ?_;simp only [go_sem,simprocAttr];have hnx:∀ x d,nth d ((L.set n x).map ClipR.c) n=ClipR.c x:=fun x d=>by
   unfold nth;rw [List.getElem?_map,List.getElem?_set_self (by omega)];rfl
  have hll:∀ x:ClipR,(L.set n x).length=L.length:=fun x=>List.length_set
  refine ⟨fun hlt=>?_,fun hge=>?_⟩
  ·simp only [bxx] at hlt;rcases (show i=0∨i=1 by omega) with rfl | rfl
   ·unfold awS;simp only [go_sem,simprocAttr];refine bM [0,1,2,3,4,5,6,7,8,9,10,11,12] .done rfl (by kernel_rfl) (by kernel_rfl) (by decide) ?_;simp only [go_sem,simprocAttr,hnx,hll];refine ⟨hn,fun _=>hn,fun h1=>?_,fun h1=>?_⟩
    ·have e1:qL f g c 1 = { qL f g c 0 with a := { (qL f g c 0).a with name:=g } }:=by
      show { qL f g c 0 with a:=Bq f g (qL f g c 0).a }=_
      unfold Bq;rw [if_pos h1]
     unfold awS;simp only [go_sem,simprocAttr,hnx,hll];refine ⟨hn,1,aA ?_,by omega,by omega⟩;simp only [go_sem,simprocAttr];rw [e1];exact ⟨⟨by simp,Pg L n _ _ rfl⟩,by rw [wrap64 (x:=1) (by omega) (by omega)]⟩
    ·have e1:qL f g c 1=qL f g c 0:=by
      show { qL f g c 0 with a:=Bq f g (qL f g c 0).a }=_
      unfold Bq;rw [if_neg (by rw [h1];decide)]
     unfold awS;simp only [go_sem,simprocAttr];refine ⟨1,aA ?_,by omega,by omega⟩;simp only [go_sem,simprocAttr];rw [e1];exact ⟨⟨by simp,rfl⟩,by rw [wrap64 (x:=1) (by omega) (by omega)]⟩
   ·unfold awS;simp only [go_sem,simprocAttr];refine bM [0,1,2,3,4,5,6,7,8,9,10,11,12] .done rfl (by kernel_rfl) (by kernel_rfl) (by decide) ?_;simp only [go_sem,simprocAttr,hnx,hll];refine ⟨hn,fun _=>hn,fun h1=>?_,fun h1=>?_⟩
    ·have e1:qL f g c 2 = { qL f g c 1 with b := { (qL f g c 1).b with name:=g } }:=by
      show { qL f g c 1 with b:=Bq f g (qL f g c 1).b }=_
      unfold Bq;rw [if_pos h1]
     unfold awS;simp only [go_sem,simprocAttr,hnx,hll];refine ⟨hn,2,aA ?_,by omega,by omega⟩;simp only [go_sem,simprocAttr];rw [e1];exact ⟨⟨by simp,Pg L n _ _ rfl⟩,by rw [wrap64 (x:=2) (by omega) (by omega)]⟩
    ·have e1:qL f g c 2=qL f g c 1:=by
      show { qL f g c 1 with b:=Bq f g (qL f g c 1).b }=_
      unfold Bq;rw [if_neg (by rw [h1];decide)]
     unfold awS;simp only [go_sem,simprocAttr];refine ⟨2,aA ?_,by omega,by omega⟩;simp only [go_sem,simprocAttr];rw [e1];exact ⟨⟨by simp,rfl⟩,by rw [wrap64 (x:=2) (by omega) (by omega)]⟩
  ·simp only [bxx] at hge;have:i=2:=by omega
   subst this;unfold awS;simp only [go_sem,simprocAttr];refine aA ?_;simp only [go_sem,simprocAttr];simp
open Go.RowKit
set_option maxRecDepth 4000
def dV {α : Type} (h : α → α) (l:List α) (i:Nat):List α := (l.take i).map h++l.drop i
theorem dX {α : Type} (h : α → α) (l:List α) (i:Nat):(dV h l i).length=l.length:=by
 unfold dV;rw [List.length_append,List.length_map,List.length_take,List.length_drop];omega
theorem nW {α : Type} [Inhabited α] (h : α → α) {l:List α} {i:Nat} (hi:i<l.length):(dV h l i).getD i default=l.getD i default:=by
 rw [List.getD_eq_getElem?_getD,List.getD_eq_getElem?_getD];unfold dV;rw [List.getElem?_append_right (by rw [List.length_map,List.length_take];omega),List.getElem?_drop,List.length_map,List.length_take];congr 2;omega
theorem sE {α : Type} [Inhabited α] (h : α → α) {l:List α} {i:Nat} (hi:i<l.length):(dV h l i).set i (h (l.getD i default))=dV h l (i+1):=by
 unfold dV;have e:l.drop i=l.getD i default::l.drop (i+1):=by rw [List.drop_eq_getElem_cons hi,aU hi]
 rw [e,List.set_append_right _ _ (by rw [List.length_map,List.length_take];omega)];have e2:i - ((l.take i).map h).length=0:=by simp [Nat.min_eq_left (Nat.le_of_lt hi)]
 rw [e2,List.set_cons_zero,bY hi,List.map_append,List.append_assoc];rfl
theorem aFx {L:List ClipR} {j:Nat} (hj:j<L.length) {r:List V} (h:r=(ClipR.c (L.getD j default)).map V.t):(aK (L.map ClipR.c)).set j r=aK (L.map ClipR.c):=by
 refine rZ (by unfold aK;rw [List.length_map,List.length_map];exact hj) ?_;rw [h,aU hj];unfold aK;rw [List.getElem_map,List.getElem_map]
theorem Qj {α : Type} (h : α → α) (l:List α):dV h l 0=l:=rfl
theorem sF {α : Type} (h : α → α) (l:List α):dV h l l.length=l.map h:=by
 unfold dV;rw [List.take_length,List.drop_length,List.append_nil]
set_option maxHeartbeats 4000000 in
theorem aAa (f g:ByteArray) (ts:List (List ClipR)) (h1:ts.length≤65536) (h2:∀ t∈ts,t.length≤65536 ∧ ∀ c∈t,c.chan.length≤65536) :
  aN Tryz.prog 84 [.t (cH ts), .clo 80 [strP f,strP g]] (.t (cH (ts.map fun t=>t.map (mJ f g)))):=by
 refine aH Tryz.X84 Tryz.func84 rfl Tryz.ntmps84 (by rw [Tryz.results84]) (aD _ ?_);simp only [go_sem,simprocAttr];refine gX (aNa ts h1) [] rfl (by omega) (by decide) ?_ rfl rfl rfl rfl ?_
 ·simp only [go_sem,simprocAttr]
 ·simp only [go_sem,simprocAttr,List.getElem?_nil];obtain ⟨C,hC⟩:∃ C:List ClipR→List ClipR,C=fun t=>t.map (mJ f g):=⟨_,rfl⟩
  rw [← hC];refine aF (fun (i:Nat) σ => Fd 0 (Vb (dV C ts i)) (bL 12 (aC i) (aX [5,6,7,14,15,16,17,18,19,20,21,22,23,24,25,26,27,28,29,30,31,32,33,34,35,36,37,38,39,40,41,42,43,44,45,46,47,48,49,50,51,52,53,54] (bF σ)))) (fun i=>i≤ts.length) (fun i=>ts.length - i) 0 (aA ?_) (by omega) ?_
  ·simp only [go_sem,simprocAttr];simp [dV]
  ·intro i hi;refine aD _ ?_;simp only [go_sem,simprocAttr];refine ⟨fun hlt=>?_,fun hge=>?_⟩
   ·simp only [bxx] at hlt;have hil:i<ts.length:=by omega
    obtain ⟨L,hL⟩:∃ L,L=ts.getD i default:=⟨_,rfl⟩
    have hLm:L∈ts:=by rw [hL];exact aQ hil
    obtain ⟨q1,q2⟩:=h2 L hLm;have hnt:∀ d,nth d ((dV C ts i).map bS) i=bS L:=fun d=>by
     unfold nth;have e0:=nW C hil;rw [List.getD_eq_getElem?_getD] at e0;have hlt2:i<(dV C ts i).length:=by rw [dX];exact hil
     rw [List.getElem?_eq_getElem hlt2,Option.getD_some] at e0;rw [List.getElem?_map,List.getElem?_eq_getElem hlt2,e0, ← hL];rfl
    have hml:=dX C ts i;unfold awS;simp only [go_sem,simprocAttr,hnt,hml,List.length_map];refine ⟨⟨by omega,by omega⟩,by omega,gX (aNc L q1) [] rfl (by omega) (by decide) ?_ rfl rfl rfl rfl ?_⟩
    ·simp only [go_sem,simprocAttr]
    ·simp only [go_sem,simprocAttr,List.getElem?_nil,hml,List.length_map];refine ⟨⟨by omega,by omega⟩,by omega,?_⟩;obtain ⟨R,hR⟩:∃ R,R=(aK ((dV C ts i).map bS)).set i [V.own 1]:=⟨_,rfl⟩
     have hRl:R.length=ts.length:=by rw [hR,List.length_set];unfold aK;rw [List.length_map,List.length_map,hml]
     have hRn:∀ d,jW d R i = [V.own 1]:=fun d=>by
      unfold jW;rw [hR,List.getElem?_set_self (by unfold aK;rw [List.length_map,List.length_map,hml];exact hil)];rfl
     have hRo:vC R=true:=by rw [hR];exact Hy _ _ (by rw [List.length_map,hml];exact hil)
     rw [← hR];simp only [go_sem,simprocAttr,hRl,hRn];refine ⟨⟨by omega,by omega⟩,by omega,?_⟩;refine aF (fun (j:Nat) σ => Fd 1 (qS (dV (mJ f g) L j)) (bL 27 (aC j) (aX [7,28,29,30,31,32,33,34,35,36,37,38,39,40,41,42,43,44,45,46,47,48,49,50,51,52,53,54] (bF σ)))) (fun j=>j≤L.length) (fun j=>L.length - j) 0 (aA ?_) (by omega) ?_
     ·simp only [go_sem,simprocAttr,hRo];refine ⟨by simp,rfl,?_⟩;rw [hR];exact ⟨by simp,By (k:=1) _ _ (by rfl) _ _⟩
     ·intro j hj;refine aD _ ?_;simp only [go_sem,simprocAttr];refine ⟨fun hlt2=>?_,fun hge2=>?_⟩
      ·simp only [bxx] at hlt2;have hjl:j<L.length:=by omega
       have hn2:∀ d,nth d ((dV (mJ f g) L j).map ClipR.c) j=ClipR.c (L.getD j default):=fun d=>by
        unfold nth;have e0:=nW (mJ f g) hjl;rw [List.getD_eq_getElem?_getD] at e0;have hlt3:j<(dV (mJ f g) L j).length:=by rw [dX];exact hjl
        rw [List.getElem?_eq_getElem hlt3,Option.getD_some] at e0;rw [List.getElem?_map,List.getElem?_eq_getElem hlt3,e0];rfl
       have hml2:=dX (mJ f g) L j;unfold awS;simp only [go_sem,simprocAttr];refine aV 17 .done rfl (by kernel_rfl) (by kernel_rfl) (by decide) ?_;simp only [go_sem,simprocAttr,hRl,hRn,hn2,hml2,List.length_map];refine ⟨⟨by omega,by omega⟩,by omega,⟨by omega,by omega⟩,by omega,⟨by omega,by omega⟩,by omega,_,aNd _ (q2 _ (aQ hjl)),?_⟩;simp only [go_sem,simprocAttr,hRl,hRn,hn2,hml2,List.length_map];rw [aFx (L:=dV (mJ f g) L j) (j:=j) (by rw [dX];exact hjl)]
       ·rw [kS,List.length_map,hml2];refine ⟨⟨by omega,by omega⟩,by omega,by kernel_rfl,⟨by omega,by omega⟩,by omega,⟨by omega,by omega⟩,?_⟩;refine vS Tryz.X80 (gX (cSwap2 f g (dV (mJ f g) L j) j (by rw [dX];exact hjl)) [1] rfl (by omega) (by decide) ?_ rfl rfl rfl rfl ?_)
        ·simp only [go_sem,simprocAttr]
        ·have eM:=sE (mJ f g) hjl;rw [nW (mJ f g) hjl];simp only [go_sem,simprocAttr];refine ⟨j+1,aA ?_,by omega,by omega⟩;simp only [go_sem,simprocAttr,hRo];rw [show (dV (mJ f g) L j).set j (qL f g (L.getD j default) 2)=dV (mJ f g) L (j+1) from eM,bJ (show j<9223372036854775807 by omega)];refine ⟨⟨by simp,rfl,by simp,?_⟩,by simp⟩;rw [hR];exact By (k:=1) _ _ (by rfl) _ _
       ·rw [nW _ hjl];rfl
      ·simp only [bxx] at hge2;have:j=L.length:=by omega
       subst this;unfold awS;simp only [go_sem,simprocAttr];rw [sF];refine ⟨i+1,aW [(0,some 0)] ?_,by omega,by omega⟩;simp only [go_sem,simprocAttr];have hfR:lendRs (aR [(1,qS (L.map (mJ f g))),(0, .row 27 1 (bS []) R)] 6) R=some ((dV C ts (i+1)).map bS):=by
        have hk:aR [(1,qS (L.map (mJ f g))),(0, .row 27 1 (bS []) R)] 6 (.own 1)=some (dD (L.map (mJ f g))):=by
         simp only [go_sem,simprocAttr]<;>rfl
        conv=>lhs;rw [hR]
        rw [Kj (fun a=>by simp only [aR]) (by rw [← hR];exact hk)];have e0:=sE C hil;rw [← hL] at e0;rw [← e0,List.map_set,hC];rfl
       have hfr:reachRs (gQ [(1,qS (L.map (mJ f g))),(0, .row 27 1 (bS []) R)] 8) R = [1]:=by
        conv=>lhs;rw [hR]
        rw [Dx (fun x=>wU _ _ x) _ _ (by rw [List.length_map,hml];exact hil)];simp only [go_sem,simprocAttr]
       rw [hfR,hfr,bJ (show i<9223372036854775807 by omega)];simp only [go_sem,simprocAttr];simp
   ·simp only [bxx] at hge;have:i=ts.length:=by omega
    subst this;unfold awS;simp only [go_sem,simprocAttr];rw [sF]
end Go.Proofs.YtbfnemkngoaeeaaGreat
