/- Proved here: The contract of the reference's Sound. -/
import Derived.Test.YtkjdkbmfaamhaaaGreatQ09
set_option linter.unusedSimpArgs false
set_option linter.unusedVariables false
set_option linter.unusedSectionVars false
set_option linter.unnecessarySimpa false
namespace Go.Proofs.YtkjdkbmfaamhaaaGreat
open Go.RowKit
set_option maxRecDepth 4000
theorem aDf {p:ProjR} {A:List AudioR} {nest:Nat→Int→Ev (List Int)} {x:Rat} {f:Int} {m:Nat}:∀ (ts:List (List ClipR)) (acc l:List Int),(∀ t∈ts,cG t=true ∧ ∀ c∈t,c.kind≠0→c.chan.length=m)→acc.length=m→vJ p A nest x f ts acc = .ok l→l.length=m
 | [],acc,l,_,ha,h=>by
  unfold vJ at h;injection h with h;subst h;exact ha
 | t::ts,acc,l,hc,ha,h=>by
  unfold vJ at h;split at h
  ·cases h
  ·rename_i a hst;refine aDf ts a l (fun t ht=>hc t (by simp [ht])) ?_ h;unfold Km at hst;split at hst
   ·injection hst with hst;subst hst;exact ha
   ·rename_i cb hh;split at hst
    ·cases hst
    ·split at hst
     ·cases hst
     ·rename_i g hg;injection hst with hst;subst hst;obtain ⟨hv,hcl⟩:=hc t (by simp);obtain ⟨h1,h2,_⟩:=Dm hv (c:=cb.1) (b:=cb.2) hh;rw [Pk _ _ (by rw [Fy hg,hcl _ h1 h2,ha]),ha]
theorem Ce {p:ProjR} (hp:PrjV p) {A:List AudioR} {i:Nat} (hi:i<p.seqs.length) {t:Int} {l:List Int} (h:qW p A i t = .ok l):l.length=(p.seqs.getD i default).channels.toNat ∧ ∀ u∈l, -32768≤u∧u≤32767:=by
 rw [qV] at h;refine ⟨?_,(aFc h).1⟩;unfold Ad at h;split at h
 ·cases h
 ·rename_i a ha;injection h with h;subst h;rw [List.length_map];have hs:=hp.seq i hi;refine aDf _ _ _ (fun t ht=>⟨(hs.trk t ht).1,fun c hc hk=>?_⟩) (List.length_replicate ..) ha;rcases ((hs.trk t ht).2 c hc).kind with h | h
  ·exact absurd h hk
  ·have:=h.2;have:=hs.ch;omega
theorem rS {p:ProjR} {A:List AudioR} {i:Nat} {fr0:Int} {j:Nat} {e:Int} (h:dG p A i fr0 j = .error e):∀ (N:Nat),j≤N→dG p A i fr0 N = .error e
 | 0,hN=>by
  have:j=0:=by omega
  subst this;exact h
 | N+1,hN=>by
  rcases Nat.lt_or_ge j (N+1) with h1 | h1
  ·unfold dG;rw [rS h N (by omega)]
  ·have:j=N+1:=by omega
   subst this;exact h
theorem mL {p:ProjR} {A:List AudioR} {i:Nat} {fr0:Int}:∀ {k:Nat} {L:List (List Int)},dG p A i fr0 k = .ok L→L.length=k
 | 0,L,h=>by
  unfold dG at h;injection h with h;subst h;rfl
 | k+1,L,h=>by
  unfold dG at h;split at h
  ·cases h
  ·rename_i M hM;split at h
   ·cases h
   ·injection h with h;subst h;rw [List.length_append,mL hM];rfl
theorem uH {p:ProjR} (hp:PrjV p) {A:List AudioR} {i:Nat} {t e:Int} (h:qW p A i t = .error e):e≠0:=by
 rw [qV] at h;exact aAh (Sb hp A i) h
def mJ (e:Ev (List (List Int))):V :=
 match e with
 | .ok l => .tup [.t (kT l),aA 0]
 | .error e => .tup [.t (.lit (.slice none 0 0)),aA e]
theorem nV_0 (d:List T) (x:List V) (l:List (List V)):pW d (x::l) 0=x:=rfl
theorem nV_1 (d:List T) (x y:List V) (l:List (List V)):pW d (x::y::l) 1=y:=rfl
theorem nV_2 (d:List T) (x y z:List V) (l:List (List V)):pW d (x::y::z::l) 2=z:=rfl
theorem nV_3 (d:List T) (x y z u:List V) (l:List (List V)):pW d (x::y::z::u::l) 3=u:=rfl
theorem pL {l:List Int} {k:Nat} (h:k<l.length) (d:List T):nth d (l.map c16) k=c16 (l.getD k 0):=Vx h d
set_option maxHeartbeats 4000000 in
theorem aP1 {p:ProjR} (h:p.fit) {A:List AudioR} (hA:AudF A) (name:ByteArray) (fr0 n:Int) (hf:I64 fr0) (hn:I64 n) :
  aJ Tryz.prog 11 [jZ p,cA name,aA fr0,aA n, .t (gC A)] (mJ (nJ p A name fr0 n)):=by
 obtain ⟨f1,f2⟩:=hf;obtain ⟨n1,n2⟩:=hn;obtain ⟨R,hR⟩:∃ R,R=nJ p A name fr0 n:=⟨_,rfl⟩
 rw [← hR];unfold nJ at hR;refine aD Tryz.X11 Tryz.func11 rfl Tryz.ntmps11 (by rw [Tryz.results11]) (aB _ ?_);simp only [go_sem,simprocAttr];refine ⟨_,aP0 p h,?_⟩;simp only [go_sem,simprocAttr];refine ⟨fun hv=>?_,fun hv=>?_⟩
 ·rw [bne_iff_ne] at hv;rw [if_pos hv] at hR;rw [hR];unfold mJ;unfold awS;simp only [go_sem,simprocAttr]
 have hv:dR p=0:=by simpa using hv
 have hp:=Uq h hv;rw [if_neg (by rw [hv];simp)] at hR;have cs:=pG p name;have hsi:kW (fun m:SequenceR=>m.name.toList==name.toList) p.seqs=fR p name:=rfl;rw [hsi] at cs;unfold awS;simp only [go_sem,simprocAttr];refine ⟨_,cs,?_⟩;simp only [go_sem,simprocAttr];refine ⟨fun h1=>?_,fun h1=>?_⟩
 ·simp only [bxx] at h1;rw [if_pos h1] at hR;rw [hR];unfold mJ;unfold awS;simp only [go_sem,simprocAttr]
 simp only [bxx] at h1;rw [if_neg h1] at hR;obtain ⟨i,hi,hii,_⟩:=kQ (show 0≤fR p name by omega);rw [hii,Int.toNat_natCast] at hR;rw [hii];unfold awS;simp only [go_sem,simprocAttr];refine aE (fun (k:Nat) σ => bM 14 (aA k) (aW [31,32,33,34,35,36,37,38,39,40,41,42] (bE σ))) (fun k=>k≤A.length ∧ ∀ i,i<k→mE (A.getD i default)=true) (fun k=>A.length - k) 0 (aC ?_) ⟨Nat.zero_le _,fun i hi=>absurd hi (by omega)⟩ ?_
 ·simp only [go_sem,simprocAttr]<;>simp
 ·rintro k ⟨hk,hki⟩;refine aB _ ?_;simp only [go_sem,simprocAttr];have hAl:=hA.len;refine ⟨fun hlt=>?_,fun hge=>?_⟩
  ·simp only [bxx] at hlt;have hkl:k<A.length:=by omega
   have hwk:IntKind.i64.wrap ((k:Int)+1)=((k+1:Nat):Int):=by rw [bF (by omega)];omega
   have cp:=aP4 (A.getD k default) (hA.chs _ (aR hkl));unfold awS;simp only [go_sem,simprocAttr,Ef hkl];refine ⟨⟨by omega,by omega⟩,_,cp,?_⟩;simp only [go_sem,simprocAttr];refine ⟨fun h5=>?_,fun h5=>?_⟩
   ·rw [if_pos (bX hkl (by simpa using h5))] at hR;rw [hR];unfold mJ;unfold awS;simp only [go_sem,simprocAttr]
   ·unfold awS;simp only [go_sem,simprocAttr];refine ⟨k+1,aC ?_,⟨by omega,upto hki (by simpa using h5)⟩,by omega⟩;simp only [go_sem,simprocAttr,hwk];simp
  ·simp only [bxx] at hge;have hall:A.all mE=true:=Eg (d:=default) (by rw [show A.length=k by omega];exact hki);have hP:AudP A:=⟨hA,List.all_eq_true.1 hall⟩
   rw [if_neg (by rw [hall];decide)] at hR;unfold awS;simp only [go_sem,simprocAttr];refine ⟨fun h2=>?_,fun h2=>?_⟩
   ·simp only [bxx] at h2;rw [if_pos h2] at hR;rw [hR];unfold mJ;unfold awS;simp only [go_sem,simprocAttr]
   simp only [bxx] at h2;rw [if_neg h2] at hR;unfold awS;simp only [go_sem,simprocAttr];refine ⟨fun h3=>?_,fun h3=>?_⟩
   ·simp only [bxx] at h3;rw [if_pos (by omega)] at hR;rw [hR];unfold mJ;unfold awS;simp only [go_sem,simprocAttr]
   simp only [bxx] at h3;rw [if_neg (by omega)] at hR;have hq9:=fun d=>Cg hi d
   obtain ⟨_,hfit,hch,_,_⟩:=hp.seq i hi;have hsl:=fun (t:Int) (l:List Int)=>Ce (A:=A) hp hi (t:=t) (l:=l)
   have hse:=fun (t e:Int)=>uH (A:=A) hp (i:=i) (t:=t) (e:=e)
   have hsm:=fun ha t ht=>cRSmp hp hP hi ha t ht
   obtain ⟨s,hs⟩:∃ s,p.seqs.getD i default=s:=⟨_,rfl⟩
   rw [hs] at hR hfit hch hsm;simp only [hs] at hsl;simp only [hs] at hq9;have cau:=Te s.rate hfit.rate;have w1:IntKind.i64.wrap (1099511627776 - n)=1099511627776 - n:=wrap64 (by omega) (by omega);unfold awS;simp only [go_sem,simprocAttr,hq9];refine ⟨⟨by omega,by omega⟩,?_⟩;simp only [go_sem,simprocAttr,w1];refine ⟨_,fun _=>cau,?_⟩;simp only [go_sem,simprocAttr];refine ⟨fun h4=>?_,fun h4=>?_⟩
   ·simp only [Bool.or_eq_true,decide_eq_true_eq,Bool.not_eq_true'] at h4;rw [if_pos (by rcases h4 with (h4 | h4) | h4<;>simp [h4])] at hR;rw [hR];unfold mJ;unfold awS;simp only [go_sem,simprocAttr]
   simp only [Bool.or_eq_false_iff,decide_eq_false_iff_not,Bool.not_eq_false'] at h4;obtain ⟨⟨h4,h5⟩,hau⟩:=h4;have hsm:=hsm hau;rw [if_neg (by
    rw [hau];rintro (h | h | h)
    ·omega
    ·omega
    ·cases h)] at hR
   obtain ⟨m,hm⟩:=eW (n:=s.channels) (by omega);have hmt:s.channels.toNat=m:=by omega
   rw [hmt] at hR;simp only [hmt] at hsl;obtain ⟨N,hN⟩:=eW (n:=n) (by omega);subst hN;rw [Int.toNat_natCast] at hR;unfold awS;simp only [go_sem,simprocAttr,hm];refine ⟨⟨by omega,by unfold maxLen;omega,by omega⟩,?_⟩;clear cau cs hse hki hq9;have ww1:IntKind.i64.wrap 1=1:=by decide
   have ww2:IntKind.i64.wrap 2=2:=by decide
   have ww3:IntKind.i64.wrap 3=3:=by decide
   have ww4:IntKind.i64.wrap 4=4:=by decide
   have w01:IntKind.i64.wrap (0+1)=1:=by decide
   have w11:IntKind.i64.wrap (1+1)=2:=by decide
   have w21:IntKind.i64.wrap (2+1)=3:=by decide
   have w31:IntKind.i64.wrap (3+1)=4:=by decide
   have hm4:m=0∨m=1∨m=2∨m=3∨m=4:=by omega
   rcases hm4 with rfl | rfl | rfl | rfl | rfl
   ·have hm':s.channels=0:=hm;have sc:True=True:=rfl;refine aE (fun (y:Nat×List (List Int)) σ => bM 17 (aA y.1) (aW [18,19,20,69,70,71,72,73,74,75,76,77,78,79,80,81,82,83,84,85,86,87,88,89,90,91,92,93,94,95,96,97,98,99,100,101,102,103,104,105,106] (bE σ))) (fun y=>y.1≤N∧dG p A i fr0 y.1 = .ok y.2) (fun y=>N - y.1) (0,[]) (aC ?_) ⟨Nat.zero_le _,rfl⟩ ?_
    ·simp only [go_sem,simprocAttr]
     repeat' apply And.intro
     all_goals first | rfl | simp
    ·rintro ⟨q,L⟩ ⟨hq,hL⟩;simp only at hq hL;refine aB _ ?_;simp only [go_sem,simprocAttr];refine ⟨fun hlt2=>?_,fun hge2=>?_⟩
     ·simp only [bxx] at hlt2;have hql:q<N:=by omega
      have hLl:=mL hL;have hwq:IntKind.i64.wrap ((q:Int)+1)=((q+1:Nat):Int):=by rw [bF (by omega)];omega
      have w2:IntKind.i64.wrap (fr0+(q:Int))=fr0+q:=wrap64 (by omega) (by omega);have cq:=hsm (fr0+q) ⟨by omega,by omega⟩;unfold cT at cq;rw [hm'] at cq;unfold awS;simp only [go_sem,simprocAttr,w2];refine ⟨_,cq,?_⟩;cases hsq:qW p A i (fr0+(q:Int)) with
      | error e =>
       have he:(e != 0)=true:=by
        rw [bne_iff_ne];exact uH hp hsq
       have hq1:dG p A i fr0 (q+1) = .error e:=by
        unfold dG;rw [hL];dsimp only;rw [hsq]
       rw [rS hq1 N (by omega)] at hR;dsimp only at hR;rw [hR];unfold qH mJ;simp only [go_sem,simprocAttr,he]
      | ok l =>
      obtain ⟨hll,_⟩:=hsl _ _ hsq;have hq1:dG p A i fr0 (q+1) = .ok (L ++ [l]):=by
       unfold dG;rw [hL];dsimp only;rw [hsq]
      unfold qH t16;simp only [go_sem,simprocAttr];refine bR ?_;refine aH (aB _ ?_);simp only [go_sem,simprocAttr,decide_false];refine ⟨(q+1,L ++ [l]),fA [(2,some 2),(1,some 1),(0,some 0)] ?_,⟨by show q+1≤N;omega,hq1⟩,by show N - (q+1)<N - q;omega⟩;simp only [go_sem,simprocAttr,hwq];simp
     ·simp only [bxx] at hge2;have hqN:q=N:=by omega
      subst hqN;rw [hL] at hR;dsimp only at hR;rw [hR];unfold mJ;unfold awS;simp only [go_sem,simprocAttr];rfl
   ·have hm':s.channels=1:=hm;refine jM (gN 2 0 76 1 _ _ (c16 0) _ _ (Nat.zero_le _) rfl rfl) ?_;have sc:(aS [[T.lit (.slice none 0 0)]]).set 0 [V.own 3] = [[V.own 3]]:=rfl;refine aE (fun (y:Nat×List (List Int)) σ => qF 3 (.row 76 1 (c16 0) (aS ((y.2.map fun l=>l.getD 0 0).map c16))) (bM 17 (aA y.1) (aW [18,19,20,69,70,71,72,73,74,75,76,77,78,79,80,81,82,83,84,85,86,87,88,89,90,91,92,93,94,95,96,97,98,99,100,101,102,103,104,105,106] (bE σ)))) (fun y=>y.1≤N∧dG p A i fr0 y.1 = .ok y.2) (fun y=>N - y.1) (0,[]) (aC ?_) ⟨Nat.zero_le _,rfl⟩ ?_
    ·simp only [go_sem,simprocAttr,sc]
     repeat' apply And.intro
     all_goals first | rfl | simp
    ·rintro ⟨q,L⟩ ⟨hq,hL⟩;simp only at hq hL;refine aB _ ?_;simp only [go_sem,simprocAttr,sc];refine ⟨fun hlt2=>?_,fun hge2=>?_⟩
     ·simp only [bxx] at hlt2;have hql:q<N:=by omega
      have hLl:=mL hL;have hwq:IntKind.i64.wrap ((q:Int)+1)=((q+1:Nat):Int):=by rw [bF (by omega)];omega
      have w2:IntKind.i64.wrap (fr0+(q:Int))=fr0+q:=wrap64 (by omega) (by omega);have cq:=hsm (fr0+q) ⟨by omega,by omega⟩;unfold cT at cq;rw [hm'] at cq;unfold awS;simp only [go_sem,simprocAttr,w2];refine ⟨_,cq,?_⟩;cases hsq:qW p A i (fr0+(q:Int)) with
      | error e =>
       have he:(e != 0)=true:=by
        rw [bne_iff_ne];exact uH hp hsq
       have hq1:dG p A i fr0 (q+1) = .error e:=by
        unfold dG;rw [hL];dsimp only;rw [hsq]
       rw [rS hq1 N (by omega)] at hR;dsimp only at hR;rw [hR];unfold qH mJ;simp only [go_sem,simprocAttr,he]
      | ok l =>
      obtain ⟨hll,_⟩:=hsl _ _ hsq;have hq1:dG p A i fr0 (q+1) = .ok (L ++ [l]):=by
       unfold dG;rw [hL];dsimp only;rw [hsq]
      unfold qH t16;simp only [go_sem,simprocAttr];have hl0:=fun d=>pL (l:=l) (k:=0) (by omega) d
      refine bR ?_;refine aH (aB _ ?_);simp only [go_sem,simprocAttr,decide_true];refine aQ 14 .done rfl (by kernel_rfl) (by kernel_rfl) (by decide) ?_;simp only [go_sem,simprocAttr,ww1,hll,hl0,nV_0];refine ⟨⟨by unfold maxLen;omega,by omega⟩,by kernel_rfl,?_⟩;refine aH (aB _ ?_);simp only [go_sem,simprocAttr,decide_false];refine ⟨(q+1,L ++ [l]),fA [(3,some 15),(2,some 2),(1,some 1),(0,some 0)] ?_,⟨by show q+1≤N;omega,hq1⟩,by show N - (q+1)<N - q;omega⟩;simp only [go_sem,simprocAttr,hwq];simp [c16]
     ·simp only [bxx] at hge2;have hqN:q=N:=by omega
      subst hqN;rw [hL] at hR;dsimp only at hR;rw [hR];unfold mJ;unfold awS;simp only [go_sem,simprocAttr];rfl
   ·have hm':s.channels=2:=hm;refine jM (gN 2 0 76 1 _ _ (c16 0) _ _ (Nat.zero_le _) rfl rfl) ?_;refine jM (gN 2 1 76 1 _ _ (c16 0) _ _ (Nat.zero_le _) rfl rfl) ?_;have sc:((aS [[T.lit (.slice none 0 0)],[T.lit (.slice none 0 0)]]).set 0 [V.own 3]).set 1 [V.own 4] = [[V.own 3],[V.own 4]]:=rfl;refine aE (fun (y:Nat×List (List Int)) σ => qF 3 (.row 76 1 (c16 0) (aS ((y.2.map fun l=>l.getD 0 0).map c16))) (qF 4 (.row 76 1 (c16 0) (aS ((y.2.map fun l=>l.getD 1 0).map c16))) (bM 17 (aA y.1) (aW [18,19,20,69,70,71,72,73,74,75,76,77,78,79,80,81,82,83,84,85,86,87,88,89,90,91,92,93,94,95,96,97,98,99,100,101,102,103,104,105,106] (bE σ))))) (fun y=>y.1≤N∧dG p A i fr0 y.1 = .ok y.2) (fun y=>N - y.1) (0,[]) (aC ?_) ⟨Nat.zero_le _,rfl⟩ ?_
    ·simp only [go_sem,simprocAttr,sc]
     repeat' apply And.intro
     all_goals first | rfl | simp
    ·rintro ⟨q,L⟩ ⟨hq,hL⟩;simp only at hq hL;refine aB _ ?_;simp only [go_sem,simprocAttr,sc];refine ⟨fun hlt2=>?_,fun hge2=>?_⟩
     ·simp only [bxx] at hlt2;have hql:q<N:=by omega
      have hLl:=mL hL;have hwq:IntKind.i64.wrap ((q:Int)+1)=((q+1:Nat):Int):=by rw [bF (by omega)];omega
      have w2:IntKind.i64.wrap (fr0+(q:Int))=fr0+q:=wrap64 (by omega) (by omega);have cq:=hsm (fr0+q) ⟨by omega,by omega⟩;unfold cT at cq;rw [hm'] at cq;unfold awS;simp only [go_sem,simprocAttr,w2];refine ⟨_,cq,?_⟩;cases hsq:qW p A i (fr0+(q:Int)) with
      | error e =>
       have he:(e != 0)=true:=by
        rw [bne_iff_ne];exact uH hp hsq
       have hq1:dG p A i fr0 (q+1) = .error e:=by
        unfold dG;rw [hL];dsimp only;rw [hsq]
       rw [rS hq1 N (by omega)] at hR;dsimp only at hR;rw [hR];unfold qH mJ;simp only [go_sem,simprocAttr,he]
      | ok l =>
      obtain ⟨hll,_⟩:=hsl _ _ hsq;have hq1:dG p A i fr0 (q+1) = .ok (L ++ [l]):=by
       unfold dG;rw [hL];dsimp only;rw [hsq]
      unfold qH t16;simp only [go_sem,simprocAttr];have hl0:=fun d=>pL (l:=l) (k:=0) (by omega) d
      have hl1:=fun d=>pL (l:=l) (k:=1) (by omega) d
      refine bR ?_;refine aH (aB _ ?_);simp only [go_sem,simprocAttr,decide_true];refine aQ 14 .done rfl (by kernel_rfl) (by kernel_rfl) (by decide) ?_;simp only [go_sem,simprocAttr,ww1,hll,hl0,nV_0];refine ⟨⟨by unfold maxLen;omega,by omega⟩,by kernel_rfl,?_⟩;refine aH (aB _ ?_);simp only [go_sem,simprocAttr,decide_true];refine aQ 14 .done rfl (by kernel_rfl) (by kernel_rfl) (by decide) ?_;simp only [go_sem,simprocAttr,ww2,hll,hl1,nV_1];refine ⟨⟨by unfold maxLen;omega,by omega⟩,by kernel_rfl,?_⟩;refine aH (aB _ ?_);simp only [go_sem,simprocAttr,decide_false];refine ⟨(q+1,L ++ [l]),fA [(4,some 30),(3,some 16),(2,some 2),(1,some 1),(0,some 0)] ?_,⟨by show q+1≤N;omega,hq1⟩,by show N - (q+1)<N - q;omega⟩;simp only [go_sem,simprocAttr,hwq];simp [c16]
     ·simp only [bxx] at hge2;have hqN:q=N:=by omega
      subst hqN;rw [hL] at hR;dsimp only at hR;rw [hR];unfold mJ;unfold awS;simp only [go_sem,simprocAttr];rfl
   ·have hm':s.channels=3:=hm;refine jM (gN 2 0 76 1 _ _ (c16 0) _ _ (Nat.zero_le _) rfl rfl) ?_;refine jM (gN 2 1 76 1 _ _ (c16 0) _ _ (Nat.zero_le _) rfl rfl) ?_;refine jM (gN 2 2 76 1 _ _ (c16 0) _ _ (Nat.zero_le _) rfl rfl) ?_;have sc:(((aS [[T.lit (.slice none 0 0)],[T.lit (.slice none 0 0)],[T.lit (.slice none 0 0)]]).set 0 [V.own 3]).set 1 [V.own 4]).set 2 [V.own 5] = [[V.own 3],[V.own 4],[V.own 5]]:=rfl;refine aE (fun (y:Nat×List (List Int)) σ => qF 3 (.row 76 1 (c16 0) (aS ((y.2.map fun l=>l.getD 0 0).map c16))) (qF 4 (.row 76 1 (c16 0) (aS ((y.2.map fun l=>l.getD 1 0).map c16))) (qF 5 (.row 76 1 (c16 0) (aS ((y.2.map fun l=>l.getD 2 0).map c16))) (bM 17 (aA y.1) (aW [18,19,20,69,70,71,72,73,74,75,76,77,78,79,80,81,82,83,84,85,86,87,88,89,90,91,92,93,94,95,96,97,98,99,100,101,102,103,104,105,106] (bE σ)))))) (fun y=>y.1≤N∧dG p A i fr0 y.1 = .ok y.2) (fun y=>N - y.1) (0,[]) (aC ?_) ⟨Nat.zero_le _,rfl⟩ ?_
    ·simp only [go_sem,simprocAttr,sc]
     repeat' apply And.intro
     all_goals first | rfl | simp
    ·rintro ⟨q,L⟩ ⟨hq,hL⟩;simp only at hq hL;refine aB _ ?_;simp only [go_sem,simprocAttr,sc];refine ⟨fun hlt2=>?_,fun hge2=>?_⟩
     ·simp only [bxx] at hlt2;have hql:q<N:=by omega
      have hLl:=mL hL;have hwq:IntKind.i64.wrap ((q:Int)+1)=((q+1:Nat):Int):=by rw [bF (by omega)];omega
      have w2:IntKind.i64.wrap (fr0+(q:Int))=fr0+q:=wrap64 (by omega) (by omega);have cq:=hsm (fr0+q) ⟨by omega,by omega⟩;unfold cT at cq;rw [hm'] at cq;unfold awS;simp only [go_sem,simprocAttr,w2];refine ⟨_,cq,?_⟩;cases hsq:qW p A i (fr0+(q:Int)) with
      | error e =>
       have he:(e != 0)=true:=by
        rw [bne_iff_ne];exact uH hp hsq
       have hq1:dG p A i fr0 (q+1) = .error e:=by
        unfold dG;rw [hL];dsimp only;rw [hsq]
       rw [rS hq1 N (by omega)] at hR;dsimp only at hR;rw [hR];unfold qH mJ;simp only [go_sem,simprocAttr,he]
      | ok l =>
      obtain ⟨hll,_⟩:=hsl _ _ hsq;have hq1:dG p A i fr0 (q+1) = .ok (L ++ [l]):=by
       unfold dG;rw [hL];dsimp only;rw [hsq]
      unfold qH t16;simp only [go_sem,simprocAttr];have hl0:=fun d=>pL (l:=l) (k:=0) (by omega) d
      have hl1:=fun d=>pL (l:=l) (k:=1) (by omega) d
      have hl2:=fun d=>pL (l:=l) (k:=2) (by omega) d
      refine bR ?_;refine aH (aB _ ?_);simp only [go_sem,simprocAttr,decide_true];refine aQ 14 .done rfl (by kernel_rfl) (by kernel_rfl) (by decide) ?_;simp only [go_sem,simprocAttr,ww1,hll,hl0,nV_0];refine ⟨⟨by unfold maxLen;omega,by omega⟩,by kernel_rfl,?_⟩;refine aH (aB _ ?_);simp only [go_sem,simprocAttr,decide_true];refine aQ 14 .done rfl (by kernel_rfl) (by kernel_rfl) (by decide) ?_;simp only [go_sem,simprocAttr,ww2,hll,hl1,nV_1];refine ⟨⟨by unfold maxLen;omega,by omega⟩,by kernel_rfl,?_⟩;refine aH (aB _ ?_);simp only [go_sem,simprocAttr,decide_true];refine aQ 14 .done rfl (by kernel_rfl) (by kernel_rfl) (by decide) ?_;simp only [go_sem,simprocAttr,ww3,hll,hl2,nV_2];refine ⟨⟨by unfold maxLen;omega,by omega⟩,by kernel_rfl,?_⟩;refine aH (aB _ ?_);simp only [go_sem,simprocAttr,decide_false];refine ⟨(q+1,L ++ [l]),fA [(5,some 45),(4,some 31),(3,some 17),(2,some 2),(1,some 1),(0,some 0)] ?_,⟨by show q+1≤N;omega,hq1⟩,by show N - (q+1)<N - q;omega⟩;simp only [go_sem,simprocAttr,hwq];simp [c16]
     ·simp only [bxx] at hge2;have hqN:q=N:=by omega
      subst hqN;rw [hL] at hR;dsimp only at hR;rw [hR];unfold mJ;unfold awS;simp only [go_sem,simprocAttr];rfl
   ·have hm':s.channels=4:=hm;refine jM (gN 2 0 76 1 _ _ (c16 0) _ _ (Nat.zero_le _) rfl rfl) ?_;refine jM (gN 2 1 76 1 _ _ (c16 0) _ _ (Nat.zero_le _) rfl rfl) ?_;refine jM (gN 2 2 76 1 _ _ (c16 0) _ _ (Nat.zero_le _) rfl rfl) ?_;refine jM (gN 2 3 76 1 _ _ (c16 0) _ _ (Nat.zero_le _) rfl rfl) ?_;have sc:((((aS [[T.lit (.slice none 0 0)],[T.lit (.slice none 0 0)],[T.lit (.slice none 0 0)],[T.lit (.slice none 0 0)]]).set 0 [V.own 3]).set 1 [V.own 4]).set 2 [V.own 5]).set 3 [V.own 6] = [[V.own 3],[V.own 4],[V.own 5],[V.own 6]]:=rfl;refine aE (fun (y:Nat×List (List Int)) σ => qF 3 (.row 76 1 (c16 0) (aS ((y.2.map fun l=>l.getD 0 0).map c16))) (qF 4 (.row 76 1 (c16 0) (aS ((y.2.map fun l=>l.getD 1 0).map c16))) (qF 5 (.row 76 1 (c16 0) (aS ((y.2.map fun l=>l.getD 2 0).map c16))) (qF 6 (.row 76 1 (c16 0) (aS ((y.2.map fun l=>l.getD 3 0).map c16))) (bM 17 (aA y.1) (aW [18,19,20,69,70,71,72,73,74,75,76,77,78,79,80,81,82,83,84,85,86,87,88,89,90,91,92,93,94,95,96,97,98,99,100,101,102,103,104,105,106] (bE σ))))))) (fun y=>y.1≤N∧dG p A i fr0 y.1 = .ok y.2) (fun y=>N - y.1) (0,[]) (aC ?_) ⟨Nat.zero_le _,rfl⟩ ?_
    ·simp only [go_sem,simprocAttr,sc]
     repeat' apply And.intro
     all_goals first | rfl | simp
    ·rintro ⟨q,L⟩ ⟨hq,hL⟩;simp only at hq hL;refine aB _ ?_;simp only [go_sem,simprocAttr,sc];refine ⟨fun hlt2=>?_,fun hge2=>?_⟩
     ·simp only [bxx] at hlt2;have hql:q<N:=by omega
      have hLl:=mL hL;have hwq:IntKind.i64.wrap ((q:Int)+1)=((q+1:Nat):Int):=by rw [bF (by omega)];omega
      have w2:IntKind.i64.wrap (fr0+(q:Int))=fr0+q:=wrap64 (by omega) (by omega);have cq:=hsm (fr0+q) ⟨by omega,by omega⟩;unfold cT at cq;rw [hm'] at cq;unfold awS;simp only [go_sem,simprocAttr,w2];refine ⟨_,cq,?_⟩;cases hsq:qW p A i (fr0+(q:Int)) with
      | error e =>
       have he:(e != 0)=true:=by
        rw [bne_iff_ne];exact uH hp hsq
       have hq1:dG p A i fr0 (q+1) = .error e:=by
        unfold dG;rw [hL];dsimp only;rw [hsq]
       rw [rS hq1 N (by omega)] at hR;dsimp only at hR;rw [hR];unfold qH mJ;simp only [go_sem,simprocAttr,he]
      | ok l =>
      obtain ⟨hll,_⟩:=hsl _ _ hsq;have hq1:dG p A i fr0 (q+1) = .ok (L ++ [l]):=by
       unfold dG;rw [hL];dsimp only;rw [hsq]
      unfold qH t16;simp only [go_sem,simprocAttr];have hl0:=fun d=>pL (l:=l) (k:=0) (by omega) d
      have hl1:=fun d=>pL (l:=l) (k:=1) (by omega) d
      have hl2:=fun d=>pL (l:=l) (k:=2) (by omega) d
      have hl3:=fun d=>pL (l:=l) (k:=3) (by omega) d
      refine bR ?_;refine aH (aB _ ?_);simp only [go_sem,simprocAttr,decide_true];refine aQ 14 .done rfl (by kernel_rfl) (by kernel_rfl) (by decide) ?_;simp only [go_sem,simprocAttr,ww1,hll,hl0,nV_0];refine ⟨⟨by unfold maxLen;omega,by omega⟩,by kernel_rfl,?_⟩;refine aH (aB _ ?_);simp only [go_sem,simprocAttr,decide_true];refine aQ 14 .done rfl (by kernel_rfl) (by kernel_rfl) (by decide) ?_;simp only [go_sem,simprocAttr,ww2,hll,hl1,nV_1];refine ⟨⟨by unfold maxLen;omega,by omega⟩,by kernel_rfl,?_⟩;refine aH (aB _ ?_);simp only [go_sem,simprocAttr,decide_true];refine aQ 14 .done rfl (by kernel_rfl) (by kernel_rfl) (by decide) ?_;simp only [go_sem,simprocAttr,ww3,hll,hl2,nV_2];refine ⟨⟨by unfold maxLen;omega,by omega⟩,by kernel_rfl,?_⟩;refine aH (aB _ ?_);simp only [go_sem,simprocAttr,decide_true];refine aQ 14 .done rfl (by kernel_rfl) (by kernel_rfl) (by decide) ?_;simp only [go_sem,simprocAttr,ww4,hll,hl3,nV_3];refine ⟨⟨by unfold maxLen;omega,by omega⟩,by kernel_rfl,?_⟩;refine aH (aB _ ?_);simp only [go_sem,simprocAttr,decide_false];refine ⟨(q+1,L ++ [l]),fA [(6,some 60),(5,some 46),(4,some 32),(3,some 18),(2,some 2),(1,some 1),(0,some 0)] ?_,⟨by show q+1≤N;omega,hq1⟩,by show N - (q+1)<N - q;omega⟩;simp only [go_sem,simprocAttr,hwq];simp [c16]
     ·simp only [bxx] at hge2;have hqN:q=N:=by omega
      subst hqN;rw [hL] at hR;dsimp only at hR;rw [hR];unfold mJ;unfold awS;simp only [go_sem,simprocAttr];rfl
def SmpC (p:ProjR) (A:List AudioR) (N:LayN) (i:Nat):Prop :=
 ∀ {σ : St} {KP:List PanicEntry→St→Prop} {d:Option Tmp} {K:St→Prop} (j:Int),MixH p A N σ.nx σ.h → -1099511627776≤j→j≤1099511627776 →
  (∀ l,qW p A i j = .ok l → ∀ h' nx', σ.nx≤nx'→aY (DN p N) σ.h h'→MixH p A N nx' h'→K (({ σ with h:=h',nx:=nx' }:St).put d (aD4 l))) →
  (∀ e,qW p A i j = .error e → ∀ h' nx', σ.nx≤nx'→aY (DN p N) σ.h h'→MixH p A N nx' h'→KP [{ v:=gK e,recovered:=false }] { σ with fr:=[],h:=h',nx:=nx' }) →
  PCall Tryz.prog (DN p N) KP σ d 152 [.own N.m, .own (N.b i),aA j] K
theorem pNum2 {p:ProjR} (hp:PrjV p) {A:List AudioR} {N:LayN} {σ : St} {KP:List PanicEntry→St→Prop} {d:Option Tmp} {K:St→Prop} (hM:MixH p A N σ.nx σ.h) {s:SourceR} (hk:s.kind=2) {k:Nat} (hkl:k<p.seqs.length) (hkn:(p.seqs.getD k default).name=s.name) (hS:SmpC p A N k) (j:Int) (hj1 : -1099511627776≤j) (hj2:j≤1099511627776)
  (hK:∀ l,qW p A k j = .ok l → ∀ h' nx', σ.nx≤nx'→aY (DN p N) σ.h h'→MixH p A N nx' h'→K (({ σ with h:=h',nx:=nx' }:St).put d (uC l)))
  (hKP:∀ e,qW p A k j = .error e → ∀ h' nx', σ.nx≤nx'→aY (DN p N) σ.h h'→MixH p A N nx' h'→KP [{ v:=gK e,recovered:=false }] { σ with fr:=[],h:=h',nx:=nx' }) :
  PCall Tryz.prog (DN p N) KP σ d 128 [.own N.m,dT s,aA j] K:=by
 obtain ⟨S,hS1,hS2,hS3,_⟩:=hM.sq;have hbx:=hM.box;obtain ⟨l1,l2,l3,l4⟩:=hM.lm;have hlk:=hS3 k hkl;rw [hkn] at hlk;have hsq:=hM.seq k hkl;have hlb:=(hM.lb k hkl).1;have hk1:(s.kind==2)=true:=by rw [hk];rfl
 have hlen:=fun l h=>Ce (A:=A) hp hkl (t:=j) (l:=l) h
 obtain ⟨dm1,dm2,dm3,dm4⟩:=hM.dm;have db:=(hM.db k hkl).1;refine eV Tryz.X128 Tryz.func128 rfl Tryz.ntmps128 (by rw [Tryz.results128]) ?_;obtain ⟨fr0,H0,n0,df0⟩ := σ;simp only at hbx hS1 hsq l1 l2 l3 l4 hlb hK hKP hM ⊢;have e1:(N.m=n0)=False:=by simp;omega
 have e2:∀ k,(N.m=n0+k)=False:=fun k=>by simp;omega
 have e3:(N.m2=n0)=False:=by simp;omega
 have e4:∀ k,(N.m2=n0+k)=False:=fun k=>by simp;omega
 have e5:(N.b k=n0)=False:=by simp;omega
 have e6:∀ j,(N.b k=n0+j)=False:=fun j=>by simp;omega
 have dn:∀ q,n0≤q→DN p N q:=fun q hq i hi=>by have:=(hM.lb i hi).2.2;omega
 have d0:DN p N n0:=dn n0 (Nat.le_refl _);have d1:∀ q,DN p N (n0+q):=fun q=>dn _ (by omega)
 refine aF (aB _ ?_);simp only [go_sem,simprocAttr,Nat.add_assoc];refine aF ?_;refine aF (aB _ ?_);simp only [go_sem,simprocAttr,hk1,Nat.left_eq_add];refine eB (b:=true) rfl ?_;rw [if_pos rfl];refine aF (aB _ ?_);simp only [go_sem,simprocAttr];refine bL [0,1,2,3,4,5,6,7] .done rfl (by kernel_rfl) (by kernel_rfl) (by decide) ?_;simp only [go_sem,simprocAttr,e1,e2,e3,e4,hbx,hS1,hS2,hlk,Nat.left_eq_add];refine aF (aB _ ?_);simp only [go_sem,simprocAttr];refine aA9 (DN p N) [7] (.look 0 (.look 1 (.look 2 (.look 3 (.look 4 (.look 5 (.look 6 (.step 7 (.step 8 (.step 9 .done)))))))))) rfl (by kernel_rfl) ?_;simp only [go_sem,simprocAttr,e5,e6,hsq,dm1,db];have hM1:=MixH.top hM (k:=n0) (.box [aA s.kind,cA s.name,aA s.pos.num,aA s.pos.den,aA s.speed.num,aA s.speed.den,aL s.smooth]) (Nat.le_refl _);have hM2:=MixH.top hM1 (k:=n0+1) (.box [aA 0,aA 0,aA 0,aA 0,aA 0]) (Nat.le_refl _);have hDt:aY (DN p N) H0 ((n0+1, .box [aA 0,aA 0,aA 0,aA 0,aA 0])::(n0, .box [aA s.kind,cA s.name,aA s.pos.num,aA s.pos.den,aA s.speed.num,aA s.speed.den,aL s.smooth])::H0):=fun q b _ hq=>aK hM1.wf (aK hM.wf hq (Nat.le_refl _)) (Nat.le_refl _)
 refine hS j hM2 hj1 hj2 (fun l hl h' nx' hle hD hMh=>?_) (fun e he h' nx' hle hD hMh=>?_)
 ·have hle':n0+2≤nx':=hle;have hb:h'.look (n0+1)=some (.box [aA 0,aA 0,aA 0,aA 0,aA 0]):=hD _ _ (d1 1) (by show Heap.look ((n0+1,_)::_) (n0+1)=_;rw [Heap.look,if_pos rfl]);obtain ⟨hll,_⟩:=hlen l hl;simp only [go_sem,simprocAttr,aD4,hb];have hc0:=(hp.seq k hkl).ch;have hch:(p.seqs.getD k default).channels=(l.length:Int):=by omega
  rw [hch];obtain ⟨B,hB⟩:∃ B,B=Blk.box [V.t (.lit (.int .i64 (l.length:Int))),aA (l.getD 0 0),aA (l.getD 1 0),aA (l.getD 2 0),aA (l.getD 3 0)]:=⟨_,rfl⟩
  have hs0:(h'.set (n0+1) B).look (n0+1)=some B:=by rw [Heap.look_set _ _ _ hb,if_pos rfl]
  have hD3:aY (DN p N) H0 (h'.set (n0+1) B):=fun q b dq hq=>by
   rw [Heap.look_set _ _ _ hb,if_neg]
   ·exact bC hDt hD q b dq hq
   ·intro e;rw [e,hM.wf _ (by show n0≤n0+1;omega)] at hq;cases hq
  have hM3:MixH p A N nx' (h'.set (n0+1) B):=hM.later (by show n0≤nx';omega) hD3 (fun i hi=>by
   obtain ⟨es,q1,q2⟩:=hMh.kept i hi;refine ⟨es,?_,q2⟩;rw [Heap.look_set _ _ _ hb,if_neg]
   ·exact q1
   ·intro e;exact d1 1 i hi e.symm) fun q hq=>by
   rw [Heap.look_set _ _ _ hb,if_neg (by omega)];exact hMh.wf q hq
  rw [← hB];rw [hB] at hs0;refine aB _ ?_;simp only [go_sem,simprocAttr];unfold uJ;rw [hB];simp only [go_sem,simprocAttr,hs0];rw [hB] at hD3 hM3;exact ⟨hD3,hK l hl _ nx' (by omega) hD3 hM3⟩
 ·intro fr;exact ⟨rfl,hKP e he h' nx' (by have:n0+2≤nx':=hle;omega) (bC hDt hD) hMh⟩
structure OutK (p:ProjR) (A:List AudioR) (N:LayN) (σ : St) (KP:List PanicEntry→St→Prop) (d:Option Tmp) (K:St→Prop) (e:Ev V):Prop where
 ok:∀ x,e = .ok x → ∀ h' nx', σ.nx≤nx'→aY (DN p N) σ.h h'→MixH p A N nx' h'→K (({ σ with h:=h',nx:=nx' }:St).put d x)
 bad:∀ n,e = .error n → ∀ h' nx', σ.nx≤nx'→aY (DN p N) σ.h h'→MixH p A N nx' h'→KP [{ v:=gK n,recovered:=false }] { σ with fr:=[],h:=h',nx:=nx' }
def mapE {α β : Type} (f : α → β) (e:Ev α):Ev β :=
 match e with
 | .ok a => .ok (f a)
 | .error n => .error n
def Hp (p:ProjR) (A:List AudioR) (N:LayN) (i:Nat):Prop := ∀ k,k<p.seqs.length→dV p (k:Int)<dV p (i:Int)→aZ (p.seqs.getD k default).rate=true→SmpC p A N k
theorem pNum {p : ProjR} (hp : PrjV p) {A : List AudioR} (hA : AudP A) {N : LayN} {σ : St} {KP : List PanicEntry → St → Prop} {d : Option Tmp} {K : St → Prop} (hM : MixH p A N σ.nx σ.h) {i : Nat} (hS : Hp p A N i)
    {s : SourceR} (hs : SrcV p i s) (hau : aZ (cF p s) = true) (j : Int) (hj1 : -1099511627776 ≤ j) (hj2 : j ≤ 1099511627776) (hO : OutK p A N σ KP d K (mapE uC (pU p A (eA p A i) s j))) :
    PCall Tryz.prog (DN p N) KP σ d 128 [.own N.m, dT s, aA j] K := by
  by_cases hk : s.kind = 2
  · obtain ⟨hx, hd⟩ : 0 ≤ fR p s.name ∧ dV p (fR p s.name) < dV p (i : Int) := by
      rcases hs.kind with h | h | h
      · omega
      · omega
      · exact h.2
    obtain ⟨k, hkl, hki, hkn⟩ := kQ hx;rw [hki] at hd;unfold cF at hau;rw [if_neg (by omega), hki, Int.toNat_natCast] at hau;have e : pU p A (eA p A i) s j = qW p A k j := by
      unfold pU;rw [if_pos hk, hki, Int.toNat_natCast];unfold eA;rw [if_pos hd]
    rw [e] at hO;exact pNum2 hp hM hk hkl hkn (hS k hkl hd hau) j hj1 hj2 (fun l hl => hO.ok _ (by rw [hl]; rfl)) (fun n hn => hO.bad n (by rw [hn]; rfl))
  · have e : pU p A (eA p A i) s j = match pR A s.name with
        | none => .error 7
        | some a => .ok (a.chs.map fun l => aT l j) := by
      unfold pU;rw [if_neg hk];cases pR A s.name <;> rfl
    rw [e] at hO;exact pNum1 hA hM hk j ⟨by omega, by omega⟩ (fun a ha => hO.ok _ (by rw [ha]; rfl)) (fun hn => hO.bad 7 (by rw [hn]; rfl))
theorem gH {p:ProjR} {A:List AudioR} {N:LayN} {σ : St} {KP:List PanicEntry→St→Prop} {d:Option Tmp} {K:St→Prop} (hM:MixH p A N σ.nx σ.h) (r:RatR) (n:Int) (hn:n≠0)
  (hKP:∀ h' nx', σ.nx≤nx'→aY (DN p N) σ.h h'→MixH p A N nx' h'→KP [{ v:=gK n,recovered:=false }] { σ with fr:=[],h:=h',nx:=nx' }) :
  PCall Tryz.prog (DN p N) KP σ d 48 [bK r,aA n] K:=by
 have hnb:(n != 0)=true:=by rw [bne_iff_ne];exact hn
 refine eV Tryz.X48 Tryz.func48 rfl Tryz.ntmps48 (by rw [Tryz.results48]) ?_;obtain ⟨fr0,H0,n0,df0⟩ := σ;simp only at hKP hM ⊢;have hM1:=MixH.top hM (k:=n0) (.box [aA r.num,aA r.den]) (Nat.le_refl _);have hM2:=MixH.top hM1 (k:=n0+1) (.box [aA 0,aA 0]) (Nat.le_refl _);have hDt:aY (DN p N) H0 ((n0+1, .box [aA 0,aA 0])::(n0, .box [aA r.num,aA r.den])::H0):=fun q b _ hq=>aK hM1.wf (aK hM.wf hq (Nat.le_refl _)) (Nat.le_refl _)
 refine aF (aB _ ?_);simp only [go_sem,simprocAttr,Nat.add_assoc];refine aF ?_;refine aF (aB _ ?_);simp only [go_sem,simprocAttr,hnb];refine eB (b:=true) rfl ?_;rw [if_pos rfl];refine aN 2 ?_;simp only [go_sem,simprocAttr];refine rT 8 9 rfl rfl rfl rfl rfl (u:=_) rfl (by intro m;exact fun h=>by cases h) (by show 9<11;omega) rfl ?_;intro fr;exact ⟨rfl,hKP _ (n0+2) (show n0≤n0+2 by omega) hDt hM2⟩
theorem pSrc0 {p:ProjR} {A:List AudioR} {N:LayN} {σ : St} {KP:List PanicEntry→St→Prop} {d:Option Tmp} {K:St→Prop} (hM:MixH p A N σ.nx σ.h) {s:SourceR} (hk:s.kind=0) (r:RatR)
  (hK:∀ h' nx', σ.nx≤nx'→aY (DN p N) σ.h h'→MixH p A N nx' h'→K (({ σ with h:=h',nx:=nx' }:St).put d (uC []))) :
  PCall Tryz.prog (DN p N) KP σ d 91 [.own N.m,dT s,bK r] K:=by
 have hkb:(s.kind==0)=true:=by rw [hk];rfl
 refine eV Tryz.X91 Tryz.func91 rfl Tryz.ntmps91 (by rw [Tryz.results91]) ?_;obtain ⟨fr0,H0,n0,df0⟩ := σ;simp only at hK hM ⊢;refine aB _ ?_;simp only [go_sem,simprocAttr,hkb,Nat.add_assoc,Nat.left_eq_add];unfold uJ;simp only [go_sem,simprocAttr];have h1:=fun b=>MixH.top hM (k:=n0) b (Nat.le_refl _)
 have h2:=fun b c=>MixH.top (h1 b) (k:=n0+1) c (Nat.le_refl _)
 have h3:=fun b c e=>MixH.top (h2 b c) (k:=n0+2) e (Nat.le_refl _)
 have hD:∀ b c e,aY (DN p N) H0 ((n0+2,e)::(n0+1,c)::(n0,b)::H0):=fun b c e q x _ hq=>aK (h2 b c).wf (aK (h1 b).wf (aK hM.wf hq (Nat.le_refl _)) (Nat.le_refl _)) (Nat.le_refl _)
 exact ⟨hD _ _ _,hK _ (n0+3) (show n0≤n0+3 by omega) (hD _ _ _) (h3 _ _ _)⟩
theorem pSrcN {p:ProjR} (hp:PrjV p) {A:List AudioR} {N:LayN} {σ : St} {KP:List PanicEntry→St→Prop} {d:Option Tmp} {K:St→Prop} (hM:MixH p A N σ.nx σ.h) {i:Nat} {s:SourceR} (hs:SrcV p i s) (hk:s.kind≠0) (hau:aZ (cF p s)=false) (hf:(cF p s).fit) (r:RatR)
  (hKP:∀ h' nx', σ.nx≤nx'→aY (DN p N) σ.h h'→MixH p A N nx' h'→KP [{ v:=gK 2,recovered:=false }] { σ with fr:=[],h:=h',nx:=nx' }) :
  PCall Tryz.prog (DN p N) KP σ d 91 [.own N.m,dT s,bK r] K:=by
 have hkb:(s.kind==0)=false:=by rw [beq_eq_false_iff_ne];exact hk
 have cau:=pH (cF p s) hf;rw [hau] at cau;refine eV Tryz.X91 Tryz.func91 rfl Tryz.ntmps91 (by rw [Tryz.results91]) ?_;obtain ⟨fr0,H0,n0,df0⟩ := σ;simp only at hKP hM ⊢;have h1:=fun b=>MixH.top hM (k:=n0) b (Nat.le_refl _)
 have h2:=fun b c=>MixH.top (h1 b) (k:=n0+1) c (Nat.le_refl _)
 have h3:=fun b c e=>MixH.top (h2 b c) (k:=n0+2) e (Nat.le_refl _)
 have hD:∀ b c e,aY (DN p N) H0 ((n0+2,e)::(n0+1,c)::(n0,b)::H0):=fun b c e q x _ hq=>aK (h2 b c).wf (aK (h1 b).wf (aK hM.wf hq (Nat.le_refl _)) (Nat.le_refl _)) (Nat.le_refl _)
 refine aF (aB _ ?_);simp only [go_sem,simprocAttr,Nat.add_assoc];refine aF (aB _ ?_);simp only [go_sem,simprocAttr,hkb,Nat.left_eq_add];refine aF (aN 2 ?_);simp only [go_sem,simprocAttr,Nat.left_eq_add];refine mM rfl rfl ?_;simp only [go_sem,simprocAttr];refine dB (Rv hp (h3 _ _ _) hs hk fun h' nx' hle hD' hM'=>cQ ?_);generalize cF p s=q at *;simp only [go_sem,simprocAttr];refine aF ?_;refine aF (aB _ ?_);simp only [go_sem,simprocAttr];refine ⟨_,cau,?_⟩;simp only [go_sem,simprocAttr];refine eB (b:=true) rfl ?_;rw [if_pos rfl];refine aN 1 ?_;simp only [go_sem,simprocAttr];refine rT 22 23 rfl rfl rfl rfl rfl (u:=_) rfl (by intro m;exact fun h=>by cases h) (by show 23<82;omega) rfl ?_;intro fr;have hM4:=MixH.top hM' (k:=nx') (.box [aA q.num,aA q.den]) (Nat.le_refl _);exact ⟨rfl,hKP _ (nx'+1) (by have:n0+2+1≤nx':=hle;omega) (fun y x dy hq=>aK hM'.wf (hD' y x dy (hD _ _ _ y x dy hq)) (Nat.le_refl _)) hM4⟩
def mapClrR (h:Heap) (u:Option (TypeId×TypeId)) (m:V):RO Heap :=
 match u,m with
 | some _, .own i=>mcA h i (h.look i)
 | _,_=>none
where
 mcA (h:Heap) (i:Nat) (b:Option Blk):RO Heap :=
  match b with
  | some (.map _)=>some (True,h.set i (.map []))
  | _=>none
section
variable {P:Program} {σ : St} {o:Oper} {K:St→Prop}
theorem aM5 {m:Operand} {t:TypeId} {tys:Array TypeId} (ho:o.op = .call { callee := .builtin .clear,args := #[m],argTypes:=tys }) (ht:tys[0]? = some t) (hdst:o.dst=none)
  (h:cP true (σ.ev m) fun m'=>kR (mapClrR σ.h (P.mapT t) m') (fun h'=>K { σ with h:=h' })):OpW P o σ K:=by
 obtain ⟨m',h2,hm⟩:=bP h;clear h;unfold mapClrR mapClrR.mcA at h2;split at h2
 ·rename_i ke i hu;split at h2
  ·rename_i es hl;obtain ⟨-,hK⟩:=h2;intro E a w hr next Q hn;have e1:=hm w E _ rfl (hr.ev m);obtain ⟨hv,hB0,r,entries,clock,rfl,h3,h4,h5,h6⟩:=hr.rel.has i _ hl;have hB:E.B i=some (.map (some r)):=hB0;simp only [RdV] at e1;have e3:=e1.2.2 _ (.inl hB);unfold Program.mapT at hu;split at hu
   ·rename_i kt' et' hut;have hgo:(getObj r).run P w = .ok (.map entries clock) w:=by simp [getObj,Sem.run,h3]
    have hexec:∀ w',(Builtin.clear_ tys o.type #[.map (some r)]).run P w = .ok (.tuple #[]) w'→(execOp a.eval o).run P w = .ok (.value (.tuple #[])) w':=by
     intro w' hw;simp [execOp,ho,resolve,invoke,builtin,e3,hw]
    have hrlt:r<w.heap.size:=(Array.getElem?_eq_some_iff.1 h3).1;have fin:∀ w',(execOp a.eval o).run P w = .ok (.value (.tuple #[])) w'→RelF E { σ with h := σ.h.set i (.map []) } a w'→Ext E w E w'→o.wp P a w next Q:=by
     intro w' hrun k1 k2;unfold Oper.wp;rw [hrun];have:a.put o.dst (.tuple #[])=a:=by rw [hdst];rfl
     show next (a.put o.dst (.tuple #[])) w'
     rw [this];exact hn _ w' _ _ k1 k2 hK
    have hup:=hr.upd (blk := .map []) hB hl (by simpa [aP] using wF w r (.map #[] clock)) (by simp) (fun hE=>by
     refine ⟨r, #[],clock,rfl,by simp [hrlt],?_,?_,?_⟩
     ·simp [RdEs]
     ·simp
     ·simp) rfl
    refine fin _ (hexec _ ?_) hup.1 hup.2;simp only [Builtin.clear_,ht,List.getElem?_toArray,List.getElem?_cons_zero,Sem.run_bind,run_underlying hut,Result.andThen_ok,hgo,xM _ h3,Sem.run_pure]
   ·cases hu
  ·exact h2.elim
 ·exact h2.elim
end
theorem aBn {P:Program} {ops:List Oper} {Q:Exit→St→Prop} {o:Oper} {r:List Oper} {σ : St} {m:Operand} {t:TypeId} {tys:Array TypeId} (hg:o.guard=none)
  (ho:o.op = .call { callee := .builtin .clear,args := #[m],argTypes:=tys }) (ht:tys[0]? = some t) (hdst:o.dst=none)
  (h:cP true (σ.ev m) fun m'=>kR (mapClrR σ.h (P.mapT t) m') (fun h'=>qG P ops Q r { σ with h:=h' })):qG P ops Q (o::r) σ := by
 intro E a w hr E0 w0 hE;unfold wpListIn;have hw:Region.wanted o (yielded ops.toArray a.tmps)=true:=by simp [Region.wanted,hg]
 rw [if_pos hw];have hi:OpI P o σ (qG P ops Q r):=tS (.inr fun c hc=>by rw [ho] at hc;cases hc) (aM5 ho ht hdst h);exact hi E a w hr _ _ fun a' w' E' σ' h1 h2 h3=>by
  have:=h3 E' a' w' h1 E0 w0 (hE.trans h2);rwa [h2.ro] at this
attribute [go_sem] mapClrR mapClrR.mcA
inductive PU where
 | done
 | look (i:Nat) (t:PU)
 | step (i:Nat) (t:PU)
 | two (i:Nat) (t:PU) (j:Nat) (u:PU)
def aG6 (P:Program) (ops:Array Oper) (xs:List Nat) (w:Bool) (i:Nat):Bool:=w&&(xs.contains i||(ops[i]?).any fun o => !wW P o.op)
def puB (P:Program) (ops:Array Oper) (xs:List Nat):Nat→Array Bool→Bool→PU→Bool
 | 0,listed,_, .done=>Region.ready .any ops listed == []
 | 0,_,_,_=>false
 | _+1,listed,_, .done=>Region.ready .any ops listed == []
 | f+1,listed,w, .look i t=>w&&aEn P ops xs listed i&&puB P ops xs f (listed.setIfInBounds i true) w t
 | f+1,listed,w, .step i t=>Region.ready .any ops listed == [i]&&(ops[i]?).isSome&&puB P ops xs f (listed.setIfInBounds i true) (aG6 P ops xs w i) t
 | f+1,listed,w, .two i t j u=>Region.ready .any ops listed == [i,j]&&((ops[i]?).isSome&&puB P ops xs f (listed.setIfInBounds i true) (aG6 P ops xs w i) t)&&((ops[j]?).isSome&&puB P ops xs f (listed.setIfInBounds j true) (aG6 P ops xs w j) u)
def fK (P:Program) (l:List Oper) (D:Nat→Prop) (KP:List PanicEntry→St→Prop) (xs:List Nat) (K:St→Prop):PU→St→Prop
 | .done, σ => K σ
 | .look i t, σ => Me P l D (l[i]?) σ (fK P l D KP xs K t)
 | .step i t, σ => uE P l D KP (xs.contains i) (l[i]?) σ (fK P l D KP xs K t)
 | .two i t j u, σ => uE P l D KP (xs.contains i) (l[i]?) σ (fK P l D KP xs K t)∧uE P l D KP (xs.contains j) (l[j]?) σ (fK P l D KP xs K u)
theorem Ey {P:Program} {D:Nat→Prop} {KP:List PanicEntry→St→Prop} {l:List Oper} {xs:List Nat} {w:Bool} {i:Nat} {o:Oper} {σ : St} {K:St→Prop} (ho:l.toArray[i]? = some o) (hw:w=true→WFh σ)
  (h:xG P D KP l.toArray (xs.contains i) o σ K):xG P D KP l.toArray (xs.contains i) o σ fun s=>(aG6 P l.toArray xs w i=true→WFh s)∧K s:=by
 cases hx:xs.contains i with
 | true =>
  rw [hx] at h;exact xA (fun s hs=>⟨fun _=>hs.1,hs.2⟩) (En h)
 | false =>
  rw [hx] at h;cases hq:aG6 P l.toArray xs w i with
  | false=>exact mB (fun s hs=>And.intro (fun (h:false=true)=>nomatch h) hs) h
  | true =>
   unfold aG6 at hq;rw [hx,ho] at hq;simp only [Option.any_some,Bool.false_or,Bool.and_eq_true,Bool.not_eq_true'] at hq;have:=Bp (P:=P) (ops:=l) (σ := σ) (d:=none) (x := .dead) (K:=K) (fun t h=>by cases h) (fun t j w h=>by cases h) (fun t h=>by cases h) hq.2 (hw hq.1) (show cW P l (σ.put none .dead) o.dst o.op o.guard K from h);exact nU (fun s hs=>⟨fun _=>hs.2.2.1,hs.1⟩) this
theorem Ym {P:Program} {D:Nat→Prop} {KP:List PanicEntry→St→Prop} {l:List Oper} {xs:List Nat} {K:St→Prop}:∀ (f:Nat) (t:PU) (listed:Array Bool) (w:Bool) (σ : St),puB P l.toArray xs f listed w t=true→HeadInv .any l.toArray l.toArray.size listed→(w=true→WFh σ) →
  fK P l D KP xs K t σ → Ns P D KP l.toArray xs K f listed σ
 | 0, .done,listed,w, σ,hB,inv,hw,h=>by
  unfold puB at hB;exact ⟨by simpa using hB,h⟩
 | 0, .look _ _,listed,w, σ,hB,_,_,_=>by cases hB
 | 0, .step _ _,listed,w, σ,hB,_,_,_=>by cases hB
 | 0, .two _ _ _ _,listed,w, σ,hB,_,_,_=>by cases hB
 | f+1, .done,listed,w, σ,hB,inv,hw,h=>by
  unfold puB at hB;have h0:Region.ready .any l.toArray listed = []:=by simpa using hB
  exact ⟨fun _=>h,fun i hi=>by rw [h0] at hi;cases hi⟩
 | f+1, .look i t,listed,w, σ,hB,inv,hw,h=>by
  unfold puB aEn at hB;simp only [Bool.and_eq_true] at hB;obtain ⟨⟨bw,⟨⟨⟨b1,b2⟩,b3⟩,b3x⟩,b4⟩,b5⟩:=hB;have hr:i∈Region.ready .any l.toArray listed:=by simpa using b1
  obtain ⟨oi,ho,hm⟩:∃ oi,l.toArray[i]? = some oi∧eX P oi.op=true:=by
   cases hq:l.toArray[i]? with
   | none=>rw [hq] at b3;cases b3
   | some oi=>rw [hq] at b3;exact ⟨oi,rfl,by simpa using b3⟩
  have ho':l[i]? = some oi:=by simpa using ho
  simp only [fK,ho',Me] at h;obtain ⟨hD,h⟩:=h;obtain ⟨y,hk,hst0⟩:=rA hm h;have hst:∀ σ',kG σ σ' oi.op.operands.toList→aY D σ.h σ'.h→(∀ j w,oi.guard=some (j,w) → ∀ t,dZ l j=some t → σ'.ev (.tmp t) = σ.ev (.tmp t)) → ∀ K':St→Prop,K' (σ'.put oi.dst y)→cW P l σ' oi.dst oi.op oi.guard K' :=
   fun σ' he hh hg K' hk'=>hst0 σ' he (fun y hy q b hm hq=>hh q b (Ut hD y hy q hm) hq) hg K' hk'
  have his:i<l.toArray.size:=(Array.getElem?_eq_some_iff.1 ho).1;refine He (y:=y) ho (by simpa using b3x) (fun j oj hoj hh=>?_) f listed σ inv (Region.free_spec ho b2) hr (hw bw) hst ?_
  ·have hj:=(List.all_eq_true.1 b4) j (List.mem_range.2 (Array.getElem?_eq_some_iff.1 hoj).1);simp only [hoj,Option.any_some,hh,Bool.not_true,Bool.false_or,Bool.or_eq_true] at hj;exact hj
  ·exact Ym f t _ w _ b5 (inv.set hr his) (fun q=>(uU (hw q)).2.1) hk
 | f+1, .step i t,listed,w, σ,hB,inv,hw,h=>by
  unfold puB at hB;simp only [Bool.and_eq_true,beq_iff_eq] at hB;obtain ⟨⟨h1,h2⟩,h3⟩:=hB;obtain ⟨o,ho⟩:=Option.isSome_iff_exists.1 h2;have ho':l[i]? = some o:=by simpa using ho
  have hi:i∈Region.ready .any l.toArray listed:=by rw [h1];simp
  have his:i<l.toArray.size:=(Array.getElem?_eq_some_iff.1 ho).1;refine ⟨fun h0=>(by rw [h1] at h0;cases h0),fun j hj=>?_⟩;rw [h1] at hj;simp only [List.mem_singleton] at hj;subst hj;refine ⟨o,ho,?_⟩;simp only [fK,ho',uE] at h;exact mB (fun σ' hk=>Ym f t _ _ σ' h3 (inv.set hi his) hk.1 hk.2) (Ey ho hw h)
 | f+1, .two i t j u,listed,w, σ,hB,inv,hw,h=>by
  unfold puB at hB;simp only [Bool.and_eq_true,beq_iff_eq] at hB;obtain ⟨⟨h1,h2,h3⟩,h4,h5⟩:=hB;obtain ⟨o,ho⟩:=Option.isSome_iff_exists.1 h2;obtain ⟨o2,ho2⟩:=Option.isSome_iff_exists.1 h4;have ho':l[i]? = some o:=by simpa using ho
  have ho2':l[j]? = some o2:=by simpa using ho2
  have hi:i∈Region.ready .any l.toArray listed:=by rw [h1];simp
  have hj:j∈Region.ready .any l.toArray listed:=by rw [h1];simp
  have his:i<l.toArray.size:=(Array.getElem?_eq_some_iff.1 ho).1;have hjs:j<l.toArray.size:=(Array.getElem?_eq_some_iff.1 ho2).1;simp only [fK,ho',ho2',uE] at h;refine ⟨fun h0=>(by rw [h1] at h0;cases h0),fun k hk=>?_⟩;rw [h1] at hk;simp only [List.mem_cons,List.not_mem_nil,or_false] at hk;rcases hk with rfl | rfl
  ·exact ⟨o,ho,mB (fun σ' hk=>Ym f t _ _ σ' h3 (inv.set hi his) hk.1 hk.2) (Ey ho hw h.1)⟩
  ·exact ⟨o2,ho2,mB (fun σ' hk=>Ym f u _ _ σ' h5 (inv.set hj hjs) hk.1 hk.2) (Ey ho2 hw h.2)⟩
theorem aAa {P:Program} {n0:Nat} {id:Nat} {l:List Oper} {Q:Exit→St→Prop} {σ : St} (D:Nat→Prop) (xs:List Nat) (t:PU) (hm:P.follows .mixedOrders=true)
  (hT:puB P l.toArray xs l.length (Array.replicate l.length false) true t=true) (h:fK P l D (KQ Q) xs (Q .normal) t σ):Tr P n0 id l.toArray Q σ := by
 intro E a w hr E0 w0 hU hE;refine wpIn_region_any hm ?_;have inv:HeadInv .any l.toArray l.toArray.size (Array.replicate l.length false):=by
  have:=pP (ops:=l.toArray) (md := .any);simpa using this
 have hd:=Ym _ t _ true σ hT inv (fun _=>hr.wfh) h;have hdr:RelF E σ a { w with drawn:=w.drawn+1 }∧Ext E0 w0 E { w with drawn:=w.drawn+1 }:=by
  have hb:Below w.heap.size w { w with drawn:=w.drawn+1 }:=⟨rfl,rfl,rfl,Nat.le_refl _,fun _ _=>rfl⟩
  obtain ⟨k1,k2⟩:=hr.later hb (fun _ h=>h) (fun b hb => .inl hb) (fun b hb'=>hr.rel.slt b hb');exact ⟨k1,hE.trans k2⟩
 have:=Dx _ _ σ hd E a _ hdr.1 E0 w0 hdr.2;simpa using this
section
variable {P:Program} {l:List Oper} {D:Nat→Prop} {KP:List PanicEntry→St→Prop} {xs:List Nat} {K:St→Prop} {σ : St} {o:Oper}
@[go_sem] theorem pusteps_done:fK P l D KP xs K .done σ = K σ := rfl
@[go_sem] theorem pusteps_look {i:Nat} {t:PU}:fK P l D KP xs K (.look i t) σ = Me P l D (l[i]?) σ (fK P l D KP xs K t):=rfl
@[go_sem] theorem pusteps_step {i:Nat} {t:PU}:fK P l D KP xs K (.step i t) σ = uE P l D KP (xs.contains i) (l[i]?) σ (fK P l D KP xs K t):=rfl
@[go_sem] theorem pusteps_two {i j:Nat} {t u:PU}:fK P l D KP xs K (.two i t j u) σ = (uE P l D KP (xs.contains i) (l[i]?) σ (fK P l D KP xs K t)∧uE P l D KP (xs.contains j) (l[j]?) σ (fK P l D KP xs K u)):=rfl
end
theorem pSrcA {p:ProjR} (hp:PrjV p) {A:List AudioR} {N:LayN} {σ : St} {KP:List PanicEntry→St→Prop} {d:Option Tmp} {K:St→Prop} (hM:MixH p A N σ.nx σ.h) {i:Nat} {s:SourceR} (hs:SrcV p i s) (hk:s.kind≠0) (hau:aZ (cF p s)=true) (hf:(cF p s).fit) (k:Rat) (hfk:bV k=true) (hsp:bV (toQ s.speed)=true) (hse:s.speed=ofQ (toQ s.speed)) (h1x:bV (k*toQ s.speed)=false)
  (hKP:∀ h' nx', σ.nx≤nx'→aY (DN p N) σ.h h'→MixH p A N nx' h'→KP [{ v:=gK 2,recovered:=false }] { σ with fr:=[],h:=h',nx:=nx' }) :
  PCall Tryz.prog (DN p N) KP σ d 91 [.own N.m,dT s,bK (ofQ k)] K:=by
 have hkb:(s.kind==0)=false:=by rw [beq_eq_false_iff_ne];exact hk
 have cau:=pH (cF p s) hf;rw [hau] at cau;refine eV Tryz.X91 Tryz.func91 rfl Tryz.ntmps91 (by rw [Tryz.results91]) ?_;obtain ⟨fr0,H0,n0,df0⟩ := σ;simp only at hKP hM ⊢;have h1:=fun b=>MixH.top hM (k:=n0) b (Nat.le_refl _)
 have h2:=fun b c=>MixH.top (h1 b) (k:=n0+1) c (Nat.le_refl _)
 have h3:=fun b c e=>MixH.top (h2 b c) (k:=n0+2) e (Nat.le_refl _)
 have hD:∀ b c e,aY (DN p N) H0 ((n0+2,e)::(n0+1,c)::(n0,b)::H0):=fun b c e q x _ hq=>aK (h2 b c).wf (aK (h1 b).wf (aK hM.wf hq (Nat.le_refl _)) (Nat.le_refl _)) (Nat.le_refl _)
 refine aF (aB _ ?_);simp only [go_sem,simprocAttr,Nat.add_assoc];refine aF (aB _ ?_);simp only [go_sem,simprocAttr,hkb,Nat.left_eq_add];refine aF (aN 2 ?_);simp only [go_sem,simprocAttr,Nat.left_eq_add];refine mM rfl rfl ?_;simp only [go_sem,simprocAttr];refine dB (Rv hp (h3 _ _ _) hs hk fun h' nx' hle hD' hM'=>cQ ?_);generalize cF p s=q at *;simp only [go_sem,simprocAttr];refine aF ?_;refine aF (aB _ ?_);simp only [go_sem,simprocAttr];refine ⟨_,cau,?_⟩;simp only [go_sem,simprocAttr];refine eB (b:=false) rfl ?_;rw [if_neg (by decide)];refine aB _ ?_;simp only [go_sem,simprocAttr];refine aF (aB _ ?_);simp only [go_sem,simprocAttr];have hle':n0+2+1≤nx':=hle;have dn:∀ q,n0≤q→DN p N q:=fun q hq i hi=>by have:=(hM.lb i hi).2.2;omega
 have d0:DN p N n0:=dn n0 (Nat.le_refl _);have d1:DN p N (n0+1):=dn _ (by omega);have g0:(n0=nx')=False:=by simp;omega
 have g1:(n0+1=nx')=False:=by simp;omega
 have g2:(n0=nx'+1)=False:=by simp;omega
 have g3:(n0+1=nx'+1)=False:=by simp;omega
 have hb0:h'.look n0=some (.box [aA s.kind,cA s.name,aA s.pos.num,aA s.pos.den,aA s.speed.num,aA s.speed.den,aL s.smooth]):=hD' _ _ d0 (by show Heap.look ((n0+2,_)::(n0+1,_)::(n0,_)::_) n0=_;rw [Heap.look,if_neg (by omega),Heap.look,if_neg (by omega),Heap.look,if_pos rfl]);have hb1:h'.look (n0+1)=some (.box [aA (ofQ k).num,aA (ofQ k).den]):=hD' _ _ d1 (by show Heap.look ((n0+2,_)::(n0+1,_)::(n0,_)::_) (n0+1)=_;rw [Heap.look,if_neg (by omega),Heap.look,if_pos rfl]);have cm:aJ Tryz.prog 124 [bK (ofQ k),bK s.speed] (jP (k*toQ s.speed)):=by have:=Ea hfk hsp;rwa [← hse] at this
 simp only [jP,h1x,cond_false] at cm;refine aAa (DN p N) [8,12] (.look 0 (.look 1 (.look 2 (.look 3 (.look 4 (.two 5 (.look 6 (.look 7 (.two 8 (.two 9 (.look 10 (.look 11 (.two 12 (.step 13 (.step 14 .done)) 13 (.step 12 (.step 14 .done))))) 13 (.step 9 (.look 10 (.look 11 (.step 12 (.step 14 .done)))))) 13 (.step 8 (.step 9 (.look 10 (.look 11 (.step 12 (.step 14 .done))))))))) 13 (.step 5 (.look 6 (.look 7 (.step 8 (.step 9 (.look 10 (.look 11 (.step 12 (.step 14 .done))))))))))))))) rfl (by kernel_rfl) ?_;simp only [go_sem,simprocAttr,g0,g1,hb0,hb1,d0,d1,Nat.add_assoc];have hDs:aY (DN p N) H0 h':=fun y x dy hq=>hD' y x dy (hD _ _ _ y x dy hq)
 have hM4:=MixH.top hM' (k:=nx') (.box [aA q.num,aA q.den]) (Nat.le_refl _);have hM5:=fun b=>MixH.top hM4 (k:=nx'+1) b (Nat.le_refl _)
 have hDt:aY (DN p N) H0 ((nx', .box [aA q.num,aA q.den])::h'):=fun y x dy hq=>aK hM'.wf (hDs y x dy hq) (Nat.le_refl _)
 have hDu:∀ b,aY (DN p N) H0 ((nx'+1,b)::(nx', .box [aA q.num,aA q.den])::h'):=fun b y x dy hq=>aK hM4.wf (hDt y x dy hq) (Nat.le_refl _)
 refine ⟨⟨_,cm,?_⟩,?_⟩
 ·simp only [go_sem,simprocAttr,Nat.add_assoc];refine ⟨gH hM4 ⟨0,0⟩ 2 (by decide) fun h2 nx2 hl2 hD2 hM2 fr=>⟨rfl,hKP _ nx2 (by have:nx'+1≤nx2:=hl2;omega) (bC hDt hD2) hM2⟩,?_⟩;refine gH (hM5 (.box [aA 0,aA 0])) ⟨0,0⟩ 2 (by decide) fun h2 nx2 hl2 hD2 hM2 fr=>⟨rfl,hKP _ nx2 (by have:nx'+1+1≤nx2:=hl2;omega) (bC (hDu _) hD2) hM2⟩
 ·refine ⟨_,cm,?_⟩;simp only [go_sem,simprocAttr];refine gH (hM5 (.box [aA 0,aA 0])) ⟨0,0⟩ 2 (by decide) fun h2 nx2 hl2 hD2 hM2 fr=>⟨rfl,hKP _ nx2 (by have:nx'+1+1≤nx2:=hl2;omega) (bC (hDu _) hD2) hM2⟩
theorem pSrcB {p:ProjR} (hp:PrjV p) {A:List AudioR} {N:LayN} {σ : St} {KP:List PanicEntry→St→Prop} {d:Option Tmp} {K:St→Prop} (hM:MixH p A N σ.nx σ.h) {i:Nat} {s:SourceR} (hs:SrcV p i s) (hk:s.kind≠0) (hau:aZ (cF p s)=true) (hf:(cF p s).fit) (k:Rat) (hfk:bV k=true) (hsp:bV (toQ s.speed)=true) (hse:s.speed=ofQ (toQ s.speed)) (h1x:bV (k*toQ s.speed)=true) (hps:bV (toQ s.pos)=true) (hpe:s.pos=ofQ (toQ s.pos)) (h2x:bV (toQ s.pos+k*toQ s.speed)=false)
  (hKP:∀ h' nx', σ.nx≤nx'→aY (DN p N) σ.h h'→MixH p A N nx' h'→KP [{ v:=gK 2,recovered:=false }] { σ with fr:=[],h:=h',nx:=nx' }) :
  PCall Tryz.prog (DN p N) KP σ d 91 [.own N.m,dT s,bK (ofQ k)] K:=by
 have hkb:(s.kind==0)=false:=by rw [beq_eq_false_iff_ne];exact hk
 have cau:=pH (cF p s) hf;rw [hau] at cau;refine eV Tryz.X91 Tryz.func91 rfl Tryz.ntmps91 (by rw [Tryz.results91]) ?_;obtain ⟨fr0,H0,n0,df0⟩ := σ;simp only at hKP hM ⊢;have h1:=fun b=>MixH.top hM (k:=n0) b (Nat.le_refl _)
 have h2:=fun b c=>MixH.top (h1 b) (k:=n0+1) c (Nat.le_refl _)
 have h3:=fun b c e=>MixH.top (h2 b c) (k:=n0+2) e (Nat.le_refl _)
 have hD:∀ b c e,aY (DN p N) H0 ((n0+2,e)::(n0+1,c)::(n0,b)::H0):=fun b c e q x _ hq=>aK (h2 b c).wf (aK (h1 b).wf (aK hM.wf hq (Nat.le_refl _)) (Nat.le_refl _)) (Nat.le_refl _)
 refine aF (aB _ ?_);simp only [go_sem,simprocAttr,Nat.add_assoc];refine aF (aB _ ?_);simp only [go_sem,simprocAttr,hkb,Nat.left_eq_add];refine aF (aN 2 ?_);simp only [go_sem,simprocAttr,Nat.left_eq_add];refine mM rfl rfl ?_;simp only [go_sem,simprocAttr];refine dB (Rv hp (h3 _ _ _) hs hk fun h' nx' hle hD' hM'=>cQ ?_);generalize cF p s=q at *;simp only [go_sem,simprocAttr];refine aF ?_;refine aF (aB _ ?_);simp only [go_sem,simprocAttr];refine ⟨_,cau,?_⟩;simp only [go_sem,simprocAttr];refine eB (b:=false) rfl ?_;rw [if_neg (by decide)];refine aB _ ?_;simp only [go_sem,simprocAttr];refine aF (aB _ ?_);simp only [go_sem,simprocAttr];have hle':n0+2+1≤nx':=hle;have dn:∀ q,n0≤q→DN p N q:=fun q hq i hi=>by have:=(hM.lb i hi).2.2;omega
 have d0:DN p N n0:=dn n0 (Nat.le_refl _);have d1:DN p N (n0+1):=dn _ (by omega);have g0:(n0=nx')=False:=by simp;omega
 have g1:(n0+1=nx')=False:=by simp;omega
 have g2:(n0=nx'+1)=False:=by simp;omega
 have g3:(n0+1=nx'+1)=False:=by simp;omega
 have hb0:h'.look n0=some (.box [aA s.kind,cA s.name,aA s.pos.num,aA s.pos.den,aA s.speed.num,aA s.speed.den,aL s.smooth]):=hD' _ _ d0 (by show Heap.look ((n0+2,_)::(n0+1,_)::(n0,_)::_) n0=_;rw [Heap.look,if_neg (by omega),Heap.look,if_neg (by omega),Heap.look,if_pos rfl]);have hb1:h'.look (n0+1)=some (.box [aA (ofQ k).num,aA (ofQ k).den]):=hD' _ _ d1 (by show Heap.look ((n0+2,_)::(n0+1,_)::(n0,_)::_) (n0+1)=_;rw [Heap.look,if_neg (by omega),Heap.look,if_pos rfl]);have cm:aJ Tryz.prog 124 [bK (ofQ k),bK s.speed] (jP (k*toQ s.speed)):=by have:=Ea hfk hsp;rwa [← hse] at this
 simp only [jP,h1x,cond_true] at cm;have ca:aJ Tryz.prog 89 [bK s.pos,bK (ofQ (k*toQ s.speed))] (jP (toQ s.pos+k*toQ s.speed)):=by have:=Tk hps h1x;rwa [← hpe] at this
 simp only [jP,h2x,cond_false] at ca;refine aAa (DN p N) [8,12] (.look 0 (.look 1 (.look 2 (.look 3 (.look 4 (.two 5 (.look 6 (.look 7 (.two 8 (.two 9 (.look 10 (.look 11 (.two 12 (.step 13 (.step 14 .done)) 13 (.step 12 (.step 14 .done))))) 13 (.step 9 (.look 10 (.look 11 (.step 12 (.step 14 .done)))))) 13 (.step 8 (.step 9 (.look 10 (.look 11 (.step 12 (.step 14 .done))))))))) 13 (.step 5 (.look 6 (.look 7 (.step 8 (.step 9 (.look 10 (.look 11 (.step 12 (.step 14 .done))))))))))))))) rfl (by kernel_rfl) ?_;simp only [go_sem,simprocAttr,g0,g1,hb0,hb1,d0,d1,Nat.add_assoc];have hDs:aY (DN p N) H0 h':=fun y x dy hq=>hD' y x dy (hD _ _ _ y x dy hq)
 have hM4:=MixH.top hM' (k:=nx') (.box [aA q.num,aA q.den]) (Nat.le_refl _);have hM5:=fun b=>MixH.top hM4 (k:=nx'+1) b (Nat.le_refl _)
 have hDt:aY (DN p N) H0 ((nx', .box [aA q.num,aA q.den])::h'):=fun y x dy hq=>aK hM'.wf (hDs y x dy hq) (Nat.le_refl _)
 have hDu:∀ b,aY (DN p N) H0 ((nx'+1,b)::(nx', .box [aA q.num,aA q.den])::h'):=fun b y x dy hq=>aK hM4.wf (hDt y x dy hq) (Nat.le_refl _)
 refine ⟨⟨_,cm,?_⟩,?_⟩
 ·simp only [go_sem,simprocAttr,Nat.add_assoc];refine ⟨vS (gV _) rfl (fun _ _ _ h=>h) ?_,vS (gV _) rfl (fun _ _ _ h=>h) ?_⟩
  ·simp only [go_sem,simprocAttr,Nat.add_assoc];refine ⟨⟨_,ca,?_⟩,?_⟩
   ·simp only [go_sem,simprocAttr,Nat.add_assoc];exact ⟨gH hM4 ⟨0,0⟩ 2 (by decide) fun h2 nx2 hl2 hD2 hM2 fr=>⟨rfl,hKP _ nx2 (by have:nx'+1≤nx2:=hl2;omega) (bC hDt hD2) hM2⟩,gH (hM5 (.box [aA 0,aA 0])) ⟨0,0⟩ 2 (by decide) fun h2 nx2 hl2 hD2 hM2 fr=>⟨rfl,hKP _ nx2 (by have:nx'+1+1≤nx2:=hl2;omega) (bC (hDu _) hD2) hM2⟩⟩
   ·refine ⟨_,ca,?_⟩;simp only [go_sem,simprocAttr];exact gH (hM5 (.box [aA 0,aA 0])) ⟨0,0⟩ 2 (by decide) fun h2 nx2 hl2 hD2 hM2 fr=>⟨rfl,hKP _ nx2 (by have:nx'+1+1≤nx2:=hl2;omega) (bC (hDu _) hD2) hM2⟩
  ·simp only [go_sem,simprocAttr];refine ⟨_,ca,?_⟩;simp only [go_sem,simprocAttr];exact gH (hM5 (.box [aA 0,aA 0])) ⟨0,0⟩ 2 (by decide) fun h2 nx2 hl2 hD2 hM2 fr=>⟨rfl,hKP _ nx2 (by have:nx'+1+1≤nx2:=hl2;omega) (bC (hDu _) hD2) hM2⟩
 ·refine ⟨_,cm,?_⟩;simp only [go_sem,simprocAttr];refine vS (gV _) rfl (fun _ _ _ h=>h) ?_;simp only [go_sem,simprocAttr];refine ⟨_,ca,?_⟩;simp only [go_sem,simprocAttr];exact gH (hM5 (.box [aA 0,aA 0])) ⟨0,0⟩ 2 (by decide) fun h2 nx2 hl2 hD2 hM2 fr=>⟨rfl,hKP _ nx2 (by have:nx'+1+1≤nx2:=hl2;omega) (bC (hDu _) hD2) hM2⟩
theorem pSrcC {p:ProjR} (hp:PrjV p) {A:List AudioR} {N:LayN} {σ : St} {KP:List PanicEntry→St→Prop} {d:Option Tmp} {K:St→Prop} (hM:MixH p A N σ.nx σ.h) {i:Nat} {s:SourceR} (hs:SrcV p i s) (hk:s.kind≠0) (hau:aZ (cF p s)=true) (hf:(cF p s).fit) (k:Rat) (hfk:bV k=true) (hsp:bV (toQ s.speed)=true) (hse:s.speed=ofQ (toQ s.speed)) (h1x:bV (k*toQ s.speed)=true) (hps:bV (toQ s.pos)=true) (hpe:s.pos=ofQ (toQ s.pos)) (h2x:bV (toQ s.pos+k*toQ s.speed)=true) (h3x:bV ((toQ s.pos+k*toQ s.speed)*fC (cF p s))=false)
  (hKP:∀ h' nx', σ.nx≤nx'→aY (DN p N) σ.h h'→MixH p A N nx' h'→KP [{ v:=gK 2,recovered:=false }] { σ with fr:=[],h:=h',nx:=nx' }) :
  PCall Tryz.prog (DN p N) KP σ d 91 [.own N.m,dT s,bK (ofQ k)] K:=by
 have hkb:(s.kind==0)=false:=by rw [beq_eq_false_iff_ne];exact hk
 have cau:=pH (cF p s) hf;rw [hau] at cau;refine eV Tryz.X91 Tryz.func91 rfl Tryz.ntmps91 (by rw [Tryz.results91]) ?_;obtain ⟨fr0,H0,n0,df0⟩ := σ;simp only at hKP hM ⊢;have h1:=fun b=>MixH.top hM (k:=n0) b (Nat.le_refl _)
 have h2:=fun b c=>MixH.top (h1 b) (k:=n0+1) c (Nat.le_refl _)
 have h3:=fun b c e=>MixH.top (h2 b c) (k:=n0+2) e (Nat.le_refl _)
 have hD:∀ b c e,aY (DN p N) H0 ((n0+2,e)::(n0+1,c)::(n0,b)::H0):=fun b c e q x _ hq=>aK (h2 b c).wf (aK (h1 b).wf (aK hM.wf hq (Nat.le_refl _)) (Nat.le_refl _)) (Nat.le_refl _)
 refine aF (aB _ ?_);simp only [go_sem,simprocAttr,Nat.add_assoc];refine aF (aB _ ?_);simp only [go_sem,simprocAttr,hkb,Nat.left_eq_add];refine aF (aN 2 ?_);simp only [go_sem,simprocAttr,Nat.left_eq_add];refine mM rfl rfl ?_;simp only [go_sem,simprocAttr];refine dB (Rv hp (h3 _ _ _) hs hk fun h' nx' hle hD' hM'=>cQ ?_);generalize cF p s=q at *;simp only [go_sem,simprocAttr];refine aF ?_;refine aF (aB _ ?_);simp only [go_sem,simprocAttr];refine ⟨_,cau,?_⟩;simp only [go_sem,simprocAttr];refine eB (b:=false) rfl ?_;rw [if_neg (by decide)];refine aB _ ?_;simp only [go_sem,simprocAttr];refine aF (aB _ ?_);simp only [go_sem,simprocAttr];have hle':n0+2+1≤nx':=hle;have dn:∀ q,n0≤q→DN p N q:=fun q hq i hi=>by have:=(hM.lb i hi).2.2;omega
 have d0:DN p N n0:=dn n0 (Nat.le_refl _);have d1:DN p N (n0+1):=dn _ (by omega);have g0:(n0=nx')=False:=by simp;omega
 have g1:(n0+1=nx')=False:=by simp;omega
 have g2:(n0=nx'+1)=False:=by simp;omega
 have g3:(n0+1=nx'+1)=False:=by simp;omega
 have hb0:h'.look n0=some (.box [aA s.kind,cA s.name,aA s.pos.num,aA s.pos.den,aA s.speed.num,aA s.speed.den,aL s.smooth]):=hD' _ _ d0 (by show Heap.look ((n0+2,_)::(n0+1,_)::(n0,_)::_) n0=_;rw [Heap.look,if_neg (by omega),Heap.look,if_neg (by omega),Heap.look,if_pos rfl]);have hb1:h'.look (n0+1)=some (.box [aA (ofQ k).num,aA (ofQ k).den]):=hD' _ _ d1 (by show Heap.look ((n0+2,_)::(n0+1,_)::(n0,_)::_) (n0+1)=_;rw [Heap.look,if_neg (by omega),Heap.look,if_pos rfl]);have cm:aJ Tryz.prog 124 [bK (ofQ k),bK s.speed] (jP (k*toQ s.speed)):=by have:=Ea hfk hsp;rwa [← hse] at this
 simp only [jP,h1x,cond_true] at cm;have ca:aJ Tryz.prog 89 [bK s.pos,bK (ofQ (k*toQ s.speed))] (jP (toQ s.pos+k*toQ s.speed)):=by have:=Tk hps h1x;rwa [← hpe] at this
 simp only [jP,h2x,cond_true] at ca;have cfr:aJ Tryz.prog 49 [aA (IntKind.i64.wrap (48000*q.den)),aA q.num] (.tup [bK (ofQ (fC q)),aA 0]):=by
  obtain ⟨n,d,en,ed,n1,n2,d1',d2,_⟩:=pE hau;have ew:IntKind.i64.wrap (48000*q.den)=48000*q.den:=by rw [ed];exact wrap64 (by omega) (by omega)
  have:=cOfZ (48000*q.den) n n1 (by rw [ed];omega) (by omega);rw [ew,en];unfold fC;rw [en];exact this
 have hDs:aY (DN p N) H0 h':=fun y x dy hq=>hD' y x dy (hD _ _ _ y x dy hq)
 have hM4:=MixH.top hM' (k:=nx') (.box [aA q.num,aA q.den]) (Nat.le_refl _);have hDt:aY (DN p N) H0 ((nx', .box [aA q.num,aA q.den])::h'):=fun y x dy hq=>aK hM'.wf (hDs y x dy hq) (Nat.le_refl _)
 have ff:bV (fC q)=true:=by
  obtain ⟨n,d,_,_,_,_,_,_,_,_,f,_⟩:=pE hau;exact f
 have cm3:=Ea h2x ff;simp only [jP,h3x,cond_false] at cm3;refine aQ 15 .done rfl (by kernel_rfl) (by kernel_rfl) (by decide) ?_;simp only [go_sem,simprocAttr,g0,g1,hb0,hb1,Nat.add_assoc];refine ⟨_,cm,?_⟩;simp only [go_sem,simprocAttr];refine ⟨_,gV _,?_⟩;simp only [go_sem,simprocAttr];refine ⟨_,ca,?_⟩;simp only [go_sem,simprocAttr];refine ⟨_,gV _,?_⟩;simp only [go_sem,simprocAttr,Nat.add_assoc];refine ⟨gL ?_,?_⟩
 ·have o0:mY (nx'+1) n0=0:=bQ (by omega);have o1:mY (nx'+1) (n0+1)=0:=bQ (by omega);have o2:mY (nx'+1) nx'=0:=bQ (by omega);simp only [fJ,gG,o0,o1,pT,Nat.reduceLeDiff,Nat.reduceSub,Nat.reduceAdd];show tV _ _ _=true
  kernel_rfl
 refine aF (aB _ ?_);simp only [go_sem,simprocAttr,Nat.left_eq_add];refine ⟨_,cfr,?_⟩;simp only [go_sem,simprocAttr];refine ⟨_,gV _,?_⟩;simp only [go_sem,simprocAttr,Nat.add_assoc];refine aF (aN 5 ?_);simp only [go_sem,simprocAttr,Nat.add_left_cancel_iff];refine ⟨_,cm3,?_⟩;simp only [go_sem,simprocAttr];refine mM rfl rfl ?_;simp only [go_sem,simprocAttr];have hM6:=MixH.top hM4 (k:=nx'+14) (.box [aA (ofQ (toQ s.pos+k*toQ s.speed)).num,aA (ofQ (toQ s.pos+k*toQ s.speed)).den]) (by omega);have hM7:=MixH.top hM6 (k:=nx'+16) (.box [aA (ofQ (fC q)).num,aA (ofQ (fC q)).den]) (by omega);have hD7:aY (DN p N) H0 ((nx'+16, .box [aA (ofQ (fC q)).num,aA (ofQ (fC q)).den])::(nx'+14, .box [aA (ofQ (toQ s.pos+k*toQ s.speed)).num,aA (ofQ (toQ s.pos+k*toQ s.speed)).den])::(nx', .box [aA q.num,aA q.den])::h'):=fun y x dy hq=>aK hM6.wf (aK hM4.wf (hDt y x dy hq) (show nx'+1≤nx'+14 by omega)) (show nx'+14+1≤nx'+16 by omega)
 exact dB (gH hM7 ⟨0,0⟩ 2 (by decide) fun h2 nx2 hl2 hD2 hM2 fr=>⟨rfl,hKP _ nx2 (by have:nx'+16+1≤nx2:=hl2;omega) (bC hD7 hD2) hM2⟩)
theorem pSrcD {p:ProjR} (hp:PrjV p) {A:List AudioR} {N:LayN} {σ : St} {KP:List PanicEntry→St→Prop} {d:Option Tmp} {K:St→Prop} (hM:MixH p A N σ.nx σ.h) {i:Nat} {s:SourceR} (hs:SrcV p i s) (hk:s.kind≠0) (hau:aZ (cF p s)=true) (hf:(cF p s).fit) (k:Rat) (hfk:bV k=true) (hsp:bV (toQ s.speed)=true) (hse:s.speed=ofQ (toQ s.speed)) (h1x:bV (k*toQ s.speed)=true) (hps:bV (toQ s.pos)=true) (hpe:s.pos=ofQ (toQ s.pos)) (h2x:bV (toQ s.pos+k*toQ s.speed)=true) (h3x:bV ((toQ s.pos+k*toQ s.speed)*fC (cF p s))=true) (hz:((toQ s.pos+k*toQ s.speed)*fC (cF p s)).floor < -1099511627776∨1099511627776≤((toQ s.pos+k*toQ s.speed)*fC (cF p s)).floor)
  (hKP:∀ h' nx', σ.nx≤nx'→aY (DN p N) σ.h h'→MixH p A N nx' h'→KP [{ v:=gK 2,recovered:=false }] { σ with fr:=[],h:=h',nx:=nx' }) :
  PCall Tryz.prog (DN p N) KP σ d 91 [.own N.m,dT s,bK (ofQ k)] K:=by
 have hkb:(s.kind==0)=false:=by rw [beq_eq_false_iff_ne];exact hk
 have cau:=pH (cF p s) hf;rw [hau] at cau;refine eV Tryz.X91 Tryz.func91 rfl Tryz.ntmps91 (by rw [Tryz.results91]) ?_;obtain ⟨fr0,H0,n0,df0⟩ := σ;simp only at hKP hM ⊢;have h1:=fun b=>MixH.top hM (k:=n0) b (Nat.le_refl _)
 have h2:=fun b c=>MixH.top (h1 b) (k:=n0+1) c (Nat.le_refl _)
 have h3:=fun b c e=>MixH.top (h2 b c) (k:=n0+2) e (Nat.le_refl _)
 have hD:∀ b c e,aY (DN p N) H0 ((n0+2,e)::(n0+1,c)::(n0,b)::H0):=fun b c e q x _ hq=>aK (h2 b c).wf (aK (h1 b).wf (aK hM.wf hq (Nat.le_refl _)) (Nat.le_refl _)) (Nat.le_refl _)
 refine aF (aB _ ?_);simp only [go_sem,simprocAttr,Nat.add_assoc];refine aF (aB _ ?_);simp only [go_sem,simprocAttr,hkb,Nat.left_eq_add];refine aF (aN 2 ?_);simp only [go_sem,simprocAttr,Nat.left_eq_add];refine mM rfl rfl ?_;simp only [go_sem,simprocAttr];refine dB (Rv hp (h3 _ _ _) hs hk fun h' nx' hle hD' hM'=>cQ ?_);generalize cF p s=q at *;simp only [go_sem,simprocAttr];refine aF ?_;refine aF (aB _ ?_);simp only [go_sem,simprocAttr];refine ⟨_,cau,?_⟩;simp only [go_sem,simprocAttr];refine eB (b:=false) rfl ?_;rw [if_neg (by decide)];refine aB _ ?_;simp only [go_sem,simprocAttr];refine aF (aB _ ?_);simp only [go_sem,simprocAttr];have hle':n0+2+1≤nx':=hle;have dn:∀ q,n0≤q→DN p N q:=fun q hq i hi=>by have:=(hM.lb i hi).2.2;omega
 have d0:DN p N n0:=dn n0 (Nat.le_refl _);have d1:DN p N (n0+1):=dn _ (by omega);have g0:(n0=nx')=False:=by simp;omega
 have g1:(n0+1=nx')=False:=by simp;omega
 have g2:(n0=nx'+1)=False:=by simp;omega
 have g3:(n0+1=nx'+1)=False:=by simp;omega
 have hb0:h'.look n0=some (.box [aA s.kind,cA s.name,aA s.pos.num,aA s.pos.den,aA s.speed.num,aA s.speed.den,aL s.smooth]):=hD' _ _ d0 (by show Heap.look ((n0+2,_)::(n0+1,_)::(n0,_)::_) n0=_;rw [Heap.look,if_neg (by omega),Heap.look,if_neg (by omega),Heap.look,if_pos rfl]);have hb1:h'.look (n0+1)=some (.box [aA (ofQ k).num,aA (ofQ k).den]):=hD' _ _ d1 (by show Heap.look ((n0+2,_)::(n0+1,_)::(n0,_)::_) (n0+1)=_;rw [Heap.look,if_neg (by omega),Heap.look,if_pos rfl]);have cm:aJ Tryz.prog 124 [bK (ofQ k),bK s.speed] (jP (k*toQ s.speed)):=by have:=Ea hfk hsp;rwa [← hse] at this
 simp only [jP,h1x,cond_true] at cm;have ca:aJ Tryz.prog 89 [bK s.pos,bK (ofQ (k*toQ s.speed))] (jP (toQ s.pos+k*toQ s.speed)):=by have:=Tk hps h1x;rwa [← hpe] at this
 simp only [jP,h2x,cond_true] at ca;have cfr:aJ Tryz.prog 49 [aA (IntKind.i64.wrap (48000*q.den)),aA q.num] (.tup [bK (ofQ (fC q)),aA 0]):=by
  obtain ⟨n,d,en,ed,n1,n2,d1',d2,_⟩:=pE hau;have ew:IntKind.i64.wrap (48000*q.den)=48000*q.den:=by rw [ed];exact wrap64 (by omega) (by omega)
  have:=cOfZ (48000*q.den) n n1 (by rw [ed];omega) (by omega);rw [ew,en];unfold fC;rw [en];exact this
 have hDs:aY (DN p N) H0 h':=fun y x dy hq=>hD' y x dy (hD _ _ _ y x dy hq)
 have hM4:=MixH.top hM' (k:=nx') (.box [aA q.num,aA q.den]) (Nat.le_refl _);have hDt:aY (DN p N) H0 ((nx', .box [aA q.num,aA q.den])::h'):=fun y x dy hq=>aK hM'.wf (hDs y x dy hq) (Nat.le_refl _)
 have ff:bV (fC q)=true:=by
  obtain ⟨n,d,_,_,_,_,_,_,_,_,f,_⟩:=pE hau;exact f
 have cm3:=Ea h2x ff;simp only [jP,h3x,cond_true] at cm3;refine aQ 15 .done rfl (by kernel_rfl) (by kernel_rfl) (by decide) ?_;simp only [go_sem,simprocAttr,g0,g1,hb0,hb1,Nat.add_assoc];refine ⟨_,cm,?_⟩;simp only [go_sem,simprocAttr];refine ⟨_,gV _,?_⟩;simp only [go_sem,simprocAttr];refine ⟨_,ca,?_⟩;simp only [go_sem,simprocAttr];refine ⟨_,gV _,?_⟩;simp only [go_sem,simprocAttr,Nat.add_assoc];refine ⟨gL ?_,?_⟩
 ·have o0:mY (nx'+1) n0=0:=bQ (by omega);have o1:mY (nx'+1) (n0+1)=0:=bQ (by omega);have o2:mY (nx'+1) nx'=0:=bQ (by omega);simp only [fJ,gG,o0,o1,pT,Nat.reduceLeDiff,Nat.reduceSub,Nat.reduceAdd];show tV _ _ _=true
  kernel_rfl
 refine aF (aB _ ?_);simp only [go_sem,simprocAttr,Nat.left_eq_add];refine ⟨_,cfr,?_⟩;simp only [go_sem,simprocAttr];refine ⟨_,gV _,?_⟩;simp only [go_sem,simprocAttr,Nat.add_assoc];refine aF (aB _ ?_);simp only [go_sem,simprocAttr,Nat.add_left_cancel_iff];refine ⟨_,cm3,?_⟩;simp only [go_sem,simprocAttr];refine ⟨_,gV _,?_⟩;simp only [go_sem,simprocAttr,Nat.add_assoc];refine aF (aB _ ?_);simp only [go_sem,simprocAttr];obtain ⟨fy,vy⟩:=dN h3x;have cf:=aPt _ fy vy;rw [Ub] at cf;refine ⟨_,cf,?_⟩;simp only [go_sem,simprocAttr];refine aF ?_;have hz':=hz;generalize ((toQ s.pos+k*toQ s.speed)*fC q).floor=z at *;have hM6:=MixH.top hM4 (k:=nx'+14) (.box [aA (ofQ (toQ s.pos+k*toQ s.speed)).num,aA (ofQ (toQ s.pos+k*toQ s.speed)).den]) (by omega);have hM7:=MixH.top hM6 (k:=nx'+16) (.box [aA (ofQ (fC q)).num,aA (ofQ (fC q)).den]) (by omega);have hM8:=MixH.top hM7 (k:=nx'+17) (.box [aA (ofQ ((toQ s.pos+k*toQ s.speed)*fC q)).num,aA (ofQ ((toQ s.pos+k*toQ s.speed)*fC q)).den]) (by omega);have hD8:aY (DN p N) H0 ((nx'+17, .box [aA (ofQ ((toQ s.pos+k*toQ s.speed)*fC q)).num,aA (ofQ ((toQ s.pos+k*toQ s.speed)*fC q)).den])::(nx'+16, .box [aA (ofQ (fC q)).num,aA (ofQ (fC q)).den])::(nx'+14, .box [aA (ofQ (toQ s.pos+k*toQ s.speed)).num,aA (ofQ (toQ s.pos+k*toQ s.speed)).den])::(nx', .box [aA q.num,aA q.den])::h'):=fun y x dy hq=>aK hM7.wf (aK hM6.wf (aK hM4.wf (hDt y x dy hq) (show nx'+1≤nx'+14 by omega)) (show nx'+14+1≤nx'+16 by omega)) (show nx'+16+1≤nx'+17 by omega)
 refine aF (aB _ ?_)
 by_cases hlo:z < -1099511627776
 ·simp only [go_sem,simprocAttr,decide_true,hlo];refine eB (b:=true) rfl ?_;rw [if_pos rfl];refine aN 1 ?_;simp only [go_sem,simprocAttr];refine rT 60 61 rfl rfl rfl rfl rfl (u:=_) rfl (by intro m;exact fun h=>by cases h) (by show 61<82;omega) rfl ?_;intro fr;exact ⟨rfl,hKP _ (nx'+18) (by omega) hD8 hM8⟩
 ·have hhi : 1099511627776≤z:=by omega
  simp only [go_sem,simprocAttr,dtf,hlo,hhi];refine eB (b:=true) rfl ?_;rw [if_pos rfl];refine aN 1 ?_;simp only [go_sem,simprocAttr];refine rT 60 61 rfl rfl rfl rfl rfl (u:=_) rfl (by intro m;exact fun h=>by cases h) (by show 61<82;omega) rfl ?_;intro fr;exact ⟨rfl,hKP _ (nx'+18) (by omega) hD8 hM8⟩
