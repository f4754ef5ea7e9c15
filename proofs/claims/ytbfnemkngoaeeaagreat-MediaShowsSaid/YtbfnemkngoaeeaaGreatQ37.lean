/- Proved here: Steps of media, in the reference; conditions stand in each theorem. -/
import Derived.Test.YtbfnemkngoaeeaaGreatQ34
import Derived.Test.YtbfnemkngoaeeaaGreatQ20
import Derived.Test.YtbfnemkngoaeeaaGreatQ06
set_option linter.unusedSimpArgs false
set_option linter.unusedVariables false
set_option linter.unusedSectionVars false
set_option linter.unnecessarySimpa false
namespace Go.Proofs.YtbfnemkngoaeeaaGreat
open Go.RowKit
set_option maxRecDepth 4000
theorem aKh {a:ByteArray} (h1:emp a=true):aT a=false:=by
 have e1:a=⟨#[]⟩:=toList_eq.1 h1;rw [e1];decide
theorem cREvent (e:EventR):aM Tryz.prog 188 [Hy e] (aS (kB e)):=by
 refine aH Tryz.X188 Tryz.func188 rfl Tryz.ntmps188 (by rw [Tryz.results188]) (aD _ ?_);simp only [go_sem,simprocAttr,dtf];refine aK 16 .done rfl (by kernel_rfl) (by kernel_rfl) (by decide) ?_;simp only [go_sem,simprocAttr,dtf];refine ⟨by kernel_rfl,?_⟩;refine ⟨_,fun _=>Ev _,?_⟩;simp only [go_sem,simprocAttr,dtf];refine ⟨_,fun _=>Ev _,?_⟩;simp only [go_sem,simprocAttr,dtf];refine ⟨_,fun _=>Ev _,?_⟩;simp only [go_sem,simprocAttr,dtf];have a1:emp e.media=true→aT e.media=false:=aKh;have a2:emp e.file=true→aT e.file=false:=aKh;have a3:emp e.proxy=true→aT e.proxy=false:=aKh;have r:∀ x:ByteArray,(x.toList==(⟨#[]⟩:ByteArray).toList)=emp x:=fun _=>rfl
 have eV:kB e=if e.kind=1 then aT e.file&&emp e.media&&emp e.proxy
  else if e.kind=2 then aT e.file&&emp e.media&&emp e.proxy&&(e.sum==0)
  else if e.kind=3∨e.kind=4 then aT e.media&&aT e.file&&emp e.proxy&&(e.sum==0)
  else if e.kind=5 then aT e.media&&(emp e.proxy||aT e.proxy)&&emp e.file&&(e.sum==0)
  else false:=rfl
 rw [eV];simp only [r];generalize emp e.media=A at *;generalize emp e.file=B at *;generalize emp e.proxy=C at *;generalize aT e.media=P at *;generalize aT e.file=Q at *;generalize aT e.proxy=R at *;generalize (e.sum==0)=D at *;refine ⟨fun h=>?_,fun h=>?_⟩
 ·have:(if e.kind=1 then Q&&A&&C else if e.kind=2 then Q&&A&&C&&D else if e.kind=3∨e.kind=4 then P&&Q&&C&&D else if e.kind=5 then P&&(C||R)&&B&&D else false)=false:=by
   revert a1 a2 a3 h;cases A<;>cases B<;>cases C<;>cases P<;>cases Q<;>cases R<;>simp
  rw [this];unfold awS;simp only [go_sem,simprocAttr,dtf]
 ·unfold awS;simp only [go_sem,simprocAttr,dtf];refine ⟨fun h1=>?_,fun h1=>?_⟩
  ·simp only [bxx] at h1;rw [if_pos h1];have:(A && !B&&C)=(Q&&A&&C):=by
    revert a1 a2 a3 h;cases A<;>cases B<;>cases C<;>cases P<;>cases Q<;>cases R<;>simp
   unfold awS;simp only [go_sem,simprocAttr,dtf];rw [this]
  ·simp only [bxx] at h1;rw [if_neg h1];unfold awS;simp only [go_sem,simprocAttr,dtf];refine ⟨fun h2=>?_,fun h2=>?_⟩
   ·simp only [bxx] at h2;rw [if_pos h2];have:(A && !B&&C&&D)=(Q&&A&&C&&D):=by
     revert a1 a2 a3 h;cases A<;>cases B<;>cases C<;>cases P<;>cases Q<;>cases R<;>simp
    unfold awS;simp only [go_sem,simprocAttr,dtf];rw [this]
   ·simp only [bxx] at h2;rw [if_neg h2];have t34:(!A && !B&&C&&D)=(P&&Q&&C&&D):=by
     revert a1 a2 a3 h;cases A<;>cases B<;>cases C<;>cases P<;>cases Q<;>cases R<;>simp
    have t5:(!A&&B&&D)=(P&&(C||R)&&B&&D):=by
     revert a1 a2 a3 h;cases A<;>cases B<;>cases C<;>cases P<;>cases Q<;>cases R<;>simp
    unfold awS;simp only [go_sem,simprocAttr,dtf];refine ⟨fun h3=>?_,fun h3=>?_⟩
    ·simp only [bxx] at h3;rw [if_pos (.inl h3)];unfold awS;simp only [go_sem,simprocAttr,dtf];refine ⟨fun _=>?_,fun h'=>by simp only [bxx] at h';omega⟩;unfold awS;simp only [go_sem,simprocAttr,dtf];rw [t34]
    ·simp only [bxx] at h3;unfold awS;simp only [go_sem,simprocAttr,dtf];refine ⟨fun h4=>?_,fun h4=>?_⟩
     ·simp only [bxx] at h4;rw [if_pos (.inr h4)];unfold awS;simp only [go_sem,simprocAttr,dtf];rw [t34]
     ·simp only [bxx] at h4;rw [if_neg (by omega)];unfold awS;simp only [go_sem,simprocAttr,dtf];refine ⟨fun h5=>?_,fun h5=>?_⟩
      ·simp only [bxx] at h5;rw [if_pos h5];unfold awS;simp only [go_sem,simprocAttr,dtf];rw [t5]
      ·simp only [bxx] at h5;rw [if_neg h5];unfold awS;simp only [go_sem,simprocAttr,dtf]
abbrev aRz (r:StateR×List OutR×Int):V := .tup [fW r.1, .t (aSc r.2.1),aC r.2.2]
theorem wY (k:Int) {h:Heap}:vW (aRz (⟨[],[]⟩,[],k)) (.tup [.agg [.t (.lit (.slice none 0 0)), .t (.lit (.slice none 0 0))], .t (.lit (.slice none 0 0)),aC k]) h :=
 rR (r' := .tup [.agg [.t (.lit (.slice none 0 0)), .t (.lit (.slice none 0 0))], .t (.lit (.slice none 0 0)),aC k]) rfl rfl (tF (by exact ⟨jZ (by exact ⟨eN,eN,trivial⟩),eN,cC,trivial⟩))
@[go_sem] abbrev RowO (l:List OutR):Blk := .row 140 2 (OutR.c default) (aL (l.map OutR.c))
theorem cRStep (s:StateR) (e:EventR) (hf:s.files.length≤65536) (hl:s.links.length≤65536):aM Tryz.prog 123 [fW s,Hy e] (aRz (eZ s e)):=by
 refine cR Tryz.X123 Tryz.func123 rfl Tryz.ntmps123 (by rw [Tryz.results123]) (aD _ ?_);simp only [go_sem,simprocAttr,dtf];have hf':s.files.length≤maxLen:=by unfold maxLen;omega
 have hl':s.links.length≤maxLen:=by unfold maxLen;omega
 refine ⟨_,aGz s hf' hl',?_⟩;simp only [go_sem,simprocAttr,dtf];refine ⟨_,fun _=>cREvent e,?_⟩;simp only [go_sem,simprocAttr,dtf];refine ⟨fun h=>?_,fun h=>?_⟩
 ·have eS:eZ s e=(⟨[],[]⟩,[],1):=by
   unfold eZ;rw [if_neg];simp only [Bool.and_eq_true,not_and,Bool.not_eq_true];intro h1;rw [h1,Bool.not_true,Bool.false_or] at h;exact nt h
  rw [eS];unfold awS;simp only [go_sem,simprocAttr,dtf];exact wY 1
 ·rw [Bool.or_eq_false_iff] at h;have h1:=nf h.1;have h2:=nf h.2;unfold awS;simp only [go_sem,simprocAttr,dtf];refine aK 11 .done rfl (by kernel_rfl) (by kernel_rfl) (by decide) ?_;simp only [go_sem,simprocAttr,dtf];have he : 1≤e.kind∧e.kind≤5:=by
   apply Classical.byContradiction;intro hc;unfold kB at h2;rw [if_neg (by omega),if_neg (by omega),if_neg (by omega),if_neg (by omega)] at h2;cases h2
  have hsz:=(Eb s).1 h1;refine ⟨⟨by unfold maxLen;omega,by omega⟩,⟨by unfold maxLen;omega,by omega⟩,by kernel_rfl,?_⟩;refine cG (cChange s e hsz.nf hsz.nl he) [12,6,10] rfl (by omega) (by decide) ?_ rfl rfl rfl rfl ?_
  ·simp only [go_sem,simprocAttr,dtf];exact ⟨rfl,rfl⟩
  ·simp only [go_sem,simprocAttr,dtf,List.getElem?_nil];obtain ⟨r,hr⟩:∃ r,r=bJ s e:=⟨_,rfl⟩
   rw [← hr];have hsm:r.1=0→Ok r.2:=fun h0=>by rw [hr];exact (Dz hsz h2 (by rw [← hr];exact h0)).ok
   refine brW (b:=decide (r.1≠0)) ?_ ⟨fun h3=>?_,fun h3=>?_⟩
   ·rw [Bool.eq_iff_iff,decide_eq_true_eq,bne_iff_ne]
   ·have h4:=of_decide_eq_true h3;have eS:eZ s e=(⟨[],[]⟩,[],r.1):=by
     unfold eZ;rw [h1,h2,if_pos (by rfl), ← hr,if_neg h4]
    rw [eS];unfold awS;simp only [go_sem,simprocAttr,dtf];exact wY _
   ·have h4:r.1=0:=by simpa using h3
    have eS:eZ s e=(r.2,Gf s r.2,0):=by
     unfold eZ;rw [h1,h2,if_pos (by rfl), ← hr,if_pos h4]
    have ht:=hsm h4;rw [eS,h4];obtain ⟨t,htt⟩:∃ t,t=r.2:=⟨_,rfl⟩
    rw [← htt] at ht ⊢;have htf:t.files.length≤maxLen:=by have:=ht.nf;unfold maxLen;omega
    have htl:t.links.length≤maxLen:=by have:=ht.nl;unfold maxLen;omega
    have ht16:=ht.nl;unfold awS;simp only [go_sem,simprocAttr,dtf];refine Un [14,15] ?_;simp only [go_sem,simprocAttr,dtf];refine aF (fun (k:Nat) σ => (fun τ : St => { τ with h:=(16,RowO (tQ s t k))::(τ.h.del 15).del 14,nx:=17 }) (cJ 9 (.own 16) (cJ 10 (aC k) (bN [11,20,21,22,23,24,25,26,27,28,29,30,31,32,33,34,35,36,37,38,39,40,41,42,43,44,45,46,47,48,49,50,51,52,53,54,55,56,57,58,59,60,61,62,63] (bK σ))))) (fun k=>k≤t.links.length) (fun k=>t.links.length - k) 0 (aN [(16,none),(12,some 12),(2,some 2),(1,some 1),(0,some 0)] ?_) (Nat.zero_le _) ?_
    ·simp only [go_sem,simprocAttr,dtf];exact ⟨rfl,by simp,by simp,by simp,by simp⟩
    ·intro k hk;refine aD _ ?_;simp only [go_sem,simprocAttr,dtf];refine ⟨fun hlt=>?_,fun hge=>?_⟩
     ·simp only [bxx] at hlt;have hkl:k<t.links.length:=by omega
      obtain ⟨n,hn⟩:∃ n,n=(t.links.getD k default).media:=⟨_,rfl⟩
      have eO:=Lp (s:=s) hkl;have oL:=Qu s t k;unfold awS;simp only [go_sem,simprocAttr,dtf];rw [← hn];refine ⟨⟨by omega,by omega⟩,?_⟩;refine aK 7 .done rfl (by kernel_rfl) (by kernel_rfl) (by decide) ?_;simp only [go_sem,simprocAttr,dtf];refine ⟨_,Uf s n hf' hl',?_⟩;simp only [go_sem,simprocAttr,dtf];refine ⟨_,Uf t n htf htl,?_⟩;simp only [go_sem,simprocAttr,dtf];refine ⟨by kernel_rfl,?_⟩;refine brW (b:=decide (status s n≠status t n)) ?_ ⟨fun h5=>?_,fun h5=>?_⟩
      ·rw [Bool.eq_iff_iff,decide_eq_true_eq,bne_iff_ne]
      ·have h6:=of_decide_eq_true h5;have eF:Mv s t (t.links.getD k default)=some ⟨n,status t n⟩:=by
        unfold Mv;rw [← hn,if_pos (by rw [bne_iff_ne];exact fun e=>h6 e.symm)]
       rw [eF] at eO;unfold awS;simp only [go_sem,simprocAttr,dtf];refine ⟨_,Uf t n htf htl,?_⟩;simp only [go_sem,simprocAttr,dtf];refine ⟨⟨by unfold maxLen;omega,by omega⟩,k+1,aN [(16,some 25),(12,some 12),(2,some 2),(1,some 1),(0,some 0)] ?_,by omega,by omega⟩;simp only [go_sem,simprocAttr,dtf];rw [eO,List.map_append,bX (show k<9223372036854775807 by omega)];simp;rfl
      ·have h6:status s n=status t n:=by simpa using h5
       have eF:Mv s t (t.links.getD k default)=none:=by
        unfold Mv;rw [← hn,h6,if_neg (by simp)]
       rw [eF] at eO;unfold awS;simp only [go_sem,simprocAttr,dtf];refine ⟨k+1,aB ?_,by omega,by omega⟩;simp only [go_sem,simprocAttr,dtf];rw [eO,bX (show k<9223372036854775807 by omega)];simp
     ·simp only [bxx] at hge;have:k=t.links.length:=by omega
      subst this;unfold awS;simp only [go_sem,simprocAttr,dtf];rw [show tQ s t t.links.length=Gf s t from by unfold tQ Gf;rw [List.take_length]];refine aU ?_ rfl;simp only [go_sem,simprocAttr,dtf]
open Go.RowKit
set_option maxRecDepth 4000
@[go_sem] abbrev Row23 (l:List Int):Blk := .row 40 1 (xQ 0) (aL (l.map xQ))
@[go_sem] abbrev GoodF (acc:StateR×List OutR×List Int) (k:Nat) (s:StateR) (σ : St):St :=
 {fr:=(((σ.fr.take 15++List.replicate (σ.fr.length - 15) V.dead).set 7 (.own 4)).set 8 (.own 3)).set 11 (aC k),
  h:=[(4, .row 140 2 (OutR.c default) (aL (acc.2.1.map OutR.c))),(3,Row23 acc.2.2),(2, .box [.t (Dq acc.1.files), .t (Dp acc.1.links)]),(1, .box [.t (Dq []), .t (Dp [])]),(0, .box [.t (Dq s.files), .t (Dp s.links)])],nx:=5 }
theorem sQ {s:StateR} {l:List EventR} {k:Nat} (h:k<l.length):bP s (l.take (k+1))=jD (bP s (l.take k)) (l.getD k default):=by
 unfold bP;rw [List.take_succ_eq_append_getElem h,List.foldl_append,aJ h];rfl
theorem aDu (acc:StateR×List OutR×List Int) (e:EventR):(jD acc e).2.2.length=acc.2.2.length+1:=by
 unfold jD;split<;>simp
theorem zH (s:StateR) (l:List EventR):∀ k,k≤l.length→(bP s (l.take k)).2.2.length=k
 | 0,_=>rfl
 | k+1,h=>by rw [sQ (by omega),aDu,zH s l k (by omega)]
theorem Ee {s:StateR} (e:EventR) (hs:Ok s):(eZ s e).2.1.length≤16:=by
 by_cases h:(eZ s e).2.2=0
 ·rw [(aAd hs h).2];exact Nat.le_trans (List.length_filterMap_le _ _) (aAd hs h).1.ok.nl
 ·unfold eZ at h ⊢;split
  ·rename_i h1;rw [if_pos h1] at h;split
   ·rename_i h2;rw [if_pos h2] at h;exact absurd rfl h
   ·simp
  ·simp
theorem Pv {acc:StateR×List OutR×List Int} (e:EventR) (h:Ok acc.1):Ok (jD acc e).1:=by
 unfold jD;split
 ·rename_i h0;exact (aAd h h0).1.ok
 ·exact h
theorem Dw {s:StateR} (hs:Ok s) (l:List EventR):∀ k,k≤l.length→Ok (bP s (l.take k)).1∧(bP s (l.take k)).2.1.length≤16*k
 | 0,_=>⟨hs,Nat.le_refl _⟩
 | k+1,h=>by
  obtain ⟨h1,h2⟩:=Dw hs l k (by omega);rw [sQ (by omega)];refine ⟨Pv _ h1,?_⟩;have h3:=Ee (l.getD k default) h1;unfold jD;split
  ·simp only [List.length_append];omega
  ·simp only;omega
theorem cRRun (s:StateR) (es:List EventR) (hs:Ok s) (hes:es.length≤65536):aM Tryz.prog 54 [fW s, .t (aAc es)] (.tup [fW (bP s es).1, .t (aSc (bP s es).2.1), .t (bY (bP s es).2.2)]):=by
 refine aH Tryz.X54 Tryz.func54 rfl Tryz.ntmps54 (by rw [Tryz.results54]) (aD _ ?_);have hnf:=hs.nf;have hnl:=hs.nl;simp only [go_sem,simprocAttr,dtf];refine ⟨_,aGz s (by unfold maxLen;omega) (by unfold maxLen;omega),?_⟩;rw [(Eb s).2 hs];simp only [go_sem,simprocAttr,dtf];refine aK 10 .done rfl (by kernel_rfl) (by kernel_rfl) (by decide) ?_;simp only [go_sem,simprocAttr,dtf];refine ⟨⟨by unfold maxLen;omega,by omega⟩,⟨by unfold maxLen;omega,by omega⟩,by kernel_rfl,?_⟩;have hel:es.length≤maxLen:=by unfold maxLen;omega
 refine aF (fun (k:Nat) σ => GoodF (bP s (es.take k)) k s σ) (fun k=>k≤es.length) (fun k=>es.length - k) 0 (aN [(4,none),(3,none),(2,some 2),(1,some 1),(0,some 0)] ?_) (Nat.zero_le _) ?_
 ·simp only [go_sem,simprocAttr];simp [bP];exact ⟨rfl,rfl⟩
 ·intro k hk;refine aD _ ?_;simp only [go_sem,simprocAttr,dtf];refine ⟨fun hlt=>?_,fun hge=>?_⟩
  ·simp only [bxx] at hlt;have hlt':k<es.length:=by omega
   unfold awS;simp only [go_sem,simprocAttr,dtf];refine aK 14 .done rfl (by kernel_rfl) (by kernel_rfl) (by decide) ?_;simp only [go_sem,simprocAttr,dtf];obtain ⟨hcur,houts⟩:=Dw hs es k hk;have hcf:=hcur.nf;have hcl:=hcur.nl;refine ⟨⟨by omega,by omega⟩,_,cRStep _ _ (by omega) (by omega),?_⟩;simp only [go_sem,simprocAttr,dtf];have hacc:(bP s (List.take k es)).snd.snd.length=k:=zH s es k hk;have hnext:=sQ (s:=s) hlt';have hso:=Ee (es.getD k default) hcur;generalize es.getD k default=ev at *;refine ⟨by kernel_rfl,⟨by rw [hacc];unfold maxLen;omega,by rw [hacc];omega⟩,fun h0=>?_,fun h0=>?_⟩
   ·simp only [bxx] at h0;unfold awS;simp only [go_sem,simprocAttr,dtf];refine aK 6 .done rfl (by kernel_rfl) (by kernel_rfl) (by decide) ?_;simp only [go_sem,simprocAttr,dtf];refine ⟨⟨by unfold maxLen;omega,by omega⟩,by kernel_rfl,k+1,aN [(4,some 24),(3,some 20),(2,some 2),(1,some 1),(0,some 0)] ?_,by omega,by omega⟩;have hA:bP s (List.take (k+1) es)=((eZ (bP s (List.take k es)).1 ev).1,(bP s (List.take k es)).2.1++(eZ (bP s (List.take k es)).1 ev).2.1,(bP s (List.take k es)).2.2 ++ [0]):=by rw [hnext,jD,if_pos h0]
    simp only [go_sem,simprocAttr,dtf,hA,h0];simp [dV hlt' hel];rfl
   ·simp only [bxx] at h0;unfold awS;simp only [go_sem,simprocAttr,dtf];refine ⟨k+1,aN [(4,some 4),(3,some 20),(2,some 2),(1,some 1),(0,some 0)] ?_,by omega,by omega⟩;have hA:bP s (List.take (k+1) es)=((bP s (List.take k es)).1,(bP s (List.take k es)).2.1,(bP s (List.take k es)).2.2 ++ [(eZ (bP s (List.take k es)).1 ev).2.2]):=by rw [hnext,jD,if_neg h0]
    simp only [go_sem,simprocAttr,dtf,hA];simp [dV hlt' hel];rfl
  ·simp only [bxx] at hge;unfold awS;simp only [go_sem,simprocAttr,dtf];have:k=es.length:=by omega
   subst this;simp only [List.take_length]
open Go.RowKit
set_option maxRecDepth 4000
def bF0:ByteArray:=⟨#[102,48]⟩
def bF1:ByteArray:=⟨#[102,49]⟩
def bF2:ByteArray:=⟨#[102,50]⟩
def bM0:ByteArray:=⟨#[109,48]⟩
def bM1:ByteArray:=⟨#[109,49]⟩
def bM2:ByteArray:=⟨#[109,50]⟩
def sJ:ByteArray:=⟨#[115,112,97,114,101]⟩
def gT:ByteArray:=⟨#[]⟩
def Lj (l:List Int) (n:Int):Int:=l.getD n.toNat 0
def Cz (l:List ByteArray) (n:Int):ByteArray:=l.getD n.toNat gT
def ev1 (L:List Int) (k:Nat):EventR×Nat :=
 let kind:=Lj [1,1,1,2,3,3,3,4,5] (aA L k 9)
 let f:=Cz [bF0,bF1,bF2] (aA L (k+1) 3)
 let m:=Cz [bM0,bM1,bM2,sJ] (aA L (k+2) 4)
 let p:=Cz [gT,sJ,bM1,sJ] (aA L (k+3) 4)
 if kind=1 then (⟨1,gT,f,gT,1+aA L (k+4) 2⟩,k+5)
 else if kind=2 then (⟨2,gT,f,gT,0⟩,k+4)
 else if kind=5 then (⟨5,m,gT,p,0⟩,k+4)
 else (⟨kind,m,f,gT,0⟩,k+4)
def Td (L:List Int):Nat→Nat→List EventR×Nat
 | 0,k=>([],k)
 | c+1,k=>((ev1 L k).1::(Td L c (ev1 L k).2).1,(Td L c (ev1 L k).2).2)
def My (L:List Int) (k:Nat) (n:Int):List EventR×Nat:=Td L (aA L k (n+1)).toNat (k+1)
abbrev StE (L:List Int) (c:Nat) (es:List EventR) (k:Nat) (σ : St):St :=
 {fr:=(σ.fr.set 5 (.own 1)).set 6 (aC c),h:=[(1, .row 69 5 (EventR.c default) (aL (es.map EventR.c))),(0, .box [.t (bY L),aC k])],nx:=2 }
theorem cEvents (L:List Int) (k:Nat) (n:Int) (hk:k≤1024) (h1 : 0≤n) (h2:n≤64):wM Tryz.prog 55 [.t (bY L),aC k] [aC n] (.t (aAc (My L k n).1)) [.t (bY L),aC (My L k n).2]:=by
 refine pZ Tryz.X55 Tryz.func55 rfl Tryz.ntmps55 (by rw [Tryz.results55]) (fD fun hf=>aD _ ?_);have w1:IntKind.i64.wrap (n+1)=n+1:=wrap64 (by omega) (by omega);simp only [go_sem,simprocAttr,w1];refine aP (bQ L k (n+1) (by omega) (by omega) (by omega)) rfl rfl rfl ?_;obtain ⟨N,hN⟩:∃ N:Nat,aA L k (n+1)=N:=⟨(aA L k (n+1)).toNat,by have:=(aE (L:=L) (k:=k) (show 1≤n+1 by omega)).1;omega⟩
 have hNl:N≤64:=by have:=(aE (L:=L) (k:=k) (show 1≤n+1 by omega)).2;omega
 simp only [go_sem,simprocAttr,hN];refine aF (fun (x:Nat×List EventR×Nat) σ => StE L x.1 x.2.1 x.2.2 σ) (fun x=>x.2.1.length+x.1≤64∧x.2.2+5*x.1≤4096∧x.2.1++(Td L x.1 x.2.2).1=(My L k n).1∧(Td L x.1 x.2.2).2=(My L k n).2) (fun x=>x.1) (N,[],k+1) (aN [(1,none),(0,some 0)] ?_) ⟨by simp only [List.length_nil];omega,by simp only;omega,?_⟩ ?_
 ·simp only [go_sem,simprocAttr];simp
 ·simp only [My,hN,Int.toNat_natCast,List.nil_append,and_self]
 ·rintro ⟨c,es,q⟩ ⟨hc,hq,he1,he2⟩;simp only at hc hq he1 he2;refine aD _ ?_;simp only [go_sem,simprocAttr];refine ⟨fun hlt=>?_,fun hge=>?_⟩
  all_goals simp only [decide_eq_true_eq,decide_eq_false_iff_not] at *
  ·obtain ⟨c,rfl⟩:∃ c',c=c'+1:=⟨c - 1,by omega⟩
   simp only [Td] at he1 he2;unfold awS;simp only [go_sem,simprocAttr];refine aP (bQ L q 9 (by omega) (by omega) (by omega)) rfl rfl rfl ?_;have t9:=aE (L:=L) (k:=q) (n:=9) (by omega);simp only [go_sem,simprocAttr];refine ⟨by omega,by omega,?_⟩;refine aK 18 .done rfl (by kernel_rfl) (by kernel_rfl) (by decide) ?_;simp only [go_sem,simprocAttr];generalize hkd : [1,1,1,2,3,3,3,4,5].getD (aA L q 9).toNat (0:Int)=kd;refine gC (bQ L (q+1) 3 (by omega) (by omega) (by omega)) rfl rfl rfl ?_;have t3:=aE (L:=L) (k:=q+1) (n:=3) (by omega);simp only [go_sem,simprocAttr];refine ⟨by omega,by omega,?_⟩;generalize hff : [_,_,_].getD (aA L (q+1) 3).toNat _=ff;refine gC (bQ L (q+2) 4 (by omega) (by omega) (by omega)) rfl rfl rfl ?_;have t4:=aE (L:=L) (k:=q+2) (n:=4) (by omega);simp only [go_sem,simprocAttr];refine ⟨by omega,by omega,?_⟩;generalize hmm : [_,_,_,_].getD (aA L (q+2) 4).toNat _=mm;refine gC (bQ L (q+3) 4 (by omega) (by omega) (by omega)) rfl rfl rfl ?_;have t5:=aE (L:=L) (k:=q+3) (n:=4) (by omega);simp only [go_sem,simprocAttr];refine ⟨by omega,by omega,?_⟩;generalize hpp : [_,_,_,_].getD (aA L (q+3) 4).toNat _=pp;have mxl:es.length+1≤maxLen:=by unfold maxLen;omega
   have wc:IntKind.i64.wrap (((c+1:Nat):Int) - 1)=(c:Int):=by rw [wrap64 (by omega) (by omega)];omega
   have t6:=aE (L:=L) (k:=q+4) (n:=2) (by omega);have w6:IntKind.i64.wrap (1+aA L (q+4) 2)=1+aA L (q+4) 2:=wrap64 (by omega) (by omega);have w7:IntKind.u64.wrap (1+aA L (q+4) 2)=1+aA L (q+4) 2:=Ex (by omega) (by omega);have hk15:kd=1∨kd=2∨kd=3∨kd=4∨kd=5:=by
    have:(aA L q 9).toNat=0∨(aA L q 9).toNat=1∨(aA L q 9).toNat=2∨(aA L q 9).toNat=3∨(aA L q 9).toNat=4∨(aA L q 9).toNat=5∨(aA L q 9).toNat=6∨(aA L q 9).toNat=7∨(aA L q 9).toNat=8:=by omega
    rcases this with h | h | h | h | h | h | h | h | h<;>rw [h] at hkd<;>simp at hkd<;>omega
   refine ⟨by kernel_rfl,fun hk1=>?_,fun hk1=>?_⟩
   ·unfold awS;simp only [go_sem,simprocAttr];refine aP (bQ L (q+4) 2 (by omega) (by omega) (by omega)) rfl rfl rfl ?_;simp only [go_sem,simprocAttr,w6,w7];refine ⟨⟨mxl,by omega⟩,(c,es ++ [⟨kd,gT,ff,gT,1+aA L (q+4) 2⟩],q+5),aN [(1,some 23),(0,some 0)] ?_,?_,by simp only;omega⟩
    ·simp only [go_sem,simprocAttr,wc];simp [EventR.c,gT]
    ·have hev:ev1 L q=(⟨kd,gT,ff,gT,1+aA L (q+4) 2⟩,q+5):=by
      unfold ev1 Lj Cz bF0 bF1 bF2 bM0 bM1 bM2 sJ gT;simp only [hkd,hff,hmm,hpp];simp only [beq_iff_eq,beq_eq_false_iff_ne,ne_eq] at *;subst hk1;rfl
     rw [hev] at he1 he2;exact ⟨by simp only [List.length_append,List.length_cons,List.length_nil];omega,by simp only;omega,by rw [← he1];simp,he2⟩
   ·unfold awS;simp only [go_sem,simprocAttr];refine ⟨fun hk2=>?_,fun hk2=>?_⟩
    ·unfold awS;simp only [go_sem,simprocAttr];refine ⟨⟨mxl,by omega⟩,(c,es ++ [⟨kd,gT,ff,gT,0⟩],q+4),aN [(1,some 23),(0,some 0)] ?_,?_,by simp only;omega⟩
     ·simp only [go_sem,simprocAttr,wc];simp [EventR.c,gT]
     ·have hev:ev1 L q=(⟨kd,gT,ff,gT,0⟩,q+4):=by
       unfold ev1 Lj Cz bF0 bF1 bF2 bM0 bM1 bM2 sJ gT;simp only [hkd,hff,hmm,hpp];simp only [beq_iff_eq,beq_eq_false_iff_ne,ne_eq] at *;subst hk2;rfl
      rw [hev] at he1 he2;exact ⟨by simp only [List.length_append,List.length_cons,List.length_nil];omega,by simp only;omega,by rw [← he1];simp,he2⟩
    ·unfold awS;simp only [go_sem,simprocAttr];refine ⟨fun hk3=>?_,fun hk3=>?_⟩
     ·unfold awS;simp only [go_sem,simprocAttr,hk3];refine ⟨⟨mxl,by omega⟩,(c,es ++ [⟨kd,mm,ff,gT,0⟩],q+4),aN [(1,some 23),(0,some 0)] ?_,?_,by simp only;omega⟩
      ·simp only [go_sem,simprocAttr,wc];simp [EventR.c,gT]
      ·have hev:ev1 L q=(⟨kd,mm,ff,gT,0⟩,q+4):=by
        unfold ev1 Lj Cz bF0 bF1 bF2 bM0 bM1 bM2 sJ gT;simp only [hkd,hff,hmm,hpp];simp only [beq_iff_eq,beq_eq_false_iff_ne,ne_eq] at *;subst hk3;rfl
       rw [hev] at he1 he2;exact ⟨by simp only [List.length_append,List.length_cons,List.length_nil];omega,by simp only;omega,by rw [← he1];simp,he2⟩
     ·unfold awS;simp only [go_sem,simprocAttr,hk3];refine ⟨fun hk4=>?_,fun hk4=>?_⟩
      ·unfold awS;simp only [go_sem,simprocAttr,hk4];refine ⟨⟨mxl,by omega⟩,(c,es ++ [⟨kd,mm,ff,gT,0⟩],q+4),aN [(1,some 23),(0,some 0)] ?_,?_,by simp only;omega⟩
       ·simp only [go_sem,simprocAttr,wc];simp [EventR.c,gT]
       ·have hev:ev1 L q=(⟨kd,mm,ff,gT,0⟩,q+4):=by
         unfold ev1 Lj Cz bF0 bF1 bF2 bM0 bM1 bM2 sJ gT;simp only [hkd,hff,hmm,hpp];simp only [beq_iff_eq,beq_eq_false_iff_ne,ne_eq] at *;subst hk4;rfl
        rw [hev] at he1 he2;exact ⟨by simp only [List.length_append,List.length_cons,List.length_nil];omega,by simp only;omega,by rw [← he1];simp,he2⟩
      ·unfold awS;simp only [go_sem,simprocAttr];refine ⟨fun hk5=>?_,fun hk5=>?_⟩
       ·unfold awS;simp only [go_sem,simprocAttr,hk5];refine ⟨⟨mxl,by omega⟩,(c,es ++ [⟨kd,mm,gT,pp,0⟩],q+4),aN [(1,some 23),(0,some 0)] ?_,?_,by simp only;omega⟩
        ·simp only [go_sem,simprocAttr,wc];simp [EventR.c,gT]
        ·have hev:ev1 L q=(⟨kd,mm,gT,pp,0⟩,q+4):=by
          unfold ev1 Lj Cz bF0 bF1 bF2 bM0 bM1 bM2 sJ gT;simp only [hkd,hff,hmm,hpp];simp only [beq_iff_eq,beq_eq_false_iff_ne,ne_eq] at *;subst hk5;rfl
         rw [hev] at he1 he2;exact ⟨by simp only [List.length_append,List.length_cons,List.length_nil];omega,by simp only;omega,by rw [← he1];simp,he2⟩
       ·simp only [beq_eq_false_iff_ne,ne_eq] at *;omega
  ·unfold awS;simp only [go_sem,simprocAttr];have:c=0:=by omega
   subst this;simp only [Td,List.append_nil] at he1 he2;rw [he1,he2];simp
theorem aG6 (L:List Int):∀ (c k:Nat),(Td L c k).1.length=c
 | 0,_=>rfl
 | c+1,k=>by simp [Td,aG6 L c]
theorem evs_len (L:List Int) (k:Nat) {n:Int} (h1 : 0≤n):(My L k n).1.length≤n.toNat:=by
 unfold My;rw [aG6];have:=(aE (L:=L) (k:=k) (show 1≤n+1 by omega)).2;omega
theorem cMadeS (L:List Int) (n:Int) (h1 : 0≤n) (h2:n≤64):CMk Tryz.prog 17 [.t (bY L),aC n] (fW (bP ⟨[],[]⟩ (My L 0 n).1).1) [.t (bY L),aC (My L 0 n).2]:=by
 refine cmk_of Tryz.X17 Tryz.func17 rfl Tryz.ntmps17 (by rw [Tryz.results17]) (aD _ ?_);have hl:=evs_len L 0 h1;simp only [go_sem,simprocAttr];refine aP (cEvents L 0 n (by omega) h1 h2) rfl rfl rfl ?_;simp only [go_sem,simprocAttr];refine ⟨_,sA (.cons (jZ (by exact ⟨eN,eN,trivial⟩)) (.cons cC .nil)) (cRRun ⟨[],[]⟩ _ aJu (by omega)),?_⟩;simp only [go_sem,simprocAttr]
end Go.Proofs.YtbfnemkngoaeeaaGreat
