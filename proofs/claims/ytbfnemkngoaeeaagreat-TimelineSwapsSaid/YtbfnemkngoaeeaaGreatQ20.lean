/- Proved here: Contracts of the functions that pack a track; conditions stand in each theorem. -/
import Derived.Test.YtbfnemkngoaeeaaGreatQ19
set_option linter.unusedSimpArgs false
set_option linter.unusedVariables false
set_option linter.unusedSectionVars false
set_option linter.unnecessarySimpa false
namespace Go.Proofs.YtbfnemkngoaeeaaGreat
open Go.RowKit
set_option maxRecDepth 4000
def Gm:List ClipR→Int→List ClipR
 | [],_=>[]
 | [c],n=>[{ c with len:=c.len+n }]
 | c::d::l,n=>c::Gm (d::l) n
theorem tZ (c:ClipR) (n:Int):∀ l:List ClipR,Gm (l ++ [c]) n=l ++ [{ c with len:=c.len+n }]
 | []=>rfl
 | [d]=>rfl
 | d::e::l=>by
  have:=tZ c n (e::l);simp only [List.cons_append,Gm] at this ⊢;rw [this]
theorem Sq {α : Type}:∀ {l:List α},l ≠ [] → ∃ i c,l=i ++ [c]
 | [],h=>(h rfl).elim
 | [c],_=>⟨[],c,rfl⟩
 | c::d::l,_=>by
  obtain ⟨i,e,h⟩:=Sq (l:=d::l) (by simp);exact ⟨c::i,e,by rw [h];rfl⟩
theorem uW:∀ (l m:List ClipR),eG (l++m)=eG l+eG m
 | [],m=>by simp [eG]
 | c::l,m=>by simp only [List.cons_append,eG,uW l m];omega
theorem zZ (c:ClipR):eG [c]=c.len:=by simp [eG]
def Qb (t:List ClipR) (k:Nat):Bool:=decide (0<k)&&Lu (t.getD (k - 1) default) (t.getD k default)
def jU (t:List ClipR):Nat→List ClipR
 | 0=>[]
 | k+1=>if Qb t k=true then Gm (jU t k) (t.getD k default).len else jU t k ++ [t.getD k default]
def aKn (t:List ClipR):List ClipR:=jU t t.length
theorem tF {t:List ClipR} (hi:∀ i,i<t.length→bQ (t.getD i default)=true):∀ k,k≤t.length→(jU t k).length≤k∧(0<k→jU t k ≠ [])∧eG (jU t k)=eG (t.take k) ∧ ∀ c∈jU t k,1≤c.len
 | 0,_=>by simp [jU,eG]
 | k+1,h=>by
  obtain ⟨h1,h2,h3,h4⟩:=tF hi k (by omega);have hl:=kQ (hi k (by omega));have ht:=pC t k (by omega);unfold jU;cases hb:Qb t k with
  | true =>
   have hk : 0<k:=by unfold Qb at hb;simp only [Bool.and_eq_true,decide_eq_true_eq] at hb;exact hb.1
   obtain ⟨i,c,e⟩:=Sq (h2 hk);rw [if_pos rfl,e,tZ];rw [e] at h1 h3 h4;rw [uW,zZ] at h3;simp only [List.length_append,List.length_cons,List.length_nil] at h1 ⊢;refine ⟨by omega,fun _=>by simp,?_,fun d hd=>?_⟩
   ·rw [uW,zZ,ht, ← h3];simp only;omega
   ·rcases List.mem_append.1 hd with hd | hd
    ·exact h4 d (by simp [hd])
    ·have:=h4 c (by simp);simp only [List.mem_cons,List.not_mem_nil,or_false] at hd;rw [hd];simp only;omega
  | false =>
   rw [if_neg (by simp)];simp only [List.length_append,List.length_cons,List.length_nil];refine ⟨by omega,fun _=>by simp,?_,fun d hd=>?_⟩
   ·rw [uW,zZ,ht, ← h3]
   ·rcases List.mem_append.1 hd with hd | hd
    ·exact h4 d hd
    ·simp only [List.mem_cons,List.not_mem_nil,or_false] at hd;rw [hd];omega
theorem uV:∀ (l:List ClipR),(∀ c∈l,1≤c.len)→0≤eG l
 | [],_=>by simp [eG]
 | c::l,h=>by
  have:=uV l fun d hd=>h d (by simp [hd])
  have:=h c (by simp);simp only [eG];omega
theorem zU {t:List ClipR} (h:cC t=true):t.length≤64∧(∀ i,i<t.length→bQ (t.getD i default)=true)∧eG t≤2147483647:=by
 unfold cC at h;simp only [Bool.and_eq_true,decide_eq_true_eq,List.all_eq_true] at h;exact ⟨h.1.1,fun i hi=>h.1.2 _ (aQ hi),h.2⟩
theorem aGx {α : Type} (i:List α) (c d : α):(i ++ [c]).getD i.length d=c:=by simp [List.getD_eq_getElem?_getD]
theorem aJc (i:List ClipR) (c:ClipR) (n:Int):(aK (List.map ClipR.c (i ++ [c]))).set i.length [aC n,aC c.kind,aC c.a.kind,bP c.a.name,aC c.a.pos.num,aC c.a.pos.den,aC c.a.speed.num,aC c.a.speed.den,aP c.a.smooth,
 aC c.b.kind,bP c.b.name,aC c.b.pos.num,aC c.b.pos.den,aC c.b.speed.num,aC c.b.speed.den,aP c.b.smooth,aC c.off,aC c.total,aC c.param,bP c.text,aC c.gain, .t (bN c.chan)]=aK (List.map ClipR.c (i ++ [{ c with len:=n }])):=by
 have e:∀ d:ClipR,aK (List.map ClipR.c (i ++ [d]))=aK (List.map ClipR.c i) ++ [(ClipR.c d).map .t]:=fun d=>by simp [aK]
 have hl:i.length=(aK (List.map ClipR.c i)).length:=by simp [aK]
 rw [e,e,hl,List.set_append_right _ _ (Nat.le_refl _),Nat.sub_self];rfl
abbrev qS (l:List ClipR):Blk := .row 103 22 (ClipR.c default) (aK (l.map ClipR.c))
theorem cPack1 (t:List ClipR) (hfit:∀ c∈t,c.fit) (hv:cC t=true):aN Tryz.prog 181 [.t (dD t)] (.t (dD (aKn t))):=by
 obtain ⟨h64,hi,htot⟩:=zU hv;have hM:∀ i,i<t.length→Mild (t.getD i default):=fun i h=>mild_of (hfit _ (aQ h)) (hi i h)
 refine aH Tryz.X181 Tryz.func181 rfl Tryz.ntmps181 (by rw [Tryz.results181]) (aD _ ?_);simp only [go_sem,↓reduceIte,Nat.reduceSub];refine aF (fun (k:Nat) σ => { fr:=(σ.fr.set 3 (.own 0)).set 8 (aC k),h:=[(0,qS (jU t k))],nx:=1 }) (fun k=>k≤t.length) (fun k=>t.length - k) 0 (aW [(0,none)] ?_) (Nat.zero_le _) ?_
 ·simp only [go_sem,Nat.reduceLT,↓reduceIte,Nat.reduceLeDiff];exact ⟨rfl,rfl⟩
 ·intro k hk;obtain ⟨f1,f2,f3,f4⟩:=tF hi k hk;refine aD _ ?_;simp only [go_sem,↓reduceIte];refine ⟨fun hlt=>?_,fun hge=>?_⟩
  ·simp only [decide_eq_true_eq] at hlt;have hkl:k<t.length:=by omega
   have w1:IntKind.i64.wrap ((k:Int) - 1)=(k:Int) - 1:=wrap64 (by omega) (by omega);have w2:((k:Int) - 1).toNat=k - 1:=by omega
   have hlk:=kQ (hi k hkl);have htk:=pC t k hkl;have htr:=wN (t:=t) (k:=k+1) (by omega) h64 (fun i h=>hi i (by omega));have hn1:=uV _ f4;unfold awS;simp only [go_sem,↓reduceIte,Nat.reduceAdd,Nat.reduceLeDiff];refine ⟨⟨by omega,by omega⟩,?_⟩;refine bM [0,1,2,3,4,5,6,7,8,9,10] .done rfl (by kernel_rfl) (by kernel_rfl) (by decide) ?_;simp only [go_sem,↓reduceIte,Nat.reduceAdd,Nat.reduceLeDiff,w1,w2];refine ⟨fun h=>?_,_,fun _=>aCm (t.getD (k - 1) default) (t.getD k default) (hM (k - 1) (by omega)),?_⟩
   ·simp only [decide_eq_true_eq] at h;omega
   simp only [go_sem,↓reduceIte];refine brW (b:=Qb t k) ?_ ⟨fun hb=>?_,fun hb=>?_⟩
   ·unfold Qb;have:decide ((k:Int) > 0)=decide (0<k):=by rw [Bool.eq_iff_iff];simp only [decide_eq_true_eq];omega
    rw [this]
   ·have hk0 : 0<k:=by unfold Qb at hb;simp only [Bool.and_eq_true,decide_eq_true_eq] at hb;exact hb.1
    obtain ⟨i,c,e⟩:=Sq (f2 hk0);have f3':=f3;have f4':=f4;rw [e] at f1 f3 f4;rw [uW,zZ] at f3;have hl1:=f4 c (by simp);have hin:=uV i fun d hd=>f4 d (by simp [hd])
    have hil:i.length+1≤k:=by simpa using f1
    unfold awS;rw [e];have hlen:(List.map ClipR.c (i ++ [c])).length=i.length+1:=by simp
    simp only [go_sem];have hL:(i ++ [c]).length=i.length+1:=by simp
    have w3:IntKind.i64.wrap (((i.length+1:Nat):Int) - 1)=(i.length:Int):=by rw [wrap64 (by omega) (by omega)];omega
    have w4:IntKind.i64.wrap ((i.length:Int)+1 - 1)=(i.length:Int):=by rw [wrap64 (by omega) (by omega)];omega
    refine aV 13 .done rfl (by kernel_rfl) (by kernel_rfl) (by decide) ?_;have w5:IntKind.i64.wrap (c.len+(t.getD k default).len)=c.len+(t.getD k default).len:=wrap64 (by omega) (by omega);simp only [go_sem,↓reduceIte,Nat.reduceAdd,Nat.reduceLeDiff,reduceCtorEq,hL,w3,bJ (show k<9223372036854775807 by omega),aGx,w5,aJc];refine ⟨⟨by omega,by omega⟩,by omega,⟨by omega,by omega⟩,by omega,by kernel_rfl,k+1,aW [(0,some 0)] ?_,by omega,by omega⟩;simp only [go_sem,Nat.reduceLT,↓reduceIte,Nat.reduceLeDiff,reduceCtorEq];refine ⟨⟨by simp,?_⟩,rfl⟩;unfold jU;rw [if_pos hb,e,tZ]
   ·unfold awS;simp only [go_sem,↓reduceIte,Nat.reduceAdd,Nat.reduceLeDiff];refine ⟨_,aEw (t.getD k default) (hM k hkl).chan,?_⟩;simp only [go_sem,Nat.reducePow,Nat.reduceLT,↓reduceIte,Nat.reduceAdd,Nat.reduceMul,Nat.reduceLeDiff,reduceCtorEq,bJ (show k<9223372036854775807 by omega)];refine ⟨⟨by unfold maxLen;omega,by omega⟩,k+1,aW [(0,some 3)] ?_,by omega,by omega⟩;simp only [go_sem,Nat.reduceLT,↓reduceIte,Nat.reduceLeDiff,reduceCtorEq];refine ⟨⟨by simp,?_⟩,rfl⟩;have e:jU t (k+1)=jU t k ++ [t.getD k default]:=by rw [jU,if_neg (by rw [hb];simp)]
    rw [e,List.map_append];rfl
  ·simp only [decide_eq_false_iff_not] at hge;have:k=t.length:=by omega
   subst this;unfold awS;simp only [go_sem,↓reduceIte]<;>rfl
open Go.RowKit
set_option maxRecDepth 4000
theorem aLr {s:SourceR} (h:s.kind≠0):s.isZ=false:=by
 unfold SourceR.isZ;rw [Bool.eq_false_iff,ne_eq,SourceR.eqb_iff];rintro rfl;exact h rfl
open Go.RowKit
set_option maxRecDepth 4000
def yK (t:List ClipR):List ClipR:=if cC t=true then aKn t else []
theorem cPack (t:List ClipR) (hfit:∀ c∈t,c.fit):aN Tryz.prog 104 [.t (dD t)] (.t (dD (yK t))):=by
 refine fQ Tryz.X104 Tryz.func104 rfl Tryz.ntmps104 (by rw [Tryz.results104]) (aD _ ?_);simp only [go_sem,↓reduceIte,Nat.reduceSub];refine ⟨_,Bt t hfit,?_⟩;simp only [go_sem];refine ⟨fun h=>?_,fun h=>?_⟩
 ·unfold awS;simp only [go_sem,↓reduceIte];unfold yK;rw [nt h];exact Cm
 ·unfold awS;simp only [go_sem,↓reduceIte];refine ⟨_,cPack1 t hfit (nf h),?_⟩;simp only [go_sem];unfold yK;rw [if_pos (nf h)];exact dW rfl rfl
def Gb (o:List ClipR):Bool:=decide (0<o.length)&&(o.getD (o.length - 1) default).kind==0
def Uq (o:List ClipR):List ClipR:=if Gb o=true then o.take (o.length - 1) else o
def Qg (t:List ClipR):List ClipR:=Uq (yK t)
theorem aG3 (t:List ClipR):(yK t).length≤64:=by
 unfold yK;split
 ·rename_i h;obtain ⟨h64,hi,htot⟩:=zU h;have:=(tF hi t.length (Nat.le_refl _)).1;unfold aKn;omega
 ·simp
theorem cNormal (t:List ClipR) (hfit:∀ c∈t,c.fit):aN Tryz.prog 47 [.t (dD t)] (.t (dD (Qg t))):=by
 have h64:=aG3 t;refine fQ Tryz.X47 Tryz.func47 rfl Tryz.ntmps47 (by rw [Tryz.results47]) (aD _ ?_);simp only [go_sem,↓reduceIte,Nat.reduceSub];refine ⟨_,cPack t hfit,?_⟩;have ho:yK t=yK t:=rfl;rw [← ho] at h64;have hn:Qg t=Uq (yK t):=by unfold Qg;rw [ho]
 rw [hn];generalize yK t=o at h64;clear ho hn;have w1:IntKind.i64.wrap ((o.length:Int) - 1)=(o.length:Int) - 1:=wrap64 (by omega) (by omega);have w2:((o.length:Int) - 1).toNat=o.length - 1:=by omega
 simp only [go_sem,↓reduceIte,w1,w2];refine ⟨fun h=>?_,?_⟩
 ·simp only [decide_eq_true_eq] at h;omega
 refine brW (b:=Gb o) ?_ ⟨fun hb=>?_,fun hb=>?_⟩
 ·unfold Gb;have:decide ((o.length:Int) > 0)=decide (0<o.length):=by rw [Bool.eq_iff_iff];simp only [decide_eq_true_eq];omega
  rw [this]
 ·have hb2:=hb;unfold Gb at hb2;simp only [Bool.and_eq_true,decide_eq_true_eq] at hb2;unfold awS;simp only [go_sem,↓reduceIte,w1,w2];refine ⟨⟨by omega,by omega,by omega⟩,dW ?_ rfl⟩;unfold Uq;rw [if_pos hb,Int.toNat_zero,List.drop_zero, ← List.map_take];rfl
 ·unfold awS;simp only [go_sem];unfold Uq;rw [hb];exact dW rfl rfl
end Go.Proofs.YtbfnemkngoaeeaaGreat
