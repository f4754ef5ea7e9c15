/- Proved here: Contracts of the functions that pack a track; conditions stand in each theorem. -/
import Derived.Test.YtbfnemkngoaeeaaGreatQ20
set_option linter.unusedSimpArgs false
set_option linter.unusedVariables false
set_option linter.unusedSectionVars false
set_option linter.unnecessarySimpa false
namespace Go.Proofs.YtbfnemkngoaeeaaGreat
open Go.RowKit
set_option maxRecDepth 4000
def Ht:List ClipR→Int→List ClipR
 | [],_=>[]
 | [c],n=>[{ c with len:=c.len+n }]
 | c::d::l,n=>c::Ht (d::l) n
theorem mN (c:ClipR) (n:Int):∀ l:List ClipR,Ht (l ++ [c]) n=l ++ [{ c with len:=c.len+n }]
 | []=>rfl
 | [d]=>rfl
 | d::e::l=>by
  have:=mN c n (e::l);simp only [List.cons_append,Ht] at this ⊢;rw [this]
theorem Fm {α : Type}:∀ {l:List α},l ≠ [] → ∃ i c,l=i ++ [c]
 | [],h=>(h rfl).elim
 | [c],_=>⟨[],c,rfl⟩
 | c::d::l,_=>by
  obtain ⟨i,e,h⟩:=Fm (l:=d::l) (by simp);exact ⟨c::i,e,by rw [h];rfl⟩
theorem tJ:∀ (l m:List ClipR),bU (l++m)=bU l+bU m
 | [],m=>by simp [bU]
 | c::l,m=>by simp only [List.cons_append,bU,tJ l m];omega
theorem Ff (c:ClipR):bU [c]=c.len:=by simp [bU]
def Da (t:List ClipR) (k:Nat):Bool:=decide (0<k)&&gZ (t.getD (k - 1) default) (t.getD k default)
def eE (t:List ClipR):Nat→List ClipR
 | 0=>[]
 | k+1=>if Da t k=true then Ht (eE t k) (t.getD k default).len else eE t k ++ [t.getD k default]
def Qt (t:List ClipR):List ClipR:=eE t t.length
theorem pP {t:List ClipR} (hi:∀ i,i<t.length→bB (t.getD i default)=true):∀ k,k≤t.length→(eE t k).length≤k∧(0<k→eE t k ≠ [])∧bU (eE t k)=bU (t.take k) ∧ ∀ c∈eE t k,1≤c.len
 | 0,_=>by simp [eE,bU]
 | k+1,h=>by
  obtain ⟨h1,h2,h3,h4⟩:=pP hi k (by omega);have hl:=bZ (hi k (by omega));have ht:=qR t k (by omega);unfold eE;cases hb:Da t k with
  | true =>
   have hk : 0<k:=by unfold Da at hb;simp only [Bool.and_eq_true,decide_eq_true_eq] at hb;exact hb.1
   obtain ⟨i,c,e⟩:=Fm (h2 hk);rw [if_pos rfl,e,mN];rw [e] at h1 h3 h4;rw [tJ,Ff] at h3;simp only [List.length_append,List.length_cons,List.length_nil] at h1 ⊢;refine ⟨by omega,fun _=>by simp,?_,fun d hd=>?_⟩
   ·rw [tJ,Ff,ht, ← h3];simp only;omega
   ·rcases List.mem_append.1 hd with hd | hd
    ·exact h4 d (by simp [hd])
    ·have:=h4 c (by simp);simp only [List.mem_cons,List.not_mem_nil,or_false] at hd;rw [hd];simp only;omega
  | false =>
   rw [if_neg (by simp)];simp only [List.length_append,List.length_cons,List.length_nil];refine ⟨by omega,fun _=>by simp,?_,fun d hd=>?_⟩
   ·rw [tJ,Ff,ht, ← h3]
   ·rcases List.mem_append.1 hd with hd | hd
    ·exact h4 d hd
    ·simp only [List.mem_cons,List.not_mem_nil,or_false] at hd;rw [hd];omega
theorem gU:∀ (l:List ClipR),(∀ c∈l,1≤c.len)→0≤bU l
 | [],_=>by simp [bU]
 | c::l,h=>by
  have:=gU l fun d hd=>h d (by simp [hd])
  have:=h c (by simp);simp only [bU];omega
theorem sN {t:List ClipR} (h:bC t=true):t.length≤64∧(∀ i,i<t.length→bB (t.getD i default)=true)∧bU t≤2147483647:=by
 unfold bC at h;simp only [Bool.and_eq_true,decide_eq_true_eq,List.all_eq_true] at h;exact ⟨h.1.1,fun i hi=>h.1.2 _ (aW hi),h.2⟩
theorem Yp {α : Type} (i:List α) (c d : α):(i ++ [c]).getD i.length d=c:=by simp [List.getD_eq_getElem?_getD]
theorem aSa (i:List ClipR) (c:ClipR) (n:Int):(aL (List.map ClipR.c (i ++ [c]))).set i.length [aC n,aC c.kind,aC c.a.kind,bM c.a.name,aC c.a.pos.num,aC c.a.pos.den,aC c.a.speed.num,aC c.a.speed.den,aS c.a.smooth,
 aC c.b.kind,bM c.b.name,aC c.b.pos.num,aC c.b.pos.den,aC c.b.speed.num,aC c.b.speed.den,aS c.b.smooth,aC c.off,aC c.total,aC c.param,bM c.text,aC c.gain, .t (bY c.chan)]=aL (List.map ClipR.c (i ++ [{ c with len:=n }])):=by
 have e:∀ d:ClipR,aL (List.map ClipR.c (i ++ [d]))=aL (List.map ClipR.c i) ++ [(ClipR.c d).map .t]:=fun d=>by simp [aL]
 have hl:i.length=(aL (List.map ClipR.c i)).length:=by simp [aL]
 rw [e,e,hl,List.set_append_right _ _ (Nat.le_refl _),Nat.sub_self];rfl
abbrev Hu (l:List ClipR):Blk := .row 103 22 (ClipR.c default) (aL (l.map ClipR.c))
theorem cPack1 (t:List ClipR) (hfit:∀ c∈t,c.fit) (hv:bC t=true):aM Tryz.prog 181 [.t (eD t)] (.t (eD (Qt t))):=by
 obtain ⟨h64,hi,htot⟩:=sN hv;have hM:∀ i,i<t.length→Mild (t.getD i default):=fun i h=>aMg (hfit _ (aW h)) (hi i h)
 refine aH Tryz.X181 Tryz.func181 rfl Tryz.ntmps181 (by rw [Tryz.results181]) (aD _ ?_);simp only [go_sem,↓reduceIte,Nat.reduceSub];refine aF (fun (k:Nat) σ => { fr:=(σ.fr.set 3 (.own 0)).set 8 (aC k),h:=[(0,Hu (eE t k))],nx:=1 }) (fun k=>k≤t.length) (fun k=>t.length - k) 0 (aN [(0,none)] ?_) (Nat.zero_le _) ?_
 ·simp only [go_sem,Nat.reduceLT,↓reduceIte,Nat.reduceLeDiff];exact ⟨rfl,rfl⟩
 ·intro k hk;obtain ⟨f1,f2,f3,f4⟩:=pP hi k hk;refine aD _ ?_;simp only [go_sem,↓reduceIte];refine ⟨fun hlt=>?_,fun hge=>?_⟩
  ·simp only [decide_eq_true_eq] at hlt;have hkl:k<t.length:=by omega
   have w1:IntKind.i64.wrap ((k:Int) - 1)=(k:Int) - 1:=wrap64 (by omega) (by omega);have w2:((k:Int) - 1).toNat=k - 1:=by omega
   have hlk:=bZ (hi k hkl);have htk:=qR t k hkl;have htr:=Jb (t:=t) (k:=k+1) (by omega) h64 (fun i h=>hi i (by omega));have hn1:=gU _ f4;unfold awS;simp only [go_sem,↓reduceIte,Nat.reduceAdd,Nat.reduceLeDiff];refine ⟨⟨by omega,by omega⟩,?_⟩;refine cL [0,1,2,3,4,5,6,7,8,9,10] .done rfl (by kernel_rfl) (by kernel_rfl) (by decide) ?_;simp only [go_sem,↓reduceIte,Nat.reduceAdd,Nat.reduceLeDiff,w1,w2];refine ⟨fun h=>?_,_,fun _=>aKx (t.getD (k - 1) default) (t.getD k default) (hM (k - 1) (by omega)),?_⟩
   ·simp only [decide_eq_true_eq] at h;omega
   simp only [go_sem,↓reduceIte];refine brW (b:=Da t k) ?_ ⟨fun hb=>?_,fun hb=>?_⟩
   ·unfold Da;have:decide ((k:Int) > 0)=decide (0<k):=by rw [Bool.eq_iff_iff];simp only [decide_eq_true_eq];omega
    rw [this]
   ·have hk0 : 0<k:=by unfold Da at hb;simp only [Bool.and_eq_true,decide_eq_true_eq] at hb;exact hb.1
    obtain ⟨i,c,e⟩:=Fm (f2 hk0);have f3':=f3;have f4':=f4;rw [e] at f1 f3 f4;rw [tJ,Ff] at f3;have hl1:=f4 c (by simp);have hin:=gU i fun d hd=>f4 d (by simp [hd])
    have hil:i.length+1≤k:=by simpa using f1
    unfold awS;rw [e];have hlen:(List.map ClipR.c (i ++ [c])).length=i.length+1:=by simp
    simp only [go_sem];have hL:(i ++ [c]).length=i.length+1:=by simp
    have w3:IntKind.i64.wrap (((i.length+1:Nat):Int) - 1)=(i.length:Int):=by rw [wrap64 (by omega) (by omega)];omega
    have w4:IntKind.i64.wrap ((i.length:Int)+1 - 1)=(i.length:Int):=by rw [wrap64 (by omega) (by omega)];omega
    refine aK 13 .done rfl (by kernel_rfl) (by kernel_rfl) (by decide) ?_;have w5:IntKind.i64.wrap (c.len+(t.getD k default).len)=c.len+(t.getD k default).len:=wrap64 (by omega) (by omega);simp only [go_sem,↓reduceIte,Nat.reduceAdd,Nat.reduceLeDiff,reduceCtorEq,hL,w3,bX (show k<9223372036854775807 by omega),Yp,w5,aSa];refine ⟨⟨by omega,by omega⟩,by omega,⟨by omega,by omega⟩,by omega,by kernel_rfl,k+1,aN [(0,some 0)] ?_,by omega,by omega⟩;simp only [go_sem,Nat.reduceLT,↓reduceIte,Nat.reduceLeDiff,reduceCtorEq];refine ⟨⟨by simp,?_⟩,rfl⟩;unfold eE;rw [if_pos hb,e,mN]
   ·unfold awS;simp only [go_sem,↓reduceIte,Nat.reduceAdd,Nat.reduceLeDiff];refine ⟨_,cCopied (t.getD k default) (hM k hkl).chan,?_⟩;simp only [go_sem,Nat.reducePow,Nat.reduceLT,↓reduceIte,Nat.reduceAdd,Nat.reduceMul,Nat.reduceLeDiff,reduceCtorEq,bX (show k<9223372036854775807 by omega)];refine ⟨⟨by unfold maxLen;omega,by omega⟩,k+1,aN [(0,some 3)] ?_,by omega,by omega⟩;simp only [go_sem,Nat.reduceLT,↓reduceIte,Nat.reduceLeDiff,reduceCtorEq];refine ⟨⟨by simp,?_⟩,rfl⟩;have e:eE t (k+1)=eE t k ++ [t.getD k default]:=by rw [eE,if_neg (by rw [hb];simp)]
    rw [e,List.map_append];rfl
  ·simp only [decide_eq_false_iff_not] at hge;have:k=t.length:=by omega
   subst this;unfold awS;simp only [go_sem,↓reduceIte]<;>rfl
open Go.RowKit
set_option maxRecDepth 4000
theorem aAb (n:Int):toQ ⟨n,1⟩=(n:Rat):=by
 unfold toQ;simp only [Int.toNat_one];rw [Rat.mkRat_one]
theorem aRy (s:SourceR) (n m:Int):sE s n+sE s m=sE s (n+m):=by
 unfold sE;rw [aAb,aAb,aAb, ← Rat.add_mul,Rat.intCast_add]
theorem Ah {s:SourceR} (h:s.kind≠0):s.isZ=false:=by
 unfold SourceR.isZ;rw [Bool.eq_false_iff,ne_eq,SourceR.eqb_iff];rintro rfl;exact h rfl
theorem xF {s:SourceR} (hv:aY s=true) (n m:Int):eG (eG s n) m=eG s (n+m):=by
 cases hb:s.isZ with
 | true =>
  have e:∀ n,eG s n=s:=fun n=>by unfold eG;rw [if_pos hb]
  rw [e,e,e]
 | false =>
  obtain ⟨p,d,ok⟩:=yX hv hb;have e:∀ n,eG s n = { s with pos:=ofQ (zX s n) }:=fun n=>by unfold eG;rw [hb];rfl
  have hk:s.kind≠0:=by rcases ok.kind with h | h<;>omega
  have hz:SourceR.isZ { s with pos:=ofQ (zX s n) }=false:=Ah hk;rw [e n,e (n+m)];unfold eG;rw [hz];have:zX { s with pos:=ofQ (zX s n) } m=zX s (n+m):=by
   unfold zX;simp only;rw [aLh,Rat.add_assoc];have:sE { s with pos:=ofQ (toQ s.pos+sE s n) } m=sE s m:=rfl;rw [this,aRy]
  simp only [Bool.false_eq_true,if_false,this]
theorem aJb {c:ClipR} (ha:aY c.a=true) (hb:aY c.b=true) (n m l:Int):mS { mS c n with len:=l } m = { mS c (n+m) with len:=l }:=by
 unfold mS;simp only [xF ha,xF hb];cases hs:shK c.kind with
 | true=>simp only [if_true];congr 1;omega
 | false=>simp only [Bool.false_eq_true,if_false]
theorem aKp {c q:ClipR} (ha:aY c.a=true) (hb:aY c.b=true) (h:gZ c q=true) (r:ClipR):gZ { c with len:=c.len+q.len } r=gZ q r:=by
 unfold gZ at h;split at h
 ·rename_i hk;simp only [Bool.and_eq_true,beq_iff_eq] at hk;have e:∀ d:ClipR,d.kind=0→gZ d r=(r.kind==0):=fun d hd=>by
   unfold gZ
   by_cases hr:r.kind=0
   ·rw [if_pos (by rw [hd,hr];rfl),hr];rfl
   ·have hn : ¬ (d.kind==0&&r.kind==0)=true:=by simp [hr]
    have hf:(r.kind==0)=false:=by simp [hr]
    rw [if_neg hn,hf,Bool.eq_false_iff,ne_eq,ClipR.eqb_iff];intro h;have:r.kind=d.kind:=by rw [h];rfl
    exact hr (this.trans hd)
  rw [e _ hk.2];exact e _ hk.1
 ·rename_i hk;rw [ClipR.eqb_iff] at h;have hq:q.kind=c.kind:=by rw [h];rfl
  have key : { mS { c with len:=c.len+q.len } (c.len+q.len) with len:=r.len } = { mS q q.len with len:=r.len }:=by
   have e1:mS { c with len:=c.len+q.len } (c.len+q.len) = { mS c (c.len+q.len) with len:=c.len+q.len }:=rfl;have e2:mS q q.len = { mS c (c.len+q.len) with len:=q.len }:=by
    have:=aJb ha hb c.len q.len q.len;rw [← h] at this;exact this
   rw [e1,e2]
  unfold gZ;simp only [hq];rw [key]
theorem aUf (c:ClipR):∀ (l:List ClipR),c∈l→(∀ d∈l,1≤d.len)→c.len≤bU l:=by
 intro l
 induction l with
 | nil=>intro h;simp at h
 | cons d l ih =>
  intro h hl;have hn:=gU l fun e he=>hl e (by simp [he])
  have hd:=hl d (by simp);rcases List.mem_cons.1 h with e | h
  ·rw [e];simp only [bU];omega
  ·have:=ih h fun e he=>hl e (by simp [he])
   simp only [bU];omega
theorem aSd {t:List ClipR} (hi:∀ i,i<t.length→bB (t.getD i default)=true) (k:Nat):bU (t.take k)≤bU t:=by
 have h:=tJ (t.take k) (t.drop k);rw [List.take_append_drop] at h;have:=gU (t.drop k) fun c hc=>by
  obtain ⟨i,hi2,rfl⟩:=List.mem_iff_getElem.1 (List.mem_of_mem_drop hc);have:=bZ (hi i hi2);rw [aJ hi2] at this;exact this.1
 omega
theorem Lm {t:List ClipR}:∀ k,k≤t.length → ∀ c∈eE t k, ∃ j,j<t.length∧c = { t.getD j default with len:=c.len }
 | 0,_,c,hc=>by simp [eE] at hc
 | k+1,h,c,hc=>by
  have ih:=Lm (t:=t) k (by omega);rw [eE] at hc;split at hc
  ·rename_i hb;rcases hp:eE t k with _ | ⟨d,l⟩
   ·rw [hp] at hc;simp [Ht] at hc
   ·obtain ⟨i,e,he⟩:=Fm (l:=eE t k) (by rw [hp];simp);rw [he,mN] at hc;rcases List.mem_append.1 hc with hc | hc
    ·exact ih c (by rw [he];simp [hc])
    ·simp only [List.mem_cons,List.not_mem_nil,or_false] at hc;obtain ⟨j,hj,hj2⟩:=ih e (by rw [he];simp);refine ⟨j,hj,?_⟩;rw [hc]
     conv=>lhs;rw [hj2]
  ·rcases List.mem_append.1 hc with hc | hc
   ·exact ih c hc
   ·simp only [List.mem_cons,List.not_mem_nil,or_false] at hc;exact ⟨k,by omega,by rw [hc]⟩
theorem aEj {t:List ClipR} (hv:bC t=true) (hfit:∀ c∈t,c.fit) {k:Nat} (hk:k≤t.length) {c:ClipR} (hc:c∈eE t k):Mild c:=by
 obtain ⟨h64,hi,htot⟩:=sN hv;obtain ⟨f1,f2,f3,f4⟩:=pP hi k hk;obtain ⟨j,hj,e⟩:=Lm k hk c hc;have m:=aMg (hfit _ (aW hj)) (hi j hj);have h1:=f4 c hc;have h2:=aUf c _ hc f4;have h3:=aSd hi k;rw [f3] at h2;have hl : 0≤c.len∧c.len≤2147483647:=by omega
 rw [e];have e2 : { t.getD j default with len:=c.len }.len=c.len:=rfl;exact ⟨⟨⟨by simp only;omega,by simp only;omega⟩,m.fit.kind,m.fit.a,m.fit.b,m.fit.off,m.fit.total,m.fit.param,m.fit.gain⟩,m.chan,m.a,m.b,hl,m.off⟩
theorem Lk {t:List ClipR} (hv:bC t=true) (hfit:∀ c∈t,c.fit):∀ k,k≤t.length → ∀ i c,eE t k=i ++ [c] → ∀ q,gZ c q=gZ (t.getD (k - 1) default) q
 | 0,_,i,c,h,_=>by simp [eE] at h
 | k+1,hk,i,c,h,q=>by
  have ih:=Lk hv hfit k (by omega);rw [eE] at h;split at h
  ·rename_i hb;unfold Da at hb;simp only [Bool.and_eq_true,decide_eq_true_eq] at hb;obtain ⟨i2,c2,h2⟩:=Fm ((pP (sN hv).2.1 k (by omega)).2.1 hb.1);rw [h2,mN] at h;have hc:=(List.append_inj' h rfl).2;simp only [List.cons.injEq,and_true] at hc;have m:=aEj hv hfit (k:=k) (by omega) (c:=c2) (by rw [h2];simp);have h4:=ih i2 c2 h2 (t.getD k default);rw [hb.2] at h4;rw [← hc,aKp m.a m.b h4];rfl
  ·have hc:=(List.append_inj' h rfl).2;simp only [List.cons.injEq,and_true] at hc;rw [← hc];rfl
open Go.RowKit
set_option maxRecDepth 4000
def pN (t:List ClipR):List ClipR:=if bC t=true then Qt t else []
theorem cPack (t:List ClipR) (hfit:∀ c∈t,c.fit):aM Tryz.prog 104 [.t (eD t)] (.t (eD (pN t))):=by
 refine cR Tryz.X104 Tryz.func104 rfl Tryz.ntmps104 (by rw [Tryz.results104]) (aD _ ?_);simp only [go_sem,simprocAttr];refine ⟨_,Np t hfit,?_⟩;simp only [go_sem];refine ⟨fun h=>?_,fun h=>?_⟩
 ·unfold awS;simp only [go_sem,simprocAttr];unfold pN;rw [nt h];exact Js
 ·unfold awS;simp only [go_sem,simprocAttr];refine ⟨_,cPack1 t hfit (nf h),?_⟩;simp only [go_sem];unfold pN;rw [if_pos (nf h)];exact aU rfl rfl
def nG (o:List ClipR):Bool:=decide (0<o.length)&&(o.getD (o.length - 1) default).kind==0
def kX (o:List ClipR):List ClipR:=if nG o=true then o.take (o.length - 1) else o
def jU (t:List ClipR):List ClipR:=kX (pN t)
theorem aQ5 (t:List ClipR):(pN t).length≤64:=by
 unfold pN;split
 ·rename_i h;obtain ⟨h64,hi,htot⟩:=sN h;have:=(pP hi t.length (Nat.le_refl _)).1;unfold Qt;omega
 ·simp
theorem aNg (t:List ClipR) (hfit:∀ c∈t,c.fit):aM Tryz.prog 47 [.t (eD t)] (.t (eD (jU t))):=by
 have h64:=aQ5 t;refine cR Tryz.X47 Tryz.func47 rfl Tryz.ntmps47 (by rw [Tryz.results47]) (aD _ ?_);simp only [go_sem,↓reduceIte,Nat.reduceSub];refine ⟨_,cPack t hfit,?_⟩;have ho:pN t=pN t:=rfl;rw [← ho] at h64;have hn:jU t=kX (pN t):=by unfold jU;rw [ho]
 rw [hn];generalize pN t=o at h64;clear ho hn;have w1:IntKind.i64.wrap ((o.length:Int) - 1)=(o.length:Int) - 1:=wrap64 (by omega) (by omega);have w2:((o.length:Int) - 1).toNat=o.length - 1:=by omega
 simp only [go_sem,↓reduceIte,w1,w2];refine ⟨fun h=>?_,?_⟩
 ·simp only [decide_eq_true_eq] at h;omega
 refine brW (b:=nG o) ?_ ⟨fun hb=>?_,fun hb=>?_⟩
 ·unfold nG;have:decide ((o.length:Int) > 0)=decide (0<o.length):=by rw [Bool.eq_iff_iff];simp only [decide_eq_true_eq];omega
  rw [this]
 ·have hb2:=hb;unfold nG at hb2;simp only [Bool.and_eq_true,decide_eq_true_eq] at hb2;unfold awS;simp only [go_sem,↓reduceIte,w1,w2];refine ⟨⟨by omega,by omega,by omega⟩,aU ?_ rfl⟩;unfold kX;rw [if_pos hb,Int.toNat_zero,List.drop_zero, ← List.map_take];rfl
 ·unfold awS;simp only [go_sem];unfold kX;rw [hb];exact aU rfl rfl
end Go.Proofs.YtbfnemkngoaeeaaGreat
