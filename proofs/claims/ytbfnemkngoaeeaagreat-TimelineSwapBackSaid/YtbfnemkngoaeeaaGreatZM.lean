/- Proved here: Contracts of the functions that pack a track, for use in the proofs of the given statements; conditions stand in each theorem. -/
import Derived.Test.YtbfnemkngoaeeaaGreatZL
set_option linter.unusedSimpArgs false
set_option linter.unusedVariables false
set_option linter.unusedSectionVars false
set_option linter.unnecessarySimpa false
namespace Go.Proofs.YtbfnemkngoaeeaaGreat
open Go.RowKit
set_option maxRecDepth 4000
def addLast:List ClipR→Int→List ClipR
 | [],_=>[]
 | [c],n=>[{ c with len:=c.len+n }]
 | c::d::l,n=>c::addLast (d::l) n
theorem addLast_snoc (c:ClipR) (n:Int):∀ l:List ClipR,addLast (l ++ [c]) n=l ++ [{ c with len:=c.len+n }]
 | []=>rfl
 | [d]=>rfl
 | d::e::l=>by
  have:=addLast_snoc c n (e::l)
  simp only [List.cons_append,addLast] at this ⊢
  rw [this]
theorem snoc_of {α : Type}:∀ {l:List α},l ≠ [] → ∃ i c,l=i ++ [c]
 | [],h=>(h rfl).elim
 | [c],_=>⟨[],c,rfl⟩
 | c::d::l,_=>by
  obtain ⟨i,e,h⟩:=snoc_of (l:=d::l) (by simp)
  exact ⟨c::i,e,by rw [h];rfl⟩
theorem totL_app:∀ (l m:List ClipR),totL (l++m)=totL l+totL m
 | [],m=>by simp [totL]
 | c::l,m=>by simp only [List.cons_append,totL,totL_app l m];omega
theorem totL_one (c:ClipR):totL [c]=c.len:=by simp [totL]
def packB (t:List ClipR) (k:Nat):Bool:=decide (0<k)&&contC (t.getD (k - 1) default) (t.getD k default)
def packGo (t:List ClipR):Nat→List ClipR
 | 0=>[]
 | k+1=>if packB t k=true then addLast (packGo t k) (t.getD k default).len else packGo t k ++ [t.getD k default]
def packP (t:List ClipR):List ClipR:=packGo t t.length
theorem packGo_facts {t:List ClipR} (hi:∀ i,i<t.length→vClip (t.getD i default)=true):∀ k,k≤t.length→(packGo t k).length≤k∧(0<k→packGo t k ≠ [])∧totL (packGo t k)=totL (t.take k) ∧ ∀ c∈packGo t k,1≤c.len
 | 0,_=>by simp [packGo,totL]
 | k+1,h=>by
  obtain ⟨h1,h2,h3,h4⟩:=packGo_facts hi k (by omega)
  have hl:=vClip_len (hi k (by omega))
  have ht:=totL_take t k (by omega)
  unfold packGo
  cases hb:packB t k with
  | true =>
   have hk : 0<k:=by unfold packB at hb;simp only [Bool.and_eq_true,decide_eq_true_eq] at hb;exact hb.1
   obtain ⟨i,c,e⟩:=snoc_of (h2 hk)
   rw [if_pos rfl,e,addLast_snoc]
   rw [e] at h1 h3 h4
   rw [totL_app,totL_one] at h3
   simp only [List.length_append,List.length_cons,List.length_nil] at h1 ⊢
   refine ⟨by omega,fun _=>by simp,?_,fun d hd=>?_⟩
   ·rw [totL_app,totL_one,ht, ← h3];simp only;omega
   ·rcases List.mem_append.1 hd with hd | hd
    ·exact h4 d (by simp [hd])
    ·have:=h4 c (by simp)
     simp only [List.mem_cons,List.not_mem_nil,or_false] at hd
     rw [hd];simp only;omega
  | false =>
   rw [if_neg (by simp)]
   simp only [List.length_append,List.length_cons,List.length_nil]
   refine ⟨by omega,fun _=>by simp,?_,fun d hd=>?_⟩
   ·rw [totL_app,totL_one,ht, ← h3]
   ·rcases List.mem_append.1 hd with hd | hd
    ·exact h4 d hd
    ·simp only [List.mem_cons,List.not_mem_nil,or_false] at hd
     rw [hd];omega
theorem totL_nonneg:∀ (l:List ClipR),(∀ c∈l,1≤c.len)→0≤totL l
 | [],_=>by simp [totL]
 | c::l,h=>by
  have:=totL_nonneg l fun d hd=>h d (by simp [hd])
  have:=h c (by simp)
  simp only [totL];omega
theorem vTrack_parts {t:List ClipR} (h:vTrack t=true):t.length≤64∧(∀ i,i<t.length→vClip (t.getD i default)=true)∧totL t≤2147483647:=by
 unfold vTrack at h
 simp only [Bool.and_eq_true,decide_eq_true_eq,List.all_eq_true] at h
 exact ⟨h.1.1,fun i hi=>h.1.2 _ (mem_getD hi),h.2⟩
theorem getD_snoc {α : Type} (i:List α) (c d : α):(i ++ [c]).getD i.length d=c:=by simp [List.getD_eq_getElem?_getD]
theorem tset_len (i:List ClipR) (c:ClipR) (n:Int):(tRows (List.map ClipR.c (i ++ [c]))).set i.length [vint n,vint c.kind,vint c.a.kind,vstr c.a.name,vint c.a.pos.num,vint c.a.pos.den,vint c.a.speed.num,vint c.a.speed.den,vbool c.a.smooth,
 vint c.b.kind,vstr c.b.name,vint c.b.pos.num,vint c.b.pos.den,vint c.b.speed.num,vint c.b.speed.den,vbool c.b.smooth,vint c.off,vint c.total,vint c.param,vstr c.text,vint c.gain, .t (tints c.chan)]=tRows (List.map ClipR.c (i ++ [{ c with len:=n }])):=by
 have e:∀ d:ClipR,tRows (List.map ClipR.c (i ++ [d]))=tRows (List.map ClipR.c i) ++ [(ClipR.c d).map .t]:=fun d=>by simp [tRows]
 have hl:i.length=(tRows (List.map ClipR.c i)).length:=by simp [tRows]
 rw [e,e,hl,List.set_append_right _ _ (Nat.le_refl _),Nat.sub_self]
 rfl
abbrev RowC (l:List ClipR):Blk := .row 103 22 (ClipR.c default) (tRows (l.map ClipR.c))
theorem cPack1 (t:List ClipR) (hfit:∀ c∈t,c.fit) (hv:vTrack t=true):CPure Tryz.prog 181 [.t (tclips t)] (.t (tclips (packP t))):=by
 obtain ⟨h64,hi,htot⟩:=vTrack_parts hv
 have hM:∀ i,i<t.length→Mild (t.getD i default):=fun i h=>mild_of (hfit _ (mem_getD h)) (hi i h)
 refine cpure_of Tryz.xen181 Tryz.func181 rfl Tryz.ntmps181 (by rw [Tryz.results181]) (aw_ok _ ?_)
 simp only [go_sem,Nat.reduceGT,Nat.reducePow,Nat.reduceLT,↓reduceIte,Nat.reduceAdd,Nat.reduceMul,Nat.reduceSub,Nat.reduceMod,Nat.reduceLeDiff,Nat.reduceEqDiff,Nat.reduceBEq,reduceCtorEq]
 refine awp_loop_f (fun (k:Nat) σ => { fr:=(σ.fr.set 3 (.own 0)).set 8 (vint k),h:=[(0,RowC (packGo t k))],nx:=1 }) (fun k=>k≤t.length) (fun k=>t.length - k) 0 (weak_of [(0,none)] ?_) (Nat.zero_le _) ?_
 ·simp only [go_sem,Nat.reduceGT,Nat.reducePow,Nat.reduceLT,↓reduceIte,Nat.reduceAdd,Nat.reduceMul,Nat.reduceSub,Nat.reduceMod,Nat.reduceLeDiff,Nat.reduceEqDiff,Nat.reduceBEq,reduceCtorEq]
  exact ⟨rfl,rfl⟩
 ·intro k hk
  obtain ⟨f1,f2,f3,f4⟩:=packGo_facts hi k hk
  refine aw_ok _ ?_
  simp only [go_sem,Nat.reduceGT,Nat.reducePow,Nat.reduceLT,↓reduceIte,Nat.reduceAdd,Nat.reduceMul,Nat.reduceSub,Nat.reduceMod,Nat.reduceLeDiff,Nat.reduceEqDiff,Nat.reduceBEq,reduceCtorEq]
  refine ⟨fun hlt=>?_,fun hge=>?_⟩
  ·simp only [decide_eq_true_eq,decide_eq_false_iff_not,beq_iff_eq,bne_iff_ne,ne_eq,beq_eq_false_iff_ne,Bool.not_eq_true',Bool.not_eq_true,Bool.not_eq_false',Bool.or_eq_true,Bool.and_eq_true,Bool.or_eq_false_iff,Bool.and_eq_false_iff,Bool.false_eq_true,Bool.not_eq_eq_eq_not,Bool.not_true,Bool.not_false] at hlt
   have hkl:k<t.length:=by omega
   have w1:IntKind.i64.wrap ((k:Int) - 1)=(k:Int) - 1:=wrap64 (by omega) (by omega)
   have w2:((k:Int) - 1).toNat=k - 1:=by omega
   have hlk:=vClip_len (hi k hkl)
   have htk:=totL_take t k hkl
   have htr:=tot_range (t:=t) (k:=k+1) (by omega) h64 (fun i h=>hi i (by omega))
   have hn1:=totL_nonneg _ f4
   unfold awS
   simp only [go_sem,Nat.reduceGT,Nat.reducePow,Nat.reduceLT,↓reduceIte,Nat.reduceAdd,Nat.reduceMul,Nat.reduceSub,Nat.reduceMod,Nat.reduceLeDiff,Nat.reduceEqDiff,Nat.reduceBEq,reduceCtorEq]
   refine ⟨⟨by omega,by omega⟩,?_⟩
   refine drawR_of [0,1,2,3,4,5,6,7,8,9,10] .done rfl (by kernel_rfl) (by kernel_rfl) (by decide) ?_
   simp only [go_sem,Nat.reduceGT,Nat.reducePow,Nat.reduceLT,↓reduceIte,Nat.reduceAdd,Nat.reduceMul,Nat.reduceSub,Nat.reduceMod,Nat.reduceLeDiff,Nat.reduceEqDiff,Nat.reduceBEq,reduceCtorEq,w1,w2]
   refine ⟨fun h=>?_,_,fun _=>cContinues (t.getD (k - 1) default) (t.getD k default) (hM (k - 1) (by omega)),?_⟩
   ·simp only [decide_eq_true_eq,decide_eq_false_iff_not,beq_iff_eq,bne_iff_ne,ne_eq,beq_eq_false_iff_ne,Bool.not_eq_true',Bool.not_eq_true,Bool.not_eq_false',Bool.or_eq_true,Bool.and_eq_true,Bool.or_eq_false_iff,Bool.and_eq_false_iff,Bool.false_eq_true,Bool.not_eq_eq_eq_not,Bool.not_true,Bool.not_false] at h
    omega
   simp only [go_sem,Nat.reduceGT,Nat.reducePow,Nat.reduceLT,↓reduceIte,Nat.reduceAdd,Nat.reduceMul,Nat.reduceSub,Nat.reduceMod,Nat.reduceLeDiff,Nat.reduceEqDiff,Nat.reduceBEq,reduceCtorEq]
   refine brW (b:=packB t k) ?_ ⟨fun hb=>?_,fun hb=>?_⟩
   ·unfold packB
    have:decide ((k:Int) > 0)=decide (0<k):=by rw [Bool.eq_iff_iff];simp only [decide_eq_true_eq,decide_eq_false_iff_not,beq_iff_eq,bne_iff_ne,ne_eq,beq_eq_false_iff_ne,Bool.not_eq_true',Bool.not_eq_true,Bool.not_eq_false',Bool.or_eq_true,Bool.and_eq_true,Bool.or_eq_false_iff,Bool.and_eq_false_iff,Bool.false_eq_true,Bool.not_eq_eq_eq_not,Bool.not_true,Bool.not_false];omega
    rw [this]
   ·have hk0 : 0<k:=by unfold packB at hb;simp only [Bool.and_eq_true,decide_eq_true_eq] at hb;exact hb.1
    obtain ⟨i,c,e⟩:=snoc_of (f2 hk0)
    have f3':=f3
    have f4':=f4
    rw [e] at f1 f3 f4
    rw [totL_app,totL_one] at f3
    have hl1:=f4 c (by simp)
    have hin:=totL_nonneg i fun d hd=>f4 d (by simp [hd])
    have hil:i.length+1≤k:=by simpa using f1
    unfold awS
    rw [e]
    have hlen:(List.map ClipR.c (i ++ [c])).length=i.length+1:=by simp
    simp only [go_sem,Nat.reduceGT,Nat.reducePow,Nat.reduceLT,↓reduceIte,Nat.reduceAdd,Nat.reduceMul,Nat.reduceSub,Nat.reduceMod,Nat.reduceLeDiff,Nat.reduceEqDiff,Nat.reduceBEq,reduceCtorEq]
    have hL:(i ++ [c]).length=i.length+1:=by simp
    have w3:IntKind.i64.wrap (((i.length+1:Nat):Int) - 1)=(i.length:Int):=by rw [wrap64 (by omega) (by omega)];omega
    have w4:IntKind.i64.wrap ((i.length:Int)+1 - 1)=(i.length:Int):=by rw [wrap64 (by omega) (by omega)];omega
    refine drawC_of 13 .done rfl (by kernel_rfl) (by kernel_rfl) (by decide) ?_
    have w5:IntKind.i64.wrap (c.len+(t.getD k default).len)=c.len+(t.getD k default).len:=wrap64 (by omega) (by omega)
    simp only [go_sem,Nat.reduceGT,Nat.reducePow,Nat.reduceLT,↓reduceIte,Nat.reduceAdd,Nat.reduceMul,Nat.reduceSub,Nat.reduceMod,Nat.reduceLeDiff,Nat.reduceEqDiff,Nat.reduceBEq,reduceCtorEq,hL,w3,w4,wrap1 (show k<9223372036854775807 by omega),getD_snoc,w5,tset_len]
    refine ⟨⟨by omega,by omega⟩,by omega,⟨by omega,by omega⟩,by omega,by kernel_rfl,k+1,weak_of [(0,some 0)] ?_,by omega,by omega⟩
    simp only [go_sem,Nat.reduceGT,Nat.reducePow,Nat.reduceLT,↓reduceIte,Nat.reduceAdd,Nat.reduceMul,Nat.reduceSub,Nat.reduceMod,Nat.reduceLeDiff,Nat.reduceEqDiff,Nat.reduceBEq,reduceCtorEq]
    refine ⟨⟨by simp,?_⟩,rfl⟩
    unfold packGo
    rw [if_pos hb,e,addLast_snoc]
   ·unfold awS
    simp only [go_sem,Nat.reduceGT,Nat.reducePow,Nat.reduceLT,↓reduceIte,Nat.reduceAdd,Nat.reduceMul,Nat.reduceSub,Nat.reduceMod,Nat.reduceLeDiff,Nat.reduceEqDiff,Nat.reduceBEq,reduceCtorEq]
    refine ⟨_,cCopied (t.getD k default) (hM k hkl).chan,?_⟩
    simp only [go_sem,Nat.reduceGT,Nat.reducePow,Nat.reduceLT,↓reduceIte,Nat.reduceAdd,Nat.reduceMul,Nat.reduceSub,Nat.reduceMod,Nat.reduceLeDiff,Nat.reduceEqDiff,Nat.reduceBEq,reduceCtorEq,wrap1 (show k<9223372036854775807 by omega)]
    refine ⟨⟨by unfold maxLen;omega,by omega⟩,k+1,weak_of [(0,some 3)] ?_,by omega,by omega⟩
    simp only [go_sem,Nat.reduceGT,Nat.reducePow,Nat.reduceLT,↓reduceIte,Nat.reduceAdd,Nat.reduceMul,Nat.reduceSub,Nat.reduceMod,Nat.reduceLeDiff,Nat.reduceEqDiff,Nat.reduceBEq,reduceCtorEq]
    refine ⟨⟨by simp,?_⟩,rfl⟩
    have e:packGo t (k+1)=packGo t k ++ [t.getD k default]:=by rw [packGo,if_neg (by rw [hb];simp)]
    rw [e,List.map_append]
    rfl
  ·simp only [decide_eq_true_eq,decide_eq_false_iff_not,beq_iff_eq,bne_iff_ne,ne_eq,beq_eq_false_iff_ne,Bool.not_eq_true',Bool.not_eq_true,Bool.not_eq_false',Bool.or_eq_true,Bool.and_eq_true,Bool.or_eq_false_iff,Bool.and_eq_false_iff,Bool.false_eq_true,Bool.not_eq_eq_eq_not,Bool.not_true,Bool.not_false] at hge
   have:k=t.length:=by omega
   subst this
   unfold awS
   simp only [go_sem,Nat.reduceGT,Nat.reducePow,Nat.reduceLT,↓reduceIte,Nat.reduceAdd,Nat.reduceMul,Nat.reduceSub,Nat.reduceMod,Nat.reduceLeDiff,Nat.reduceEqDiff,Nat.reduceBEq,reduceCtorEq]<;>rfl
open Go.RowKit
set_option maxRecDepth 4000
theorem isZ_kind {s:SourceR} (h:s.kind≠0):s.isZ=false:=by
 unfold SourceR.isZ
 rw [Bool.eq_false_iff,ne_eq,SourceR.eqb_iff]
 rintro rfl;exact h rfl
open Go.RowKit
set_option maxRecDepth 4000
def packT (t:List ClipR):List ClipR:=if vTrack t=true then packP t else []
theorem cPack (t:List ClipR) (hfit:∀ c∈t,c.fit):CPure Tryz.prog 104 [.t (tclips t)] (.t (tclips (packT t))):=by
 refine cpure_ofW Tryz.xen104 Tryz.func104 rfl Tryz.ntmps104 (by rw [Tryz.results104]) (aw_ok _ ?_)
 simp only [go_sem,Nat.reduceGT,Nat.reducePow,Nat.reduceLT,↓reduceIte,Nat.reduceAdd,Nat.reduceMul,Nat.reduceSub,Nat.reduceMod,Nat.reduceLeDiff,Nat.reduceEqDiff,Nat.reduceBEq,reduceCtorEq]
 refine ⟨_,cPTrack t hfit,?_⟩
 simp only [go_sem,Nat.reduceGT,Nat.reducePow,Nat.reduceLT,↓reduceIte,Nat.reduceAdd,Nat.reduceMul,Nat.reduceSub,Nat.reduceMod,Nat.reduceLeDiff,Nat.reduceEqDiff,Nat.reduceBEq,reduceCtorEq]
 refine ⟨fun h=>?_,fun h=>?_⟩
 ·unfold awS
  simp only [go_sem,Nat.reduceGT,Nat.reducePow,Nat.reduceLT,↓reduceIte,Nat.reduceAdd,Nat.reduceMul,Nat.reduceSub,Nat.reduceMod,Nat.reduceLeDiff,Nat.reduceEqDiff,Nat.reduceBEq,reduceCtorEq]
  unfold packT
  rw [nt h]
  exact pureW_nil
 ·unfold awS
  simp only [go_sem,Nat.reduceGT,Nat.reducePow,Nat.reduceLT,↓reduceIte,Nat.reduceAdd,Nat.reduceMul,Nat.reduceSub,Nat.reduceMod,Nat.reduceLeDiff,Nat.reduceEqDiff,Nat.reduceBEq,reduceCtorEq]
  refine ⟨_,cPack1 t hfit (nf h),?_⟩
  simp only [go_sem,Nat.reduceGT,Nat.reducePow,Nat.reduceLT,↓reduceIte,Nat.reduceAdd,Nat.reduceMul,Nat.reduceSub,Nat.reduceMod,Nat.reduceLeDiff,Nat.reduceEqDiff,Nat.reduceBEq,reduceCtorEq]
  unfold packT
  rw [if_pos (nf h)]
  exact pureW_self rfl rfl
def gapLast (o:List ClipR):Bool:=decide (0<o.length)&&(o.getD (o.length - 1) default).kind==0
def cleanL (o:List ClipR):List ClipR:=if gapLast o=true then o.take (o.length - 1) else o
def normT (t:List ClipR):List ClipR:=cleanL (packT t)
theorem packT_len (t:List ClipR):(packT t).length≤64:=by
 unfold packT
 split
 ·rename_i h
  obtain ⟨h64,hi,htot⟩:=vTrack_parts h
  have:=(packGo_facts hi t.length (Nat.le_refl _)).1
  unfold packP;omega
 ·simp
theorem cNormal (t:List ClipR) (hfit:∀ c∈t,c.fit):CPure Tryz.prog 47 [.t (tclips t)] (.t (tclips (normT t))):=by
 have h64:=packT_len t
 refine cpure_ofW Tryz.xen47 Tryz.func47 rfl Tryz.ntmps47 (by rw [Tryz.results47]) (aw_ok _ ?_)
 simp only [go_sem,Nat.reduceGT,Nat.reducePow,Nat.reduceLT,↓reduceIte,Nat.reduceAdd,Nat.reduceMul,Nat.reduceSub,Nat.reduceMod,Nat.reduceLeDiff,Nat.reduceEqDiff,Nat.reduceBEq,reduceCtorEq]
 refine ⟨_,cPack t hfit,?_⟩
 have ho:packT t=packT t:=rfl
 rw [← ho] at h64
 have hn:normT t=cleanL (packT t):=by unfold normT;rw [ho]
 rw [hn]
 generalize packT t=o at h64
 clear ho hn
 have w1:IntKind.i64.wrap ((o.length:Int) - 1)=(o.length:Int) - 1:=wrap64 (by omega) (by omega)
 have w2:((o.length:Int) - 1).toNat=o.length - 1:=by omega
 simp only [go_sem,Nat.reduceGT,Nat.reducePow,Nat.reduceLT,↓reduceIte,Nat.reduceAdd,Nat.reduceMul,Nat.reduceSub,Nat.reduceMod,Nat.reduceLeDiff,Nat.reduceEqDiff,Nat.reduceBEq,reduceCtorEq,w1,w2]
 refine ⟨fun h=>?_,?_⟩
 ·simp only [decide_eq_true_eq,decide_eq_false_iff_not,beq_iff_eq,bne_iff_ne,ne_eq,beq_eq_false_iff_ne,Bool.not_eq_true',Bool.not_eq_true,Bool.not_eq_false',Bool.or_eq_true,Bool.and_eq_true,Bool.or_eq_false_iff,Bool.and_eq_false_iff,Bool.false_eq_true,Bool.not_eq_eq_eq_not,Bool.not_true,Bool.not_false] at h
  omega
 refine brW (b:=gapLast o) ?_ ⟨fun hb=>?_,fun hb=>?_⟩
 ·unfold gapLast
  have:decide ((o.length:Int) > 0)=decide (0<o.length):=by rw [Bool.eq_iff_iff];simp only [decide_eq_true_eq,decide_eq_false_iff_not,beq_iff_eq,bne_iff_ne,ne_eq,beq_eq_false_iff_ne,Bool.not_eq_true',Bool.not_eq_true,Bool.not_eq_false',Bool.or_eq_true,Bool.and_eq_true,Bool.or_eq_false_iff,Bool.and_eq_false_iff,Bool.false_eq_true,Bool.not_eq_eq_eq_not,Bool.not_true,Bool.not_false];omega
  rw [this]
 ·have hb2:=hb
  unfold gapLast at hb2
  simp only [Bool.and_eq_true,decide_eq_true_eq] at hb2
  unfold awS
  simp only [go_sem,Nat.reduceGT,Nat.reducePow,Nat.reduceLT,↓reduceIte,Nat.reduceAdd,Nat.reduceMul,Nat.reduceSub,Nat.reduceMod,Nat.reduceLeDiff,Nat.reduceEqDiff,Nat.reduceBEq,reduceCtorEq,w1,w2]
  refine ⟨⟨by omega,by omega,by omega⟩,pureW_self ?_ rfl⟩
  unfold cleanL
  rw [if_pos hb,Int.toNat_zero,List.drop_zero, ← List.map_take]
  rfl
 ·unfold awS
  simp only [go_sem,Nat.reduceGT,Nat.reducePow,Nat.reduceLT,↓reduceIte,Nat.reduceAdd,Nat.reduceMul,Nat.reduceSub,Nat.reduceMod,Nat.reduceLeDiff,Nat.reduceEqDiff,Nat.reduceBEq,reduceCtorEq]
  unfold cleanL
  rw [hb]
  exact pureW_self rfl rfl
end Go.Proofs.YtbfnemkngoaeeaaGreat
