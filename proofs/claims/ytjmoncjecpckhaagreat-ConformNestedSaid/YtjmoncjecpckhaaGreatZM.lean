/- Proved here: Contracts of the functions that pack a track, for use in the proofs of the given statements; conditions stand in each theorem. -/
import Derived.Test.YtjmoncjecpckhaaGreatZL
set_option linter.unusedSimpArgs false
set_option linter.unusedVariables false
set_option linter.unusedSectionVars false
set_option linter.unnecessarySimpa false
namespace Go.Proofs.YtjmoncjecpckhaaGreat
open Go.RowKit
set_option maxRecDepth 4000
def addLast:List ClipR→Int→List ClipR
 | [],_=>[]
 | [c],n=>[{ c with len:=c.len+n }]
 | c::d::l,n=>c::addLast (d::l) n
theorem addLast_snoc (c:ClipR) (n:Int):∀ l:List ClipR,addLast (l ++ [c]) n=l ++ [{ c with len:=c.len+n }]
 | []=>rfl
 | [d]=>rfl
 | d::e::l=>by
  have:=addLast_snoc c n (e::l)
  simp only [List.cons_append,addLast] at this ⊢
  rw [this]
theorem snoc_of {α : Type}:∀ {l:List α},l ≠ [] → ∃ i c,l=i ++ [c]
 | [],h=>(h rfl).elim
 | [c],_=>⟨[],c,rfl⟩
 | c::d::l,_=>by
  obtain ⟨i,e,h⟩:=snoc_of (l:=d::l) (by simp)
  exact ⟨c::i,e,by rw [h];rfl⟩
theorem totL_app:∀ (l m:List ClipR),totL (l++m)=totL l+totL m
 | [],m=>by simp [totL]
 | c::l,m=>by simp only [List.cons_append,totL,totL_app l m];omega
theorem totL_one (c:ClipR):totL [c]=c.len:=by simp [totL]
def packB (t:List ClipR) (k:Nat):Bool:=decide (0<k)&&contC (t.getD (k - 1) default) (t.getD k default)
def packGo (t:List ClipR):Nat→List ClipR
 | 0=>[]
 | k+1=>if packB t k=true then addLast (packGo t k) (t.getD k default).len else packGo t k ++ [t.getD k default]
def packP (t:List ClipR):List ClipR:=packGo t t.length
theorem packGo_facts {t:List ClipR} (hi:∀ i,i<t.length→vClip (t.getD i default)=true):∀ k,k≤t.length→(packGo t k).length≤k∧(0<k→packGo t k ≠ [])∧totL (packGo t k)=totL (t.take k) ∧ ∀ c∈packGo t k,1≤c.len
 | 0,_=>by simp [packGo,totL]
 | k+1,h=>by
  obtain ⟨h1,h2,h3,h4⟩:=packGo_facts hi k (by omega)
  have hl:=vClip_len (hi k (by omega))
  have ht:=totL_take t k (by omega)
  unfold packGo
  cases hb:packB t k with
  | true =>
   have hk : 0<k:=by unfold packB at hb;simp only [Bool.and_eq_true,decide_eq_true_eq] at hb;exact hb.1
   obtain ⟨i,c,e⟩:=snoc_of (h2 hk)
   rw [if_pos rfl,e,addLast_snoc]
   rw [e] at h1 h3 h4
   rw [totL_app,totL_one] at h3
   simp only [List.length_append,List.length_cons,List.length_nil] at h1 ⊢
   refine ⟨by omega,fun _=>by simp,?_,fun d hd=>?_⟩
   ·rw [totL_app,totL_one,ht, ← h3];simp only;omega
   ·rcases List.mem_append.1 hd with hd | hd
    ·exact h4 d (by simp [hd])
    ·have:=h4 c (by simp)
     simp only [List.mem_cons,List.not_mem_nil,or_false] at hd
     rw [hd];simp only;omega
  | false =>
   rw [if_neg (by simp)]
   simp only [List.length_append,List.length_cons,List.length_nil]
   refine ⟨by omega,fun _=>by simp,?_,fun d hd=>?_⟩
   ·rw [totL_app,totL_one,ht, ← h3]
   ·rcases List.mem_append.1 hd with hd | hd
    ·exact h4 d hd
    ·simp only [List.mem_cons,List.not_mem_nil,or_false] at hd
     rw [hd];omega
theorem totL_nonneg:∀ (l:List ClipR),(∀ c∈l,1≤c.len)→0≤totL l
 | [],_=>by simp [totL]
 | c::l,h=>by
  have:=totL_nonneg l fun d hd=>h d (by simp [hd])
  have:=h c (by simp)
  simp only [totL];omega
theorem vTrack_parts {t:List ClipR} (h:vTrack t=true):t.length≤64∧(∀ i,i<t.length→vClip (t.getD i default)=true)∧totL t≤2147483647:=by
 unfold vTrack at h
 simp only [Bool.and_eq_true,decide_eq_true_eq,List.all_eq_true] at h
 exact ⟨h.1.1,fun i hi=>h.1.2 _ (mem_getD hi),h.2⟩
theorem getD_snoc {α : Type} (i:List α) (c d : α):(i ++ [c]).getD i.length d=c:=by simp [List.getD_eq_getElem?_getD]
theorem tset_len (i:List ClipR) (c:ClipR) (n:Int):(tRows (List.map ClipR.c (i ++ [c]))).set i.length [vint n,vint c.kind,vint c.a.kind,vstr c.a.name,vint c.a.pos.num,vint c.a.pos.den,vint c.a.speed.num,vint c.a.speed.den,vbool c.a.smooth,
 vint c.b.kind,vstr c.b.name,vint c.b.pos.num,vint c.b.pos.den,vint c.b.speed.num,vint c.b.speed.den,vbool c.b.smooth,vint c.off,vint c.total,vint c.param,vstr c.text,vint c.gain, .t (tints c.chan)]=tRows (List.map ClipR.c (i ++ [{ c with len:=n }])):=by
 have e:∀ d:ClipR,tRows (List.map ClipR.c (i ++ [d]))=tRows (List.map ClipR.c i) ++ [(ClipR.c d).map .t]:=fun d=>by simp [tRows]
 have hl:i.length=(tRows (List.map ClipR.c i)).length:=by simp [tRows]
 rw [e,e,hl,List.set_append_right _ _ (Nat.le_refl _),Nat.sub_self]
 rfl
abbrev RowC (l:List ClipR):Blk := .row 42 22 (ClipR.c default) (tRows (l.map ClipR.c))
open Go.RowKit
set_option maxRecDepth 4000
theorem toQ_int (n:Int):toQ ⟨n,1⟩=(n:Rat):=by
 unfold toQ
 simp only [Int.toNat_one]
 rw [Rat.mkRat_one]
theorem wayQ_add (s:SourceR) (n m:Int):wayQ s n+wayQ s m=wayQ s (n+m):=by
 unfold wayQ
 rw [toQ_int,toQ_int,toQ_int, ← Rat.add_mul,Rat.intCast_add]
theorem movedS_kind {s:SourceR} {n:Int}:(movedS s n).kind=s.kind:=by unfold movedS;split<;>rfl
theorem isZ_kind {s:SourceR} (h:s.kind≠0):s.isZ=false:=by
 unfold SourceR.isZ
 rw [Bool.eq_false_iff,ne_eq,SourceR.eqb_iff]
 rintro rfl;exact h rfl
theorem movedS_add {s:SourceR} (hv:vSource s=true) (n m:Int):movedS (movedS s n) m=movedS s (n+m):=by
 cases hb:s.isZ with
 | true =>
  have e:∀ n,movedS s n=s:=fun n=>by unfold movedS;rw [if_pos hb]
  rw [e,e,e]
 | false =>
  obtain ⟨p,d,ok⟩:=srcOk_of hv hb
  have e:∀ n,movedS s n = { s with pos:=ofQ (movedQ s n) }:=fun n=>by unfold movedS;rw [hb];rfl
  have hk:s.kind≠0:=by rcases ok.kind with h | h<;>omega
  have hz:SourceR.isZ { s with pos:=ofQ (movedQ s n) }=false:=isZ_kind hk
  rw [e n,e (n+m)]
  unfold movedS
  rw [hz]
  have:movedQ { s with pos:=ofQ (movedQ s n) } m=movedQ s (n+m):=by
   unfold movedQ
   simp only
   rw [toQ_ofQ,Rat.add_assoc]
   have:wayQ { s with pos:=ofQ (toQ s.pos+wayQ s n) } m=wayQ s m:=rfl
   rw [this,wayQ_add]
  simp only [Bool.false_eq_true,if_false,this]
theorem shiftR_add {c:ClipR} (ha:vSource c.a=true) (hb:vSource c.b=true) (n m l:Int):shiftR { shiftR c n with len:=l } m = { shiftR c (n+m) with len:=l }:=by
 unfold shiftR
 simp only [movedS_add ha,movedS_add hb]
 cases hs:shK c.kind with
 | true=>simp only [if_true];congr 1;omega
 | false=>simp only [Bool.false_eq_true,if_false]
theorem contC_join {c q:ClipR} (ha:vSource c.a=true) (hb:vSource c.b=true) (h:contC c q=true) (r:ClipR):contC { c with len:=c.len+q.len } r=contC q r:=by
 unfold contC at h
 split at h
 ·rename_i hk
  simp only [Bool.and_eq_true,beq_iff_eq] at hk
  have e:∀ d:ClipR,d.kind=0→contC d r=(r.kind==0):=fun d hd=>by
   unfold contC
   by_cases hr:r.kind=0
   ·rw [if_pos (by rw [hd,hr];rfl),hr];rfl
   ·have hn : ¬ (d.kind==0&&r.kind==0)=true:=by simp [hr]
    have hf:(r.kind==0)=false:=by simp [hr]
    rw [if_neg hn,hf,Bool.eq_false_iff,ne_eq,ClipR.eqb_iff]
    intro h
    have:r.kind=d.kind:=by rw [h];rfl
    exact hr (this.trans hd)
  rw [e _ hk.2]
  exact e _ hk.1
 ·rename_i hk
  rw [ClipR.eqb_iff] at h
  have hq:q.kind=c.kind:=by rw [h];rfl
  have key : { shiftR { c with len:=c.len+q.len } (c.len+q.len) with len:=r.len } = { shiftR q q.len with len:=r.len }:=by
   have e1:shiftR { c with len:=c.len+q.len } (c.len+q.len) = { shiftR c (c.len+q.len) with len:=c.len+q.len }:=rfl
   have e2:shiftR q q.len = { shiftR c (c.len+q.len) with len:=q.len }:=by
    have:=shiftR_add ha hb c.len q.len q.len
    rw [← h] at this
    exact this
   rw [e1,e2]
  unfold contC
  simp only [hq]
  rw [key]
theorem len_totL (c:ClipR):∀ (l:List ClipR),c∈l→(∀ d∈l,1≤d.len)→c.len≤totL l:=by
 intro l
 induction l with
 | nil=>intro h;simp at h
 | cons d l ih =>
  intro h hl
  have hn:=totL_nonneg l fun e he=>hl e (by simp [he])
  have hd:=hl d (by simp)
  rcases List.mem_cons.1 h with e | h
  ·rw [e];simp only [totL];omega
  ·have:=ih h fun e he=>hl e (by simp [he])
   simp only [totL];omega
theorem tot_take {t:List ClipR} (hi:∀ i,i<t.length→vClip (t.getD i default)=true) (k:Nat):totL (t.take k)≤totL t:=by
 have h:=totL_app (t.take k) (t.drop k)
 rw [List.take_append_drop] at h
 have:=totL_nonneg (t.drop k) fun c hc=>by
  obtain ⟨i,hi2,rfl⟩:=List.mem_iff_getElem.1 (List.mem_of_mem_drop hc)
  have:=vClip_len (hi i hi2)
  rw [getD_of_lt hi2] at this
  exact this.1
 omega
theorem packGo_from {t:List ClipR}:∀ k,k≤t.length → ∀ c∈packGo t k, ∃ j,j<t.length∧c = { t.getD j default with len:=c.len }
 | 0,_,c,hc=>by simp [packGo] at hc
 | k+1,h,c,hc=>by
  have ih:=packGo_from (t:=t) k (by omega)
  rw [packGo] at hc
  split at hc
  ·rename_i hb
   rcases hp:packGo t k with _ | ⟨d,l⟩
   ·rw [hp] at hc;simp [addLast] at hc
   ·obtain ⟨i,e,he⟩:=snoc_of (l:=packGo t k) (by rw [hp];simp)
    rw [he,addLast_snoc] at hc
    rcases List.mem_append.1 hc with hc | hc
    ·exact ih c (by rw [he];simp [hc])
    ·simp only [List.mem_cons,List.not_mem_nil,or_false] at hc
     obtain ⟨j,hj,hj2⟩:=ih e (by rw [he];simp)
     refine ⟨j,hj,?_⟩
     rw [hc]
     conv=>lhs;rw [hj2]
  ·rcases List.mem_append.1 hc with hc | hc
   ·exact ih c hc
   ·simp only [List.mem_cons,List.not_mem_nil,or_false] at hc
    exact ⟨k,by omega,by rw [hc]⟩
theorem packGo_mild {t:List ClipR} (hv:vTrack t=true) (hfit:∀ c∈t,c.fit) {k:Nat} (hk:k≤t.length) {c:ClipR} (hc:c∈packGo t k):Mild c:=by
 obtain ⟨h64,hi,htot⟩:=vTrack_parts hv
 obtain ⟨f1,f2,f3,f4⟩:=packGo_facts hi k hk
 obtain ⟨j,hj,e⟩:=packGo_from k hk c hc
 have m:=mild_of (hfit _ (mem_getD hj)) (hi j hj)
 have h1:=f4 c hc
 have h2:=len_totL c _ hc f4
 have h3:=tot_take hi k
 rw [f3] at h2
 have hl : 0≤c.len∧c.len≤2147483647:=by omega
 rw [e]
 have e2 : { t.getD j default with len:=c.len }.len=c.len:=rfl
 exact ⟨⟨⟨by simp only;omega,by simp only;omega⟩,m.fit.kind,m.fit.a,m.fit.b,m.fit.off,m.fit.total,m.fit.param,m.fit.gain⟩,m.chan,m.a,m.b,hl,m.off⟩
theorem packGo_last {t:List ClipR} (hv:vTrack t=true) (hfit:∀ c∈t,c.fit):∀ k,k≤t.length → ∀ i c,packGo t k=i ++ [c] → ∀ q,contC c q=contC (t.getD (k - 1) default) q
 | 0,_,i,c,h,_=>by simp [packGo] at h
 | k+1,hk,i,c,h,q=>by
  have ih:=packGo_last hv hfit k (by omega)
  rw [packGo] at h
  split at h
  ·rename_i hb
   unfold packB at hb
   simp only [Bool.and_eq_true,decide_eq_true_eq] at hb
   obtain ⟨i2,c2,h2⟩:=snoc_of ((packGo_facts (vTrack_parts hv).2.1 k (by omega)).2.1 hb.1)
   rw [h2,addLast_snoc] at h
   have hc:=(List.append_inj' h rfl).2
   simp only [List.cons.injEq,and_true] at hc
   have m:=packGo_mild hv hfit (k:=k) (by omega) (c:=c2) (by rw [h2];simp)
   have h4:=ih i2 c2 h2 (t.getD k default)
   rw [hb.2] at h4
   rw [← hc,contC_join m.a m.b h4]
   rfl
  ·have hc:=(List.append_inj' h rfl).2
   simp only [List.cons.injEq,and_true] at hc
   rw [← hc]
   rfl
open Go.RowKit
set_option maxRecDepth 4000
def packT (t:List ClipR):List ClipR:=if vTrack t=true then packP t else []
def gapLast (o:List ClipR):Bool:=decide (0<o.length)&&(o.getD (o.length - 1) default).kind==0
def cleanL (o:List ClipR):List ClipR:=if gapLast o=true then o.take (o.length - 1) else o
def normT (t:List ClipR):List ClipR:=cleanL (packT t)
end Go.Proofs.YtjmoncjecpckhaaGreat
