/- Proved here: Regions that draw their order and make blocks, on the abstract machine: the operations, for use in the proofs of the given statements; conditions stand in each theorem. -/
import Derived.Test.YtkjdkbmfaamhaaaGreatZE
set_option linter.unusedSimpArgs false
set_option linter.unusedVariables false
set_option linter.unusedSectionVars false
set_option linter.unnecessarySimpa false
namespace Go.Proofs.YtkjdkbmfaamhaaaGreat
open Go.RowKit
theorem RelF.like {E:Env} {σ σ':St} {a:Act} {w:World} (hr:RelF E σ a w) (hf : σ'.fr = σ.fr) (hl:∀ q, σ'.h.look q = σ.h.look q) (hn : σ'.nx = σ.nx) (hd : σ'.df = σ.df):RelF E σ' a w:=by
 refine ⟨⟨fun i blk h=>hr.rel.has i blk (by rw [← hl];exact h),fun i hv h=>?_,hr.rel.domF,hr.rel.own,hr.rel.apart,hr.rel.slt,hr.rel.dlt⟩,fun i hi=>by rw [hn];exact hr.bound i hi,by rw [hf];exact hr.fr,by rw [hd];exact hr.defers⟩
 obtain ⟨h1,blk,h2⟩:=hr.rel.dom i hv h
 exact ⟨h1,blk,by rw [hl];exact h2⟩
theorem RelF.addAt {w w':World} {E:Env} {σ : St} {a:Act} {hv:Value} {blk:Blk} {m:Nat} (hr:RelF E σ a w) (hnU : ¬ E.U m) (hm:m < σ.nx) (hb:Below w.heap.size w w') (hblk:∀ E',Ext E w E' w'→BlkRel w' E' blk hv)
  (hnew:∀ b,blockOf hv=some b→w.heap.size≤b∧b<w'.heap.size) (hone:hv.oneCell'=true) (hmn:blk.mine=true) :
  RelF (E.add m hv) { σ with h:=(m,blk) :: σ.h } a w'∧Ext E w (E.add m hv) w'∧RdV w' (E.add m hv) (.own m) hv:=by
 obtain ⟨k1,k2⟩:=hr.rel.later (S':=E.S) hb (fun _ h=>h) (fun b hb => .inl hb) (fun b hb'=>Nat.lt_of_lt_of_le (hr.rel.slt b hb') hb.size)
 have hE:=k2.add (E0:=E) hnU hv
 have hE':Ext E w' (E.add m hv) w':=(Ext.refl E w').add (E0:=E) hnU hv
 have hnB:E.B m=none:=by
  cases h:E.B m with
  | none=>rfl
  | some v=>exact (hnU (hr.rel.dom _ _ h).1).elim
 refine ⟨⟨⟨fun i blk' hl=>?_,fun i v hB=>?_,fun i v hF=>?_,fun i v b hB hbk=>?_,fun i j hi hj b hBi hBj hbi hbj=>?_,k1.slt,k1.dlt⟩,fun i hi=>?_,hE.rdVs _ hr.fr,hE.defs hr.defers⟩,hE,?_⟩
 ·simp only [Heap.look] at hl
  split at hl
  ·rename_i hi
   subst hi
   injection hl with hl
   subst hl
   exact ⟨hv,by rw [at_mine hmn];simp [Env.add],hblk _ hE⟩
  ·rename_i hi
   obtain ⟨hv',hB,hrel⟩:=k1.has i blk' hl
   exact ⟨hv',by cases blk'<;>simp [Env.add,Env.at,hi] at hB ⊢ <;> exact hB,hrel.keep hE' fun _ _=>rfl⟩
 ·simp only [Env.add] at hB
  simp only [Env.add,Heap.look]
  split at hB
  ·rename_i hi
   subst hi
   exact ⟨.inl rfl,blk,by simp⟩
  ·rename_i hi
   obtain ⟨q1,q2⟩:=hr.rel.dom i v hB
   exact ⟨.inr q1,by simp [hi];exact q2⟩
 ·obtain ⟨q1,q2⟩:=hr.rel.domF i v hF
  refine ⟨.inr q1,?_⟩
  simp only [Env.add]
  rw [if_neg (fun h=>hnU (show E.U m from by rw [← h];exact q1))]
  exact q2
 ·simp only [Env.add] at hB
  split at hB
  ·injection hB with hB
   subst hB
   obtain ⟨q1,q2⟩:=hnew b hbk
   exact ⟨q2,fun hs=>by have:=hr.rel.slt b hs;omega,fun hd=>by have:=hr.rel.dlt b hd;omega⟩
  ·exact k1.own i v b hB hbk
 ·simp only [Env.add] at hBi hBj
  split at hBi
  ·rename_i hi'
   split at hBj
   ·rename_i hj';rw [hi',hj']
   ·injection hBi with hBi
    subst hBi
    have:=(hnew b hbi).1
    have:=(hr.rel.own j hj b hBj hbj).1
    omega
  ·split at hBj
   ·injection hBj with hBj
    subst hBj
    have:=(hnew b hbj).1
    have:=(hr.rel.own i hi b hBi hbi).1
    omega
   ·exact hr.rel.apart i j hi hj b hBi hBj hbi hbj
 ·simp only [Env.add] at hi
  rcases hi with rfl | hi
  ·exact hm
  ·exact hr.bound i hi
 ·simp only [RdV]
  refine ⟨hone, .inl rfl,fun hv' hB=>?_⟩
  rcases hB with hB | hB
  ·simp [Env.add] at hB;exact hB
  ·exact (hnU (hr.rel.domF _ _ hB).1).elim
def OW (P:Program) (ops:List Oper) (o:Oper) (a:Act) (w:World) (next:Act→World→Prop) (Q:Exit→Act→World→Prop):Prop :=
 if Region.wanted o (yielded ops.toArray a.tmps)=true then o.wp P a w next Q∧(∀ c,o.op ≠ .defer c) else next (a.put o.dst undef) w
def GuardSame (ops:List Oper) (o:Oper) (σ σ':St):Prop := ∀ j w,o.guard=some (j,w) → ∀ t,slotOf ops j=some t → σ'.ev (.tmp t) = σ.ev (.tmp t)
structure Vld (P:Program) (ops:List Oper) (n0 i:Nat) (o:Oper) (σ : St) (r:Rec) (M:List (Nat×Bool)):Prop where
 d:r.d=o.dst
 u:∀ t blk,r.e = .upd t blk∨(∃ old,r.e = .app t old blk)→(t,true)∈M
 run:∀ σ', σ'.nx = σ.nx→EvSame σ σ' o.op.operands.toList→HeapOn (M.map (·.1)) σ.h σ'.h→GuardSame ops o σ σ' → ∀ E a w next Q,RelF E σ' a w→n0+i < σ.nx → ¬ E.U (n0+i) →
  (∀ a' w' E' σ'', σ''.fr=setO σ'.fr r.d r.x→(∀ q, σ''.h.look q=orB (tch n0 i r.e q) (σ'.h.look q)) → σ''.nx = σ'.nx → σ''.df = σ'.df→RelF E' σ'' a' w'→Ext E w E' w'→(∀ q,E'.U q→E.U q∨q=n0+i)→next a' w')→OW P ops o a w next Q
theorem put_df {σ : St} {d:Option Tmp} {x:V}:(σ.put d x).df = σ.df:=by cases d<;>rfl
theorem put_setO {σ : St} {d:Option Tmp} {x:V}:(σ.put d x).fr=setO σ.fr d x:=by cases d<;>rfl
theorem ostep_okM {P:Program} {ops:List Oper} {Q:Exit→Act→World→Prop} {σ : St} {o:Oper} {K:St→Prop} (hm:merges P o.op=true) (h:ostep P ops σ o.dst o.op o.guard K) {E:Env} {a:Act} {w:World} (hr:RelF E σ a w) {next:Act→World→Prop}
  (hn:∀ a' w' E' σ',RelF E' σ' a' w'→Ext E w E' w'→(∀ q,E'.U q→E.U q)→K σ'→next a' w'):OW P ops o a w next Q:=by
 unfold OW
 unfold ostep at h
 split at h
 ·rename_i hg
  have hw:Region.wanted o (yielded ops.toArray a.tmps)=true:=by simp [Region.wanted,hg]
  rw [if_pos hw]
  have h1:pstep P true σ o.op (kPut K σ o.dst):=by
   revert h hm
   generalize o.op=op
   intro hm h
   cases op with
   | box _ _=>cases hm
   | alloc _=>cases hm
   | store _ _ _=>cases hm
   | insert _ _ _ _=>cases hm
   | makeMap _ _=>cases hm
   | makeSlice _ _ _=>cases hm
   | mapUpdate _ _ _ _=>cases hm
   | buildSlice _ _ _=>cases hm
   | call c =>
    unfold estep ecall at h
    dsimp only at h
    obtain ⟨callee,args,tys⟩:=c
    cases callee with
    | builtin b =>
     cases b with
     | append=>cases hm
     | _=>exact h
    | invoke r m=>exact h
    | value g =>
     cases g with
     | func f =>
      have hio:P.ioF f=false:=by simpa [merges] using hm
      dsimp only at h
      rw [hio] at h
      exact h
     | _=>exact h
   | _=>exact h
  obtain ⟨x,hK,hy⟩:=pstep_ok h1
  exact ⟨hy rfl E a w hr _ _ fun v w' E' h1 h2 h3 h4=>hn _ w' E' _ (h1.put o.dst h3) h2 h4 hK,pstep_calm h1⟩
 ·rename_i j want hg
  unfold gstep at h
  split at h
  ·rename_i g hgs
   have hw:=guard_ok hr hg hgs
   rw [hw]
   rw [if_pos hm] at h
   obtain ⟨x,hK,hy⟩:=pstep_ok h
   cases g with
   | true =>
    rw [if_pos rfl]
    exact ⟨hy rfl E a w hr _ _ fun v w' E' h1 h2 h3 h4=>hn _ w' E' _ (h1.put o.dst (rdV_condJ (by rw [RdV];exact ⟨fun _=>h3,fun h=>by cases h⟩))) h2 h4 hK,pstep_calm h⟩
   | false =>
    rw [if_neg (by simp)]
    exact hn _ w E _ (hr.put o.dst (rdV_condJ (by rw [RdV];exact ⟨fun h=>(by cases h),fun _=>rfl⟩))) (Ext.refl _ _) (fun _ h=>h) hK
  ·exact h.elim
def heapB (op:Op):Bool :=
 match op with
 | .move _ | .assign _ | .pick .. | .unOp .. | .binOp .. | .extract .. | .field .. | .build .. | .convert .. => false
 | _=>true
theorem ev_h {σ : St} {h:Heap} (x:Operand):St.ev { σ with h:=h } x = σ.ev x:=by cases x<;>rfl
theorem partsE_h {σ : St} {h:Heap}:∀ (l:List (Nat×Operand)),partsE { σ with h:=h } l=partsE σ l
 | []=>rfl
 | (i,x)::r=>by simp only [partsE,ev_h,partsE_h r]
theorem pstep_h {P:Program} {G:Bool} {σ : St} {h:Heap} {op:Op} {K:V→Prop} (hb:heapB op=false):pstep P G { σ with h:=h } op K=pstep P G σ op K:=by
 cases op with
 | move x=>simp only [pstep,lookR,ev_h]
 | assign x=>simp only [pstep,lookR,ev_h]
 | pick c a b=>simp only [pstep,lookR,ev_h]
 | unOp a b c=>simp only [pstep,lookR,ev_h]
 | binOp a b c d e=>simp only [pstep,pstep.bstep,lookR,ev_h]
 | extract a b=>simp only [pstep,lookR,ev_h]
 | field a b c=>simp only [pstep,lookR,ev_h]
 | build a b=>simp only [pstep,lookR,partsE_h]
 | convert a b c=>simp only [pstep,lookR,ev_h]
 | _=>cases hb
theorem pstep_stableH {P:Program} {G:Bool} {σ : St} {op:Op} {K:V→Prop} (h:pstep P G σ op K) :
  ∃ x,K x ∧ ∀ σ',EvSame σ σ' op.operands.toList→(heapB op=true → ∀ y∈op.operands.toList,HeapOn (σ.ev y).ment σ.h σ'.h) → ∀ K':V→Prop,K' x→pstep P G σ' op K':=by
 obtain ⟨x,hk,hst⟩:=pstep_stable h
 refine ⟨x,hk,fun σ' he hh K' hk'=>?_⟩
 cases hb:heapB op with
 | true=>exact hst σ' he (hh hb) K' hk'
 | false =>
  rw [← pstep_h (h := σ.h) hb]
  exact hst { σ' with h := σ.h } (fun y hy=>by rw [ev_h];exact he y hy) (fun y hy q b _ hq=>hq) K' hk'
theorem estep_look {P:Program} {σ : St} {d:Option Tmp} {op:Op} {K:St→Prop} (hm:merges P op=true):estep P σ d op K=pstep P true σ op (kPut K σ d):=by
 cases op with
 | box _ _=>cases hm
 | alloc _=>cases hm
 | store _ _ _=>cases hm
 | insert _ _ _ _=>cases hm
 | makeMap _ _=>cases hm
 | makeSlice _ _ _=>cases hm
 | mapUpdate _ _ _ _=>cases hm
 | buildSlice _ _ _=>cases hm
 | call c =>
  unfold estep ecall
  dsimp only
  obtain ⟨callee,args,tys⟩:=c
  cases callee with
  | builtin b =>
   cases b with
   | append=>cases hm
   | _=>rfl
  | invoke r m=>rfl
  | value g =>
   cases g with
   | func f =>
    have hio:P.ioF f=false:=by simpa [merges] using hm
    dsimp only
    rw [hio]
    rfl
   | _=>rfl
 | _=>rfl
theorem ostep_stableH {P:Program} {ops:List Oper} {σ : St} {d:Option Tmp} {op:Op} {g:Option (Nat×Bool)} {K:St→Prop} (hm:merges P op=true) (h:ostep P ops σ d op g K) :
  ∃ y,K (σ.put d y) ∧ ∀ σ',EvSame σ σ' op.operands.toList→(heapB op=true → ∀ y∈op.operands.toList,HeapOn (σ.ev y).ment σ.h σ'.h)→(∀ j w,g=some (j,w) → ∀ t,slotOf ops j=some t → σ'.ev (.tmp t) = σ.ev (.tmp t)) → ∀ K':St→Prop,K' (σ'.put d y)→ostep P ops σ' d op g K':=by
 unfold ostep at h
 split at h
 ·rw [estep_look hm] at h
  obtain ⟨y,hk,hst⟩:=pstep_stableH h
  refine ⟨y,hk,fun σ' he hh _ K' hk'=>?_⟩
  unfold ostep
  dsimp only
  rw [estep_look hm]
  exact hst σ' he hh (kPut K' σ' d) hk'
 ·rename_i j want
  unfold gstep at h
  split at h
  ·rename_i g' hg'
   rw [if_pos hm] at h
   obtain ⟨y,hk,hst⟩:=pstep_stableH h
   refine ⟨condJ g' y,hk,fun σ' he hh hs K' hk'=>?_⟩
   unfold ostep
   dsimp only
   have:guardS ops σ' j want=some g':=by
    rw [← hg']
    unfold guardS
    split
    ·rename_i t ht
     have:=hs j want rfl t ht
     simp only [St.ev] at this
     rw [this]
    ·rfl
   rw [this]
   unfold gstep
   dsimp only
   rw [if_pos hm]
   exact hst σ' he hh (kCond K' σ' d g') hk'
  ·exact h.elim
theorem vld_look {P:Program} {ops:List Oper} {n0 i:Nat} {o:Oper} {σ : St} {K:St→Prop} {M:List (Nat×Bool)} (hm:merges P o.op=true) (h:ostep P ops σ o.dst o.op o.guard K)
  (hM:heapB o.op=true → ∀ y∈o.op.operands.toList, ∀ q∈(σ.ev y).ment,q∈M.map (·.1)):∃ y,K (σ.put o.dst y)∧Vld P ops n0 i o σ ⟨o.dst,y, .none⟩ M:=by
 obtain ⟨y,hK,hst⟩:=ostep_stableH hm h
 refine ⟨y,hK,rfl,fun t blk h=>(by rcases h with h | ⟨_,h⟩<;>cases h),fun σ' hnx hev hh hg E a w next Q hr _ _ hn=>?_⟩
 have h2:=hst σ' hev (fun hb y hy=>hh.sub (hM hb y hy)) (fun j w hgd t ht=>hg j w hgd t ht) (fun s=>s = σ'.put o.dst y) rfl
 refine ostep_okM hm h2 hr fun a' w' E' σ'' h1 h3 h4 h5=>?_
 subst h5
 exact hn a' w' E' _ put_setO (fun q=>by rw [put_h];rfl) put_nx put_df h1 h3 fun q hq => .inl (h4 q hq)
def newR (P:Program) (σ : St) (op:Op):RO Blk :=
 match op with
 | .box t x=>useR (strip true (σ.ev x)) fun x'=>boxR x'
 | .alloc t=>allocR (P.zeroT t)
 | .buildSlice t n parts=>buildSliceR P n (P.elemT t) (usePartsR true (partsE σ parts.toList))
 | .makeMap _ none=>some (True, .map [])
 | .makeSlice t l c=>msR P (P.elemT t) (strip true (σ.ev l)) (strip true (σ.ev c))
 | _=>none
theorem newR_ok {P:Program} {σ : St} {o:Oper} {p:Prop} {blk:Blk} (h:newR P σ o.op=some (p,blk)) (hp:p):NewOp P o σ blk:=by
 have hk:kR (newR P σ o.op) (fun b=>b=blk):=by rw [h];exact ⟨hp,rfl⟩
 unfold newR at hk
 split at hk
 ·rename_i t x ho
  obtain ⟨b,hb,hN⟩:=new_box (K:=fun b=>b=blk) ho (useR_ok (F:=fun x'=>boxV x' fun b=>b=blk) (f:=boxR) (K:=fun b=>b=blk) (fun y hy=>⟨hy.1,hy.2⟩) hk)
  subst hb
  exact hN
 ·rename_i t ho
  unfold allocR at hk
  split at hk
  ·rename_i z hz
   have:=hk.2
   subst this
   exact new_alloc ho hz hk.1
  ·exact hk.elim
 ·rename_i t n parts ho
  rw [partsE_eq] at hk
  obtain ⟨b,hb,hN⟩:=new_buildSlice ho (buildSliceR_ok hk)
  subst hb
  exact hN
 ·rename_i t ho
  have:=hk.2
  subst this
  exact new_makeMap ho
 ·rename_i t l c ho
  rw [ho] at h
  exact new_ms ho h hp
 ·exact hk.elim
theorem newR_same {P:Program} {σ σ':St} {op:Op} (he:EvSame σ σ' op.operands.toList):newR P σ' op=newR P σ op:=by
 unfold newR
 split
 ·rename_i t x
  rw [he x (by simp [Op.operands])]
 ·rfl
 ·rename_i t n parts
  rw [partsE_same parts.toList fun p hp=>he p.2 (by simp only [Op.operands,List.toList_toArray];exact List.mem_map.2 ⟨p,hp,rfl⟩)]
 ·rfl
 ·rename_i t l c
  rw [he l (by simp [Op.operands]),he c (by simp [Op.operands])]
 ·rfl
theorem new_op_value {P:Program} {o:Oper} {σ : St} {blk:Blk} (h:NewOp P o σ blk) {E:Env} {a:Act} {w:World} {m:Nat} {next:Act→World→Prop} {Q:Exit→Act→World→Prop} (hr:RelF E σ a w) (hnU : ¬ E.U m) (hm:m < σ.nx)
  (hn:∀ a' w' E',RelF E' (({ σ with h:=(m,blk) :: σ.h }:St).put o.dst (.own m)) a' w'→Ext E w E' w'→(∀ q,E'.U q→E.U q∨q=m)→next a' w'):o.wp P a w next Q:=by
 obtain ⟨hv,w',hrun,hb,hone,hnew,hblk⟩:=h.2 E a w hr
 obtain ⟨k1,k2,k3⟩:=hr.addAt hnU hm hb hblk hnew hone h.1
 unfold Oper.wp
 rw [hrun]
 exact hn _ w' _ (k1.put o.dst k3) k2 fun q hq=>hq.elim .inr .inl
theorem vld_new {P:Program} {ops:List Oper} {n0 i:Nat} {o:Oper} {σ : St} {p:Prop} {blk:Blk} (hg:o.guard=none) (h:newR P σ o.op=some (p,blk)) (hp:p) {M:List (Nat×Bool)}:Vld P ops n0 i o σ ⟨o.dst, .own (n0+i), .new blk⟩ M:=by
 refine ⟨rfl,fun t blk h=>(by rcases h with h | ⟨_,h⟩<;>cases h),fun σ' hnx hev hh _ E a w next Q hr hlt hnU hn=>?_⟩
 have h2:=newR_ok (o:=o) (σ := σ') (by rw [newR_same hev];exact h) hp
 unfold OW
 rw [if_pos (by simp [Region.wanted,hg])]
 refine ⟨new_op_value h2 hr hnU (by omega) fun a' w' E' h1 h3 h4=>hn a' w' E' _ ?_ (fun q=>?_) ?_ (by rw [put_df]) h1 h3 h4,fun c hc=>by rw [hc] at h;simp [newR] at h⟩
 ·rw [put_setO]
 ·rw [put_h]
  simp only [Heap.look,tch]
  split<;>rfl
 ·rw [put_nx]
def BEff (P:Program) (m:Nat) (f:FuncId) (t:Nat) (cs args:List V) (h:Heap) (y:V) (e:Eff) (h2:Heap):Prop :=
 (∃ cs',CBox P f cs args y cs'∧e = .upd t (.box cs')∧h2=h.set t (.box cs')) ∨
 (∃ r cs' nb,CIO P f 1 [(0, .box cs)] (.own 0::args) r [(1,nb),(0, .box cs')] 2∧V.pures cs'=true∧y=r.ren (num2 t m)∧e = .app t (some (.box cs')) (nb.ren (num2 t m))∧h2=(m,nb.ren (num2 t m))::h.set t (.box cs'))
def BCall (P:Program) (m:Nat) (σ : St) (d:Option Tmp) (f:FuncId) (xs:List V) (K:St→Prop):Prop :=
 ∃ t cs args y e h2,xs = .own t::args ∧ σ.h.look t=some (.box cs)∧V.pures cs=true∧V.pures args=true∧BEff P m f t cs args σ.h y e h2∧K (({ σ with h:=h2 }:St).put d y)
theorem bcall {P:Program} {m:Nat} {σ : St} {d:Option Tmp} {f:FuncId} {t:Nat} {cs args cs':List V} {r:V} {K:St→Prop} (hc:CBox P f cs args r cs') (hl : σ.h.look t=some (.box cs)) (hp:V.pures cs=true) (ha:V.pures args=true)
  (hK:K (({ σ with h := σ.h.set t (.box cs') }:St).put d r)):BCall P m σ d f (.own t::args) K:=⟨t,cs,args,r,_,_,rfl,hl,hp,ha, .inl ⟨cs',hc,rfl,rfl⟩,hK⟩
theorem vld_box {P:Program} {ops:List Oper} {n0 i:Nat} {o:Oper} {σ : St} {K:St→Prop} {f:FuncId} {args:Array Operand} {tys:Array TypeId} {M:List (Nat×Bool)} (hg:o.guard=none)
  (ho:o.op = .call { callee := .value (.func f),args:=args,argTypes:=tys }) (h:useVs true (args.toList.map σ.ev) fun xs=>BCall P (n0+i) σ o.dst f xs K)
  (hM:∀ x r,args.toList=x::r → ∀ q∈(σ.ev x).ment,(q,true)∈M):∃ y e h2,K (({ σ with h:=h2 }:St).put o.dst y)∧(∀ q,h2.look q=orB (tch n0 i e q) (σ.h.look q))∧Vld P ops n0 i o σ ⟨o.dst,y,e⟩ M:=by
 obtain ⟨ys,h1,hys⟩:=useVs_det h
 obtain ⟨t,cs,as',y,e,h2,rfl,hl,hp,ha,hB,hK⟩:=h1
 have htM:(t,true)∈M:=by
  cases hal:args.toList with
  | nil=>rw [hal] at hys;have:=hys (fun z=>z = .own t::as') rfl;simp [useVs] at this
  | cons x rr =>
   rw [hal] at hys
   have h3:useV true (σ.ev x) fun x'=>useVs true (rr.map σ.ev) fun xs'=>x'::xs' = .own t::as':=hys (fun z=>z = .own t::as') rfl
   obtain ⟨y',h4,hy'⟩:=useV_det h3
   obtain ⟨ys',h5,_⟩:=useVs_det h4
   injection h5 with h5 h6
   subst h5
   exact hM x rr hal t (useV_ment hy' t (by simp [V.ment]))
 have heff:∀ h0:Heap,h0.look t=some (.box cs) → ∀ h3,BEff P (n0+i) f t cs as' h0 y e h3 → ∀ q,h3.look q=orB (tch n0 i e q) (h0.look q):=by
  rintro h0 hl0 h3 (⟨cs',_,rfl,rfl⟩ | ⟨r,cs',nb,_,_,_,rfl,rfl⟩) q
  ·rw [Heap.look_set _ _ _ hl0]
   simp only [tch]
   split<;>rfl
  ·simp only [Heap.look,tch]
   split
   ·rfl
   ·rw [Heap.look_set _ _ _ hl0]
    split<;>rfl
 have hside:∀ h0:Heap, ∃ h3,BEff P (n0+i) f t cs as' h0 y e h3:=by
  intro h0
  rcases hB with ⟨cs',q1,q2,_⟩ | ⟨r,cs',nb,q1,q2,q3,q4,_⟩
  ·exact ⟨_, .inl ⟨cs',q1,q2,rfl⟩⟩
  ·exact ⟨_, .inr ⟨r,cs',nb,q1,q2,q3,q4,rfl⟩⟩
 refine ⟨y,e,h2,hK,heff _ hl _ hB,rfl,fun t' blk h=>?_,fun σ' hnx hev hh _ E a w next Q hr hlt hnU hn=>?_⟩
 ·rcases hB with ⟨cs',_,q,_⟩ | ⟨r,cs',nb,_,_,_,q,_⟩
  ·simp only at h
   rw [q] at h
   rcases h with h | ⟨_,h⟩<;>cases h
   exact htM
  ·simp only at h
   rw [q] at h
   rcases h with h | ⟨_,h⟩<;>cases h
   exact htM
 have hl' : σ'.h.look t=some (.box cs):=hh t _ (List.mem_map.2 ⟨_,htM,rfl⟩) hl
 have hargs:args.toList.map σ'.ev=args.toList.map σ.ev:=map_same _ fun y hy=>hev y (by rw [ho];simp [Op.operands,Call.operands];exact .inr (by simpa using hy))
 have h2':useVs true (args.toList.map σ'.ev) fun xs=>xs = .own t::as':=by rw [hargs];exact hys _ rfl
 obtain ⟨ys2,h6,h7⟩:=useVs_ok h2'
 subst h6
 have hvs:=h7 w E _ rfl (rdVs_map hr args.toList)
 obtain ⟨h3,hB3⟩:=hside σ'.h
 have h8:P.enters f=true∧Calls P f (args.toList.map a.eval).toArray w fun e w' => ∃ v E',e = .returned v∧Rel w' E' h3∧Ext E w E' w'∧RdV w' E' y v ∧ ∀ q,E'.U q→E.U q∨q=n0+i:=by
  rcases hB3 with ⟨cs',hc,_,rfl⟩ | ⟨r,cs',nb,hc,hp',rfl,_,rfl⟩
  ·exact ⟨hc.1,(cbox_use hc hl' hp ha hr.rel hvs).mono fun e w' ⟨v,E',q1,q2,q3,q4,q5⟩=>⟨v,E',q1,q2,q3,q4,fun q hq => .inl (q5 q hq)⟩⟩
  ·exact ⟨hc.1,cio_box hc hl' hp ha hp' hr.rel hnU hvs⟩
 obtain ⟨hen,h8⟩:=h8
 unfold OW
 rw [if_pos (by simp [Region.wanted,hg])]
 refine ⟨?_,fun c hc=>by rw [ho] at hc;cases hc⟩
 unfold Oper.wp
 rw [run_callFn ho rfl hen]
 simp only [Oper.upon]
 have e1:(args.toList.map a.eval).toArray=args.map a.eval:=by apply Array.ext';simp only [Array.toList_map]
 rw [e1] at h8
 refine Calls.mono h8 ?_
 rintro e' w' ⟨v,E',rfl,q2,q4,q5,q6⟩
 have hr':RelF E' { σ' with h:=h3 } a w':=⟨q2,fun q hq=>(q6 q hq).elim (hr.bound q) fun e=>by rw [e];show n0+i < σ'.nx;omega,q4.rdVs _ hr.fr,q4.defs hr.defers⟩
 refine hn _ w' E' _ ?_ (fun q=>?_) ?_ (by rw [put_df]) (hr'.put o.dst q5) q4 q6
 ·rw [put_setO]
 ·rw [put_h]
  exact heff _ hl' _ hB3 q
 ·rw [put_nx]
def stR (h:Heap) (sz:Option Nat) (p x:V):RO (Nat×Blk) :=
 match p with
 | .own i=>stB i sz (h.look i) 0 x
 | .ptr i off=>stB i sz (h.look i) off x
 | .rptr i k n j=>stW i sz (h.look i) k n j x
 | _=>none
where
 stB (i:Nat) (sz:Option Nat) (b:Option Blk) (off:Nat) (x:V):RO (Nat×Blk) :=
  match b with
  | some (.box cs)=>some (x.cells.all V.isCell=true∧sz=some x.cells.length∧off+x.cells.length≤cs.length,(i, .box (putCells cs off x.cells)))
  | _=>none
 stW (i:Nat) (sz:Option Nat) (b:Option Blk) (k n j:Nat) (x:V):RO (Nat×Blk) :=
  match b with
  | some (.row e k' d xs)=>some (x.cells.all V.isCell=true∧sz=some x.cells.length∧k'=k∧n<xs.length∧j+x.cells.length≤k,
    (i, .row e k d (xs.set n (putCells (nthV d xs n) j x.cells))))
  | _=>none
theorem stR_ok {P:Program} {h:Heap} {t:TypeId} {p x:V} {K:Heap→Prop} (q:kR (stR h (P.szT t) p x) fun ib=>K (h.set ib.1 ib.2)):storeV P h t p x K:=by
 unfold stR stR.stB stR.stW at q
 unfold storeV
 split at q
 ·split at q
  ·rename_i hl
   obtain ⟨⟨q1,q2,q3⟩,q4⟩:=q
   simp only [hl]
   exact ⟨q1,q2,by omega,q4⟩
  ·exact q.elim
 ·split at q
  ·rename_i hl
   obtain ⟨⟨q1,q2,q3⟩,q4⟩:=q
   simp only [hl]
   exact ⟨q1,q2,q3,q4⟩
  ·exact q.elim
 ·split at q
  ·rename_i hl
   obtain ⟨⟨q1,q2,q3⟩,q4⟩:=q
   simp only [hl]
   exact ⟨q1,q2,q3.1,q3.2.1,q3.2.2,q4⟩
  ·exact q.elim
 ·exact q.elim
theorem stR_look {h:Heap} {sz:Option Nat} {p x:V} {r:Prop×Nat×Blk} (hr:stR h sz p x=some r):r.2.1∈p.ment ∧ ∃ old,h.look r.2.1=some old:=by
 unfold stR stR.stB stR.stW at hr
 split at hr
 ·split at hr
  ·rename_i hl;injection hr with hr;subst hr;exact ⟨by simp [V.ment],_,hl⟩
  ·cases hr
 ·split at hr
  ·rename_i hl;injection hr with hr;subst hr;exact ⟨by simp [V.ment],_,hl⟩
  ·cases hr
 ·split at hr
  ·rename_i hl;injection hr with hr;subst hr;exact ⟨by simp [V.ment],_,hl⟩
  ·cases hr
 ·cases hr
theorem stR_ext {h h':Heap} {sz:Option Nat} {p x:V} (he:HeapOn p.ment h h') {r:Prop×Nat×Blk} (hr:stR h sz p x=some r):stR h' sz p x=some r:=by
 unfold stR at hr ⊢
 split at hr
 ·rename_i i
  cases hl:h.look i with
  | none=>rw [hl] at hr;cases hr
  | some b=>rw [hl] at hr;rw [he i b (by simp [V.ment]) hl];exact hr
 ·rename_i i off
  cases hl:h.look i with
  | none=>rw [hl] at hr;cases hr
  | some b=>rw [hl] at hr;rw [he i b (by simp [V.ment]) hl];exact hr
 ·rename_i i k n j
  cases hl:h.look i with
  | none=>rw [hl] at hr;cases hr
  | some b=>rw [hl] at hr;rw [he i b (by simp [V.ment]) hl];exact hr
 ·cases hr
def storeS (P:Program) (σ : St) (t:TypeId) (p x:Operand):RO (Nat×Blk):=useR (strip true (σ.ev p)) fun p'=>useR (strip true (σ.ev x)) fun x'=>stR σ.h (P.szT t) p' x'
theorem strip_ment {G:Bool} {x:V}:∀ q∈(strip G x).2.ment,q∈x.ment:=by
 intro q hq
 cases x<;>simpa [strip,V.ment] using hq
theorem useR_inv {α : Type} {s:Prop×V} {f:V→RO α} {r:Prop × α} (h:useR s f=some r):∃ r',f s.2=some r'∧r'.2=r.2:=by
 obtain ⟨p,y⟩:=s
 have h':andR p (f y)=some r:=h
 cases hy:f y with
 | none=>rw [hy] at h';cases h'
 | some q =>
  rw [hy] at h'
  obtain ⟨q1,q2⟩:=q
  injection h' with h'
  subst h'
  exact ⟨_,rfl,rfl⟩
theorem vld_store {P:Program} {ops:List Oper} {n0 i:Nat} {o:Oper} {σ : St} {pp:Prop} {ib:Nat×Blk} {t:TypeId} {p x:Operand} {M:List (Nat×Bool)} (hg:o.guard=none) (hd:o.dst=none) (ho:o.op = .store t p x)
  (h:storeS P σ t p x=some (pp,ib)) (hp:pp) (hM:∀ q∈(σ.ev p).ment,(q,true)∈M):(∃ old, σ.h.look ib.1=some old)∧Vld P ops n0 i o σ ⟨none, .dead, .upd ib.1 ib.2⟩ M:=by
 obtain ⟨r1,h1,e1⟩:=useR_inv h
 obtain ⟨r2,h2,e2⟩:=useR_inv h1
 obtain ⟨hm,old,hold⟩:=stR_look h2
 have eib:r2.2=ib:=by rw [e2,e1]
 rw [eib] at hm hold
 have hiM:(ib.1,true)∈M:=hM _ (strip_ment _ hm)
 refine ⟨⟨old,hold⟩,hd.symm,fun t' blk h=>(by rcases h with h | ⟨_,h⟩<;>cases h;exact hiM),fun σ' hnx hev hh _ E a w next Q hr _ _ hn=>?_⟩
 have hs':storeS P σ' t p x=some (pp,ib):=by
  unfold storeS at h ⊢
  rw [hev p (by rw [ho];simp [Op.operands]),hev x (by rw [ho];simp [Op.operands])]
  refine useR_monoS (fun y r hy hr=>useR_mono (fun z r hr=>stR_ext (fun q b hq hb=>hh q b ?_ hb) hr) hr) h
  exact List.mem_map.2 ⟨_,hM q (hy q hq),rfl⟩
 have hold' : σ'.h.look ib.1=some old:=hh _ _ (List.mem_map.2 ⟨_,hiM,rfl⟩) hold
 have hk:kR (storeS P σ' t p x) (fun ib'=>({ σ' with h := σ'.h.set ib'.1 ib'.2 }:St) = { σ' with h := σ'.h.set ib.1 ib.2 }):=by rw [hs'];exact ⟨hp,rfl⟩
 have hv:useV true (σ'.ev p) fun p'=>useV true (σ'.ev x) fun x'=>storeV P σ'.h t p' x' fun h'=>({ σ' with h:=h' }:St) = { σ' with h := σ'.h.set ib.1 ib.2 }:=useR_ok (fun y hy=>useR_ok (fun z hz=>stR_ok hz) hy) hk
 obtain ⟨σ2,hσ2,hS⟩:=skip_store (K:=fun s=>s = { σ' with h := σ'.h.set ib.1 ib.2 }) ho hv
 subst hσ2
 obtain ⟨w',hrun,k1,k2⟩:=hS E a w hr
 unfold OW
 rw [if_pos (by simp [Region.wanted,hg])]
 refine ⟨?_,fun c hc=>by rw [ho] at hc;cases hc⟩
 unfold Oper.wp
 rw [hrun]
 show next (a.put o.dst undef) w'
 have hput:a.put o.dst undef=a:=by rw [hd];rfl
 rw [hput]
 refine hn a w' E { σ' with h := σ'.h.set ib.1 ib.2 } rfl (fun q=>?_) rfl rfl k1 k2 fun q hq => .inl hq
 show (σ'.h.set ib.1 ib.2).look q=_
 rw [Heap.look_set _ _ _ hold']
 simp only [tch]
 split<;>rfl
theorem RelF.growAt {w w':World} {E:Env} {σ : St} {a:Act} {i m:Nat} {hv hv':Value} {old blk:Blk} (hr:RelF E σ a w) (hnU : ¬ E.U m) (hm:m < σ.nx) (hB:E.B i=some hv) (hl : σ.h.look i=some old) (hg:w.grownBy w' (blockOf hv))
  (hb':blockOf hv'=blockOf hv∨blockOf hv'=some w.heap.size) (hlt:∀ b,blockOf hv'=some b→b<w'.heap.size) (hone:hv'.oneCell'=true)
  (hblk:Ext E w (E.move i m hv') w'→BlkRel w' (E.move i m hv') blk hv') (hmn:blk.mine=true) :
  RelF (E.move i m hv') { σ with h:=(m,blk) :: σ.h.del i } a w'∧Ext E w (E.move i m hv') w'∧RdV w' (E.move i m hv') (.own m) hv':=by
 have hne:∀ b,E.S b∨E.D b→some b≠blockOf hv:=fun b hb he=>by
  obtain ⟨_,q2,q3⟩:=hr.rel.own i hv b hB he.symm
  exact hb.elim q2 q3
 have hE:Ext E w (E.move i m hv') w':=⟨hg.os,hg.tape,hg.output,hg.size,fun b hb=>hg.block b (hb.elim (hr.rel.slt b) (hr.rel.dlt b)) (hne b hb),fun _ h=>h,fun _ h => .inl h,fun _ => .rfl,fun _ h => .inr h,fun q hq v hv=>by
  simp only [Env.move] at hv
  split at hv
  ·rename_i h;subst h;exact (hnU hq).elim
  ·split at hv
   ·cases hv
   ·exact hv,fun q hq v hv=>by
  have hqn:q≠m:=fun h=>hnU (h ▸ hq)
  simp only [Env.Is,Env.move,if_neg hqn] at hv
  rcases hv with hv | hv
  ·split at hv
   ·cases hv
   ·exact .inl hv
  ·exact .inr hv,rfl⟩
 have hfresh:∀ b,blockOf hv'=some b→(blockOf hv=some b∨b=w.heap.size):=fun b hb=>by
  rcases hb' with h | h
  ·exact .inl (h ▸ hb)
  ·rw [hb] at h;injection h with h;exact .inr h
 have hother:∀ j v b,j≠i→E.B j=some v→blockOf v=some b→blockOf hv'≠some b:=fun j v b hji hBj hb he=>by
  rcases hfresh b he with h | h
  ·exact hji (hr.rel.apart j i v hv b hBj hB hb h)
  ·have:=(hr.rel.own j v b hBj hb).1;omega
 refine ⟨⟨⟨fun j blk' hlj=>?_,fun j v hBj=>?_,fun j v hF=>?_,fun j v b hBj hbk=>?_,fun p q vp vq b hBp hBq hbp hbq=>?_,fun b hb=>Nat.lt_of_lt_of_le (hr.rel.slt b hb) hg.size,fun b hb=>Nat.lt_of_lt_of_le (hr.rel.dlt b hb) hg.size⟩,fun j hj=>?_,hE.rdVs _ hr.fr,hE.defs hr.defers⟩,hE,?_⟩
 ·simp only [Heap.look] at hlj
  split at hlj
  ·rename_i hj
   subst hj
   injection hlj with hlj
   subst hlj
   exact ⟨hv',by rw [at_mine hmn];simp [Env.move],hblk hE⟩
  ·rename_i hj
   rw [Heap.look_del] at hlj
   split at hlj
   ·cases hlj
   ·rename_i hji
    obtain ⟨v,hBj,hrel⟩:=hr.rel.has j blk' hlj
    cases hmj:blk'.mine with
    | true =>
     rw [at_mine hmj] at hBj
     refine ⟨v,by rw [at_mine hmj];simp [Env.move,hj,hji,hBj],hrel.keep hE fun b hb=>hg.block b (hr.rel.own j v b hBj hb).1 fun he=>hji (hr.rel.apart j i v hv b hBj hB hb he.symm)⟩
    | false =>
     cases blk'<;>first | exact ⟨v,hBj,hE.rdT hrel⟩ | simp [Blk.mine] at hmj
 ·simp only [Env.move] at hBj
  simp only [Env.move,Heap.look]
  split at hBj
  ·rename_i hj;exact ⟨.inl hj,blk,by rw [if_pos hj]⟩
  ·rename_i hj
   split at hBj
   ·cases hBj
   ·rename_i hji
    obtain ⟨q1,q2⟩:=hr.rel.dom j v hBj
    exact ⟨.inr q1,by rw [if_neg hj,Heap.look_del,if_neg hji];exact q2⟩
 ·obtain ⟨q1,q2⟩:=hr.rel.domF j v hF
  refine ⟨.inr q1,?_⟩
  simp only [Env.move]
  rw [if_neg (fun h=>hnU (show E.U m from by rw [← h];exact q1))]
  split
  ·rfl
  ·exact q2
 ·simp only [Env.move] at hBj
  split at hBj
  ·injection hBj with hBj
   subst hBj
   refine ⟨hlt b hbk,?_⟩
   rcases hfresh b hbk with h | h
   ·obtain ⟨_,q2,q3⟩:=hr.rel.own i hv b hB h;exact ⟨q2,q3⟩
   ·exact ⟨fun hs=>by have:=hr.rel.slt b hs;omega,fun hs=>by have:=hr.rel.dlt b hs;omega⟩
  ·split at hBj
   ·cases hBj
   ·obtain ⟨q1,q2⟩:=hr.rel.own j v b hBj hbk
    exact ⟨Nat.lt_of_lt_of_le q1 hg.size,q2⟩
 ·simp only [Env.move] at hBp hBq
  split at hBp
  ·rename_i hp
   split at hBq
   ·rename_i hq;rw [hp,hq]
   ·split at hBq
    ·cases hBq
    ·rename_i hqi
     injection hBp with hBp;subst hBp
     exact (hother q vq b hqi hBq hbq hbp).elim
  ·split at hBp
   ·cases hBp
   ·rename_i hpi
    split at hBq
    ·injection hBq with hBq;subst hBq
     exact (hother p vp b hpi hBp hbp hbq).elim
    ·split at hBq
     ·cases hBq
     ·exact hr.rel.apart p q vp vq b hBp hBq hbp hbq
 ·simp only [Env.move] at hj
  rcases hj with rfl | hj
  ·exact hm
  ·exact hr.bound j hj
 ·simp only [RdV]
  refine ⟨hone, .inl rfl,fun v hBj=>?_⟩
  rcases hBj with hBj | hBj
  ·simp [Env.move] at hBj;exact hBj
  ·exact (hnU (hr.rel.domF _ _ hBj).1).elim
def apR (h:Heap) (e:TypeId) (k by':Option Nat) (z:Option (List Value)) (s x:V):RO (Option Nat×Blk) :=
 match k,by',z with
 | some k,some by',some z=>apB h e k by' (z.length=k∧0<k) s (srcV h k x)
 | _,_,_=>none
where
 apB (h:Heap) (e k by':Nat) (p:Prop) (s:V) (src:Option (List T×List (List V))):RO (Option Nat×Blk) :=
  match s with
  | .own i=>apC e k by' p i (h.look i) src
  | .rsl i kk lo hi=>apE e k by' (p∧kk=k∧lo=0) i hi (h.look i) src
  | .t (.lit (.slice none 0 0))=>apD e k by' p src
  | _=>none
 apE (e k by':Nat) (p:Prop) (i hi:Nat) (b:Option Blk) (src:Option (List T×List (List V))):RO (Option Nat×Blk) :=
  match b,src with
  | some (.row e' k' d xs),some (_,ys)=>some (p∧e'=e∧k'=k∧hi+ys.length≤maxLen∧(hi+ys.length)*by'≤140737488355328,(some i, .row e' k' d (xs.take hi++ys)))
  | _,_=>none
 apC (e k by':Nat) (p:Prop) (i:Nat) (b:Option Blk) (src:Option (List T×List (List V))):RO (Option Nat×Blk) :=
  match b,src with
  | some (.row e' k' d xs),some (_,ys)=>some (p∧e'=e∧k'=k∧xs.length+ys.length≤maxLen∧(xs.length+ys.length)*by'≤140737488355328,(some i, .row e' k' d (xs++ys)))
  | _,_=>none
 apD (e k by':Nat) (p:Prop) (src:Option (List T×List (List V))):RO (Option Nat×Blk) :=
  match src with
  | some (d,ys)=>some (p∧ys.length≤maxLen∧ys.length*by'≤140737488355328,(none, .row e k d ys))
  | none=>none
def delO (h:Heap) (t:Option Nat):Heap :=
 match t with
 | some t=>h.del t
 | none=>h
def effA (t:Option Nat) (blk:Blk):Eff :=
 match t with
 | some t => .app t none blk
 | none => .new blk
theorem append_at {P:Program} {o:Oper} {σ : St} {s x:Operand} {t t2 e:TypeId} {s' x':V} {pp:Prop} {tb:Option Nat×Blk} (ht2:appTy P t t2) (ho:o.op = .call { callee := .builtin .append,args := #[s,x],argTypes := #[t,t2] }) (ht:P.elemT t=some e)
  (hs:∀ (w:World) (E:Env) v,RdV w E (σ.ev s) v→RdV w E s' v) (hx:∀ (w:World) (E:Env) v,RdV w E (σ.ev x) v→RdV w E x' v) (h:apR σ.h e (P.szT e) (P.bytesT e) (P.zeroT e) s' x'=some (pp,tb)) (hp:pp)
  {E:Env} {a:Act} {w:World} {m:Nat} {next:Act→World→Prop} {Q:Exit→Act→World→Prop} (hr:RelF E σ a w) (hnU : ¬ E.U m) (hm:m < σ.nx)
  (hn:∀ a' w' E',RelF E' (({ σ with h:=(m,tb.2)::delO σ.h tb.1 }:St).put o.dst (.own m)) a' w'→Ext E w E' w'→(∀ q,E'.U q→E.U q∨q=m)→next a' w'):o.wp P a w next Q:=by
 unfold apR at h
 split at h
 ·rename_i k by' z hsz hby hz
  unfold apR.apB at h
  split at h
  ·rename_i i
   unfold apR.apC at h
   split at h
   ·rename_i e' k' d xs d' ys hl hsrc
    injection h with h;injection h with h1 h2
    subst h1 h2
    obtain ⟨⟨hzl,hk0⟩,rfl,rfl,q1,q2⟩:=hp
    have hz':(P.zeroT e').map (·.length)=some k':=by rw [hz];simp [hzl]
    obtain ⟨hv,hB,hrel⟩:=hr.rel.has i _ hl
    obtain ⟨cells,r1,r2,r3,r4⟩:=hrel
    have e1:=hs w E _ (hr.ev s)
    simp only [RdV] at e1
    have e2:=e1.2.2 _ (.inl hB)
    obtain ⟨v',w',news,p1,p2,p2',p3,p4,p5⟩:=append_core (P:=P) (ty:=o.type) ht hsz hby hz' hk0 r1 (srcV_ok hr.rel (hx w E _ (hr.ev x)) hsrc) q1 q2
    obtain ⟨o1,o2⟩:=ownBlock_eq r1
    obtain ⟨o3,o4⟩:=ownBlock_eq p3
    rw [o1] at p4 p5
    rw [o3] at p5
    have hlen:(xs++ys).length=xs.length+ys.length:=List.length_append
    obtain ⟨k1,k2,k3⟩:=hr.growAt (blk := .row e' k' d (xs++ys)) hnU hm hB hl p4 p5 (fun b hb=>(p3.lt b (o3.trans hb)).2) o4 (fun hE=>by
     refine ⟨cells++news,by rw [hlen];exact p3,?_,?_,?_⟩
     ·rw [List.flatten_append]
      exact RdVs.append (hE.rdVs _ r2) (hE.rdVs _ p2)
     ·intro y hy
      rcases List.mem_append.1 hy with hy | hy
      ·exact r3 y hy
      ·obtain ⟨_,_,_,_,_,_,hyk,_⟩:=srcV_ok hr.rel (hx w E _ (hr.ev x)) hsrc
       exact hyk y hy
     ·rw [List.all_append,r4,p2'];rfl) rfl
    unfold Oper.wp
    rw [run_append ht ht2 ho (by rw [e2];exact p1)]
    exact hn _ w' _ (k1.put o.dst k3) k2 fun q hq=>hq.elim .inr .inl
   ·cases h
  ·rename_i i kk lo hi
   unfold apR.apE at h
   split at h
   ·rename_i e' k' d xs d' ys hl hsrc
    injection h with h;injection h with h1 h2
    subst h1 h2
    obtain ⟨⟨⟨hzl,hk0⟩,rfl,rfl⟩,rfl,rfl,q1,q2⟩:=hp
    have hz':(P.zeroT e').map (·.length)=some k':=by rw [hz];simp [hzl]
    obtain ⟨hv,hB,hrel⟩:=hr.rel.has i _ hl
    obtain ⟨cells,r1,r2,r3,r4⟩:=hrel
    have e1:=hs w E _ (hr.ev s)
    simp only [RdV] at e1
    obtain ⟨A,n,c,rfl,_,hhn,e2⟩:=e1.2.2 _ (.inl hB)
    have hn':n=xs.length:=by
     rcases r1.2 with ⟨h1,h0⟩ | ⟨g,cap,cur,h1,_⟩
     ·injection h1 with h1 hh2 h3;omega
     ·injection h1
    subst hn'
    obtain ⟨r1',ob⟩:=ownsRow_pre r1 hhn
    have hxl:(xs.take hi).length=hi:=by rw [List.length_take];omega
    obtain ⟨v',w',news,p1,p2,p2',p3,p4,p5⟩:=append_core (P:=P) (ty:=o.type) (xs:=xs.take hi) ht hsz hby hz' hk0 (by rw [hxl];exact r1') (srcV_ok hr.rel (hx w E _ (hr.ev x)) hsrc) (by rw [hxl];exact q1) (by rw [hxl];exact q2)
    obtain ⟨o3,o4⟩:=ownBlock_eq p3
    rw [ob] at p4 p5
    rw [o3] at p5
    have hlen:(xs.take hi++ys).length=(xs.take hi).length+ys.length:=List.length_append
    obtain ⟨k1,k2,k3⟩:=hr.growAt (blk := .row e' k' d (xs.take hi++ys)) hnU hm hB hl p4 p5 (fun b hb=>(p3.lt b (o3.trans hb)).2) o4 (fun hE=>by
     refine ⟨cells.take (hi*k')++news,by rw [hlen];exact p3,?_,?_,?_⟩
     ·rw [List.flatten_append,take_flat _ _ r3]
      exact RdVs.append (hE.rdVs _ (RdVs.take _ r2)) (hE.rdVs _ p2)
     ·intro y hy
      rcases List.mem_append.1 hy with hy | hy
      ·exact r3 y (List.mem_of_mem_take hy)
      ·obtain ⟨_,_,_,_,_,_,hyk,_⟩:=srcV_ok hr.rel (hx w E _ (hr.ev x)) hsrc
       exact hyk y hy
     ·rw [List.all_append,p2',Bool.and_true,List.all_eq_true]
      rw [List.all_eq_true] at r4
      exact fun v hv=>r4 v (List.mem_of_mem_take hv)) rfl
    unfold Oper.wp
    rw [run_append ht ht2 ho (by rw [e2];exact p1)]
    exact hn _ w' _ (k1.put o.dst k3) k2 fun q hq=>hq.elim .inr .inl
   ·cases h
  ·unfold apR.apD at h
   split at h
   ·rename_i d ys hsrc
    injection h with h;injection h with h1 h2
    subst h1 h2
    obtain ⟨⟨hzl,hk0⟩,q1,q2⟩:=hp
    have hz':(P.zeroT e).map (·.length)=some k:=by rw [hz];simp [hzl]
    have e1:=(rdV_lit_inv (hs w E _ (hr.ev s))).1
    have hsr:=srcV_ok hr.rel (hx w E _ (hr.ev x)) hsrc
    obtain ⟨v',w',news,p1,p2,p2',p3,p4,p5⟩:=append_core (P:=P) (ty:=o.type) (xs:=[]) ht hsz hby hz' hk0 (World.ownsRow_nil w 0 e k) hsr (by simpa using q1) (by simpa using q2)
    obtain ⟨o3,o4⟩:=ownBlock_eq p3
    have hbel:Below w.heap.size w w':=⟨p4.os,p4.tape,p4.output,p4.size,fun b hb=>p4.block b hb (by simp [Value.ownBlock])⟩
    obtain ⟨k1,k2,k3⟩:=hr.addAt (blk := .row e k d ys) hnU hm hbel (fun E' hE=>by
     refine ⟨news,by simpa using p3,hE.rdVs _ p2,?_,p2'⟩
     obtain ⟨_,_,_,_,_,_,hyk,_⟩:=hsr
     exact hyk) (fun b hb=>by
     rw [o3] at p5
     rcases p5 with h | h
     ·rw [h] at hb;simp [Value.ownBlock] at hb
     ·rw [h] at hb;injection hb with hb;subst hb
      exact ⟨Nat.le_refl _,(p3.lt _ (o3.trans h)).2⟩) o4 rfl
    unfold Oper.wp
    rw [run_append ht ht2 ho (by rw [e1];exact p1)]
    exact hn _ w' _ (k1.put o.dst k3) k2 fun q hq=>hq.elim .inr .inl
   ·cases h
  ·cases h
 ·cases h
theorem srcV_ext {h h':Heap} {k:Nat} {x:V} {r:List T×List (List V)} (he:HeapOn x.ment h h') (hr:srcV h k x=some r):srcV h' k x=some r:=by
 unfold srcV at hr ⊢
 split at hr
 ·exact hr
 ·rename_i i
  cases hl:h.look i with
  | none=>rw [hl] at hr;cases hr
  | some b=>rw [hl] at hr;rw [he i b (by simp [V.ment]) hl];exact hr
 ·rename_i i k' lo hi
  cases hl:h.look i with
  | none=>rw [hl] at hr;cases hr
  | some b=>rw [hl] at hr;rw [he i b (by simp [V.ment]) hl];exact hr
 ·exact hr
 ·cases hr
theorem apR_ext {h h':Heap} {e:TypeId} {k by':Option Nat} {z:Option (List Value)} {s x:V} {r:Prop×Option Nat×Blk} (he:HeapOn s.ment h h') (he':HeapOn x.ment h h') (hr:apR h e k by' z s x=some r):apR h' e k by' z s x=some r:=by
 unfold apR at hr ⊢
 split at hr
 ·rename_i k by' z
  unfold apR.apB at hr ⊢
  split at hr
  ·rename_i i
   cases hl:h.look i with
   | none=>rw [hl] at hr;simp [apR.apC] at hr
   | some b =>
    cases hs:srcV h k x with
    | none=>rw [hl,hs] at hr;unfold apR.apC at hr;split at hr<;>first | (cases hr;done) | (rename_i hh;cases hh)
    | some q=>rw [hl,hs] at hr;rw [he i b (by simp [V.ment]) hl,srcV_ext he' hs];exact hr
  ·rename_i i kk lo hi
   cases hl:h.look i with
   | none=>rw [hl] at hr;simp [apR.apE] at hr
   | some b =>
    cases hs:srcV h k x with
    | none=>rw [hl,hs] at hr;unfold apR.apE at hr;split at hr<;>first | (cases hr;done) | (rename_i hh;cases hh)
    | some q=>rw [hl,hs] at hr;rw [he i b (by simp [V.ment]) hl,srcV_ext he' hs];exact hr
  ·cases hs:srcV h k x with
   | none=>rw [hs] at hr;simp [apR.apD] at hr
   | some q=>rw [hs] at hr;rw [srcV_ext he' hs];exact hr
  ·cases hr
 ·cases hr
theorem apR_look {h:Heap} {e:TypeId} {k by':Option Nat} {z:Option (List Value)} {s x:V} {r:Prop×Option Nat×Blk} (hr:apR h e k by' z s x=some r) {t:Nat} (ht:r.2.1=some t):t∈s.ment:=by
 unfold apR at hr
 split at hr
 ·unfold apR.apB at hr
  split at hr
  ·unfold apR.apC at hr
   split at hr
   ·injection hr with hr;subst hr;injection ht with ht;subst ht;simp [V.ment]
   ·cases hr
  ·unfold apR.apE at hr
   split at hr
   ·injection hr with hr;subst hr;injection ht with ht;subst ht;simp [V.ment]
   ·cases hr
  ·unfold apR.apD at hr
   split at hr
   ·injection hr with hr;subst hr;cases ht
   ·cases hr
  ·cases hr
 ·cases hr
theorem strip_ok {w:World} {E:Env} {X:V} {v:Value} (h:(strip true X).1) (hx:RdV w E X v):RdV w E (strip true X).2 v:=by
 cases X with
 | cond g y =>
  simp only [RdV] at hx
  exact hx.1 (h rfl)
 | _=>exact hx
theorem useR_inv2 {α : Type} {s:Prop×V} {f:V→RO α} {r:Prop × α} (h:useR s f=some r):∃ r',f s.2=some r'∧r'.2=r.2∧(r.1→s.1∧r'.1):=by
 obtain ⟨p,y⟩:=s
 have h':andR p (f y)=some r:=h
 cases hy:f y with
 | none=>rw [hy] at h';cases h'
 | some q =>
  rw [hy] at h'
  obtain ⟨q1,q2⟩:=q
  injection h' with h'
  subst h'
  exact ⟨_,rfl,rfl,fun h=>h⟩
def appS (P:Program) (σ : St) (e:Option TypeId) (s x:Operand):RO (Option Nat×Blk) :=
 match e with
 | some e=>useR (strip true (σ.ev s)) fun s'=>useR (strip true (σ.ev x)) fun x'=>apR σ.h e (P.szT e) (P.bytesT e) (P.zeroT e) s' x'
 | none=>none
theorem vld_app {P:Program} {ops:List Oper} {n0 i:Nat} {o:Oper} {σ : St} {pp:Prop} {tb:Option Nat×Blk} {t t2:TypeId} {s x:Operand} {M:List (Nat×Bool)} (hg:o.guard=none) (ht2:appTy P t t2)
  (ho:o.op = .call { callee := .builtin .append,args := #[s,x],argTypes := #[t,t2] }) (h:appS P σ (P.elemT t) s x=some (pp,tb)) (hp:pp)
  (hM:∀ q∈(σ.ev s).ment,(q,true)∈M) (hM2:∀ q∈(σ.ev x).ment,q∈M.map (·.1)):Vld P ops n0 i o σ ⟨o.dst, .own (n0+i),effA tb.1 tb.2⟩ M:=by
 cases hte:P.elemT t with
 | none=>rw [hte] at h;cases h
 | some e =>
  rw [hte] at h
  have h:(useR (strip true (σ.ev s)) fun s'=>useR (strip true (σ.ev x)) fun x'=>apR σ.h e (P.szT e) (P.bytesT e) (P.zeroT e) s' x')=some (pp,tb):=h
  obtain ⟨r1,h1,e1,c1⟩:=useR_inv2 h
  obtain ⟨r2,h2,e2,c2⟩:=useR_inv2 h1
  obtain ⟨cs,c1⟩:=c1 hp
  obtain ⟨cx,c2⟩:=c2 c1
  have eib:r2.2=tb:=by rw [e2,e1]
  refine ⟨rfl,fun t' blk hh=>?_,fun σ' hnx hev hh _ E a w next Q hr hlt hnU hn=>?_⟩
  ·have ht:r2.2.1=some t':=by
    rw [eib]
    cases htb:tb.1 with
    | none=>rw [htb] at hh;rcases hh with hh | ⟨_,hh⟩<;>cases hh
    | some q=>rw [htb] at hh;rcases hh with hh | ⟨_,hh⟩<;>cases hh;rfl
   exact hM _ (strip_ment _ (apR_look h2 ht))
  ·have es : σ'.ev s = σ.ev s:=hev s (by rw [ho];simp [Op.operands,Call.operands])
   have ex : σ'.ev x = σ.ev x:=hev x (by rw [ho];simp [Op.operands,Call.operands])
   have h3:=apR_ext (h' := σ'.h) (fun q b hq hb=>hh q b (List.mem_map.2 ⟨_,hM q (strip_ment q hq),rfl⟩) hb) (fun q b hq hb=>hh q b (hM2 q (strip_ment q hq)) hb) h2
   have h4:apR σ'.h e (P.szT e) (P.bytesT e) (P.zeroT e) (strip true (σ.ev s)).2 (strip true (σ.ev x)).2=some (r2.1,tb):=by rw [h3, ← eib]
   unfold OW
   rw [if_pos (by simp [Region.wanted,hg])]
   refine ⟨append_at ht2 ho hte (fun w E v hv=>strip_ok cs (by rw [← es];exact hv)) (fun w E v hv=>strip_ok cx (by rw [← ex];exact hv)) h4 c2 hr hnU (by omega) fun a' w' E' k1 k2 k3=>hn a' w' E' _ ?_ (fun q=>?_) ?_ (by rw [put_df]) k1 k2 k3,fun c hc=>by rw [ho] at hc;cases hc⟩
   ·rw [put_setO]
   ·rw [put_h]
    simp only [Heap.look]
    cases htb:tb.1 with
    | none =>
     simp only [effA,tch,delO]
     split<;>rfl
    | some q' =>
     simp only [effA,tch,delO]
     rw [Heap.look_del]
     split
     ·rfl
     ·split<;>rfl
   ·rw [put_nx]
open Go.RowKit
abbrev Log:=List (Nat×Nat×Bool)
def addM (i:Nat) (u:Bool):List Nat→Log→Log
 | [],log=>log
 | q::r,log=>(i,q,u)::addM i u r log
def mentL (i:Nat) (u:Bool) (σ : St):List Operand→Log→Log
 | [],log=>log
 | x::r,log=>mentX i u σ x (mentL i u σ r log)
where
 mentX (i:Nat) (u:Bool) (σ : St) (x:Operand) (log:Log):Log :=
  match x with
  | .tmp t=>addM i u (V.ment (σ.fr.getD t .dead)) log
  | _=>log
def opsOf (op:Op):List Operand :=
 match op with
 | .alloc _ | .box .. | .buildSlice .. => []
 | .move _ | .assign _ | .pick .. | .unOp .. | .binOp .. | .extract .. | .field .. | .build .. | .convert .. => []
 | .load _ x | .nilCheck x | .fieldAddr _ x _=>[x]
 | .store _ p _=>[p]
 | .indexAddr _ a v | .index _ a v=>[a,v]
 | .call { callee := .value (.func _),args, .. }=>args.toList
 | .call { callee := .builtin _,args, .. }=>args.toList
 | op=>op.operands.toList
inductive CK where
 | look
 | new
 | box
 | store
 | app
 | bad
def ckind (P:Program) (op:Op) (g:Option (Nat×Bool)):CK :=
 match op with
 | .box .. | .alloc .. | .buildSlice .. | .makeMap .. | .makeSlice .. => noG g .new
 | .mapUpdate .. | .insert .. | .defer _ => .bad
 | .store .. => noG g .store
 | .call { callee := .builtin .append, .. }=>noG g .app
 | .call { callee := .value (.func f), .. }=>ioK (P.ioF f) g
 | .call { callee := .value _, .. } => .bad
 | _ => .look
where
 noG (g:Option (Nat×Bool)) (k:CK):CK :=
  match g with
  | none=>k
  | some _ => .bad
 ioK (io:Bool) (g:Option (Nat×Bool)):CK :=
  match io with
  | true=>noG g .box
  | false => .look
def logOf (i:Nat) (σ : St) (k:CK) (l:List Operand) (log:Log):Log :=
 match k,l with
 | .box,x::r=>mentL i true σ [x] (mentL i false σ r log)
 | .store,x::r=>mentL i true σ [x] (mentL i false σ r log)
 | .app,x::r=>mentL i true σ [x] (mentL i false σ r log)
 | _,l=>mentL i false σ l log
def kNewC (n0 i:Nat) (σ : St) (d:Option Tmp) (K:St→Prop) (blk:Blk):Prop:=K (({ σ with h:=(n0+i,blk) :: σ.h }:St).put d (.own (n0+i)))
def boxC (P:Program) (m:Nat) (σ : St) (d:Option Tmp) (op:Op) (K:St→Prop):Prop :=
 match op with
 | .call { callee := .value (.func f),args, .. }=>useVs true (args.toList.map σ.ev) fun xs=>BCall P m σ d f xs K
 | _=>False
def storeC (P:Program) (σ : St) (d:Option Tmp) (op:Op) (K:St→Prop):Prop :=
 match op,d with
 | .store t p x,none=>kR (storeS P σ t p x) (kSt σ K)
 | _,_=>False
where
 kSt (σ : St) (K:St→Prop) (ib:Nat×Blk):Prop:=K { σ with h := σ.h.set ib.1 ib.2 }
def appC (P:Program) (n0 i:Nat) (σ : St) (d:Option Tmp) (op:Op) (K:St→Prop):Prop :=
 match op with
 | .call { callee := .builtin .append,args,argTypes }=>apL P n0 i σ d args.toList argTypes.toList K
 | _=>False
where
 kApp (n0 i:Nat) (σ : St) (d:Option Tmp) (K:St→Prop) (tb:Option Nat×Blk):Prop:=K (({ σ with h:=(n0+i,tb.2)::delO σ.h tb.1 }:St).put d (.own (n0+i)))
 apL (P:Program) (n0 i:Nat) (σ : St) (d:Option Tmp) (args:List Operand) (tys:List TypeId) (K:St→Prop):Prop :=
  match args,tys with
  | [s,x],[t,t']=>appTy P t t'∧kR (appS P σ (P.elemT t) s x) (kApp n0 i σ d K)
  | _,_=>False
def cStep (P:Program) (l:List Oper) (n0 i:Nat) (σ : St) (d:Option Tmp) (op:Op) (g:Option (Nat×Bool)) (k:CK) (K:St→Prop):Prop :=
 match k with
 | .look=>ostep P l σ d op g K
 | .new=>kR (newR P σ op) (kNewC n0 i σ d K)
 | .box=>boxC P (n0+i) σ d op K
 | .store=>storeC P σ d op K
 | .app=>appC P n0 i σ d op K
 | .bad=>False
def waitB (l:List Oper) (i j:Nat):Bool:=mustB .any l.toArray 16 i j
def chkE (l:List Oper) (n0:Nat) (L:Log) (e:Nat×Nat×Bool):Bool :=
 (L.all fun f => !(f.2.2&&f.2.1==e.2.1)||f.1==e.1||(if f.1<e.1 then waitB l e.1 f.1 else waitB l f.1 e.1))&&(decide (e.2.1<n0)||(decide (e.2.1 - n0<e.1)&&waitB l e.1 (e.2.1 - n0)))
def chkL (l:List Oper) (n0:Nat) (L:Log):Bool:=L.all (chkE l n0 L)
def cRun (P:Program) (l:List Oper) (n0:Nat) (fin:St→Prop):Nat→List Oper→Log→St→Prop
 | _,[],L, σ => chkL l n0 L=true∧fin σ
 | i,o::os,L, σ => cStep P l n0 i σ o.dst o.op o.guard (ckind P o.op o.guard) (cRun P l n0 fin (i+1) os (logOf i σ (ckind P o.op o.guard) (opsOf o.op) L))
def Steps (P:Program) (l:List Oper) (n0:Nat) (L:Log) (σ':St):Nat→List Oper→List Rec→St→Prop
 | _,[],rs, σ => rs = [] ∧ σ' = σ
 | i,o::os,rs, σ => ∃ r rs' σ1 M,rs=r::rs'∧Vld P l n0 i o σ r M∧(∀ e∈M,(i,e.1,e.2)∈L) ∧ σ1.fr=setO σ.fr r.d r.x∧(∀ q, σ1.h.look q=orB (tch n0 i r.e q) (σ.h.look q)) ∧ σ1.nx = σ.nx ∧ σ1.df = σ.df∧Steps P l n0 L σ' (i+1) os rs' σ1
theorem mem_addM {i:Nat} {u:Bool} {e:Nat×Nat×Bool}:∀ (qs:List Nat) (log:Log),e∈addM i u qs log ↔ (∃ q∈qs,e=(i,q,u))∨e∈log
 | [],log=>by simp [addM]
 | q::r,log=>by simp [addM,mem_addM r log,or_assoc]
theorem mem_mentL {i:Nat} {u:Bool} {σ : St} {e:Nat×Nat×Bool}:∀ (xs:List Operand) (log:Log),e∈log∨(∃ t, .tmp t∈xs ∧ ∃ q∈(σ.fr.getD t .dead).ment,e=(i,q,u))→e∈mentL i u σ xs log
 | [],log,h=>by
  rcases h with h | ⟨t,ht,_⟩
  ·exact h
  ·cases ht
 | x::r,log,h=>by
  unfold mentL
  have ih:=mem_mentL (i:=i) (u:=u) (σ := σ) (e:=e) r log
  cases x with
  | tmp t =>
   unfold mentL.mentX
   rw [mem_addM]
   rcases h with h | ⟨t',ht,q,hq,he⟩
   ·exact .inr (ih (.inl h))
   ·rcases List.mem_cons.1 ht with h1 | h1
    ·injection h1 with h1
     subst h1
     exact .inl ⟨q,hq,he⟩
    ·exact .inr (ih (.inr ⟨t',h1,q,hq,he⟩))
  | _ =>
   unfold mentL.mentX
   refine ih ?_
   rcases h with h | ⟨t',ht,q,hq,he⟩
   ·exact .inl h
   ·rcases List.mem_cons.1 ht with h1 | h1
    ·cases h1
    ·exact .inr ⟨t',h1,q,hq,he⟩
theorem ment_ite {c:Prop} [Decidable c] {x:V} (h:x.ment = []):(if c then x else V.dead).ment = []:=by
 split
 ·exact h
 ·simp only [V.ment]
theorem ment_lit (v:Value):(litV v).ment = []:=by
 have key:∀ (cs:List Value),V.ments (cs.map fun v=>V.t (.lit v)) = []:=by
  intro cs
  induction cs with
  | nil=>simp only [List.map_nil,V.ments]
  | cons c cs ih=>simp only [List.map_cons,V.ments,V.ment,ih,List.append_nil]
 cases v with
 | agg cs=>unfold litV;exact ment_ite (by simp only [V.ment];exact key _)
 | tuple _=>unfold litV;simp only [V.ment]
 | _=>unfold litV;exact ment_ite (by simp only [V.ment])
theorem ment_ev {σ : St} {y:Operand} {q:Nat} (h:q∈(σ.ev y).ment):∃ t,y = .tmp t∧q∈(σ.fr.getD t .dead).ment:=by
 cases y with
 | tmp t=>exact ⟨t,rfl,h⟩
 | const v=>simp only [St.ev,ment_lit] at h;cases h
 | func f=>simp [St.ev,V.ment] at h
 | global g=>simp [St.ev,V.ment] at h
theorem opsOf_mem {P:Program} {op:Op} {y:Operand} (hm:merges P op=true) (hb:heapB op=true) (h:y∈op.operands.toList):y∈opsOf op ∨ ∃ f,y = .func f:=by
 cases op with
 | call c =>
  obtain ⟨callee,args,tys⟩:=c
  cases callee with
  | value g =>
   cases g with
   | func f =>
    simp only [Op.operands,Call.operands] at h
    simp at h
    rcases h with h | h
    ·exact .inr ⟨f,h⟩
    ·exact .inl (by simpa [opsOf] using h)
   | _=>exact .inl h
  | builtin b=>left;simpa [Op.operands,Call.operands,opsOf] using h
  | invoke r m=>exact .inl h
 | alloc t=>cases hm
 | box t x=>cases hm
 | buildSlice t n ps=>cases hm
 | store _ _ _=>cases hm
 | insert _ _ _ _=>cases hm
 | makeMap _ _=>cases hm
 | makeSlice _ _ _=>cases hm
 | mapUpdate _ _ _ _=>cases hm
 | defer _=>cases hm
 | move _=>cases hb
 | assign _=>cases hb
 | pick _ _ _=>cases hb
 | unOp _ _ _=>cases hb
 | binOp _ _ _ _ _=>cases hb
 | extract _ _=>cases hb
 | field _ _ _=>cases hb
 | build _ _=>cases hb
 | convert _ _ _=>cases hb
 | _=>left;first | exact h | simpa [Op.operands,opsOf] using h
def pick2 (i:Nat) (L:Log):List (Nat×Bool):=(L.filter fun e=>e.1==i).map (·.2)
theorem mem_pick2 {i:Nat} {L:Log} {e:Nat×Bool}:e∈pick2 i L ↔ (i,e.1,e.2)∈L:=by
 unfold pick2
 rw [List.mem_map]
 constructor
 ·rintro ⟨x,hx,rfl⟩
  rw [List.mem_filter] at hx
  obtain ⟨h1,h2⟩:=hx
  have:x.1=i:=by simpa using h2
  rw [← this]
  exact h1
 ·intro h
  exact ⟨(i,e.1,e.2),List.mem_filter.2 ⟨h,by simp⟩,rfl⟩
theorem log_box {i:Nat} {σ : St} {x:Operand} {r:List Operand} {L:Log}:logOf i σ .box (x::r) L=mentL i true σ [x] (mentL i false σ r L):=rfl
theorem log_store {i:Nat} {σ : St} {x:Operand} {r:List Operand} {L:Log}:logOf i σ .store (x::r) L=mentL i true σ [x] (mentL i false σ r L):=rfl
theorem log_app {i:Nat} {σ : St} {x:Operand} {r:List Operand} {L:Log}:logOf i σ .app (x::r) L=mentL i true σ [x] (mentL i false σ r L):=rfl
theorem log_sub {i:Nat} {σ : St} {k:CK} {l:List Operand} {L:Log} {e:Nat×Nat×Bool} (h:e∈L):e∈logOf i σ k l L:=by
 unfold logOf
 split
 ·exact mem_mentL _ _ (.inl (mem_mentL _ _ (.inl h)))
 ·exact mem_mentL _ _ (.inl (mem_mentL _ _ (.inl h)))
 ·exact mem_mentL _ _ (.inl (mem_mentL _ _ (.inl h)))
 ·exact mem_mentL _ _ (.inl h)
theorem log_ment {i:Nat} {σ : St} {k:CK} {l:List Operand} {L:Log} {y:Operand} {q:Nat} (hy:y∈l) (hq:q∈(σ.ev y).ment):∃ u,(i,q,u)∈logOf i σ k l L:=by
 obtain ⟨t,rfl,ht⟩:=ment_ev hq
 unfold logOf
 split
 ·rename_i x r
  rcases List.mem_cons.1 hy with h1 | h1
  ·exact ⟨true,mem_mentL _ _ (.inr ⟨t,by simp [h1],q,ht,rfl⟩)⟩
  ·exact ⟨false,mem_mentL _ _ (.inl (mem_mentL _ _ (.inr ⟨t,h1,q,ht,rfl⟩)))⟩
 ·rename_i x r
  rcases List.mem_cons.1 hy with h1 | h1
  ·exact ⟨true,mem_mentL _ _ (.inr ⟨t,by simp [h1],q,ht,rfl⟩)⟩
  ·exact ⟨false,mem_mentL _ _ (.inl (mem_mentL _ _ (.inr ⟨t,h1,q,ht,rfl⟩)))⟩
 ·rename_i x r
  rcases List.mem_cons.1 hy with h1 | h1
  ·exact ⟨true,mem_mentL _ _ (.inr ⟨t,by simp [h1],q,ht,rfl⟩)⟩
  ·exact ⟨false,mem_mentL _ _ (.inl (mem_mentL _ _ (.inr ⟨t,h1,q,ht,rfl⟩)))⟩
 ·exact ⟨false,mem_mentL _ _ (.inr ⟨t,hy,q,ht,rfl⟩)⟩
theorem ckind_look {P:Program} {op:Op} {g:Option (Nat×Bool)} (h:ckind P op g = .look):merges P op=true:=by
 unfold ckind at h
 split at h
 any_goals (first | (exfalso;revert h;unfold ckind.noG;split<;>intro h<;>cases h;done) | (exfalso;cases h;done))
 ·rename_i f args tys
  unfold ckind.ioK at h
  split at h
  ·exfalso;revert h;unfold ckind.noG;split<;>intro h<;>cases h
  ·rename_i hio
   simp [merges,hio]
 ·unfold merges
  split<;>first | rfl | (exfalso;simp_all;done) | (rename_i hx1 hx2;exact (hx2 _ _ _ _ rfl).elim) | (exfalso;simp_all;rename_i hx;exact hx _ _ _ _ rfl rfl rfl rfl)
open Go.RowKit
theorem ckind_new {P:Program} {op:Op} {g:Option (Nat×Bool)} (h:ckind P op g = .new):g=none:=by
 unfold ckind at h
 split at h<;>first | (cases h;done) | (unfold ckind.ioK at h;split at h<;>first | (cases h;done) | (unfold ckind.noG at h;split at h<;>first | rfl | (cases h;done))) | (unfold ckind.noG at h;split at h<;>first | rfl | (cases h;done))
theorem ckind_box {P:Program} {op:Op} {g:Option (Nat×Bool)} (h:ckind P op g = .box):g=none:=by
 unfold ckind at h
 split at h<;>first | (cases h;done) | (unfold ckind.ioK at h;split at h<;>first | (cases h;done) | (unfold ckind.noG at h;split at h<;>first | rfl | (cases h;done))) | (unfold ckind.noG at h;split at h<;>first | rfl | (cases h;done))
theorem ckind_store {P:Program} {op:Op} {g:Option (Nat×Bool)} (h:ckind P op g = .store):g=none:=by
 unfold ckind at h
 split at h<;>first | (cases h;done) | (unfold ckind.ioK at h;split at h<;>first | (cases h;done) | (unfold ckind.noG at h;split at h<;>first | rfl | (cases h;done))) | (unfold ckind.noG at h;split at h<;>first | rfl | (cases h;done))
theorem ckind_app {P:Program} {op:Op} {g:Option (Nat×Bool)} (h:ckind P op g = .app):g=none:=by
 unfold ckind at h
 split at h<;>first | (cases h;done) | (unfold ckind.ioK at h;split at h<;>first | (cases h;done) | (unfold ckind.noG at h;split at h<;>first | rfl | (cases h;done))) | (unfold ckind.noG at h;split at h<;>first | rfl | (cases h;done))
theorem mentOf {P:Program} {op:Op} {i:Nat} {σ : St} {k:CK} {L0 L:Log} (hm:merges P op=true) (hsub:∀ e∈logOf i σ k (opsOf op) L0,e∈L):heapB op=true → ∀ y∈op.operands.toList, ∀ q∈(σ.ev y).ment,q∈(pick2 i L).map (·.1):=by
 intro hb y hy q hq
 rcases opsOf_mem hm hb hy with h | ⟨f,rfl⟩
 ·obtain ⟨u,hu⟩:=log_ment (k:=k) (L:=L0) h hq (i:=i)
  exact List.mem_map.2 ⟨(q,u),mem_pick2.2 (hsub _ hu),rfl⟩
 ·simp [St.ev,V.ment] at hq
theorem cRun_steps {P:Program} {l:List Oper} {n0:Nat} {fin:St→Prop}:∀ (os:List Oper) (i:Nat) (L0:Log) (σ : St),cRun P l n0 fin i os L0 σ → ∃ L rs σ',(∀ e∈L0,e∈L)∧Steps P l n0 L σ' i os rs σ ∧ chkL l n0 L=true∧fin σ'
 | [],i,L0, σ,h=>⟨L0,[], σ,fun _ h=>h,⟨rfl,rfl⟩,h.1,h.2⟩
 | o::os,i,L0, σ,h=>by
  have h:cStep P l n0 i σ o.dst o.op o.guard (ckind P o.op o.guard) (cRun P l n0 fin (i+1) os (logOf i σ (ckind P o.op o.guard) (opsOf o.op) L0)):=h
  unfold cStep at h
  cases hk:ckind P o.op o.guard with
  | bad=>rw [hk] at h;exact h.elim
  | look =>
   rw [hk] at h
   dsimp only at h
   have hm:=ckind_look hk
   obtain ⟨y,hK,hst⟩:=ostep_stable hm h
   obtain ⟨L,rs, σ',hsub,hS,hc,hf⟩:=cRun_steps os (i+1) _ _ hK
   have h2:ostep P l σ o.dst o.op o.guard (fun s=>s = σ.put o.dst y):=hst σ (fun _ _=>rfl) (fun _ _ _ _ _ h=>h) (fun _ _ _ _ _=>rfl) _ rfl
   obtain ⟨y',hy',hV⟩:=vld_look (n0:=n0) (i:=i) (M:=pick2 i L) hm h2 (mentOf hm hsub)
   refine ⟨L,_, σ',fun e he=>hsub e (log_sub he),⟨_,rs, σ.put o.dst y',pick2 i L,rfl,hV,fun e he=>mem_pick2.1 he,put_setO,fun q=>by rw [put_h];rfl,put_nx,put_df,?_⟩,hc,hf⟩
   rw [hy']
   exact hS
  | new =>
   rw [hk] at h
   dsimp only at h
   have hg:=ckind_new hk
   cases hr:newR P σ o.op with
   | none=>rw [hr] at h;exact h.elim
   | some pb =>
    obtain ⟨p,blk⟩:=pb
    rw [hr] at h
    obtain ⟨hp,hK⟩:=h
    obtain ⟨L,rs, σ',hsub,hS,hc,hf⟩:=cRun_steps os (i+1) _ _ hK
    have hV:Vld P l n0 i o σ ⟨o.dst, .own (n0+i), .new blk⟩ (pick2 i L):=vld_new hg hr hp
    refine ⟨L,_, σ',fun e he=>hsub e (log_sub he),⟨_,rs,({ σ with h:=(n0+i,blk) :: σ.h }:St).put o.dst (.own (n0+i)),pick2 i L,rfl,hV,fun e he=>mem_pick2.1 he,put_setO,fun q=>?_,put_nx,put_df,hS⟩,hc,hf⟩
    rw [put_h]
    simp only [Heap.look,tch]
    split<;>rfl
  | box =>
   rw [hk] at h
   dsimp only at h
   have hg:=ckind_box hk
   obtain ⟨f,args,tys,ho⟩:∃ f args tys,o.op = .call { callee := .value (.func f),args:=args,argTypes:=tys }:=by
    unfold boxC at h
    split at h
    ·rename_i ho;exact ⟨_,_,_,ho⟩
    ·exact h.elim
   rw [ho] at h
   have h:useVs true (args.toList.map σ.ev) fun xs=>BCall P (n0+i) σ o.dst f xs _:=h
   obtain ⟨ys,h1,hys⟩:=useVs_det h
   obtain ⟨t,cs,al,y,e,h2,hxs,hl,hp,ha,hB,hK⟩:=h1
   obtain ⟨L,rs, σ',hsub,hS,hc,hf⟩:=cRun_steps os (i+1) _ _ hK
   have hsub':∀ e∈logOf i σ .box (opsOf o.op) L0,e∈L:=by rw [ho];exact hsub
   have h3:useVs true (args.toList.map σ.ev) fun xs=>BCall P (n0+i) σ o.dst f xs (fun s=>s=(({ σ with h:=h2 }:St).put o.dst y)):=hys _ ⟨t,cs,al,y,e,h2,hxs,hl,hp,ha,hB,rfl⟩
   obtain ⟨y',e',h2',hy',hlk,hV⟩:=vld_box (n0:=n0) (i:=i) (M:=pick2 i L) (ops:=l) hg ho h3 (fun x rr hal q hq=>by
    refine mem_pick2.2 (hsub' _ ?_)
    obtain ⟨t,rfl,ht⟩:=ment_ev hq
    have:opsOf o.op = .tmp t::rr:=by rw [ho];exact hal
    rw [this,log_box]
    exact mem_mentL _ _ (.inr ⟨t,by simp,q,ht,rfl⟩))
   refine ⟨L,_, σ',fun e he=>hsub e (log_sub he),⟨_,rs,({ σ with h:=h2' }:St).put o.dst y',pick2 i L,rfl,hV,fun e he=>mem_pick2.1 he,put_setO,fun q=>?_,put_nx,put_df,by rw [hy'];exact hS⟩,hc,hf⟩
   rw [put_h]
   exact hlk q
  | store =>
   rw [hk] at h
   dsimp only at h
   have hg:=ckind_store hk
   obtain ⟨t,p,x,ho,hd⟩:∃ t p x,o.op = .store t p x∧o.dst=none:=by
    unfold storeC at h
    split at h
    ·rename_i ho hd;exact ⟨_,_,_,ho,hd⟩
    ·exact h.elim
   rw [ho,hd] at h
   have h:kR (storeS P σ t p x) (storeC.kSt σ _):=h
   cases hr:storeS P σ t p x with
   | none=>rw [hr] at h;exact h.elim
   | some pb =>
    obtain ⟨pp,ib⟩:=pb
    rw [hr] at h
    obtain ⟨hp,hK⟩:=h
    obtain ⟨L,rs, σ',hsub,hS,hc,hf⟩:=cRun_steps os (i+1) _ _ hK
    have hsub':∀ e∈logOf i σ .store [p] L0,e∈L:=hsub
    obtain ⟨⟨old,hold⟩,hV⟩:=vld_store (n0:=n0) (i:=i) (ops:=l) (M:=pick2 i L) hg hd ho hr hp (fun q hq=>by
     refine mem_pick2.2 (hsub' _ ?_)
     obtain ⟨t,rfl,ht⟩:=ment_ev hq
     rw [log_store]
     exact mem_mentL _ _ (.inr ⟨t,by simp,q,ht,rfl⟩))
    refine ⟨L,_, σ',fun e he=>hsub' e (log_sub he),⟨_,rs, { σ with h := σ.h.set ib.1 ib.2 },pick2 i L,rfl,hV,fun e he=>mem_pick2.1 he,rfl,fun q=>?_,rfl,rfl,hS⟩,hc,hf⟩
    show (σ.h.set ib.1 ib.2).look q=_
    rw [Heap.look_set _ _ _ hold]
    simp only [tch]
    split<;>rfl
  | app =>
   rw [hk] at h
   dsimp only at h
   have hg:=ckind_app hk
   obtain ⟨s,x,t,t2,ht2,ho⟩:∃ s x t t2,appTy P t t2∧o.op = .call { callee := .builtin .append,args := #[s,x],argTypes := #[t,t2] }:=by
    unfold appC at h
    split at h
    ·rename_i args tys ho
     unfold appC.apL at h
     split at h
     ·rename_i s x t t' hx ht
      obtain ⟨ht2,_⟩:=h
      have ha:args = #[s,x]:=by apply Array.ext';simpa using hx
      have hb:tys = #[t,t']:=by apply Array.ext';simpa using ht
      exact ⟨s,x,t,t',ht2,by rw [ho,ha,hb]⟩
     ·exact h.elim
    ·exact h.elim
   rw [ho] at h
   have h:appTy P t t2∧kR (appS P σ (P.elemT t) s x) (appC.kApp n0 i σ o.dst _):=h
   cases hr:appS P σ (P.elemT t) s x with
   | none=>rw [hr] at h;exact h.2.elim
   | some pb =>
    obtain ⟨pp,tb⟩:=pb
    rw [hr] at h
    obtain ⟨_,hp,hK⟩:=h
    obtain ⟨L,rs, σ',hsub,hS,hc,hf⟩:=cRun_steps os (i+1) _ _ hK
    have hsub':∀ e∈logOf i σ .app [s,x] L0,e∈L:=hsub
    have hV:Vld P l n0 i o σ ⟨o.dst, .own (n0+i),effA tb.1 tb.2⟩ (pick2 i L):=vld_app hg ht2 ho hr hp (fun q hq=>by
     refine mem_pick2.2 (hsub' _ ?_)
     obtain ⟨t,rfl,ht⟩:=ment_ev hq
     rw [log_app]
     exact mem_mentL _ _ (.inr ⟨t,by simp,q,ht,rfl⟩)) (fun q hq=>by
     obtain ⟨u,hu⟩:=log_ment (k := .app) (L:=L0) (l:=[s,x]) (by simp:x ∈ [s,x]) hq (i:=i)
     exact List.mem_map.2 ⟨(q,u),mem_pick2.2 (hsub' _ hu),rfl⟩)
    refine ⟨L,_, σ',fun e he=>hsub' e (log_sub he),⟨_,rs,({ σ with h:=(n0+i,tb.2)::delO σ.h tb.1 }:St).put o.dst (.own (n0+i)),pick2 i L,rfl,hV,fun e he=>mem_pick2.1 he,put_setO,fun q=>?_,put_nx,put_df,hS⟩,hc,hf⟩
    rw [put_h]
    simp only [Heap.look]
    cases htb:tb.1 with
    | none =>
     simp only [effA,tch,delO]
     split<;>rfl
    | some q' =>
     simp only [effA,tch,delO]
     rw [Heap.look_del]
     split
     ·rfl
     ·split<;>rfl
theorem steps_at {P:Program} {l:List Oper} {n0:Nat} {L:Log} {σ':St}:∀ (os:List Oper) (i:Nat) (rs:List Rec) (σ : St),Steps P l n0 L σ' i os rs σ → ∀ k o,os[k]? = some o →
  ∃ r σk M,rs[k]? = some r∧Vld P l n0 (i+k) o σk r M∧(∀ e∈M,(i+k,e.1,e.2)∈L) ∧ σk.fr=frX (fun j=>decide (j<i+k)) i rs σ.fr∧(∀ q, σk.h.look q=lkX n0 (fun j=>decide (j<i+k)) q i rs (σ.h.look q)) ∧ σk.nx = σ.nx
 | [],i,rs, σ,h,k,o,ho=>by simp at ho
 | o0::os,i,rs, σ,h,0,o,ho=>by
  obtain ⟨r,rs', σ1,M,rfl,hV,hM,hf,hl,hn,hnd,hS⟩:=h
  simp at ho
  subst ho
  refine ⟨r, σ,M,rfl,hV,hM,?_,fun q=>?_,rfl⟩
  ·rw [frX_out _ _ _ fun j hj=>by simp]
  ·rw [lkX_out _ _ _ fun j r hj hX=>by have:=of_decide_eq_true hX;omega]
 | o0::os,i,rs, σ,h,k+1,o,ho=>by
  obtain ⟨r,rs', σ1,M,rfl,hV,hM,hf,hl,hn,hnd,hS⟩:=h
  obtain ⟨r', σk,M',h1,h2,h3,h4,h5,h6⟩:=steps_at os (i+1) rs' σ1 hS k o (by simpa using ho)
  have e1:i+1+k=i+(k+1):=by omega
  rw [e1] at h2 h3 h4 h5
  refine ⟨r', σk,M',by simpa using h1,h2,h3,?_,fun q=>?_,h6.trans hn⟩
  ·rw [h4,hf]
   show _=frX _ (i+1) rs' (if _ then _ else _)
   rw [if_pos (by simp)]
  ·rw [h5 q,hl q]
   show _=lkX _ _ _ (i+1) rs' (if _ then _ else _)
   rw [if_pos (by simp)]
theorem steps_end {P:Program} {l:List Oper} {n0:Nat} {L:Log} {σ':St}:∀ (os:List Oper) (i:Nat) (rs:List Rec) (σ : St),Steps P l n0 L σ' i os rs σ →
  rs.length=os.length ∧ σ'.fr=frX (fun _=>true) i rs σ.fr∧(∀ q, σ'.h.look q=lkX n0 (fun _=>true) q i rs (σ.h.look q)) ∧ σ'.nx = σ.nx ∧ σ'.df = σ.df
 | [],i,rs, σ,h=>by
  obtain ⟨rfl,rfl⟩:=h
  exact ⟨rfl,rfl,fun q=>rfl,rfl,rfl⟩
 | o0::os,i,rs, σ,h=>by
  obtain ⟨r,rs', σ1,M,rfl,hV,hM,hf,hl,hn,hnd,hS⟩:=h
  obtain ⟨h1,h4,h5,h6,h7⟩:=steps_end os (i+1) rs' σ1 hS
  refine ⟨by simp [h1],?_,fun q=>?_,h6.trans hn,h7.trans hnd⟩
  ·rw [h4,hf];rfl
  ·rw [h5 q,hl q];rfl
theorem steps_dst {P:Program} {l:List Oper} {n0:Nat} {L:Log} {σ':St}:∀ (os:List Oper) (i:Nat) (rs:List Rec) (σ : St),Steps P l n0 L σ' i os rs σ → ∀ j r,rs[j]? = some r → ∃ o,os[j]? = some o∧r.d=o.dst ∧ ∀ t blk,r.e = .upd t blk∨(∃ old,r.e = .app t old blk)→(i+j,t,true)∈L
 | [],i,rs, σ,h,j,r,hj=>by
  obtain ⟨rfl,rfl⟩:=h
  simp at hj
 | o0::os,i,rs, σ,h,0,r,hj=>by
  obtain ⟨r0,rs', σ1,M,rfl,hV,hM,hf,hl,hn,hnd,hS⟩:=h
  simp at hj
  subst hj
  exact ⟨o0,rfl,hV.d,fun t blk he=>hM _ (hV.u t blk he)⟩
 | o0::os,i,rs, σ,h,j+1,r,hj=>by
  obtain ⟨r0,rs', σ1,M,rfl,hV,hM,hf,hl,hn,hnd,hS⟩:=h
  obtain ⟨o,h1,h2,h3⟩:=steps_dst os (i+1) rs' σ1 hS j r (by simpa using hj)
  exact ⟨o,by simpa using h1,h2,by rwa [show i+(j+1)=i+1+j by omega]⟩
theorem frX_congr {X Y:Nat→Bool}:∀ (rs:List Rec) (i:Nat) (fr:List V),(∀ j,j<rs.length→X (i+j)=Y (i+j))→frX X i rs fr=frX Y i rs fr
 | [],i,fr,_=>rfl
 | r::rs,i,fr,h=>by
  unfold frX
  have h0:=h 0 (by simp)
  rw [Nat.add_zero] at h0
  rw [h0]
  exact frX_congr rs (i+1) _ fun j hj=>by
   have:=h (j+1) (by simpa using hj)
   rwa [show i+1+j=i+(j+1) by omega]
def distB (l:List Oper) (m:Nat):Bool:=(List.range m).all fun i=>(List.range m).all fun j=>i==j||(slotOf l i).isNone||slotOf l i != slotOf l j
def readB (l:List Oper) (m:Nat):Bool:=(List.range m).all fun i=>(l[i]?).all fun o=>(o.looksAt l.toArray).all fun t=>(List.range m).all fun j =>
 slotOf l j != some t||(if j<i then waitB l i j else (j==i||waitB l j i))
def backB (l:List Oper):Bool:=(List.range l.length).all fun i=>(l[i]?).all fun o=>o.after.toList.all fun e => !Region.binds .any e||decide (e.on<i)
def tailB (l:List Oper) (m:Nat):Bool:=(List.range l.length).all fun i=>decide (i<m)||(List.range m).all fun j=>waitB l i j
def chkS (l:List Oper) (m:Nat):Bool:=distB l m&&readB l m&&backB l&&tailB l m
theorem range_all {m:Nat} {f:Nat→Bool} (h:(List.range m).all f=true) {i:Nat} (hi:i<m):f i=true:=(List.all_eq_true.1 h) i (List.mem_range.2 hi)
theorem exists_least:∀ (l:List Nat),l ≠ [] → ∃ i∈l, ∀ j∈l,i≤j
 | [],h=>(h rfl).elim
 | [x],_=>⟨x,by simp,fun j hj=>by simp at hj;omega⟩
 | x::y::r,_=>by
  obtain ⟨i,hi,hm⟩:=exists_least (y::r) (by simp)
  by_cases hx:x≤i
  ·exact ⟨x,by simp,fun j hj=>by
    rcases List.mem_cons.1 hj with h | h
    ·omega
    ·have:=hm j h;omega⟩
  ·exact ⟨i,List.mem_cons_of_mem _ hi,fun j hj=>by
    rcases List.mem_cons.1 hj with h | h
    ·omega
    ·exact hm j h⟩
theorem lst_add {listed:Array Bool} {i:Nat} (hi:i<listed.size):(fun j=>(listed.setIfInBounds i true).getD j false)=addX (fun j=>listed.getD j false) i:=by
 funext j
 by_cases hij:j=i
 ·subst hij
  simp [addX,hi]
 ·simp only [addX]
  rw [getD_set_ne false (Ne.symm hij)]
  simp [hij]
section
variable {P:Program} {l:List Oper} {Q:Exit→St→Prop} {n0 m:Nat} {L:Log} {σT σ0:St} {rs:List Rec} {fT:Nat}
theorem canon_ok (hS:Steps P l n0 L σT 0 (l.take m) rs σ0) (hn : σ0.nx=n0+m) (hc:chkL l n0 L=true) (hk:chkS l m=true) (hm:m≤l.length)
  (hT:∀ listed:Array Bool,listed.size=l.length→(∀ i,i<l.length→listed.getD i false=decide (i<m))→dAny P l.toArray (Q .normal) fT listed σT) :
  ∀ (fuel:Nat) (todo:List Nat) (listed:Array Bool) (σX:St) (E:Env) (a:Act) (w:World),fuel=todo.length+fT→todo.Nodup→(∀ i,i∈todo ↔ i<m∧listed.getD i false=false)→(∀ i,m≤i→listed.getD i false=false) →
   HeadInv .any l.toArray l.toArray.size listed → σX.fr=frX (fun j=>listed.getD j false) 0 rs σ0.fr→(∀ q, σX.h.look q=lkX n0 (fun j=>listed.getD j false) q 0 rs (σ0.h.look q)) → σX.nx=n0+m → σX.df = σ0.df→RelF E σX a w →
   (∀ q,E.U q→q<n0 ∨ ∃ j,listed.getD j false=true∧q=n0+j) → ∀ E0 w0,Ext E0 w0 E w→wpAnyIn (Wd E.ro) 0 P .any l.toArray (LiftQ E0 w0 Q) fuel listed a w:=by
 obtain ⟨hlen,hendf,hendh,hendn,hendd⟩:=steps_end _ _ _ _ hS
 have hlen':rs.length=m:=by rw [hlen,List.length_take];omega
 simp only [chkS,Bool.and_eq_true] at hk
 obtain ⟨⟨⟨kd,kr⟩,kb⟩,kt⟩:=hk
 intro fuel
 induction fuel with
 | zero =>
  intro todo listed σX E a w hf hnd htodo htail inv hfr hlk hnx hdf hr hU E0 w0 hE
  have h0:todo = []:=List.length_eq_zero_iff.1 (by omega)
  have hf0:fT=0:=by omega
  subst hf0
  have hall:∀ i,i<m→listed.getD i false=true:=fun i hi=>by
   cases h:listed.getD i false with
   | true=>rfl
   | false=>have:=(htodo i).2 ⟨hi,h⟩;rw [h0] at this;cases this
  have hrT:RelF E σT a w:=hr.like (by rw [hendf,hfr];exact frX_congr _ _ _ fun j hj=>by rw [Nat.zero_add,hall j (by omega)]) (fun q=>by
   rw [hendh q,hlk q];exact lkX_same _ _ _ fun j r hj _=>by
    have:=(List.getElem?_eq_some_iff.1 hj).1
    rw [Nat.zero_add,hall j (by omega)]) (by rw [hendn,hn,hnx]) (by rw [hendd,hdf])
  exact dAny_ok _ _ σT (hT listed (by simpa using inv.size) fun i hi=>by
   by_cases h:i<m
   ·rw [hall i h];simp [h]
   ·rw [htail i (by omega)];simp [h]) E a w hrT E0 w0 hE
 | succ fuel ih =>
  intro todo listed σX E a w hf hnd htodo htail inv hfr hlk hnx hdf hr hU E0 w0 hE
  by_cases h0:todo = []
  ·have hall:∀ i,i<m→listed.getD i false=true:=fun i hi=>by
    cases h:listed.getD i false with
    | true=>rfl
    | false=>have:=(htodo i).2 ⟨hi,h⟩;rw [h0] at this;cases this
   have hrT:RelF E σT a w:=hr.like (by rw [hendf,hfr];exact frX_congr _ _ _ fun j hj=>by rw [Nat.zero_add,hall j (by omega)]) (fun q=>by
    rw [hendh q,hlk q];exact lkX_same _ _ _ fun j r hj _=>by
     have:=(List.getElem?_eq_some_iff.1 hj).1
     rw [Nat.zero_add,hall j (by omega)]) (by rw [hendn,hn,hnx]) (by rw [hendd,hdf])
   have hfT:fuel+1=fT:=by rw [h0] at hf;simpa using hf
   rw [hfT]
   exact dAny_ok _ _ σT (hT listed (by simpa using inv.size) fun i hi=>by
    by_cases h:i<m
    ·rw [hall i h];simp [h]
    ·rw [htail i (by omega)];simp [h]) E a w hrT E0 w0 hE
  ·have hsz:listed.size=l.length:=by simpa using inv.size
   have wait:∀ i j,waitB l i j=true→(∀ o,l[i]? = some o → ∀ e∈o.after,Region.binds .any e=true→listed.getD e.on false=true)→listed.getD j false=true:=fun i j hw h =>
    mustB_listed inv 16 i hw fun oj hoj e he hb=>h oj (by simpa using hoj) e he hb
   have waitl:∀ i j,waitB l i j=true→listed.getD i false=true→listed.getD j false=true:=fun i j hw hl =>
    mustB_listed inv 16 i hw fun oj hoj e he hb=>inv.closed i oj hoj hl e he hb
   refine ⟨fun hr0=>?_,fun i hi=>?_⟩
   ·exfalso
    obtain ⟨i,hi,hmin⟩:=exists_least todo h0
    obtain ⟨him,hiu⟩:=(htodo i).1 hi
    have hil:i<l.length:=by omega
    have:i∈Region.ready .any l.toArray listed:=by
     refine mem_ready.2 ⟨getD_in (by omega) hiu,l[i],by simp [hil],fun e he hb=>?_⟩
     have h1:=range_all kb hil
     rw [List.getElem?_eq_getElem hil] at h1
     have h2:=(List.all_eq_true.1 h1) e (by simpa using he)
     rw [hb,Bool.not_true,Bool.false_or] at h2
     have h2:=of_decide_eq_true h2
     cases h3:listed.getD e.on false with
     | true=>rfl
     | false =>
      have:=hmin e.on ((htodo e.on).2 ⟨by omega,h3⟩)
      omega
    rw [hr0] at this
    cases this
   ·obtain ⟨hiu,o,ho,hall⟩:=mem_ready.1 hi
    have hil:i<l.length:=by simpa using (Array.getElem?_eq_some_iff.1 ho).1
    have hou:l[i]? = some o:=by simpa using ho
    have hiu':=getD_both hiu
    have hall':∀ o',l[i]? = some o' → ∀ e∈o'.after,Region.binds .any e=true→listed.getD e.on false=true:=fun o' ho' e he hb=>by
     rw [hou] at ho'
     injection ho' with ho'
     subst ho'
     exact hall e he hb
    have him:i<m:=by
     rcases Nat.lt_or_ge i m with h | h
     ·exact h
     ·exfalso
      have h1:=range_all kt hil
      rw [decide_eq_false (by omega),Bool.false_or] at h1
      obtain ⟨j,hj⟩:=List.exists_mem_of_ne_nil _ h0
      obtain ⟨hjm,hju⟩:=(htodo j).1 hj
      have:=wait i j (range_all h1 hjm) hall'
      rw [hju] at this
      cases this
    obtain ⟨r, σk,M,hri,hV,hM,hkf,hkh,hkn⟩:=steps_at _ _ _ _ hS i o (by rw [List.getElem?_take,if_pos him];exact hou)
    rw [Nat.zero_add] at hV hM hkf hkh
    have hwr:∀ t,t∈o.looksAt l.toArray → σX.fr.getD t .dead = σk.fr.getD t .dead:=fun t ht=>by
     rw [hfr,hkf]
     refine frX_same _ _ _ _ (fun j r' hj hd=>?_) rfl rfl
     rw [Nat.zero_add]
     obtain ⟨oj,hoj,hdj,_⟩:=steps_dst _ _ _ _ hS j r' hj
     have hjm:j<m:=by have:=(List.getElem?_eq_some_iff.1 hj).1;omega
     rw [List.getElem?_take,if_pos hjm] at hoj
     have h1:=range_all kr him
     rw [hou] at h1
     have h2:=range_all ((List.all_eq_true.1 h1) t ht) hjm
     have h3:slotOf l j=some t:=by unfold slotOf;rw [hoj];dsimp only;rw [← hdj];exact hd
     rw [h3] at h2
     simp only [bne_self_eq_false,Bool.false_or] at h2
     by_cases hji:j<i
     ·rw [if_pos hji] at h2
      rw [wait i j h2 hall']
      simp [hji]
     ·rw [if_neg hji] at h2
      simp only [Bool.or_eq_true,beq_iff_eq] at h2
      rcases h2 with h2 | h2
      ·subst h2;simp only [hiu'];simp
      ·have:listed.getD j false=false:=by
        cases h4:listed.getD j false with
        | false=>rfl
        | true=>have:=waitl j i h2 h4;rw [hiu'] at this;cases this
       simp only [this];simp [hji]
    have hce:∀ e∈L,chkE l n0 L e=true:=List.all_eq_true.1 hc
    have htc:∀ q u,(i,q,u)∈L → ∀ j r',rs[j]? = some r'→tch n0 j r'.e q≠none→listed.getD j false=decide (j<i):=fun q u hq j r' hj ht=>by
     have h1:=hce _ hq
     simp only [chkE,Bool.and_eq_true,Bool.or_eq_true] at h1
     obtain ⟨h1,h2⟩:=h1
     have hju:∀ h:(j<i→waitB l i j=true)∧(i<j→waitB l j i=true) ,listed.getD j false=decide (j<i):=fun h=>by
      rcases Nat.lt_trichotomy j i with h3 | h3 | h3
      ·rw [wait i j (h.1 h3) hall'];simp [h3]
      ·subst h3;rw [hiu'];simp
      ·have:listed.getD j false=false:=by
        cases h4:listed.getD j false with
        | false=>rfl
        | true=>have:=waitl j i (h.2 h3) h4;rw [hiu'] at this;cases this
       rw [this];simp;omega
     obtain ⟨oj,hoj,hdj,hupd⟩:=steps_dst _ _ _ _ hS j r' hj
     rcases tch_inv ht with hqj | ⟨t,blk,he,hqt⟩
     ·rcases h2 with h2 | h2
      ·have:=of_decide_eq_true h2
       omega
      ·obtain ⟨h3,h4⟩:=h2
       have h3':=of_decide_eq_true h3
       have:q - n0=j:=by omega
       rw [this] at h3' h4
       exact hju ⟨fun _=>h4,fun h=>by omega⟩
     ·have hjL:=hupd t blk he
      rw [Nat.zero_add] at hjL
      have h3:=(List.all_eq_true.1 h1) _ hjL
      simp only [hqt,beq_self_eq_true,Bool.and_self,Bool.not_true,Bool.false_or,Bool.or_eq_true,beq_iff_eq] at h3
      refine hju ⟨fun h=>?_,fun h=>?_⟩
      ·rcases h3 with h3 | h3
       ·omega
       ·rwa [if_pos h] at h3
      ·rcases h3 with h3 | h3
       ·omega
       ·rwa [if_neg (by omega)] at h3
    have hgL:o.looksAt l.toArray=(o.op.operands.toList.filterMap fun | .tmp t=>some t | _=>none)++(match o.guard with | some (g,_)=>((l.toArray[g]?).bind (·.dst)).toList | none=>[]):=rfl
    have hmain:=hV.run σX (by rw [hnx,hkn,hn]) (fun y hy=>by
     cases y with
     | tmp t=>exact hwr t (by rw [hgL];exact List.mem_append.2 (.inl (List.mem_filterMap.2 ⟨_,hy,rfl⟩)))
     | _=>rfl) (fun q b hq hb=>by
     obtain ⟨e,he,rfl⟩:=List.mem_map.1 hq
     have:=hM e he
     rw [hkh] at hb
     rw [hlk, ← hb]
     refine lkX_same _ _ _ fun j r' hj ht=>?_
     rw [Nat.zero_add] at ht ⊢
     exact htc e.1 e.2 this j r' hj ht) (fun j w' hg t ht=>by
     refine hwr t ?_
     rw [hgL,hg]
     refine List.mem_append.2 (.inr ?_)
     dsimp only
     unfold slotOf at ht
     have e1:l.toArray[j]? = l[j]? := by simp
     rw [e1]
     split at ht
     ·rename_i o' ho'
      rw [ho']
      simp [ht]
     ·cases ht) E a w (wpAnyIn (Wd E.ro) 0 P .any l.toArray (LiftQ E0 w0 Q) fuel (listed.setIfInBounds i true)) (LiftQ E0 w0 Q) hr (by rw [hkn,hn];omega) (fun hu=>by
     rcases hU _ hu with h | ⟨j,hj,h⟩
     ·omega
     ·have:j=i:=by omega
      subst this
      rw [hiu'] at hj;cases hj) ?_
    ·unfold wpOpIn
     rw [ho]
     dsimp only
     unfold OW at hmain
     split
     ·rename_i hw
      rw [if_pos (by simpa using hw)] at hmain
      exact wpIn_of_wp (.inr hmain.2) hmain.1
     ·rename_i hw
      rw [if_neg (by simpa using hw)] at hmain
      exact ⟨fun _ _=>trivial,hmain⟩
    ·intro a' w' E' σ'' hf2 hh2 hn2 hd2 hr2 hE2 hU2
     rw [← hE2.ro]
     have hX':=lst_add (listed:=listed) (i:=i) (by omega)
     refine ih (todo.erase i) (listed.setIfInBounds i true) σ'' E' a' w' ?_ (hnd.erase i) (fun j=>?_) (fun j hj=>?_) (inv.set hi (by simpa using hil)) ?_ (fun q=>?_) (hn2.trans hnx) (hd2.trans hdf) hr2 (fun q hq=>?_) E0 w0 (hE.trans hE2)
     ·have hit:i∈todo:=(htodo i).2 ⟨him,hiu'⟩
      have h1:=List.length_erase_of_mem hit
      have h2:=List.length_pos_of_mem hit
      omega
     ·rw [hnd.mem_erase_iff,htodo j]
      constructor
      ·rintro ⟨h1,h2,h3⟩
       exact ⟨h2,by rw [getD_set_ne false (Ne.symm h1)];exact h3⟩
      ·rintro ⟨h1,h2⟩
       have:j≠i:=fun h=>by
        subst h
        have h3:=congrFun hX' j
        simp only [addX,beq_self_eq_true,Bool.or_true] at h3
        rw [h3] at h2;cases h2
       exact ⟨this,h1,by rw [getD_set_ne false (Ne.symm this)] at h2;exact h2⟩
     ·rw [getD_set_ne false (by omega)];exact htail j hj
     ·rw [hf2,hfr,hX']
      refine (frX_add (X:=fun j=>listed.getD j false) hiu' rs 0 σ0.fr (Nat.zero_le _) (by simpa using hri) fun j r' hj hne _ t ht1 ht2=>?_).symm
      rw [Nat.zero_add] at hne
      obtain ⟨oj,hoj,hdj,_⟩:=steps_dst _ _ _ _ hS j r' hj
      have hjm:j<m:=by have:=(List.getElem?_eq_some_iff.1 hj).1;omega
      rw [List.getElem?_take,if_pos hjm] at hoj
      have h1:=range_all (range_all kd him) hjm
      have h2:slotOf l i=some t:=by unfold slotOf;rw [hou];dsimp only;rw [← hV.d];exact ht2
      have h3:slotOf l j=some t:=by unfold slotOf;rw [hoj];dsimp only;rw [← hdj];exact ht1
      rw [h2,h3] at h1
      simp at h1
      exact hne h1.symm
     ·rw [hh2,hlk,hX']
      refine (lkX_add (X:=fun j=>listed.getD j false) hiu' rs 0 _ (Nat.zero_le _) (by simpa using hri) fun ht j r' hj hlt hX=>?_).symm
      rw [Nat.zero_add] at hlt hX ⊢
      cases htj:tch n0 j r'.e q with
      | none=>rfl
      | some blk =>
       exfalso
       have htj':tch n0 j r'.e q≠none:=by rw [htj];simp
       rcases tch_inv ht with hqi | ⟨t,blk',hei,hqt⟩
       ·rcases tch_inv htj' with hqj | ⟨t,blk2,hej,hqt⟩
        ·omega
        ·obtain ⟨oj,hoj,hdj,hupd⟩:=steps_dst _ _ _ _ hS j r' hj
         have hjL:=hupd t blk2 hej
         rw [Nat.zero_add] at hjL
         have h1:=hce _ hjL
         simp only [chkE,Bool.and_eq_true,Bool.or_eq_true] at h1
         rcases h1.2 with h2 | ⟨h2,h3⟩
         ·have:=of_decide_eq_true h2
          omega
         ·have:t - n0=i:=by omega
          rw [this] at h3
          have:=waitl j i h3 hX
          rw [hiu'] at this
          cases this
       ·have h1:=htc q true (by rw [hqt];exact hM _ (hV.u t blk' hei)) j r' hj htj'
        rw [hX] at h1
        have:=of_decide_eq_true h1.symm
        omega
     ·rcases hU2 q hq with h | h
      ·rcases hU q h with h | ⟨j,hj,h⟩
       ·exact .inl h
       ·refine .inr ⟨j,getD_set_true hj,h⟩
      ·refine .inr ⟨i,?_,h⟩
       have h3:=congrFun hX' i
       simp only [addX,beq_self_eq_true,Bool.or_true] at h3
       exact h3
end
open Go.RowKit
theorem listedP_get:∀ (plan:List Nat) (A:Array Bool),(listedP plan A).size=A.size ∧ ∀ j,j<A.size→(listedP plan A).getD j false=(A.getD j false||plan.contains j)
 | [],A=>⟨rfl,fun j hj=>by simp [listedP]⟩
 | i::r,A=>by
  obtain ⟨h1,h2⟩:=listedP_get r (A.setIfInBounds i true)
  refine ⟨by simpa [listedP] using h1,fun j hj=>?_⟩
  have h3:=h2 j (by simpa using hj)
  show (listedP r (A.setIfInBounds i true)).getD j false=_
  rw [h3]
  by_cases hij:i=j
  ·subst hij
   simp [hj]
  ·rw [getD_set_ne false hij]
   have:(j==i)=false:=by simpa using Ne.symm hij
   simp only [List.contains_cons,this,Bool.false_or]
theorem listed_range {m n:Nat} {listed:Array Bool} (hs:listed.size=n) (h:∀ i,i<n→listed.getD i false=decide (i<m)):listed=listedP (List.range m) (Array.replicate n false):=by
 obtain ⟨h1,h2⟩:=listedP_get (List.range m) (Array.replicate n false)
 have h1':(listedP (List.range m) (Array.replicate n false)).size=n:=by simpa using h1
 refine Array.ext (by omega) fun i hi hi'=>?_
 have h3:=h i (by omega)
 have h4:=h2 i (by simp;omega)
 rw [getD_replicate_false,Bool.false_or] at h4
 have e1:listed.getD i false=listed[i]:=by simp [hi]
 have e2:(listedP (List.range m) (Array.replicate n false)).getD i false=(listedP (List.range m) (Array.replicate n false))[i]:=by simp [hi']
 rw [← e1, ← e2,h3,h4]
 by_cases him:i<m
 ·simp [him]
 ·simp [him]
theorem drawC_of {P:Program} {n0 id:Nat} {l:List Oper} {Q:Exit→St→Prop} {σ : St} (m:Nat) (t:OT) (hm:P.follows .mixedOrders=true) (hS:chkS l m=true)
  (hT:treeB l.toArray (l.length - m) (listedP (List.range m) (Array.replicate l.length false)) t true=true) (hlen:m≤l.length)
  (h:cRun P l σ.nx (tsteps P l (Q .normal) t) 0 (l.take m) [] { σ with nx := σ.nx+m }):DrawR P n0 id l.toArray Q σ := by
 intro E a w hr E0 w0 hU hE
 refine wpIn_region_any hm ?_
 have inv:HeadInv .any l.toArray l.toArray.size (Array.replicate l.length false):=by
  have:=headInv_start (ops:=l.toArray) (md := .any)
  simpa using this
 obtain ⟨L,rs, σT,_,hSt,hc,hf⟩:=cRun_steps _ _ _ _ h
 have hdr:RelF E σ a { w with drawn:=w.drawn+1 }∧Ext E0 w0 E { w with drawn:=w.drawn+1 }:=by
  have hb:Below w.heap.size w { w with drawn:=w.drawn+1 }:=⟨rfl,rfl,rfl,Nat.le_refl _,fun _ _=>rfl⟩
  obtain ⟨k1,k2⟩:=hr.later hb (fun _ h=>h) (fun b hb => .inl hb) (fun b hb'=>hr.rel.slt b hb')
  exact ⟨k1,hE.trans k2⟩
 obtain ⟨hr1,hE1⟩:=hdr
 have hr2:RelF E { σ with nx := σ.nx+m } a { w with drawn:=w.drawn+1 }:=⟨hr1.rel,fun i hi=>by have:=hr1.bound i hi;show i < σ.nx+m;omega,hr1.fr,hr1.defers⟩
 have hlenT:(l.take m).length=m:=by rw [List.length_take];omega
 have:=canon_ok (Q:=Q) (fT:=l.length - m) hSt rfl hc hS hlen (fun listed hs hl=>by
  rw [listed_range hs hl]
  exact (tree_ok _ t _ σT true hT hf).2 rfl) l.length (List.range m) (Array.replicate l.length false) { σ with nx := σ.nx+m } E a _ (by simp;omega) List.nodup_range (fun i=>by
   rw [List.mem_range,getD_replicate_false];simp) (fun i _=>getD_replicate_false _ _) inv (by
   rw [frX_out];intro j hj;exact getD_replicate_false _ _) (fun q=>by
   rw [lkX_out];intro j r hj hX;rw [getD_replicate_false] at hX;cases hX) rfl rfl hr2 (fun q hq => .inl (hr1.bound q hq)) E0 w0 hE1
 simpa using this
section
variable {P:Program} {l:List Oper} {n0 i:Nat} {fin:St→Prop} {L:Log} {σ : St}
@[go_sem] theorem cRun_nil:cRun P l n0 fin i [] L σ = (chkL l n0 L=true∧fin σ):=rfl
@[go_sem] theorem cRun_cons {o:Oper} {os:List Oper}:cRun P l n0 fin i (o::os) L σ = cStep P l n0 i σ o.dst o.op o.guard (ckind P o.op o.guard) (cRun P l n0 fin (i+1) os (logOf i σ (ckind P o.op o.guard) (opsOf o.op) L)):=rfl
@[go_sem] theorem addM_nil {u:Bool}:addM i u [] L=L:=rfl
@[go_sem] theorem addM_cons {u:Bool} {q:Nat} {r:List Nat}:addM i u (q::r) L=(i,q,u)::addM i u r L:=rfl
@[go_sem] theorem mentL_nil {u:Bool}:mentL i u σ [] L=L:=rfl
@[go_sem] theorem mentL_cons {u:Bool} {x:Operand} {r:List Operand}:mentL i u σ (x::r) L=mentL.mentX i u σ x (mentL i u σ r L):=rfl
@[go_sem] theorem logOf_box {x:Operand} {r:List Operand}:logOf i σ .box (x::r) L=mentL i true σ [x] (mentL i false σ r L):=rfl
@[go_sem] theorem logOf_store {x:Operand} {r:List Operand}:logOf i σ .store (x::r) L=mentL i true σ [x] (mentL i false σ r L):=rfl
@[go_sem] theorem logOf_app {x:Operand} {r:List Operand}:logOf i σ .app (x::r) L=mentL i true σ [x] (mentL i false σ r L):=rfl
@[go_sem] theorem logOf_look {r:List Operand}:logOf i σ .look r L=mentL i false σ r L:=rfl
@[go_sem] theorem logOf_new {r:List Operand}:logOf i σ .new r L=mentL i false σ r L:=rfl
end
attribute [go_sem] mentL.mentX opsOf ckind ckind.noG ckind.ioK newR kNewC boxC appC appC.kApp appC.apL appS apR apR.apB apR.apC apR.apE apR.apD delO storeC storeC.kSt storeS stR stR.stB stR.stW cStep V.ment V.ments
end Go.Proofs.YtkjdkbmfaamhaaaGreat
