/- Proved here: Regions that draw their order, on the abstract machine, for use in the proofs of the given statements; conditions stand in each theorem. -/
import Derived.Test.YtkjdkbmfaamhaaaGreatZD
import Derived.Test.YtkjdkbmfaamhaaaGreatZA
set_option linter.unusedSimpArgs false
set_option linter.unusedVariables false
set_option linter.unusedSectionVars false
set_option linter.unnecessarySimpa false
namespace Go.Proofs.YtkjdkbmfaamhaaaGreat
open Go.RowKit
mutual
def V.ment:V→List Nat
 | .own i=>[i]
 | .ptr i _=>[i]
 | .rptr i .. => [i]
 | .rsl i .. => [i]
 | .agg cs=>V.ments cs
 | .tup cs=>V.ments cs
 | .clo _ cs=>V.ments cs
 | .cond _ x=>V.ment x
 | _=>[]
def V.ments:List V→List Nat
 | []=>[]
 | x::xs=>V.ment x++V.ments xs
end
def HeapOn (M:List Nat) (h h':Heap):Prop := ∀ q b,q∈M→h.look q=some b→h'.look q=some b
def HeapExt (h h':Heap):Prop := ∀ q b,h.look q=some b→h'.look q=some b
def EvSame (σ σ':St) (l:List Operand):Prop := ∀ y∈l, σ'.ev y = σ.ev y
theorem useV_det {G:Bool} {x:V} {F:V→Prop} (h:useV G x F):∃ y,F y ∧ ∀ F':V→Prop,F' y→useV G x F':=by
 unfold useV at h
 cases x<;>first | exact ⟨_,h,fun F' h'=>by unfold useV;exact h'⟩ | exact ⟨_,h.2,fun F' h'=>by unfold useV;exact ⟨h.1,h'⟩⟩
theorem useVs_det {G:Bool}:∀ {xs:List V} {F:List V→Prop},useVs G xs F → ∃ ys,F ys ∧ ∀ F':List V→Prop,F' ys→useVs G xs F'
 | [],F,h=>⟨[],h,fun F' h'=>h'⟩
 | x::xs,F,h=>by
  obtain ⟨y,h1,hy⟩:=useV_det h
  obtain ⟨ys,h2,hys⟩:=useVs_det h1
  exact ⟨y::ys,h2,fun F' h'=>hy _ (hys _ h')⟩
theorem useR_mono {α : Type} {s:Prop×V} {f f':V→RO α} {r:Prop × α} (hf:∀ y r,f y=some r→f' y=some r) (h:useR s f=some r):useR s f'=some r:=by
 obtain ⟨p,y⟩:=s
 have h':andR p (f y)=some r:=h
 show andR p (f' y)=some r
 cases hy:f y with
 | none=>rw [hy] at h';cases h'
 | some q=>rw [hy] at h';rw [hf y q hy];exact h'
theorem useR_monoS {α : Type} {G:Bool} {x:V} {f f':V→RO α} {r:Prop × α} (hf:∀ y r,(∀ q∈y.ment,q∈x.ment)→f y=some r→f' y=some r) (h:useR (strip G x) f=some r):useR (strip G x) f'=some r:=by
 have key:∀ p y,(∀ q∈y.ment,q∈x.ment)→useR (p,y) f=some r→useR (p,y) f'=some r:=by
  intro p y hy h
  have h':andR p (f y)=some r:=h
  show andR p (f' y)=some r
  cases hfy:f y with
  | none=>rw [hfy] at h';cases h'
  | some q=>rw [hfy] at h';rw [hf y q hy hfy];exact h'
 cases x<;>exact key _ _ (fun q hq=>by first | exact hq | simpa [V.ment] using hq) h
theorem HeapOn.sub {M M':List Nat} {h h':Heap} (he:HeapOn M h h') (hs:∀ q∈M',q∈M):HeapOn M' h h':=fun q b hq=>he q b (hs q hq)
theorem loadR_ext {P:Program} {G:Bool} {h h':Heap} {t:TypeId} {x:V} (he:HeapOn x.ment h h') {r:Prop×V} (hr:loadR P G h t x=some r):loadR P G h' t x=some r:=by
 unfold loadR at hr ⊢
 split at hr
 ·rename_i i
  cases hl:h.look i with
  | none=>rw [hl] at hr;cases hr
  | some b=>rw [hl] at hr;rw [he i b (by simp [V.ment]) hl];exact hr
 ·rename_i i off
  cases hl:h.look i with
  | none=>rw [hl] at hr;cases hr
  | some b=>rw [hl] at hr;rw [he i b (by simp [V.ment]) hl];exact hr
 ·exact hr
 ·rename_i i k n j
  cases hl:h.look i with
  | none=>rw [hl] at hr;cases hr
  | some b=>rw [hl] at hr;rw [he i b (by simp [V.ment]) hl];exact hr
 ·cases hr
theorem fieldAddrR_ext {h h':Heap} {off:Nat} {x:V} (he:HeapOn x.ment h h') {r:Prop×V} (hr:fieldAddrR h off x=some r):fieldAddrR h' off x=some r:=by
 unfold fieldAddrR at hr ⊢
 split at hr
 ·rename_i i
  cases hl:h.look i with
  | none=>rw [hl] at hr;cases hr
  | some b=>rw [hl] at hr;rw [he i b (by simp [V.ment]) hl];exact hr
 ·rename_i i off
  cases hl:h.look i with
  | none=>rw [hl] at hr;cases hr
  | some b=>rw [hl] at hr;rw [he i b (by simp [V.ment]) hl];exact hr
 ·exact hr
 ·rename_i i k n j
  cases hl:h.look i with
  | none=>rw [hl] at hr;cases hr
  | some b=>rw [hl] at hr;rw [he i b (by simp [V.ment]) hl];exact hr
 ·cases hr
theorem fieldAddrR1_ext {P:Program} {h h':Heap} {q:Option (Nat×TypeId)} {x:V} (he:HeapOn x.ment h h') {r:Prop×V} (hr:fieldAddrR1 P h q x=some r):fieldAddrR1 P h' q x=some r:=by
 cases q with
 | none=>cases hr
 | some q =>
  obtain ⟨off,ft⟩:=q
  have hr':fieldAddrR1.fieldAddrR2 h off (P.szT ft) x=some r:=hr
  show fieldAddrR1.fieldAddrR2 h' off (P.szT ft) x=some r
  cases hs:P.szT ft with
  | none=>rw [hs] at hr';cases hr'
  | some n=>cases n with
   | zero=>rw [hs] at hr';cases hr'
   | succ n=>rw [hs] at hr';exact fieldAddrR_ext he hr'
theorem indexAddrR_ext {P:Program} {G:Bool} {h h':Heap} {e:Option TypeId} {x ix:V} (he:HeapOn x.ment h h') {r:Prop×V} (hr:indexAddrR P G h e x ix=some r):indexAddrR P G h' e x ix=some r:=by
 unfold indexAddrR at hr ⊢
 split at hr
 ·unfold indexAddrR.ixA at hr ⊢
  split at hr
  ·exact hr
  ·rename_i i
   cases hl:h.look i with
   | none=>rw [hl] at hr;cases hr
   | some b=>rw [hl] at hr;rw [he i b (by simp [V.ment]) hl];exact hr
  ·cases hr
 ·cases hr
theorem nilCheckR_ext {h h':Heap} {x:V} (he:HeapOn x.ment h h') {r:Prop×V} (hr:nilCheckR h x=some r):nilCheckR h' x=some r:=by
 unfold nilCheckR at hr ⊢
 split at hr
 ·rename_i i
  cases hl:h.look i with
  | none=>rw [hl] at hr;cases hr
  | some b=>rw [hl] at hr;rw [he i b (by simp [V.ment]) hl];exact hr
 ·rename_i i off
  cases hl:h.look i with
  | none=>rw [hl] at hr;cases hr
  | some b=>rw [hl] at hr;rw [he i b (by simp [V.ment]) hl];exact hr
 ·exact hr
 ·rename_i i k n j
  cases hl:h.look i with
  | none=>rw [hl] at hr;cases hr
  | some b=>rw [hl] at hr;rw [he i b (by simp [V.ment]) hl];exact hr
 ·exact hr
 ·exact hr
 ·cases hr
theorem lenR_ext {h h':Heap} {u:Option TypeDesc} {x:V} (he:HeapOn x.ment h h') {r:Prop×V} (hr:lenR u h x=some r):lenR u h' x=some r:=by
 unfold lenR at hr ⊢
 split at hr
 ·exact hr
 ·exact hr
 ·exact hr
 ·rename_i i
  cases hl:h.look i with
  | none=>rw [hl] at hr;cases hr
  | some b=>rw [hl] at hr;rw [he i b (by simp [V.ment]) hl];exact hr
 ·exact hr
 ·rename_i i
  cases hl:h.look i with
  | none=>rw [hl] at hr;cases hr
  | some b=>rw [hl] at hr;rw [he i b (by simp [V.ment]) hl];exact hr
 ·cases hr
theorem indexAddrA_ext {P:Program} {G:Bool} {h h':Heap} {u:Option TypeDesc} {e:Option TypeId} {x ix:V} (he:HeapOn x.ment h h') {r:Prop×V} (hr:indexAddrA P G h u e x ix=some r):indexAddrA P G h' u e x ix=some r:=by
 unfold indexAddrA at hr ⊢
 split at hr
 ·unfold indexAddrA.iaS at hr ⊢
  split at hr
  ·rename_i k i hk
   cases hl:h.look i with
   | none=>rw [hl] at hr;cases hr
   | some b=>rw [hl] at hr;rw [he i b (by simp [V.ment]) hl];exact hr
  ·rename_i k i off hk
   cases hl:h.look i with
   | none=>rw [hl] at hr;cases hr
   | some b=>rw [hl] at hr;rw [he i b (by simp [V.ment]) hl];exact hr
  ·cases hr
 ·exact indexAddrR_ext he hr
theorem slcR_ext {P:Program} {G:Bool} {h h':Heap} {u:Option TypeDesc} {x:V} {lo hi:Option V} (he:HeapOn x.ment h h') {r:Prop×V} (hr:slcR P G h u x lo hi=some r):slcR P G h' u x lo hi=some r:=by
 unfold slcR at hr ⊢
 split at hr
 ·exact hr
 ·exact hr
 ·rename_i e i
  cases hl:h.look i with
  | none=>rw [hl] at hr;cases hr
  | some b=>rw [hl] at hr;rw [he i b (by simp [V.ment]) hl];exact hr
 ·cases hr
theorem lookupR_ext {P:Program} {h h':Heap} {ok:Bool} {u:Option (TypeId×TypeId)} {x ix:V} (he:HeapOn x.ment h h') {r:Prop×V} (hr:lookupR P h ok u x ix=some r):lookupR P h' ok u x ix=some r:=by
 unfold lookupR at hr ⊢
 split at hr
 ·rename_i kt et i k
  cases hl:h.look i with
  | none=>rw [hl] at hr;unfold lookupR.lkA at hr;split at hr<;>first | (rename_i hx;cases hx) | cases hr
  | some b=>rw [hl] at hr;rw [he i b (by simp [V.ment]) hl];exact hr
 ·exact hr
 ·cases hr
theorem evs_same {σ σ':St}:∀ (l:List Operand),(∀ y∈l, σ'.ev y = σ.ev y)→evs σ' l=evs σ l
 | [],_=>rfl
 | x::r,h=>by
  simp only [evs]
  rw [h x (by simp),evs_same r (fun y hy=>h y (by simp [hy]))]
theorem evO_same {σ σ':St} {o:Option Operand} (h:∀ y,o=some y → σ'.ev y = σ.ev y):evO σ' o=evO σ o:=by
 cases o with
 | none=>rfl
 | some y=>simp only [evO];rw [h y rfl]
theorem partsE_same {σ σ':St}:∀ (l:List (Nat×Operand)),(∀ p∈l, σ'.ev p.2 = σ.ev p.2)→partsE σ' l=partsE σ l
 | [],_=>rfl
 | (i,x)::r,h=>by
  simp only [partsE]
  rw [h (i,x) (by simp),partsE_same r (fun p hp=>h p (by simp [hp]))]
theorem lookR_sim {P:Program} {G:Bool} {σ σ':St} {op:Op} (he:EvSame σ σ' op.operands.toList) (hh:∀ y∈op.operands.toList,HeapOn (σ.ev y).ment σ.h σ'.h) {r:Prop×V} (h:lookR P G σ op=some r):lookR P G σ' op=some r:=by
 unfold lookR at h ⊢
 cases op with
 | move x=>dsimp only at h ⊢; rw [he x (by simp [Op.operands])];exact h
 | assign x=>dsimp only at h ⊢; rw [he x (by simp [Op.operands])];exact h
 | pick c a b=>dsimp only at h ⊢; rw [he c (by simp [Op.operands]),he a (by simp [Op.operands]),he b (by simp [Op.operands])];exact h
 | unOp op t x=>dsimp only at h ⊢; rw [he x (by simp [Op.operands])];exact h
 | binOp op t x y u=>dsimp only at h ⊢; rw [he x (by simp [Op.operands]),he y (by simp [Op.operands])];exact h
 | load t a=>dsimp only at h ⊢; rw [he a (by simp [Op.operands])];exact useR_monoS (fun y r hy hr=>loadR_ext ((hh a (by simp [Op.operands])).sub hy) hr) h
 | fieldAddr t x f=>dsimp only at h ⊢; rw [he x (by simp [Op.operands])];exact useR_monoS (fun y r hy hr=>fieldAddrR1_ext ((hh x (by simp [Op.operands])).sub hy) hr) h
 | field t x f=>dsimp only at h ⊢; rw [he x (by simp [Op.operands])];exact h
 | index t x ix=>dsimp only at h ⊢; rw [he x (by simp [Op.operands]),he ix (by simp [Op.operands])];exact h
 | indexAddr t x ix=>dsimp only at h ⊢; rw [he x (by simp [Op.operands]),he ix (by simp [Op.operands])];exact useR_monoS (fun y r hy hr=>useR_mono (fun z r hz=>indexAddrA_ext ((hh x (by simp [Op.operands])).sub hy) hz) hr) h
 | extract x i=>dsimp only at h ⊢; rw [he x (by simp [Op.operands])];exact h
 | build t parts =>
  dsimp only at h ⊢
  rw [partsE_same parts.toList (fun p hp=>he p.2 (by simp only [Op.operands,List.toList_toArray];exact List.mem_map.2 ⟨p,hp,rfl⟩))]
  exact h
 | nilCheck x=>dsimp only at h ⊢; rw [he x (by simp [Op.operands])];exact useR_monoS (fun y r hy hr=>nilCheckR_ext ((hh x (by simp [Op.operands])).sub hy) hr) h
 | convert s d x=>dsimp only at h ⊢; rw [he x (by simp [Op.operands])];exact h
 | slice t x lo hi mx =>
  cases mx with
  | some y=>cases h
  | none =>
   dsimp only at h ⊢
   rw [he x (by simp [Op.operands]),evO_same (σ := σ) (σ' := σ') (o:=lo) (fun y hy=>he y (by subst hy;simp [Op.operands])),evO_same (σ := σ) (σ' := σ') (o:=hi) (fun y hy=>he y (by subst hy;simp [Op.operands]))]
   exact useR_monoS (fun y r hy hr=>slcR_ext ((hh x (by simp [Op.operands])).sub hy) hr) h
 | lookup t x ix ok=>dsimp only at h ⊢; rw [he x (by simp [Op.operands]),he ix (by simp [Op.operands])];exact useR_monoS (fun y r hy hr=>useR_mono (fun z r hz=>lookupR_ext ((hh x (by simp [Op.operands])).sub hy) hz) hr) h
 | makeFunc fn first cs =>
  dsimp only at h ⊢
  rw [evs_same (σ := σ) (σ' := σ') cs.toList (fun y hy=>he y (by simp [Op.operands];exact .inr (by simpa using hy)))]
  exact h
 | _=>cases h
theorem kR_some_of {α : Type} {r:RO α} {K : α → Prop} (h:kR r K):∃ p v,r=some (p,v)∧p∧K v:=by
 cases r with
 | none=>exact h.elim
 | some q=>exact ⟨q.1,q.2,rfl,h.1,h.2⟩
mutual
theorem lend_ext {h h':Heap}:∀ (x:V),HeapOn x.ment h h'→(x.lend1 h).pure=true→x.lend1 h'=x.lend1 h
 | .own i,he,hp=>by
  unfold V.lend1 at hp ⊢
  cases hl:h.look i with
  | none=>simp [lendC,lendB,hl,lendO,lendBo,lendOo,V.pure] at hp
  | some b =>
   have hl':=he i b (by simp [V.ment]) hl
   have h0:lendC h' 0=lendC h 0:=by funext x;cases x<;>rfl
   simp only [lendC,hl,hl',h0]
 | .clo f cs,he,hp=>by simp only [V.lend1,V.pure,V.ment] at he hp ⊢; rw [lends_ext cs he hp]
 | .agg cs,he,hp=>by simp only [V.lend1,V.pure,V.ment] at he hp ⊢; rw [lends_ext cs he hp]
 | .tup cs,he,hp=>by simp only [V.lend1,V.pure,V.ment] at he hp ⊢; rw [lends_ext cs he hp]
 | .t _,_,_=>by simp only [V.lend1]
 | .ptr ..,_,_=>by simp only [V.lend1]
 | .rptr ..,_,_=>by simp only [V.lend1]
 | .rsl ..,_,_=>by simp only [V.lend1]
 | .elem ..,_,_=>by simp only [V.lend1]
 | .cond ..,_,_=>by simp only [V.lend1]
 | .dead,_,_=>by simp only [V.lend1]
theorem lends_ext {h h':Heap}:∀ (xs:List V),HeapOn (V.ments xs) h h'→V.pures (V.lends1 h xs)=true→V.lends1 h' xs=V.lends1 h xs
 | [],_,_=>rfl
 | x::xs,he,hp=>by
  simp only [V.lends1,V.pures,V.ments,Bool.and_eq_true] at he hp ⊢
  rw [lend_ext x (he.sub fun q hq=>List.mem_append_left _ hq) hp.1,lends_ext xs (he.sub fun q hq=>List.mem_append_right _ hq) hp.2]
end
theorem useV_ment {G:Bool} {x y:V} (h:∀ F':V→Prop,F' y→useV G x F'):∀ q∈y.ment,q∈x.ment:=by
 have h1:=h (fun z=>z=y) rfl
 unfold useV at h1
 split at h1
 ·intro q hq;rw [← h1.2] at hq;simpa [V.ment] using hq
 ·intro q hq;rw [← h1] at hq;exact hq
theorem useVs_ments {G:Bool}:∀ {xs ys:List V},(∀ F':List V→Prop,F' ys→useVs G xs F') → ∀ q∈V.ments ys, ∃ x∈xs,q∈x.ment
 | [],ys,h,q,hq=>by
  have h1 : []=ys:=h (fun z=>z=ys) rfl
  subst h1
  simp [V.ments] at hq
 | x::xs,ys,h,q,hq=>by
  have h1:useV G x fun x'=>useVs G xs fun xs'=>x'::xs'=ys:=h (fun z=>z=ys) rfl
  obtain ⟨y',h2,hy'⟩:=useV_det h1
  obtain ⟨ys',h3,hys'⟩:=useVs_det h2
  subst h3
  simp only [V.ments,List.mem_append] at hq
  rcases hq with hq | hq
  ·exact ⟨x,by simp,useV_ment hy' q hq⟩
  ·obtain ⟨z,hz,hm⟩:=useVs_ments hys' q hq
   exact ⟨z,by simp [hz],hm⟩
theorem useVs_ment {P:Program} {G:Bool} {σ : St} {c:Call} {ys:List V} (h:∀ F':List V→Prop,F' ys→useVs G (c.args.toList.map σ.ev) F'):∀ q∈V.ments ys, ∃ y∈(Op.call c).operands.toList,q∈(σ.ev y).ment:=by
 intro q hq
 obtain ⟨x,hx,hm⟩:=useVs_ments h q hq
 obtain ⟨y,hy,rfl⟩:=List.mem_map.1 hx
 exact ⟨y,by simp [Op.operands,Call.operands];exact .inr (by simpa using hy),hm⟩
theorem map_same {σ σ':St}:∀ (l:List Operand),EvSame σ σ' l→l.map σ'.ev=l.map σ.ev
 | [],_=>rfl
 | x::l,h=>by
  simp only [List.map_cons]
  rw [h x (by simp),map_same l (fun y hy=>h y (by simp [hy]))]
theorem pstep_stable {P:Program} {G:Bool} {σ : St} {op:Op} {K:V→Prop} (h:pstep P G σ op K) :
  ∃ x,K x ∧ ∀ σ',EvSame σ σ' op.operands.toList→(∀ y∈op.operands.toList,HeapOn (σ.ev y).ment σ.h σ'.h) → ∀ K':V→Prop,K' x→pstep P G σ' op K':=by
 have key:∀ op,kR (lookR P G σ op) K → ∃ x,K x ∧ ∀ σ',EvSame σ σ' op.operands.toList→(∀ y∈op.operands.toList,HeapOn (σ.ev y).ment σ.h σ'.h) → ∀ K':V→Prop,K' x→kR (lookR P G σ' op) K':=by
  intro op h
  obtain ⟨p,x,hr,hp,hk⟩:=kR_some_of h
  exact ⟨x,hk,fun σ' he hh K' hk'=>by rw [lookR_sim he hh hr];exact ⟨hp,hk'⟩⟩
 unfold pstep at h
 split at h
 ·rename_i c
  obtain ⟨callee,args,tys⟩:=c
  unfold callC at h
  dsimp only at h
  split at h
  ·obtain ⟨p,x,hr,hp,hk⟩:=kR_some_of h
   refine ⟨x,hk,fun σ' he hh K' hk'=>?_⟩
   show kR (callC.lenC P G σ' args.toList tys.toList) K'
   unfold callC.lenC at hr
   split at hr
   ·rename_i y t r hy ht
    rw [hy,ht]
    show kR (useR (strip G (σ'.ev y)) fun x'=>lenR (P.underlying t) σ'.h x') K'
    have e1 : σ'.ev y = σ.ev y:=he y (by simp [Op.operands,Call.operands,hy])
    rw [e1,useR_monoS (fun z r hz hr=>lenR_ext ((hh y (by simp [Op.operands,Call.operands,hy])).sub hz) hr) hr]
    exact ⟨hp,hk'⟩
   ·cases hr
  ·obtain ⟨p,x,hr,hp,hk⟩:=kR_some_of h
   refine ⟨x,hk,fun σ' he hh K' hk'=>?_⟩
   show kR (callC.mmC G σ' .min args.toList) K'
   unfold callC.mmC at hr
   split at hr
   ·rename_i y z hy
    rw [hy]
    show kR (useR (strip G (σ'.ev y)) fun x'=>useR (strip G (σ'.ev z)) fun y'=>mmR .min x' y') K'
    rw [he y (by simp [Op.operands,Call.operands,hy]),he z (by simp [Op.operands,Call.operands,hy]),hr]
    exact ⟨hp,hk'⟩
   ·cases hr
  ·obtain ⟨p,x,hr,hp,hk⟩:=kR_some_of h
   refine ⟨x,hk,fun σ' he hh K' hk'=>?_⟩
   show kR (callC.mmC G σ' .max args.toList) K'
   unfold callC.mmC at hr
   split at hr
   ·rename_i y z hy
    rw [hy]
    show kR (useR (strip G (σ'.ev y)) fun x'=>useR (strip G (σ'.ev z)) fun y'=>mmR .max x' y') K'
    rw [he y (by simp [Op.operands,Call.operands,hy]),he z (by simp [Op.operands,Call.operands,hy]),hr]
    exact ⟨hp,hk'⟩
   ·cases hr
  ·rename_i f
   obtain ⟨ys,h1,hys⟩:=useVs_det h
   have hargs:∀ σ',EvSame σ σ' (Op.call { callee := .value (.func f),args:=args,argTypes:=tys }).operands.toList→args.toList.map σ'.ev=args.toList.map σ.ev:=fun σ' he =>
    map_same _ fun y hy=>he y (by simp [Op.operands,Call.operands];exact .inr (by simpa using hy))
   have hment:=useVs_ment (P:=P) (σ := σ) (c := { callee := .value (.func f),args:=args,argTypes:=tys }) hys
   unfold callPV at h1
   split at h1
   ·rename_i hp
    obtain ⟨r,hc,hk⟩:=h1
    refine ⟨r,hk,fun σ' he hh K' hk'=>?_⟩
    unfold pstep callC
    dsimp only
    rw [hargs σ' he]
    refine hys _ ?_
    unfold callPV
    rw [if_pos hp]
    exact ⟨r,hc,hk'⟩
   ·rename_i hp
    obtain ⟨hpl,r,hc,hs,hk⟩:=h1
    refine ⟨r,hk,fun σ' he hh K' hk'=>?_⟩
    unfold pstep callC
    dsimp only
    rw [hargs σ' he]
    refine hys _ ?_
    unfold callPV
    rw [if_neg hp,lends_ext ys (fun q b hq=>by
     obtain ⟨y,hy,hm⟩:=hment q hq
     exact hh y hy q b hm) hpl]
    exact ⟨hpl,r,hc,hs,hk'⟩
  ·exact h.elim
 ·rename_i op t x y u
  unfold pstep.bstep at h
  split at h
  ·rename_i hagg
   obtain ⟨x',h1,hx'⟩:=useV_det h
   obtain ⟨y',h2,hy'⟩:=useV_det h1
   unfold eqC at h2
   split at h2
   ·rename_i xs ys
    obtain ⟨b,hb,hk⟩:=h2
    refine ⟨_,hk,fun σ' he hh K' hk'=>?_⟩
    show pstep.bstep P G σ' op t x y u (isAggOp P (.binOp op t x y u)) K'
    rw [hagg]
    unfold pstep.bstep
    dsimp only
    rw [he x (by simp [Op.operands]),he y (by simp [Op.operands])]
    exact hx' _ (hy' _ ⟨b,hb,hk'⟩)
   ·exact h2.elim
  ·rename_i hagg
   obtain ⟨x',hk,hst⟩:=key _ h
   refine ⟨x',hk,fun σ' he hh K' hk'=>?_⟩
   show pstep.bstep P G σ' op t x y u (isAggOp P (.binOp op t x y u)) K'
   rw [hagg]
   exact hst σ' he hh K' hk'
 ·rename_i op h1 h2
  obtain ⟨x',hk,hst⟩:=key _ h
  refine ⟨x',hk,fun σ' he hh K' hk'=>?_⟩
  unfold pstep
  split
  ·exact (h1 _ rfl).elim
  ·exact (h2 _ _ _ _ _ rfl).elim
  ·exact hst σ' he hh K' hk'
theorem ev_put {σ : St} {d:Option Tmp} {x:V} {y:Operand} (h:∀ t,d=some t→y ≠ .tmp t):(σ.put d x).ev y = σ.ev y:=by
 cases d with
 | none=>rfl
 | some t =>
  cases y with
  | tmp u =>
   have:t≠u:=fun e=>h t rfl (by rw [e])
   simp [St.ev,St.put,List.getD_eq_getElem?_getD,List.getElem?_set_ne this]
  | _=>rfl
theorem put_comm {σ : St} {d e:Option Tmp} {x y:V} (h:∀ t,d=some t→e≠some t):(σ.put d x).put e y=(σ.put e y).put d x:=by
 cases d with
 | none=>rfl
 | some t =>
  cases e with
  | none=>rfl
  | some u =>
   have:t≠u:=fun h'=>h t rfl (by rw [h'])
   simp only [St.put]
   rw [List.set_comm _ _ this]
theorem kR_mono {α : Type} {r:RO α} {K K' : α → Prop} (hk:∀ v,K v→K' v) (h:kR r K):kR r K':=by
 cases r with
 | none=>exact h.elim
 | some q=>exact ⟨h.1,hk _ h.2⟩
theorem evsame_put {σ : St} {d:Option Tmp} {x:V} {l:List Operand} (h:∀ t,d=some t → .tmp t ∉ l):EvSame σ (σ.put d x) l:=fun y hy=>ev_put fun t ht e=>h t ht (e ▸ hy)
theorem put_h {σ : St} {d:Option Tmp} {x:V}:(σ.put d x).h = σ.h:=by cases d<;>rfl
theorem put_nx {σ : St} {d:Option Tmp} {x:V}:(σ.put d x).nx = σ.nx:=by cases d<;>rfl
theorem put_add {σ : St} {d:Option Tmp} {x:V} {blk:Blk}:(σ.put d x).add blk=(σ.add blk).put d x:=by cases d<;>rfl
def WFh (σ : St):Prop := ∀ q, σ.nx≤q → σ.h.look q=none
def Kept (σ σ':St) (d:Option Tmp):Prop:=HeapExt σ.h σ'.h∧WFh σ' ∧ ∀ y:Operand,(∀ t,d=some t→y ≠ .tmp t) → σ'.ev y = σ.ev y
theorem kept_put {σ : St} {d:Option Tmp} {x:V} (hw:WFh σ):Kept σ (σ.put d x) d:=by
 refine ⟨fun q b h=>by rw [put_h];exact h,fun q hq=>?_,fun y hy=>ev_put hy⟩
 rw [put_h];rw [put_nx] at hq;exact hw q hq
theorem kept_add {σ : St} {d:Option Tmp} {x:V} {blk:Blk} (hw:WFh σ):Kept σ ((σ.add blk).put d x) d:=by
 refine ⟨fun q b h=>?_,fun q hq=>?_,fun y hy=>?_⟩
 ·rw [put_h]
  simp only [St.add,Heap.look]
  rw [if_neg (fun e=>by subst e;rw [hw _ (Nat.le_refl _)] at h;cases h)]
  exact h
 ·rw [put_h];rw [put_nx] at hq
  simp only [St.add,Heap.look] at hq ⊢
  rw [if_neg (by omega)]
  exact hw q (by omega)
 ·rw [ev_put hy];cases y<;>rfl
def heavy (P:Program) (op:Op):Bool :=
 match op with
 | .store .. | .makeMap .. | .makeSlice .. | .mapUpdate .. | .insert .. | .defer _=>true
 | .call { callee := .builtin .append, .. }=>true
 | .call { callee := .value (.func f), .. }=>P.ioF f
 | .call { callee := .value _, .. }=>true
 | _=>false
theorem estep_comm {P:Program} {σ : St} {d dj:Option Tmp} {x:V} {op:Op} {K:St→Prop} (ho:∀ t,d=some t → .tmp t ∉ op.operands.toList) (hd:∀ t,d=some t→dj≠some t) (hh:heavy P op=false) (hw:WFh σ)
  (h:estep P (σ.put d x) dj op K):estep P σ dj op (fun σ'=>K (σ'.put d x)∧Kept σ σ' dj):=by
 have hp:∀ op,(∀ t,d=some t → .tmp t ∉ op.operands.toList)→pstep P true (σ.put d x) op (kPut K (σ.put d x) dj)→pstep P true σ op (kPut (fun σ'=>K (σ'.put d x)∧Kept σ σ' dj) σ dj):=by
  intro op ho h
  obtain ⟨y,hk,hst⟩:=pstep_stable h
  refine hst σ (fun z hz=>(evsame_put ho z hz).symm) (fun z hz q b _ hq=>by rw [put_h] at hq;exact hq) _ ?_
  unfold kPut at hk ⊢
  rw [put_comm hd] at hk
  exact ⟨hk,kept_put hw⟩
 cases op with
 | box t y =>
  unfold estep at h ⊢
  dsimp only at h ⊢
  rw [ev_put (fun t ht e=>ho t ht (by rw [← e];simp [Op.operands]))] at h
  refine kR_mono (fun blk hb=>?_) h
  unfold kAdd at hb ⊢
  rw [put_add,put_comm hd,put_nx] at hb
  exact ⟨hb,kept_add hw⟩
 | alloc t =>
  unfold estep at h ⊢
  dsimp only at h ⊢
  refine kR_mono (fun blk hb=>?_) h
  unfold kAdd at hb ⊢
  rw [put_add,put_comm hd,put_nx] at hb
  exact ⟨hb,kept_add hw⟩
 | buildSlice t n parts =>
  unfold estep at h ⊢
  dsimp only at h ⊢
  rw [partsE_same parts.toList (fun p hp=>ev_put fun t ht e=>ho t ht (by rw [← e];simp only [Op.operands,List.toList_toArray];exact List.mem_map.2 ⟨p,hp,rfl⟩))] at h
  refine kR_mono (fun blk hb=>?_) h
  unfold kAdd at hb ⊢
  rw [put_add,put_comm hd,put_nx] at hb
  exact ⟨hb,kept_add hw⟩
 | store t p y=>cases hh
 | insert _ _ _ _=>cases hh
 | makeMap _ _=>cases hh
 | makeSlice _ _ _=>cases hh
 | mapUpdate _ _ _ _=>cases hh
 | call c =>
  unfold estep ecall at h ⊢
  dsimp only at h ⊢
  obtain ⟨callee,args,tys⟩:=c
  cases callee with
  | builtin b =>
   cases b with
   | append=>cases hh
   | _=>exact hp _ ho h
  | invoke r m=>exact hp _ ho h
  | value g =>
   cases g with
   | func f =>
    have hio:P.ioF f=false:=hh
    dsimp only at h ⊢
    rw [hio] at h ⊢
    exact hp _ ho h
   | _=>exact hp _ ho h
 | _=>exact hp _ ho h
theorem guardS_same {ops:List Oper} {σ : St} {d:Option Tmp} {x:V} {j:Nat} {want:Bool} (h:∀ t,d=some t→slotOf ops j≠some t):guardS ops (σ.put d x) j want=guardS ops σ j want:=by
 unfold guardS
 split
 ·rename_i t ht
  cases d with
  | none=>rfl
  | some u =>
   have:u≠t:=fun e=>h u rfl (by rw [e];exact ht)
   simp [St.put,List.getD_eq_getElem?_getD,List.getElem?_set_ne this]
 ·rfl
theorem gstep_comm {P:Program} {ops:List Oper} {σ : St} {d dj:Option Tmp} {x:V} {op:Op} {g:Option (Nat×Bool)} {K:St→Prop} (ho:∀ t,d=some t → .tmp t ∉ op.operands.toList) (hg:∀ t j w,d=some t→g=some (j,w)→slotOf ops j≠some t)
  (hd:∀ t,d=some t→dj≠some t) (hh:heavy P op=false) (hw:WFh σ) (h:ostep P ops (σ.put d x) dj op g K):ostep P ops σ dj op g (fun σ'=>K (σ'.put d x)∧Kept σ σ' dj):=by
 unfold ostep at h ⊢
 split
 ·exact estep_comm ho hd hh hw h
 ·rename_i j want
  dsimp only at h
  rw [guardS_same (fun t ht=>hg t j want ht rfl)] at h
  unfold gstep at h ⊢
  split
  ·rename_i g' hg'
   rw [hg'] at h
   dsimp only at h
   split
   ·rename_i hm
    rw [if_pos hm] at h
    obtain ⟨y,hk,hst⟩:=pstep_stable h
    refine hst σ (fun z hz=>(evsame_put ho z hz).symm) (fun z hz q b _ hq=>by rw [put_h] at hq;exact hq) _ ?_
    unfold kCond at hk ⊢
    rw [put_comm hd] at hk
    exact ⟨hk,kept_put hw⟩
   ·rename_i hm
    rw [if_neg hm] at h
    refine ⟨fun hgt=>estep_comm ho hd hh hw (h.1 hgt),fun hgf=>?_⟩
    have:=h.2 hgf
    rw [put_comm hd] at this
    exact ⟨this,kept_put hw⟩
  ·rename_i hg'
   rw [hg'] at h
   exact h.elim
theorem ostep_stable {P:Program} {ops:List Oper} {σ : St} {d:Option Tmp} {op:Op} {g:Option (Nat×Bool)} {K:St→Prop} (hm:merges P op=true) (h:ostep P ops σ d op g K) :
  ∃ y,K (σ.put d y) ∧ ∀ σ',EvSame σ σ' op.operands.toList→(∀ y∈op.operands.toList,HeapOn (σ.ev y).ment σ.h σ'.h)→(∀ j w,g=some (j,w) → ∀ t,slotOf ops j=some t → σ'.ev (.tmp t) = σ.ev (.tmp t)) → ∀ K':St→Prop,K' (σ'.put d y)→ostep P ops σ' d op g K':=by
 unfold ostep at h
 split at h
 ·have h1:pstep P true σ op (kPut K σ d):=by
   cases op with
   | box _ _=>cases hm
   | alloc _=>cases hm
   | store _ _ _=>cases hm
   | insert _ _ _ _=>cases hm
   | makeMap _ _=>cases hm
   | makeSlice _ _ _=>cases hm
   | mapUpdate _ _ _ _=>cases hm
   | buildSlice _ _ _=>cases hm
   | call c =>
    unfold estep ecall at h
    dsimp only at h
    obtain ⟨callee,args,tys⟩:=c
    cases callee with
    | builtin b =>
     cases b with
     | append=>cases hm
     | _=>exact h
    | invoke r m=>exact h
    | value g =>
     cases g with
     | func f =>
      have hio:P.ioF f=false:=by simpa [merges] using hm
      dsimp only at h
      rw [hio] at h
      exact h
     | _=>exact h
   | _=>exact h
  obtain ⟨y,hk,hst⟩:=pstep_stable h1
  refine ⟨y,hk,fun σ' he hh _ K' hk'=>?_⟩
  have h2:=hst σ' he hh (kPut K' σ' d) hk'
  unfold ostep
  cases op with
  | box _ _=>cases hm
  | alloc _=>cases hm
  | store _ _ _=>cases hm
  | insert _ _ _ _=>cases hm
  | makeMap _ _=>cases hm
  | makeSlice _ _ _=>cases hm
  | mapUpdate _ _ _ _=>cases hm
  | buildSlice _ _ _=>cases hm
  | call c =>
   dsimp only
   unfold estep ecall
   dsimp only
   obtain ⟨callee,args,tys⟩:=c
   cases callee with
   | builtin b =>
    cases b with
    | append=>cases hm
    | _=>exact h2
   | invoke r m=>exact h2
   | value g =>
    cases g with
    | func f =>
     have hio:P.ioF f=false:=by simpa [merges] using hm
     dsimp only
     rw [hio]
     exact h2
    | _=>exact h2
  | _=>exact h2
 ·rename_i j want
  unfold gstep at h
  split at h
  ·rename_i g' hg'
   rw [if_pos hm] at h
   obtain ⟨y,hk,hst⟩:=pstep_stable h
   refine ⟨condJ g' y,hk,fun σ' he hh hs K' hk'=>?_⟩
   unfold ostep
   dsimp only
   have:guardS ops σ' j want=some g':=by
    rw [← hg']
    unfold guardS
    split
    ·rename_i t ht
     have:=hs j want rfl t ht
     simp only [St.ev] at this
     rw [this]
    ·rfl
   rw [this]
   unfold gstep
   dsimp only
   rw [if_pos hm]
   exact hst σ' he hh (kCond K' σ' d g') hk'
  ·exact h.elim
open Go.RowKit
theorem pstep_mono {P:Program} {G:Bool} {σ : St} {op:Op} {K K':V→Prop} (hk:∀ v,K v→K' v) (h:pstep P G σ op K):pstep P G σ op K':=by
 obtain ⟨x,h1,h2⟩:=pstep_stable h
 exact h2 σ (fun _ _=>rfl) (fun _ _ _ _ _ h=>h) K' (hk x h1)
theorem estep_mono {P:Program} {σ : St} {d:Option Tmp} {op:Op} {K K':St→Prop} (hk:∀ σ,K σ → K' σ) (h:estep P σ d op K):estep P σ d op K':=by
 have hp:∀ op,pstep P true σ op (kPut K σ d)→pstep P true σ op (kPut K' σ d):=fun op h=>pstep_mono (fun v hv=>hk _ hv) h
 cases op with
 | box t y=>unfold estep at h ⊢; exact kR_mono (fun v hv=>hk _ hv) h
 | alloc t=>unfold estep at h ⊢; exact kR_mono (fun v hv=>hk _ hv) h
 | buildSlice t n parts=>unfold estep at h ⊢; exact kR_mono (fun v hv=>hk _ hv) h
 | store t p y=>unfold estep at h ⊢; exact ⟨h.1,kR_mono (fun v hv=>hk _ hv) h.2⟩
 | makeMap t r =>
  cases r with
  | none=>unfold estep at h ⊢; exact hk _ h
  | some r=>unfold estep at h ⊢; exact hp _ h
 | makeSlice t l c=>unfold estep at h ⊢; exact kR_mono (fun v hv=>hk _ hv) h
 | mapUpdate t m k x=>unfold estep at h ⊢; exact ⟨h.1,kR_mono (fun v hv=>hk _ hv) h.2⟩
 | insert t m k x=>unfold estep at h ⊢; exact ⟨h.1,kR_mono (fun v hv=>hk _ hv) h.2⟩
 | call c =>
  unfold estep ecall at h ⊢
  dsimp only at h ⊢
  obtain ⟨callee,args,tys⟩:=c
  cases callee with
  | builtin b =>
   cases b with
   | append=>exact kR_mono (fun v hv=>hk _ hv) h
   | _=>exact hp _ h
  | invoke r m=>exact hp _ h
  | value g =>
   cases g with
   | func f =>
    dsimp only at h ⊢
    unfold callE at h ⊢
    cases hio:P.ioF f with
    | true =>
     rw [hio] at h
     obtain ⟨ys,h1,h2⟩:=useVs_det h
     exact h2 _ (ICall.mono hk h1)
    | false =>
     rw [hio] at h
     exact hp _ h
   | _=>exact hp _ h
 | _=>unfold estep at h ⊢; exact hp _ h
theorem ostep_mono {P:Program} {ops:List Oper} {σ : St} {d:Option Tmp} {op:Op} {g:Option (Nat×Bool)} {K K':St→Prop} (hk:∀ σ,K σ → K' σ) (h:ostep P ops σ d op g K):ostep P ops σ d op g K':=by
 unfold ostep gstep at h ⊢
 split
 ·exact estep_mono hk h
 ·dsimp only at h
  split
  ·rename_i hg
   rw [hg] at h
   dsimp only at h
   split
   ·rename_i hm;rw [if_pos hm] at h;exact pstep_mono (fun v hv=>hk _ hv) h
   ·rename_i hm;rw [if_neg hm] at h;exact ⟨fun hg=>estep_mono hk (h.1 hg),fun hg=>hk _ (h.2 hg)⟩
  ·rename_i hg;rw [hg] at h;exact h.elim
def dAny (P:Program) (ops:Array Oper) (K:St→Prop):Nat→Array Bool→St→Prop
 | 0,listed, σ => Region.ready .any ops listed = []∧K σ
 | f+1,listed, σ => (Region.ready .any ops listed = []→K σ) ∧ ∀ i∈Region.ready .any ops listed, ∃ o,ops[i]? = some o∧ostep P ops.toList σ o.dst o.op o.guard (dAny P ops K f (listed.setIfInBounds i true))
theorem ostep_ok {P:Program} {ops:List Oper} {Q:Exit→Act→World→Prop} {σ : St} {o:Oper} {K:St→Prop} (h:ostep P ops σ o.dst o.op o.guard K) {E:Env} {a:Act} {w:World} (hr:RelF E σ a w) {next:Act→World→Prop}
  (hn:∀ a' w' E' σ',RelF E' σ' a' w'→Ext E w E' w'→K σ'→next a' w'):if Region.wanted o (yielded ops.toArray a.tmps)=true then o.wpIn (Wd E.ro) 0 P a w next Q else (∀ f,o.about P w a.eval=some f→(Wd E.ro).fn f)∧next (a.put o.dst undef) w:=by
 unfold ostep at h
 split at h
 ·rename_i hg
  have hw:Region.wanted o (yielded ops.toArray a.tmps)=true:=by simp [Region.wanted,hg]
  rw [if_pos hw]
  exact opi_estep h E a w hr _ _ fun a' w' E' σ' h1 h2 h3=>hn a' w' E' σ' h1 h2 h3
 ·rename_i j want hg
  unfold gstep at h
  split at h
  ·rename_i g hgs
   have hw:=guard_ok hr hg hgs
   rw [hw]
   split at h
   ·obtain ⟨x,hK,hy⟩:=pstep_ok h
    cases g with
    | true =>
     rw [if_pos rfl]
     exact wpIn_of_wp (.inr (pstep_calm h)) (hy rfl E a w hr _ _ fun v w' E' h1 h2 h3 _=>hn _ w' E' _ (h1.put o.dst (rdV_condJ (by rw [RdV];exact ⟨fun _=>h3,fun h=>by cases h⟩))) h2 hK)
    | false =>
     rw [if_neg (by simp)]
     exact ⟨fun _ _=>trivial,hn _ w E _ (hr.put o.dst (rdV_condJ (by rw [RdV];exact ⟨fun h=>(by cases h),fun _=>rfl⟩))) (Ext.refl _ _) hK⟩
   ·cases g with
    | true =>
     rw [if_pos rfl]
     exact opi_estep (h.1 rfl) E a w hr _ _ fun a' w' E' σ' h1 h2 h3=>hn a' w' E' σ' h1 h2 h3
    | false =>
     rw [if_neg (by simp)]
     exact ⟨fun _ _=>trivial,hn _ w E _ (hr.put o.dst (by simp only [RdV])) (Ext.refl _ _) (h.2 rfl)⟩
  ·exact h.elim
theorem dAny_ok {P:Program} {ops:Array Oper} {Q:Exit→St→Prop}:∀ (f:Nat) (listed:Array Bool) (σ : St),dAny P ops (Q .normal) f listed σ → ∀ E a w,RelF E σ a w → ∀ E0 w0,Ext E0 w0 E w→wpAnyIn (Wd E.ro) 0 P .any ops (LiftQ E0 w0 Q) f listed a w
 | 0,listed, σ,h,E,a,w,hr,E0,w0,hE=>⟨h.1, σ,E,hr,hE,h.2⟩
 | f+1,listed, σ,h,E,a,w,hr,E0,w0,hE=>by
  refine ⟨fun h0=>⟨σ,E,hr,hE,h.1 h0⟩,fun i hi=>?_⟩
  obtain ⟨o,ho,hs⟩:=h.2 i hi
  unfold wpOpIn
  rw [ho]
  dsimp only
  have:=ostep_ok (Q:=LiftQ E0 w0 Q) (next:=wpAnyIn (Wd E.ro) 0 P .any ops (LiftQ E0 w0 Q) f (listed.setIfInBounds i true)) hs hr (fun a' w' E' σ' h1 h2 h3=>by
   have:=dAny_ok f _ σ' h3 E' a' w' h1 E0 w0 (hE.trans h2)
   rwa [h2.ro] at this)
  simpa using this
theorem looksAt_op {ops:Array Oper} {o:Oper} {d:Tmp} (h:d ∉ o.looksAt ops) : .tmp d ∉ o.op.operands.toList:=by
 intro hm
 apply h
 unfold Oper.looksAt
 exact List.mem_append.2 (.inl (List.mem_filterMap.2 ⟨.tmp d,hm,rfl⟩))
theorem looksAt_guard {ops:Array Oper} {o:Oper} {d:Tmp} (h:d ∉ o.looksAt ops) {j:Nat} {w:Bool} (hg:o.guard=some (j,w)):slotOf ops.toList j≠some d:=by
 intro hs
 apply h
 unfold Oper.looksAt
 refine List.mem_append.2 (.inr ?_)
 rw [hg]
 dsimp only
 unfold slotOf at hs
 have e1:ops.toList[j]? = ops[j]? := by simp
 rw [e1] at hs
 split at hs
 ·rename_i o' ho'
  rw [ho']
  simp [hs]
 ·cases hs
theorem dAny_first {P:Program} {ops:Array Oper} {K:St→Prop} {i:Nat} {oi:Oper} {y:V} (hi:ops[i]? = some oi)
  (hhv:∀ (j:Nat) oj,ops[j]? = some oj→heavy P oj.op=true→mustB .any ops 16 j i=true) :
  ∀ (fuel:Nat) (listed:Array Bool) (σ : St),HeadInv .any ops ops.size listed →
   (∀ j oj,ops[j]? = some oj→j≠i→listed.getD j true=false→(∀ e∈oj.after,Region.binds .any e=true→e.on≠i)→oi.apart ops oj=true) →
   i∈Region.ready .any ops listed→WFh σ →
   (∀ σ',EvSame σ σ' oi.op.operands.toList→HeapExt σ.h σ'.h→(∀ j w,oi.guard=some (j,w) → ∀ t,slotOf ops.toList j=some t → σ'.ev (.tmp t) = σ.ev (.tmp t)) → ∀ K':St→Prop,K' (σ'.put oi.dst y)→ostep P ops.toList σ' oi.dst oi.op oi.guard K') →
   dAny P ops K fuel (listed.setIfInBounds i true) (σ.put oi.dst y)→dAny P ops K (fuel+1) listed σ := by
 intro fuel
 induction fuel with
 | zero =>
  intro listed σ inv hfree hr hw hst H
  refine ⟨fun h=>(by rw [h] at hr;cases hr),fun j hj=>?_⟩
  by_cases hji:j=i
  ·subst hji
   exact ⟨oi,hi,hst σ (fun _ _=>rfl) (fun _ _ h=>h) (fun _ _ _ _ _=>rfl) _ H⟩
  ·have:=ready_mono hj hji
   rw [H.1] at this
   cases this
 | succ fuel ih =>
  intro listed σ inv hfree hr hw hst H
  refine ⟨fun h=>(by rw [h] at hr;cases hr),fun j hj=>?_⟩
  by_cases hji:j=i
  ·subst hji
   exact ⟨oi,hi,hst σ (fun _ _=>rfl) (fun _ _ h=>h) (fun _ _ _ _ _=>rfl) _ H⟩
  ·obtain ⟨oj,hoj,hs⟩:=H.2 j (ready_mono hj hji)
   refine ⟨oj,hoj,?_⟩
   obtain ⟨hjun,oj',hoj',hall⟩:=mem_ready.1 hj
   rw [hoj] at hoj'
   injection hoj' with hoj'
   subst hoj'
   have hiu:=(mem_ready.1 hr).1
   have hil:listed.getD i false=false:=getD_both hiu
   have hnot:∀ e∈oj.after,Region.binds .any e=true→e.on≠i:=fun e he hb heq=>by
    have h1:=hall e he hb
    rw [heq,hil] at h1
    cases h1
   have hap:=hfree j oj hoj hji hjun hnot
   obtain ⟨p1,p2,p3⟩:=Oper.apart_spec hap
   have hnh:heavy P oj.op=false:=by
    cases hh:heavy P oj.op with
    | false=>rfl
    | true =>
     have:=mustB_listed inv 16 j (hhv j oj hoj hh) (fun ok hk e he hb=>by
      rw [hoj] at hk
      injection hk with hk
      subst hk
      exact hall e he hb)
     rw [hil] at this
     cases this
   have hjs:j<ops.size:=(Array.getElem?_eq_some_iff.1 hoj).1
   have inv':=inv.set hj hjs
   have hr':=ready_mono hr (Ne.symm hji)
   have hc:=gstep_comm (fun t ht=>looksAt_op (p1 t ht)) (fun t j' w' ht hg=>looksAt_guard (p1 t ht) hg) (fun t ht=>p2 t ht) hnh hw hs
   refine ostep_mono (fun σ' hk=>?_) hc
   obtain ⟨hk1,hk2,hk3,hk4⟩:=hk
   refine ih (listed.setIfInBounds j true) σ' inv' ?_ hr' hk3 ?_ ?_
   ·intro k ok hk hki hun hno
    refine hfree k ok hk hki ?_ hno
    by_cases hjk:j=k
    ·subst hjk;exact hjun
    ·rw [getD_set_ne true hjk] at hun;exact hun
   ·intro σ'' he hh hg K' hK'
    refine hst σ'' (fun z hz=>?_) (fun q b hq=>hh q b (hk2 q b hq)) (fun j' w' hgd t ht=>?_) K' hK'
    ·rw [he z hz]
     exact hk4 z fun t ht e=>looksAt_op (p3 t ht) (e ▸ hz)
    ·rw [hg j' w' hgd t ht]
     refine hk4 _ fun t' ht' e=>?_
     injection e with e
     subst e
     exact looksAt_guard (p3 _ ht') hgd ht
   ·rw [Array.setIfInBounds_comm _ _ hji]
    exact hk1
def planB (P:Program) (ops:Array Oper):List Nat→Array Bool→Bool
 | [],_=>true
 | i::r,listed=>(Region.ready .any ops listed).contains i&&Region.free .any ops listed i&&(ops[i]?).any (merges P ·.op) &&
   ((List.range ops.size).all fun j => !(ops[j]?).any (heavy P ·.op)||mustB .any ops 16 j i)&&planB P ops r (listed.setIfInBounds i true)
def listedP:List Nat→Array Bool→Array Bool
 | [],listed=>listed
 | i::r,listed=>listedP r (listed.setIfInBounds i true)
inductive OT where
 | done
 | step (i:Nat) (t:OT)
 | alt (a b:OT)
def OT.heads:OT→List Nat
 | .done=>[]
 | .step i _=>[i]
 | .alt a b=>a.heads++b.heads
def treeB (ops:Array Oper):Nat→Array Bool→OT→Bool→Bool
 | 0,listed,t,_=>t.heads == []&&Region.ready .any ops listed == []
 | f+1,listed, .done,top => !top||Region.ready .any ops listed == []
 | f+1,listed, .step i t,top=>(!top||Region.ready .any ops listed == [i])&&(ops[i]?).isSome&&treeB ops f (listed.setIfInBounds i true) t true
 | f+1,listed, .alt a b,top=>(!top||Region.ready .any ops listed==(OT.alt a b).heads)&&treeB ops (f+1) listed a false&&treeB ops (f+1) listed b false
def psteps (P:Program) (l:List Oper) (K:St→Prop):List Nat→St→Prop
 | [], σ => K σ
 | i::r, σ => pstepsO P l (l[i]?) σ (psteps P l K r)
where
 pstepsO (P:Program) (l:List Oper) (o:Option Oper) (σ : St) (K:St→Prop):Prop :=
  match o with
  | some o=>ostep P l σ o.dst o.op o.guard K
  | none=>False
def tsteps (P:Program) (l:List Oper) (K:St→Prop):OT→St→Prop
 | .done, σ => K σ
 | .step i t, σ => psteps.pstepsO P l (l[i]?) σ (tsteps P l K t)
 | .alt a b, σ => tsteps P l K a σ ∧ tsteps P l K b σ
theorem tree_ok {P:Program} {l:List Oper} {K:St→Prop}:∀ (f:Nat) (t:OT) (listed:Array Bool) (σ : St) (top:Bool),treeB l.toArray f listed t top=true→tsteps P l K t σ →
  (∀ i∈t.heads, ∃ f',f=f'+1 ∧ ∃ o,l.toArray[i]? = some o∧ostep P l σ o.dst o.op o.guard (dAny P l.toArray K f' (listed.setIfInBounds i true)))∧(top=true→dAny P l.toArray K f listed σ)
 | 0,t,listed, σ,top,hB,h=>by
  unfold treeB at hB
  simp only [Bool.and_eq_true,beq_iff_eq] at hB
  refine ⟨fun i hi=>(by rw [hB.1] at hi;cases hi),fun _=>⟨hB.2,?_⟩⟩
  have:∀ (t:OT),t.heads = []→tsteps P l K t σ → K σ := by
   intro t
   induction t with
   | done=>exact fun _ h=>h
   | step i t _=>intro h;simp [OT.heads] at h
   | alt a b iha ihb =>
    intro hh h
    simp only [OT.heads,List.append_eq_nil_iff] at hh
    exact iha hh.1 h.1
  exact this t hB.1 h
 | f+1, .done,listed, σ,top,hB,h=>by
  refine ⟨fun i hi=>(by cases hi),fun ht=>⟨fun _=>h,fun i hi=>?_⟩⟩
  unfold treeB at hB
  rw [ht] at hB
  simp only [Bool.not_true,Bool.false_or,beq_iff_eq] at hB
  rw [hB] at hi
  cases hi
 | f+1, .step i t,listed, σ,top,hB,h=>by
  unfold treeB at hB
  simp only [Bool.and_eq_true] at hB
  obtain ⟨⟨h1,h2⟩,h3⟩:=hB
  obtain ⟨o,ho⟩:=Option.isSome_iff_exists.1 h2
  have hstep:ostep P l σ o.dst o.op o.guard (dAny P l.toArray K f (listed.setIfInBounds i true)):=by
   have ho':l[i]? = some o:=by simpa using ho
   simp only [tsteps,ho',psteps.pstepsO] at h
   exact ostep_mono (fun σ' hk=>(tree_ok f t _ σ' true h3 hk).2 rfl) h
  refine ⟨fun j hj=>?_,fun ht=>⟨fun h0=>?_,fun j hj=>?_⟩⟩
  ·simp only [OT.heads,List.mem_singleton] at hj
   subst hj
   exact ⟨f,rfl,o,ho,hstep⟩
  ·rw [ht] at h1
   simp only [Bool.not_true,Bool.false_or,beq_iff_eq] at h1
   rw [h1] at h0
   cases h0
  ·rw [ht] at h1
   simp only [Bool.not_true,Bool.false_or,beq_iff_eq] at h1
   rw [h1] at hj
   simp only [List.mem_singleton] at hj
   subst hj
   exact ⟨o,ho,by simpa using hstep⟩
 | f+1, .alt a b,listed, σ,top,hB,h=>by
  unfold treeB at hB
  simp only [Bool.and_eq_true] at hB
  obtain ⟨⟨h1,h2⟩,h3⟩:=hB
  have ha:=(tree_ok (f+1) a listed σ false h2 h.1).1
  have hb:=(tree_ok (f+1) b listed σ false h3 h.2).1
  have hall:∀ i∈(OT.alt a b).heads, ∃ f',f+1=f'+1 ∧ ∃ o,l.toArray[i]? = some o∧ostep P l σ o.dst o.op o.guard (dAny P l.toArray K f' (listed.setIfInBounds i true)):=by
   intro i hi
   simp only [OT.heads,List.mem_append] at hi
   exact hi.elim (ha i) (hb i)
  refine ⟨hall,fun ht=>?_⟩
  rw [ht] at h1
  simp only [Bool.not_true,Bool.false_or,beq_iff_eq] at h1
  refine ⟨fun h0=>?_,fun i hi=>?_⟩
  ·rw [h1] at h0
   have hk:∀ (t:OT),t.heads = []→tsteps P l K t σ → K σ := by
    intro t
    induction t with
    | done=>exact fun _ h=>h
    | step i t _=>intro h;simp [OT.heads] at h
    | alt a b iha ihb =>
     intro hh h
     simp only [OT.heads,List.append_eq_nil_iff] at hh
     exact iha hh.1 h.1
   exact hk (.alt a b) h0 h
  ·rw [h1] at hi
   obtain ⟨f',hf,o,ho,hs⟩:=hall i hi
   have:f'=f:=by omega
   subst this
   exact ⟨o,ho,by simpa using hs⟩
theorem plan_ok {P:Program} {l:List Oper} {K:St→Prop} {f:Nat}:∀ (plan:List Nat) (listed:Array Bool) (σ : St),planB P l.toArray plan listed=true→HeadInv .any l.toArray l.toArray.size listed→WFh σ →
  psteps P l (fun σ'=>WFh σ'→dAny P l.toArray K f (listedP plan listed) σ') plan σ → dAny P l.toArray K (f+plan.length) listed σ
 | [],listed, σ,_,_,hw,h=>h hw
 | i::r,listed, σ,hB,inv,hw,h=>by
  unfold planB at hB
  simp only [Bool.and_eq_true] at hB
  obtain ⟨⟨⟨⟨b1,b2⟩,b3⟩,b4⟩,b5⟩:=hB
  have hr:i∈Region.ready .any l.toArray listed:=by simpa using b1
  obtain ⟨oi,ho,hm⟩:∃ oi,l.toArray[i]? = some oi∧merges P oi.op=true:=by
   cases hq:l.toArray[i]? with
   | none=>rw [hq] at b3;cases b3
   | some oi=>rw [hq] at b3;exact ⟨oi,rfl,by simpa using b3⟩
  have ho':l[i]? = some oi:=by simpa using ho
  simp only [psteps,ho',psteps.pstepsO] at h
  obtain ⟨y,hk,hst0⟩:=ostep_stable hm h
  have hst:∀ σ',EvSame σ σ' oi.op.operands.toList→HeapExt σ.h σ'.h→(∀ j w,oi.guard=some (j,w) → ∀ t,slotOf l j=some t → σ'.ev (.tmp t) = σ.ev (.tmp t)) → ∀ K':St→Prop,K' (σ'.put oi.dst y)→ostep P l σ' oi.dst oi.op oi.guard K' :=
   fun σ' he hh hg K' hk'=>hst0 σ' he (fun y _ q b _ hq=>hh q b hq) hg K' hk'
  have his:i<l.toArray.size:=(Array.getElem?_eq_some_iff.1 ho).1
  refine dAny_first (y:=y) ho (fun j oj hoj hh=>?_) (f+r.length) listed σ inv (Region.free_spec ho b2) hr hw hst ?_
  ·have hj:=(List.all_eq_true.1 b4) j (List.mem_range.2 (Array.getElem?_eq_some_iff.1 hoj).1)
   simp only [hoj,Option.any_some,hh,Bool.not_true,Bool.false_or] at hj
   exact hj
  ·exact plan_ok r _ _ b5 (inv.set hr his) (kept_put hw).2.1 hk
theorem drawR_of {P:Program} {n0:Nat} {id:Nat} {l:List Oper} {Q:Exit→St→Prop} {σ : St} (plan:List Nat) (t:OT) (hm:P.follows .mixedOrders=true) (hP:planB P l.toArray plan (Array.replicate l.length false)=true)
  (hT:treeB l.toArray (l.length - plan.length) (listedP plan (Array.replicate l.length false)) t true=true) (hlen:plan.length≤l.length)
  (h:psteps P l (tsteps P l (Q .normal) t) plan σ):DrawR P n0 id l.toArray Q σ := by
 intro E a w hr E0 w0 hU hE
 refine wpIn_region_any hm ?_
 have hw:WFh σ := fun q hq=>by
  cases hl : σ.h.look q with
  | none=>rfl
  | some blk =>
   obtain ⟨hv,hB,_⟩:=hr.rel.has q blk hl
   have:=hr.bound q (hr.rel.uses hl)
   omega
 have inv:HeadInv .any l.toArray l.toArray.size (Array.replicate l.length false):=by
  have:=headInv_start (ops:=l.toArray) (md := .any)
  simpa using this
 have pmono:∀ (plan:List Nat) (K K':St→Prop) (σ : St),(∀ σ,K σ → K' σ)→psteps P l K plan σ → psteps P l K' plan σ := by
  intro plan
  induction plan with
  | nil=>exact fun K K' σ hk h=>hk σ h
  | cons i r ih =>
   intro K K' σ hk h
   simp only [psteps] at h ⊢
   unfold psteps.pstepsO at h ⊢
   split
   ·rename_i o ho
    rw [ho] at h
    exact ostep_mono (fun σ' h'=>ih K K' σ' hk h') h
   ·rename_i ho
    rw [ho] at h
    exact h
 have hd:=plan_ok (f:=l.length - plan.length) (K:=Q .normal) plan (Array.replicate l.length false) σ hP inv hw (pmono plan _ _ σ (fun σ' h' _=>(tree_ok _ t _ σ' true hT h').2 rfl) h)
 rw [Nat.sub_add_cancel hlen] at hd
 have hdr:RelF E σ a { w with drawn:=w.drawn+1 }∧Ext E0 w0 E { w with drawn:=w.drawn+1 }:=by
  have hb:Below w.heap.size w { w with drawn:=w.drawn+1 }:=⟨rfl,rfl,rfl,Nat.le_refl _,fun _ _=>rfl⟩
  obtain ⟨k1,k2⟩:=hr.later hb (fun _ h=>h) (fun b hb => .inl hb) (fun b hb'=>hr.rel.slt b hb')
  exact ⟨k1,hE.trans k2⟩
 have:=dAny_ok _ _ σ hd E a _ hdr.1 E0 w0 hdr.2
 simpa using this
@[go_sem] theorem psteps_nil {P:Program} {l:List Oper} {K:St→Prop} {σ : St}:psteps P l K [] σ = K σ := rfl
@[go_sem] theorem psteps_cons {P:Program} {l:List Oper} {K:St→Prop} {σ : St} {i:Nat} {r:List Nat}:psteps P l K (i::r) σ = psteps.pstepsO P l (l[i]?) σ (psteps P l K r):=rfl
@[go_sem] theorem psteps_some {P:Program} {l:List Oper} {K:St→Prop} {σ : St} {o:Oper}:psteps.pstepsO P l (some o) σ K=ostep P l σ o.dst o.op o.guard K:=rfl
@[go_sem] theorem tsteps_done {P:Program} {l:List Oper} {K:St→Prop} {σ : St}:tsteps P l K .done σ = K σ := rfl
@[go_sem] theorem tsteps_step {P:Program} {l:List Oper} {K:St→Prop} {σ : St} {i:Nat} {t:OT}:tsteps P l K (.step i t) σ = psteps.pstepsO P l (l[i]?) σ (tsteps P l K t):=rfl
@[go_sem] theorem tsteps_alt {P:Program} {l:List Oper} {K:St→Prop} {σ : St} {a b:OT}:tsteps P l K (.alt a b) σ = (tsteps P l K a σ ∧ tsteps P l K b σ):=rfl
open Go.RowKit
mutual
def factsT:T→Prop
 | .lit v=>FitV v
 | .list _ _ xs=>xs.length≤maxLen∧factsTss xs
 | .map _=>True
 | .opq=>True
def factsTs:List T→Prop
 | []=>True
 | x::xs=>factsT x∧factsTs xs
def factsTss:List (List T)→Prop
 | []=>True
 | e::es=>factsTs e∧factsTss es
end
mutual
def factsV:V→Prop
 | .t x=>factsT x
 | .agg cs=>factsVs cs
 | .tup cs=>factsVs cs
 | _=>True
def factsVs:List V→Prop
 | []=>True
 | x::xs=>factsV x∧factsVs xs
end
theorem factsTs_of:∀ (e:List T),(∀ (j:Nat) x,e[j]? = some x→factsT x)→factsTs e
 | [],_=>by simp only [factsTs]
 | x::r,h=>by simp only [factsTs];exact ⟨h 0 x rfl,factsTs_of r fun j y hy=>h (j+1) y (by simpa using hy)⟩
theorem factsTss_of:∀ (es:List (List T)),(∀ (i:Nat) e,es[i]? = some e→factsTs e)→factsTss es
 | [],_=>by simp only [factsTss]
 | x::r,h=>by simp only [factsTss];exact ⟨h 0 x rfl,factsTss_of r fun j y hy=>h (j+1) y (by simpa using hy)⟩
theorem RdT.facts {w:World} {S:Nat→Prop} {x:T} {v:Value} (h:RdT w S x v):factsT x:=by
 induction h with
 | lit v h1 hf=>simp only [factsT];exact hf
 | list k d xs A c hm hc hn hk ha hr ih =>
  simp only [factsT]
  refine ⟨hm,factsTss_of xs fun i e hi=>factsTs_of e fun j x hx=>?_⟩
  obtain ⟨b,off,hA,_,hj⟩:=ha i e hi
  obtain ⟨u,hu⟩:=hj j x hx
  exact ih i e j x b off u hi hx hA hu
 | map=>simp only [factsT]
 | opq=>simp only [factsT]
mutual
theorem RdV.facts {w:World} {E:Env}:∀ (x:V) {v:Value},RdV w E x v→factsV x
 | .t x,v,h=>by simp only [RdV] at h;simp only [factsV];exact h.facts
 | .agg cs,v,h=>by simp only [RdV] at h;obtain ⟨vs,_,h1,_⟩:=h;simp only [factsV];exact RdVs.facts cs h1
 | .tup cs,v,h=>by simp only [RdV] at h;obtain ⟨vs,_,h1⟩:=h;simp only [factsV];exact RdVs.facts cs h1
 | .own _,_,_=>by simp only [factsV]
 | .ptr ..,_,_=>by simp only [factsV]
 | .rptr ..,_,_=>by simp only [factsV]
 | .rsl ..,_,_=>by simp only [factsV]
 | .elem ..,_,_=>by simp only [factsV]
 | .cond ..,_,_=>by simp only [factsV]
 | .clo ..,_,_=>by simp only [factsV]
 | .dead,_,_=>by simp only [factsV]
theorem RdVs.facts {w:World} {E:Env}:∀ (xs:List V) {vs:List Value},RdVs w E xs vs→factsVs xs
 | [],[],_=>by simp only [factsVs]
 | x::xs,v::vs,h=>by simp only [RdVs] at h;simp only [factsVs];exact ⟨RdV.facts x h.1,RdVs.facts xs h.2⟩
 | [],_::_,h=>by simp only [RdVs] at h
 | _::_,[],h=>by simp only [RdVs] at h
end
theorem awp_facts {P:Program} {n0:Nat} {c:Code} {Q:Exit→St→Prop} {σ : St} (h:factsVs σ.fr→AWP P n0 c Q σ):AWP P n0 c Q σ := by
 intro E a w hr E0 w0 hU hE
 exact h (RdVs.facts _ hr.fr) E a w hr E0 w0 hU hE
attribute [go_sem] factsVs factsV
open Go.RowKit
theorem icall_of {P:Program} {σ : St} {d:Option Tmp} {f:FuncId} {fn:Func} {c:Code} {xs:List V} {n:Nat} {rs:List ResultVar} {K:St→Prop} (he:P.enters f=true) (hf:P.funcs[f]? = some fn) (hb:fn.body=some c) (hn:fn.ntmps=n) (hrs:fn.results.toList=rs)
  (h:AWP P σ.nx c (retI P rs fun x σ'=>K (({ σ with h := σ'.h,nx := σ'.nx }:St).put d x)) (entry P n xs σ.h σ.nx)):ICall P σ d f xs K :=
 icall_intro he (fun E w vs hr hbd hargs=>calls_of_awp hf hb hn hrs h hr hbd hbd hargs fun v x σ' E' w' h1 hbd' h2 h3 hK=>⟨v,x, σ'.h, σ'.nx,E',rfl,h1,hbd',h2,h3,hK⟩)
def CBox (P:Program) (f:FuncId) (cs args:List V) (r:V) (cs':List V):Prop :=
 P.enters f=true ∧ ∀ (w:World) (S:Nat→Prop) (b:Nat) (ty:TypeId) (cells:Array Value) (vs:List Value),(∀ x,S x→x<w.heap.size) → ¬ S b→w.heap[b]? = some (.cells cells ty (0,0))→RdVs w (bareE S) cs cells.toList →
  cells.toList.all (·.oneCell')=true→RdVs w (bareE S) args vs→Calls P f (.pointer (some ⟨b,0,none⟩)::vs).toArray w fun e w' => ∃ v S' ty' cells',e = .returned v∧(∀ x,S x→S' x)∧(∀ x,S' x→S x∨w.heap.size≤x) ∧
   (∀ x,S' x→x<w'.heap.size)∧RdV w' (bareE S') r v∧w'.heap[b]? = some (.cells cells' ty' (0,0))∧RdVs w' (bareE S') cs' cells'.toList∧cells'.toList.all (·.oneCell')=true∧w.grownBy w' (some b) ∧ ¬ S' b
def boxK1 (b:Option Blk) (h:Heap) (cs':List V):Prop :=
 match b with
 | some (.box cs)=>V.lends h cs=cs'∧V.pures cs'=true
 | _=>False
def boxK (r:V) (cs':List V) (x:V) (σ : St):Prop:=x.lend (σ.h.del 0)=r∧r.pure=true∧boxK1 (σ.h.look 0) (σ.h.del 0) cs'
theorem cbox_of {P:Program} {f:FuncId} {fn:Func} {c:Code} {cs args cs':List V} {r:V} {n:Nat} {rs:List ResultVar} (he:P.enters f=true) (hf:P.funcs[f]? = some fn) (hb:fn.body=some c) (hn:fn.ntmps=n) (hrs:fn.results.toList=rs)
  (h:AWP P 1 c (retI P rs (boxK r cs')) (entry P n (.own 0::args) [(0, .box cs)] 1)):CBox P f cs args r cs':=by
 refine ⟨he,fun w S b ty cells vs hS hSb hh hcs hones hargs=>?_⟩
 let E0:Env:=⟨S,fun i=>if i=0 then some (.pointer (some ⟨b,0,none⟩)) else none,fun i=>i=0,fun x=>x<w.heap.size∧x≠b,fun _=>none,none⟩
 have hbl:b<w.heap.size:=(Array.getElem?_eq_some_iff.1 hh).1
 have hrel:Rel w E0 [(0, .box cs)]:=by
  refine ⟨fun i blk hl=>?_,fun i hv hB=>?_,fun i hv hF=>(by cases hF),fun i hv b' hB hbk=>?_,fun i j hi hj b' hBi hBj _ _=>?_,hS,fun x hx=>hx.1⟩
  ·simp only [Heap.look] at hl
   split at hl
   ·rename_i h0
    injection hl with hl
    subst hl
    exact ⟨.pointer (some ⟨b,0,none⟩),by simp [E0,h0,Env.at],b,cells,ty,rfl,hh,RdVs.unbare (E:=E0) cs hcs,hones⟩
   ·cases hl
  ·simp only [E0] at hB
   split at hB
   ·rename_i h0;exact ⟨h0, .box cs,by simp [Heap.look,h0]⟩
   ·cases hB
  ·simp only [E0] at hB
   split at hB
   ·injection hB with hB
    subst hB
    simp only [blockOf,Option.some.injEq] at hbk
    subst hbk
    exact ⟨hbl,hSb,fun hd=>hd.2 rfl⟩
   ·cases hB
  ·simp only [E0] at hBi hBj
   split at hBi
   ·split at hBj
    ·rename_i h1 h2;rw [h1,h2]
    ·cases hBj
   ·cases hBi
 refine calls_of_awp hf hb hn hrs h hrel (fun i hi=>by have:i=0:=hi;omega) (fun i hi=>by have:i=0:=hi;omega) (vs := .pointer (some ⟨b,0,none⟩)::vs) ?_ ?_
 ·simp only [RdVs,RdV]
  exact ⟨⟨rfl,rfl,fun hv hB=>by simp [E0,Env.Is] at hB;exact hB⟩,RdVs.unbare (E:=E0) args hargs⟩
 ·intro v x σ' E' w' h1 hbd' h2 h3 hK
  obtain ⟨k1,k2,k3⟩:=hK
  unfold boxK1 at k3
  split at k3
  ·rename_i cs2 hl
   obtain ⟨k4,k5⟩:=k3
   obtain ⟨b',cells',ty',hB,hh',hcs',hones'⟩:=box_at h1 hl
   have hbb:b'=b:=by
    have:=h2.B 0 rfl _ hB
    simp [E0] at this
    exact this.symm
   subst hbb
   obtain ⟨d1,d2⟩:=h1.drop hbd' 0
   refine ⟨v,lentS (E'.drop 0) (σ'.h.del 0),ty',cells',rfl,fun x hx => .inl (h2.S x hx),fun x hx=>?_,fun x hx=>?_,?_,hh',?_,hones',⟨h2.os,h2.tape,h2.output,h2.size,fun k hk hne=>h2.keep k (.inr ⟨hk,fun e=>hne (by rw [e])⟩)⟩,fun hsb=>?_⟩
   ·rcases hx with hx | ⟨i,hv',_,hB',_,_,hbk⟩
    ·rcases h2.S' x hx with q | q
     ·exact .inl q
     ·by_cases hxb:x=b'
      ·subst hxb;exact ((h1.own 0 _ x hB rfl).2.1 hx).elim
      ·exact .inr (Nat.le_of_not_lt fun hlt=>q ⟨hlt,hxb⟩)
    ·obtain ⟨hne0,hB''⟩:=drop_B hB'
     have q:=(h1.own i hv' x hB'' hbk).2.2
     by_cases hxb:x=b'
     ·subst hxb
      exact (hne0 (h1.apart i 0 hv' _ x hB'' hB hbk rfl)).elim
     ·exact .inr (Nat.le_of_not_lt fun hlt=>q ((h2.D x).2 ⟨hlt,hxb⟩))
   ·rcases hx with hx | ⟨i,hv',_,hB',_,_,hbk⟩
    ·exact h1.slt x hx
    ·exact (h1.own i hv' x (drop_B hB').2 hbk).1
   ·have:=RdV.lend d1 x (by rw [k1];exact k2) (d2.rdV _ h3)
    rw [k1] at this
    exact this
   ·have:=RdVs.lend d1 cs2 (by rw [k4];exact k5) (d2.rdVs _ hcs')
    rw [k4] at this
    exact this
   ·rcases hsb with hx | ⟨i,hv',_,hB',_,_,hbk⟩
    ·exact (h1.own 0 _ b' hB rfl).2.1 hx
    ·obtain ⟨hne0,hB''⟩:=drop_B hB'
     exact hne0 (h1.apart i 0 hv' _ b' hB'' hB hbk rfl)
  ·exact k3.elim
theorem cbox_use {P:Program} {h:Heap} {f:FuncId} {i:Nat} {cs args cs':List V} {r:V} (hc:CBox P f cs args r cs') (hl:h.look i=some (.box cs)) (hp:V.pures cs=true) (ha:V.pures args=true) {E:Env} {w:World} {vs:List Value}
  (hr:Rel w E h) (hargs:RdVs w E (.own i::args) vs):Calls P f vs.toArray w fun e w' => ∃ v E',e = .returned v∧Rel w' E' (h.set i (.box cs'))∧Ext E w E' w'∧RdV w' E' r v ∧ ∀ q,E'.U q→E.U q:=by
 cases vs with
 | nil=>simp only [RdVs] at hargs
 | cons v0 vs =>
  simp only [RdVs,RdV] at hargs
  obtain ⟨⟨_,hUi,hv0⟩,hargs⟩:=hargs
  obtain ⟨b,cells,ty,hB,hh,hcs,hones⟩:=box_at hr hl
  rw [hv0 _ (.inl hB)]
  obtain ⟨ob1,ob2,ob3⟩:=hr.own i _ b hB rfl
  refine (hc.2 w E.S b ty cells vs hr.slt ob2 hh (RdVs.bare cs hp hcs) hones (RdVs.bare args ha hargs)).mono ?_
  rintro e w' ⟨v,S',ty',cells',rfl,s1,s2,s3,hrv,hh',hcs',hones',hg,hSb⟩
  let E':Env := { E with S:=S' }
  have hE:Ext E w E' w':=by
   refine ⟨hg.os,hg.tape,hg.output,hg.size,fun k hk=>hg.block k (hk.elim (hr.slt k) (hr.dlt k)) fun e=>?_,s1,fun k hk=>(s2 k hk).imp id fun hlt hd=>?_,fun _ => .rfl,fun _ h=>h,fun _ _ _ h=>h,fun _ _ _ h=>h,rfl⟩
   ·injection e with e
    subst e
    exact hk.elim ob2 ob3
   ·have:=hr.dlt k hd;omega
  refine ⟨v,E',rfl,⟨fun j blk hlj=>?_,fun j hv hBj=>?_,hr.domF,fun j hv b' hBj hbk=>?_,hr.apart,s3,fun k hk=>Nat.lt_of_lt_of_le (hr.dlt k hk) hg.size⟩,hE,RdV.unbare (E:=E') r hrv,fun _ h=>h⟩
  ·rw [Heap.look_set _ _ _ hl] at hlj
   split at hlj
   ·rename_i hji
    subst hji
    injection hlj with hlj
    subst hlj
    exact ⟨_,hB,b,cells',ty',rfl,hh',RdVs.unbare (E:=E') cs' hcs',hones'⟩
   ·rename_i hji
    obtain ⟨hv,hBj,hrel⟩:=hr.has j blk hlj
    cases hmj:blk.mine with
    | true =>
     have hBj':E.B j=some hv:=by rw [← at_mine hmj];exact hBj
     refine ⟨hv,hBj,hrel.keep hE fun b' hb'=>hg.block b' (hr.own j hv b' hBj' hb').1 fun e=>?_⟩
     injection e with e
     subst e
     exact hji (hr.apart j i hv _ b' hBj' hB hb' rfl)
    | false =>
     cases blk<;>first | exact ⟨hv,hBj,hE.rdT hrel⟩ | simp [Blk.mine] at hmj
  ·obtain ⟨q1,q2⟩:=hr.dom j hv hBj
   refine ⟨q1,?_⟩
   rw [Heap.look_set _ _ _ hl]
   split
   ·exact ⟨_,rfl⟩
   ·exact q2
  ·obtain ⟨o1,o2,o3⟩:=hr.own j hv b' hBj hbk
   refine ⟨Nat.lt_of_lt_of_le o1 hg.size,fun hs=>?_,o3⟩
   rcases s2 b' hs with h | h
   ·exact o2 h
   ·omega
theorem icall_box {P:Program} {σ : St} {d:Option Tmp} {f:FuncId} {i:Nat} {cs args cs':List V} {r:V} {K:St→Prop} (hc:CBox P f cs args r cs') (hl : σ.h.look i=some (.box cs)) (hp:V.pures cs=true) (ha:V.pures args=true)
  (hK:K (({ σ with h := σ.h.set i (.box cs') }:St).put d r)):ICall P σ d f (.own i::args) K :=
 icall_intro hc.1 (fun E w vs hr hbd hargs=>(cbox_use hc hl hp ha hr hargs).mono fun e w' ⟨v,E',he,h1,h2,h3,h4⟩=>⟨v,r,_, σ.nx,E',he,h1,fun q hq=>hbd q (h4 q hq),h2,h3,hK⟩)
theorem icall_pure {P:Program} {σ : St} {d:Option Tmp} {f:FuncId} {xs:List V} {r:V} {K:St→Prop} (hC:CPure P f xs r) (hp:V.pures xs=true) (hK:K (σ.put d r)):ICall P σ d f xs K:=by
 refine icall_intro hC.1 (fun E w vs hr hbd hvs=>?_)
 refine (hC.2 w E.S vs hr.slt (RdVs.bare _ hp hvs)).mono ?_
 rintro e w' ⟨v,S',rfl,q1,q2,q3,q4,q5⟩
 have hrF:RelF E { σ with fr:=[],df:=roDf E } { tmps := #[],defers:=[] } w:=⟨hr,hbd,by show RdVs w E [] [];simp only [RdVs],roDf_ok⟩
 obtain ⟨k1,k2⟩:=hrF.later q5 q1 q2 q3
 exact ⟨v,r, σ.h, σ.nx,_,rfl,k1.rel,k1.bound,k2,RdV.unbare (E := { E with S:=S' }) r q4,hK⟩
theorem lcall_io {P:Program} {σ : St} {d:Option Tmp} {f:FuncId} {xs:List V} {K:St→Prop} (he:P.enters f=true) (h:ICall P σ d f xs K):LCall P σ d f xs K :=
 ⟨he,fun E a w vs hr hvs=>((h E w vs hr.rel hr.bound hvs).calls he).mono fun e w' ⟨v,x,h',nx',E',q1,q2,q3,q4,q5,q6⟩=>by
  have hr':RelF E' { σ with h:=h',nx:=nx' } a w':=⟨q2,q3,q4.rdVs _ hr.fr,q4.defs hr.defers⟩
  exact ⟨v,_,E',q1,hr'.put d q5,q4,q6⟩⟩
attribute [go_sem] retI boxK boxK1
open Go.RowKit
mutual
def V.ren (f:Nat→Nat):V→V
 | .own i => .own (f i)
 | .ptr i o => .ptr (f i) o
 | .rptr i k n j => .rptr (f i) k n j
 | .rsl i k n j => .rsl (f i) k n j
 | .agg cs => .agg (V.rens f cs)
 | .tup cs => .tup (V.rens f cs)
 | .clo g cs => .clo g (V.rens f cs)
 | .cond g x => .cond g (V.ren f x)
 | .t x => .t x
 | .elem k d xs i j => .elem k d xs i j
 | .dead => .dead
def V.rens (f:Nat→Nat):List V→List V
 | []=>[]
 | x::xs=>V.ren f x::V.rens f xs
end
def V.renE (f:Nat→Nat):List (Value×V)→List (Value×V)
 | []=>[]
 | (k,x)::r=>(k,V.ren f x)::V.renE f r
def V.renR (f:Nat→Nat):List (List V)→List (List V)
 | []=>[]
 | x::r=>V.rens f x::V.renR f r
def Blk.ren (f:Nat→Nat):Blk→Blk
 | .box cs => .box (V.rens f cs)
 | .row e k d xs => .row e k d (V.renR f xs)
 | .map es => .map (V.renE f es)
 | .shr t => .shr t
 | .loop st pend tmps ps c d => .loop st pend (V.rens f tmps) ps c d
 | .defd => .defd
theorem rens_len (f:Nat→Nat):∀ xs:List V,(V.rens f xs).length=xs.length
 | []=>rfl
 | x::xs=>by simp only [V.rens,List.length_cons,rens_len f xs]
theorem renR_len (f:Nat→Nat):∀ xs:List (List V),(V.renR f xs).length=xs.length
 | []=>rfl
 | x::xs=>by simp only [V.renR,List.length_cons,renR_len f xs]
theorem rens_append (f:Nat→Nat):∀ xs ys:List V,V.rens f (xs++ys)=V.rens f xs++V.rens f ys
 | [],ys=>rfl
 | x::xs,ys=>by simp only [V.rens,List.cons_append,rens_append f xs]
theorem renR_flatten (f:Nat→Nat):∀ xs:List (List V),(V.renR f xs).flatten=V.rens f xs.flatten
 | []=>rfl
 | x::xs=>by simp only [V.renR,List.flatten_cons,rens_append,renR_flatten f xs]
theorem renR_all (f:Nat→Nat) (k:Nat):∀ xs:List (List V),(∀ x∈V.renR f xs,x.length=k) ↔ (∀ x∈xs,x.length=k)
 | []=>by simp [V.renR]
 | x::xs=>by simp only [V.renR,List.mem_cons,forall_eq_or_imp,rens_len,renR_all f k xs]
@[go_sem] theorem rens_t (f:Nat→Nat):∀ l:List T,V.rens f (l.map .t)=l.map .t
 | []=>rfl
 | x::r=>by simp only [List.map_cons,V.rens,V.ren,rens_t f r]
@[go_sem] theorem renR_t (f:Nat→Nat):∀ l:List (List T),V.renR f (tRows l)=tRows l
 | []=>rfl
 | x::r=>by
  have:=renR_t f r
  unfold tRows at this ⊢
  simp only [List.map_cons,V.renR,rens_t,this]
section
variable {w:World} {E E':Env} {f:Nat→Nat} (hS:∀ b,E.S b→E'.S b) (hU:∀ j,E.U j→E'.U (f j)) (hI:∀ j hv,E.U j→E'.Is (f j) hv→E.Is j hv)
include hS hU hI
mutual
theorem ren_out:∀ (x:V) {v:Value},RdV w E x v→RdV w E' (V.ren f x) v
 | .t x,v,h=>by simp only [V.ren,RdV] at h ⊢; exact h.mono hS fun _ _=>rfl
 | .agg cs,v,h=>by
  simp only [V.ren,RdV] at h ⊢
  obtain ⟨vs,h1,h2,h3⟩:=h
  exact ⟨vs,h1,ren_outs cs h2,h3⟩
 | .tup cs,v,h=>by
  simp only [V.ren,RdV] at h ⊢
  obtain ⟨vs,h1,h2⟩:=h
  exact ⟨vs,h1,ren_outs cs h2⟩
 | .clo g cs,v,h=>by
  simp only [V.ren,RdV] at h ⊢
  obtain ⟨vs,h1,h2⟩:=h
  exact ⟨vs,h1,ren_outs cs h2⟩
 | .own i,v,h=>by
  simp only [V.ren,RdV] at h ⊢
  exact ⟨h.1,hU i h.2.1,fun hv hb=>h.2.2 hv (hI i hv h.2.1 hb)⟩
 | .ptr i o,v,h=>by
  simp only [V.ren,RdV] at h ⊢
  exact ⟨h.1,hU i h.2.1,fun hv hb=>h.2.2 hv (hI i hv h.2.1 hb)⟩
 | .rptr i k n j,v,h=>by
  simp only [V.ren,RdV] at h ⊢
  exact ⟨h.1,hU i h.2.1,fun hv hb=>h.2.2 hv (hI i hv h.2.1 hb)⟩
 | .rsl i k n j,v,h=>by
  simp only [V.ren,RdV] at h ⊢
  exact ⟨h.1,hU i h.2.1,fun hv hb=>h.2.2 hv (hI i hv h.2.1 hb)⟩
 | .elem k d xs i j,v,h=>by
  simp only [V.ren,RdV] at h ⊢
  obtain ⟨b,off,c,h1,h2⟩:=h
  exact ⟨b,off,c,h1.mono hS fun _ _=>rfl,h2⟩
 | .cond g x,v,h=>by
  simp only [V.ren,RdV] at h ⊢
  exact ⟨fun hg=>ren_out x (h.1 hg),h.2⟩
 | .dead,v,h=>by simp only [V.ren,RdV]
theorem ren_outs:∀ (xs:List V) {vs:List Value},RdVs w E xs vs→RdVs w E' (V.rens f xs) vs
 | [],[],h=>by simp only [V.rens,RdVs]
 | x::xs,v::vs,h=>by
  simp only [V.rens,RdVs] at h ⊢
  exact ⟨ren_out x h.1,ren_outs xs h.2⟩
 | [],_::_,h=>by simp only [RdVs] at h
 | _::_,[],h=>by simp only [RdVs] at h
end
theorem ren_outE:∀ (xs:List (Value×V)) {es:List MapEntry},RdEs w E xs es→RdEs w E' (V.renE f xs) es
 | [],[],h=>trivial
 | (k,x)::xs,e::es,h=>⟨h.1,ren_out hS hU hI x h.2.1,ren_outE xs h.2.2⟩
 | [],_::_,h=>h.elim
 | _::_,[],h=>h.elim
theorem ren_outB:∀ (b:Blk) {hv:Value},BlkRel w E b hv→BlkRel w E' (b.ren f) hv
 | .box cs,hv,h=>by
  obtain ⟨b,vs,ty,h1,h2,h3,h4⟩:=h
  exact ⟨b,vs,ty,h1,h2,ren_outs hS hU hI cs h3,h4⟩
 | .row e k d xs,hv,h=>by
  obtain ⟨cells,h1,h2,h3,h4⟩:=h
  exact ⟨cells,by rw [renR_len];exact h1,by rw [renR_flatten];exact ren_outs hS hU hI _ h2,(renR_all f k xs).2 h3,h4⟩
 | .map es,hv,h=>by
  obtain ⟨r,entries,clock,h1,h2,h3,h4⟩:=h
  exact ⟨r,entries,clock,h1,h2,ren_outE hS hU hI es h3,h4⟩
 | .shr t,hv,h=>RdT.mono hS (fun _ _=>rfl) h
 | .loop st pend tmps ps c d,hv,h=>by
  obtain ⟨l,rec,h1,h2,h3,h4,h5,h6,h7,h8⟩:=h
  exact ⟨l,rec,h1,h2,h3,h4,h5,h6,h7,ren_outs hS hU hI tmps h8⟩
 | .defd,hv,h=>h
end
def lowL (m:Nat) (l:List Nat):Bool:=l.all fun q=>decide (q<m)
theorem lowL_append {m:Nat} {a b:List Nat}:lowL m (a++b)=(lowL m a&&lowL m b):=by simp [lowL]
section
variable {w:World} {E E':Env} {f:Nat→Nat} {m:Nat} (hS:∀ b,E.S b→E'.S b) (hU:∀ j,j<m→E'.U j) (hI:∀ j hv,j<m→E'.Is j hv→E.Is (f j) hv)
include hS hU hI
mutual
theorem ren_in:∀ (x:V) {v:Value},lowL m x.ment=true→RdV w E (V.ren f x) v→RdV w E' x v
 | .t x,v,_,h=>by simp only [V.ren,RdV] at h ⊢; exact h.mono hS fun _ _=>rfl
 | .agg cs,v,hl,h=>by
  simp only [V.ren,V.ment,RdV] at h hl ⊢
  obtain ⟨vs,h1,h2,h3⟩:=h
  exact ⟨vs,h1,ren_ins cs hl h2,h3⟩
 | .tup cs,v,hl,h=>by
  simp only [V.ren,V.ment,RdV] at h hl ⊢
  obtain ⟨vs,h1,h2⟩:=h
  exact ⟨vs,h1,ren_ins cs hl h2⟩
 | .clo g cs,v,hl,h=>by
  simp only [V.ren,V.ment,RdV] at h hl ⊢
  obtain ⟨vs,h1,h2⟩:=h
  exact ⟨vs,h1,ren_ins cs hl h2⟩
 | .own i,v,hl,h=>by
  have hi:i<m:=by simpa [lowL,V.ment] using hl
  simp only [V.ren,RdV] at h ⊢
  exact ⟨h.1,hU i hi,fun hv hb=>h.2.2 hv (hI i hv hi hb)⟩
 | .ptr i o,v,hl,h=>by
  have hi:i<m:=by simpa [lowL,V.ment] using hl
  simp only [V.ren,RdV] at h ⊢
  exact ⟨h.1,hU i hi,fun hv hb=>h.2.2 hv (hI i hv hi hb)⟩
 | .rptr i k n j,v,hl,h=>by
  have hi:i<m:=by simpa [lowL,V.ment] using hl
  simp only [V.ren,RdV] at h ⊢
  exact ⟨h.1,hU i hi,fun hv hb=>h.2.2 hv (hI i hv hi hb)⟩
 | .rsl i k n j,v,hl,h=>by
  have hi:i<m:=by simpa [lowL,V.ment] using hl
  simp only [V.ren,RdV] at h ⊢
  exact ⟨h.1,hU i hi,fun hv hb=>h.2.2 hv (hI i hv hi hb)⟩
 | .elem k d xs i j,v,_,h=>by
  simp only [V.ren,RdV] at h ⊢
  obtain ⟨b,off,c,h1,h2⟩:=h
  exact ⟨b,off,c,h1.mono hS fun _ _=>rfl,h2⟩
 | .cond g x,v,hl,h=>by
  simp only [V.ren,V.ment,RdV] at h hl ⊢
  exact ⟨fun hg=>ren_in x hl (h.1 hg),h.2⟩
 | .dead,v,_,h=>by simp only [RdV]
theorem ren_ins:∀ (xs:List V) {vs:List Value},lowL m (V.ments xs)=true→RdVs w E (V.rens f xs) vs→RdVs w E' xs vs
 | [],[],_,h=>by simp only [RdVs]
 | x::xs,v::vs,hl,h=>by
  simp only [V.ments,lowL_append,Bool.and_eq_true] at hl
  simp only [V.rens,RdVs] at h ⊢
  exact ⟨ren_in x hl.1 h.1,ren_ins xs hl.2 h.2⟩
 | [],_::_,_,h=>by simp only [V.rens,RdVs] at h
 | _::_,[],_,h=>by simp only [V.rens,RdVs] at h
end
def mentE:List (Value×V)→List Nat
 | []=>[]
 | (_,x)::r=>x.ment++mentE r
theorem ren_inE:∀ (xs:List (Value×V)) {es:List MapEntry},lowL m (mentE xs)=true→RdEs w E (V.renE f xs) es→RdEs w E' xs es
 | [],[],_,h=>trivial
 | (k,x)::xs,e::es,hl,h=>by
  simp only [mentE,lowL_append,Bool.and_eq_true] at hl
  exact ⟨h.1,ren_in hS hU hI x hl.1 h.2.1,ren_inE xs hl.2 h.2.2⟩
 | [],_::_,_,h=>h.elim
 | _::_,[],_,h=>h.elim
def mentR:List (List V)→List Nat
 | []=>[]
 | x::r=>V.ments x++mentR r
omit hS hU hI in
theorem ments_append:∀ (xs ys:List V),V.ments (xs++ys)=V.ments xs++V.ments ys
 | [],ys=>rfl
 | x::xs,ys=>by simp only [V.ments,List.cons_append,ments_append xs,List.append_assoc]
omit hS hU hI in
theorem mentR_flatten:∀ xs:List (List V),V.ments xs.flatten=mentR xs
 | []=>rfl
 | x::xs=>by simp only [mentR,List.flatten_cons,ments_append,mentR_flatten xs]
def Blk.ment:Blk→List Nat
 | .box cs=>V.ments cs
 | .row _ _ _ xs=>mentR xs
 | .map es=>mentE es
 | .shr _=>[]
 | .loop _ _ tmps _ _ _=>V.ments tmps
 | .defd=>[]
theorem ren_inB:∀ (b:Blk) {hv:Value},lowL m b.ment=true→BlkRel w E (b.ren f) hv→BlkRel w E' b hv
 | .box cs,hv,hl,h=>by
  obtain ⟨b,vs,ty,h1,h2,h3,h4⟩:=h
  exact ⟨b,vs,ty,h1,h2,ren_ins hS hU hI cs hl h3,h4⟩
 | .row e k d xs,hv,hl,h=>by
  obtain ⟨cells,h1,h2,h3,h4⟩:=h
  rw [renR_len] at h1
  rw [renR_flatten] at h2
  exact ⟨cells,h1,ren_ins hS hU hI _ (by rw [mentR_flatten];exact hl) h2,(renR_all f k xs).1 h3,h4⟩
 | .map es,hv,hl,h=>by
  obtain ⟨r,entries,clock,h1,h2,h3,h4⟩:=h
  exact ⟨r,entries,clock,h1,h2,ren_inE hS hU hI es hl h3,h4⟩
 | .shr t,hv,hl,h=>RdT.mono hS (fun _ _=>rfl) h
 | .loop st pend tmps ps c d,hv,hl,h=>by
  obtain ⟨l,rec,h1,h2,h3,h4,h5,h6,h7,h8⟩:=h
  exact ⟨l,rec,h1,h2,h3,h4,h5,h6,h7,ren_ins hS hU hI tmps hl h8⟩
 | .defd,hv,hl,h=>h
end
theorem mentR_t:∀ l:List (List T),mentR (tRows l) = []
 | []=>rfl
 | x::r=>by
  have h1:∀ l:List T,V.ments (l.map .t) = []:=fun l=>by induction l with
   | nil=>rfl
   | cons a l ih=>simp only [List.map_cons,V.ments,V.ment,ih,List.append_nil]
  have:=mentR_t r
  unfold tRows at this ⊢
  simp only [List.map_cons,mentR,h1,this,List.append_nil]
attribute [go_sem] mentR_t
open Go.RowKit
def CIO (P:Program) (f:FuncId) (m:Nat) (h:Heap) (args:List V) (r:V) (h':Heap) (n':Nat):Prop :=
 P.enters f=true ∧ ∀ (E:Env) (w:World) (vs:List Value),Rel w E h→(∀ i,E.U i→i<m)→RdVs w E args vs →
  Calls P f vs.toArray w fun e w' => ∃ v E',e = .returned v∧Rel w' E' h'∧(∀ i,E'.U i→i<n')∧Ext E w E' w'∧RdV w' E' r v
def ioK (m:Nat) (r:V) (h':Heap) (n':Nat) (x:V) (σ : St):Prop:=Weak m { fr:=[x],h := σ.h,nx := σ.nx } { fr:=[r],h:=h',nx:=n' }
theorem cio_of {P:Program} {f:FuncId} {fn:Func} {c:Code} {args:List V} {r:V} {m n n':Nat} {h h':Heap} {rs:List ResultVar} (he:P.enters f=true) (hf:P.funcs[f]? = some fn) (hb:fn.body=some c) (hn:fn.ntmps=n) (hrs:fn.results.toList=rs)
  (hw:AWP P m c (retI P rs (ioK m r h' n')) (entry P n args h m)):CIO P f m h args r h' n':=by
 refine ⟨he,fun E w vs hr hbd hargs=>calls_of_awp hf hb hn hrs hw hr hbd hbd hargs ?_⟩
 intro v x σ' E' w' h1 hbd' h2 h3 hK
 have h4:RelF (E'.at0 none) { fr:=[x],h := σ'.h,nx := σ'.nx } { tmps := #[v],defers:=[] } w':=⟨h1.ro none,hbd',by
  show RdVs w' (E'.at0 none) [x] [v]
  simp only [RdVs,and_true];exact h3.ro none,⟨rfl,rfl⟩⟩
 obtain ⟨E'',k1,k2⟩:=hK (E'.at0 none) _ w' h4 (E.at0 none) w hbd (h2.at0 none)
 have k3:RdVs w' E'' [r] [v]:=k1.fr
 simp only [RdVs,and_true] at k3
 exact ⟨v,E''.at0 E.ro,rfl,k1.rel.ro _,k1.bound,k2.back,k3.ro _⟩
section
open Classical
theorem cio_use {P:Program} {f:FuncId} {m n':Nat} {h h' H:Heap} {args:List V} {r:V} (hc:CIO P f m h args r h' n') {g:Nat→Nat} (hmn:m≤n') (hinj:∀ i j,i<n'→j<n'→g i=g j→i=j)
  (hlow:∀ j blk,h.look j=some blk→j<m∧lowL m blk.ment=true∧H.look (g j)=some (blk.ren g)) (hall:∀ j,j<m → ∃ blk,h.look j=some blk) (hargs:lowL m (V.ments args)=true)
  {E:Env} {w:World} {vs:List Value} (hr:Rel w E H) (hnew:∀ j,m≤j→j<n' → ¬ E.U (g j)) (hvs:RdVs w E (V.rens g args) vs) :
  Calls P f vs.toArray w fun e w' => ∃ v E',e = .returned v∧(∀ H',(∀ j,j<n'→H'.look (g j)=(h'.look j).map (Blk.ren g))→(∀ i,(∀ j,j<n'→g j≠i)→H'.look i=H.look i)→Rel w' E' H')∧Ext E w E' w'∧RdV w' E' (r.ren g) v ∧
   (∀ q,E'.U q→E.U q ∨ ∃ j,m≤j∧j<n'∧q=g j):=by
 let E1:Env := { S:=E.S,B:=fun j=>if j<m then E.B (g j) else none,U:=fun j=>j<m,D:=fun b=>E.D b ∨ ∃ i hv,(∀ j,j<m→g j≠i)∧E.B i=some hv∧blockOf hv=some b,F:=fun j=>if j<m then E.F (g j) else none,ro:=E.ro }
 have hI1:∀ j hv,j<m→E1.Is j hv→E.Is (g j) hv:=fun j hv hj hi=>by
  simp only [E1,Env.Is,if_pos hj] at hi ⊢
  exact hi
 have hUg:∀ j,j<m→E.U (g j):=fun j hj=>by
  obtain ⟨blk,hb⟩:=hall j hj
  exact hr.uses (hlow j blk hb).2.2
 have hr1:Rel w E1 h:=by
  refine ⟨fun j blk hl=>?_,fun j hv hB=>?_,fun j hv hF=>?_,fun j hv b hB hbk=>?_,fun i j hi hj b hBi hBj hbi hbj=>?_,hr.slt,fun b hb=>?_⟩
  ·obtain ⟨hj,hlo,hH⟩:=hlow j blk hl
   obtain ⟨hv,hat,hrel⟩:=hr.has _ _ hH
   refine ⟨hv,?_,ren_inB (E:=E) (E':=E1) (f:=g) (m:=m) (fun _ h=>h) (fun _ h=>h) hI1 blk hlo hrel⟩
   cases blk<;>simp only [Env.at,Blk.ren,E1,if_pos hj] at hat ⊢ <;> exact hat
  ·simp only [E1] at hB
   split at hB
   ·rename_i hj;exact ⟨hj,hall j hj⟩
   ·cases hB
  ·simp only [E1] at hF
   split at hF
   ·rename_i hj
    refine ⟨hj,?_⟩
    simp only [E1,if_pos hj]
    exact (hr.domF _ _ hF).2
   ·cases hF
  ·simp only [E1] at hB
   split at hB
   ·rename_i hj
    obtain ⟨o1,o2,o3⟩:=hr.own _ hv b hB hbk
    refine ⟨o1,o2,fun hd=>hd.elim o3 ?_⟩
    rintro ⟨i,hv',hne,hBi,hbi⟩
    exact hne j hj (hr.apart _ _ hv hv' b hB hBi hbk hbi)
   ·cases hB
  ·simp only [E1] at hBi hBj
   split at hBi
   ·split at hBj
    ·rename_i hi' hj'
     exact hinj i j (by omega) (by omega) (hr.apart _ _ hi hj b hBi hBj hbi hbj)
    ·cases hBj
   ·cases hBi
  ·rcases hb with hb | ⟨i,hv,_,hBi,hbi⟩
   ·exact hr.dlt b hb
   ·exact (hr.own i hv b hBi hbi).1
 refine (hc.2 E1 w vs hr1 (fun i hi=>hi) (ren_ins (E:=E) (E':=E1) (f:=g) (m:=m) (fun _ h=>h) (fun _ h=>h) hI1 args hargs hvs)).mono ?_
 rintro e w' ⟨v,E2,rfl,hr2,hb2,hx2,hv2⟩
 let E3:Env := { S:=E2.S,B:=fun i=>if hj:∃ j,j<n'∧g j=i then E2.B (Classical.choose hj) else E.B i,U:=fun i=>E.U i ∨ ∃ j,m≤j∧j<n'∧i=g j,D:=E.D,F:=fun i=>if hj:∃ j,j<n'∧g j=i then E2.F (Classical.choose hj) else E.F i,ro:=E.ro }
 have hch:∀ j (hj:j<n') (he:∃ k,k<n'∧g k=g j),Classical.choose he=j:=fun j hj he=>hinj _ _ (Classical.choose_spec he).1 hj (Classical.choose_spec he).2
 have hB3:∀ j,j<n'→E3.B (g j)=E2.B j:=fun j hj=>by
  have he:∃ k,k<n'∧g k=g j:=⟨j,hj,rfl⟩
  simp only [E3,dif_pos he,hch j hj he]
 have hF3:∀ j,j<n'→E3.F (g j)=E2.F j:=fun j hj=>by
  have he:∃ k,k<n'∧g k=g j:=⟨j,hj,rfl⟩
  simp only [E3,dif_pos he,hch j hj he]
 have hB3':∀ i,(∀ j,j<n'→g j≠i)→E3.B i=E.B i:=fun i hi=>by
  simp only [E3,dif_neg (fun (he:∃ k,k<n'∧g k=i)=>he.elim fun k hk=>hi k hk.1 hk.2)]
 have hF3':∀ i,(∀ j,j<n'→g j≠i)→E3.F i=E.F i:=fun i hi=>by
  simp only [E3,dif_neg (fun (he:∃ k,k<n'∧g k=i)=>he.elim fun k hk=>hi k hk.1 hk.2)]
 have hcase:∀ i,(∃ j,j<n'∧g j=i)∨(∀ j,j<n'→g j≠i):=fun i=>by
  by_cases he:∃ j,j<n'∧g j=i
  ·exact .inl he
  ·exact .inr fun j hj hg=>he ⟨j,hj,hg⟩
 have hU3:∀ j,E2.U j→E3.U (g j):=fun j hj=>by
  by_cases hjm:j<m
  ·exact .inl (hUg j hjm)
  ·exact .inr ⟨j,by omega,hb2 j hj,rfl⟩
 have hI3:∀ j hv,E2.U j→E3.Is (g j) hv→E2.Is j hv:=fun j hv hj hi=>by
  simp only [Env.Is,hB3 j (hb2 j hj),hF3 j (hb2 j hj)] at hi
  exact hi
 have hD1:∀ b,E.D b→E1.D b:=fun b hb => .inl hb
 have hother:∀ i,(∀ j,j<n'→g j≠i) → ∀ hv b,E.B i=some hv→blockOf hv=some b→E1.D b:=fun i hi hv b hB hb => .inr ⟨i,hv,fun j hj=>hi j (by omega),hB,hb⟩
 have hE:Ext E w E3 w':=by
  refine ⟨hx2.os,hx2.tape,hx2.output,hx2.size,fun b hb=>hx2.keep b (hb.imp id (hD1 b)),hx2.S,fun b hb=>(hx2.S' b hb).imp id fun hd hd'=>hd (hD1 b hd'),fun _ => .rfl,fun i hi => .inl hi,fun i hi hv hB=>?_,fun i hi hv hB=>?_,rfl⟩
  ·rcases hcase i with ⟨j,hj,rfl⟩ | hno
   ·by_cases hjm:j<m
    ·rw [hB3 j hj] at hB
     have:=hx2.B j hjm hv hB
     simpa only [E1,if_pos hjm] using this
    ·exact (hnew j (by omega) hj hi).elim
   ·rw [hB3' i hno] at hB;exact hB
  ·rcases hcase i with ⟨j,hj,rfl⟩ | hno
   ·by_cases hjm:j<m
    ·have h5:E2.Is j hv:=by simp only [Env.Is,hB3 j hj,hF3 j hj] at hB;exact hB
     exact hI1 j hv hjm (hx2.W j hjm hv h5)
    ·exact (hnew j (by omega) hj hi).elim
   ·simp only [Env.Is,hB3' i hno,hF3' i hno] at hB;exact hB
 refine ⟨v,E3,rfl,fun H' hin hout=>⟨fun i blk hl=>?_,fun i hv hB=>?_,fun i hv hF=>?_,fun i hv b hB hbk=>?_,fun i j hi hj b hBi hBj hbi hbj=>?_,hr2.slt,fun b hb=>Nat.lt_of_lt_of_le (hr.dlt b hb) hx2.size⟩,hE,ren_out (E:=E2) (E':=E3) (f:=g) (fun _ h=>h) hU3 hI3 r hv2,fun q hq=>hq⟩
 ·rcases hcase i with ⟨j,hj,rfl⟩ | hno
  ·rw [hin j hj] at hl
   obtain ⟨blk',hl',rfl⟩:=Option.map_eq_some_iff.1 hl
   obtain ⟨hv,hat,hrel⟩:=hr2.has j blk' hl'
   refine ⟨hv,?_,ren_outB (E:=E2) (E':=E3) (f:=g) (fun _ h=>h) hU3 hI3 blk' hrel⟩
   cases blk'<;>simp only [Env.at,Blk.ren,hB3 j hj,hF3 j hj] at hat ⊢ <;> exact hat
  ·rw [hout i hno] at hl
   obtain ⟨hv,hat,hrel⟩:=hr.has i blk hl
   refine ⟨hv,by cases blk<;>simp only [Env.at,hB3' i hno,hF3' i hno] at hat ⊢ <;> exact hat,?_⟩
   cases hmine:blk.mine with
   | true =>
    have hB:E.B i=some hv:=by rw [← at_mine hmine];exact hat
    exact hrel.keep hE fun b hb=>hx2.keep b (.inr (hother i hno hv b hB hb))
   | false=>cases blk<;>first | exact hE.rdT hrel | simp [Blk.mine] at hmine
 ·rcases hcase i with ⟨j,hj,rfl⟩ | hno
  ·rw [hB3 j hj] at hB
   obtain ⟨q1,blk,q2⟩:=hr2.dom j hv hB
   exact ⟨hU3 j q1,_,by rw [hin j hj,q2];rfl⟩
  ·rw [hB3' i hno] at hB
   obtain ⟨q1,q2⟩:=hr.dom i hv hB
   exact ⟨.inl q1,by rw [hout i hno];exact q2⟩
 ·rcases hcase i with ⟨j,hj,rfl⟩ | hno
  ·rw [hF3 j hj] at hF
   obtain ⟨q1,q2⟩:=hr2.domF j hv hF
   exact ⟨hU3 j q1,by rw [hB3 j hj];exact q2⟩
  ·rw [hF3' i hno] at hF
   obtain ⟨q1,q2⟩:=hr.domF i hv hF
   exact ⟨.inl q1,by rw [hB3' i hno];exact q2⟩
 ·rcases hcase i with ⟨j,hj,rfl⟩ | hno
  ·rw [hB3 j hj] at hB
   obtain ⟨q1,q2,q3⟩:=hr2.own j hv b hB hbk
   exact ⟨q1,q2,fun hd=>q3 ((hx2.D b).2 (hD1 b hd))⟩
  ·rw [hB3' i hno] at hB
   obtain ⟨q1,q2,q3⟩:=hr.own i hv b hB hbk
   exact ⟨Nat.lt_of_lt_of_le q1 hx2.size,fun hs=>(hx2.S' b hs).elim q2 fun hd=>hd (hother i hno hv b hB hbk),q3⟩
 ·rcases hcase i with ⟨p,hp,rfl⟩ | hno
  ·rw [hB3 p hp] at hBi
   rcases hcase j with ⟨q,hq,rfl⟩ | hno2
   ·rw [hB3 q hq] at hBj
    rw [hr2.apart p q hi hj b hBi hBj hbi hbj]
   ·rw [hB3' j hno2] at hBj
    exact ((hr2.own p hi b hBi hbi).2.2 ((hx2.D b).2 (hother j hno2 hj b hBj hbj))).elim
  ·rw [hB3' i hno] at hBi
   rcases hcase j with ⟨q,hq,rfl⟩ | hno2
   ·rw [hB3 q hq] at hBj
    exact ((hr2.own q hj b hBj hbj).2.2 ((hx2.D b).2 (hother i hno hi b hBi hbi))).elim
   ·rw [hB3' j hno2] at hBj
    exact hr.apart i j hi hj b hBi hBj hbi hbj
end
mutual
theorem pure_ren (g:Nat→Nat):∀ x:V,x.pure=true→V.ren g x=x∧x.ment = []
 | .t x,_=>⟨rfl,rfl⟩
 | .elem ..,_=>⟨rfl,rfl⟩
 | .dead,_=>⟨rfl,rfl⟩
 | .agg cs,h=>by
  obtain ⟨h1,h2⟩:=pures_ren g cs (by simpa only [V.pure] using h)
  simp only [V.ren,V.ment,h1,h2,and_self]
 | .tup cs,h=>by
  obtain ⟨h1,h2⟩:=pures_ren g cs (by simpa only [V.pure] using h)
  simp only [V.ren,V.ment,h1,h2,and_self]
 | .clo f cs,h=>by
  obtain ⟨h1,h2⟩:=pures_ren g cs (by simpa only [V.pure] using h)
  simp only [V.ren,V.ment,h1,h2,and_self]
 | .cond b x,h=>by
  obtain ⟨h1,h2⟩:=pure_ren g x (by simpa only [V.pure] using h)
  simp only [V.ren,V.ment,h1,h2,and_self]
 | .own _,h=>by simp [V.pure] at h
 | .ptr ..,h=>by simp [V.pure] at h
 | .rptr ..,h=>by simp [V.pure] at h
 | .rsl ..,h=>by simp [V.pure] at h
theorem pures_ren (g:Nat→Nat):∀ xs:List V,V.pures xs=true→V.rens g xs=xs∧V.ments xs = []
 | [],_=>⟨rfl,rfl⟩
 | x::xs,h=>by
  simp only [V.pures,Bool.and_eq_true] at h
  obtain ⟨h1,h2⟩:=pure_ren g x h.1
  obtain ⟨h3,h4⟩:=pures_ren g xs h.2
  simp only [V.rens,V.ments,h1,h2,h3,h4,List.append_nil,and_self]
end
def num2 (t m:Nat) (j:Nat):Nat :=
 match j with
 | 0=>t
 | _=>m
theorem cio_box {P:Program} {H:Heap} {f:FuncId} {t m:Nat} {cs args cs':List V} {r:V} {nb:Blk} (hc:CIO P f 1 [(0, .box cs)] (.own 0::args) r [(1,nb),(0, .box cs')] 2) (hl:H.look t=some (.box cs)) (hp:V.pures cs=true) (ha:V.pures args=true)
  (hp':V.pures cs'=true) {E:Env} {w:World} {vs:List Value} (hr:Rel w E H) (hm : ¬ E.U m) (hvs:RdVs w E (.own t::args) vs) :
  Calls P f vs.toArray w fun e w' => ∃ v E',e = .returned v∧Rel w' E' ((m,nb.ren (num2 t m))::H.set t (.box cs'))∧Ext E w E' w'∧RdV w' E' (r.ren (num2 t m)) v ∧ ∀ q,E'.U q→E.U q∨q=m:=by
 have hUt:E.U t:=hr.uses hl
 have htm:t≠m:=fun e=>hm (e ▸ hUt)
 obtain ⟨a1,a2⟩:=pures_ren (num2 t m) args ha
 obtain ⟨c1,c2⟩:=pures_ren (num2 t m) cs hp
 obtain ⟨d1,d2⟩:=pures_ren (num2 t m) cs' hp'
 refine (cio_use hc (g:=num2 t m) (H:=H) (by omega) (fun i j hi hj he=>?_) (fun j blk hb=>?_) (fun j hj=>?_) ?_ hr (fun j h1 h2 hU=>?_) ?_).mono ?_
 ·have:i=0∨i=1:=by omega
  have:j=0∨j=1:=by omega
  rcases ‹i=0∨i=1› with rfl | rfl<;>rcases ‹j=0∨j=1› with rfl | rfl<;>simp only [num2] at he<;>first | rfl | exact (htm he).elim | exact (htm he.symm).elim
 ·simp only [Heap.look] at hb
  split at hb
  ·rename_i h0
   subst h0
   injection hb with hb;subst hb
   exact ⟨by omega,by simp only [Blk.ment,c2];rfl,by simp only [Blk.ren,c1];exact hl⟩
  ·cases hb
 ·have:j=0:=by omega
  subst this
  exact ⟨_,rfl⟩
 ·simp only [V.ments,V.ment,a2];rfl
 ·have:j=1:=by omega
  subst this
  exact hm hU
 ·simp only [V.rens,V.ren,a1];exact hvs
 ·rintro e w' ⟨v,E',rfl,h1,h2,h3,h4⟩
  refine ⟨v,E',rfl,h1 _ (fun j hj=>?_) (fun i hi=>?_),h2,h3,fun q hq=>(h4 q hq).imp id ?_⟩
  ·have:j=0∨j=1:=by omega
   rcases this with rfl | rfl
   ·show Heap.look _ t=_
    simp only [Heap.look,if_neg htm]
    rw [Heap.look_set _ _ _ hl,if_pos rfl]
    simp [Blk.ren,d1]
   ·show Heap.look _ m=_
    simp [Heap.look]
  ·have h5:=hi 0 (by omega)
   have h6:=hi 1 (by omega)
   simp only [num2] at h5 h6
   simp only [Heap.look]
   rw [if_neg (fun e=>h6 e.symm),Heap.look_set _ _ _ hl,if_neg (fun e=>h5 e.symm)]
  ·rintro ⟨j,j1,j2,rfl⟩
   have:j=1:=by omega
   subst this;rfl
attribute [go_sem] num2 V.ren V.rens V.renE V.renR Blk.ren
open Go.RowKit
inductive Eff where
 | none
 | new (blk:Blk)
 | upd (t:Nat) (blk:Blk)
 | app (t:Nat) (old:Option Blk) (blk:Blk)
structure Rec where
 d:Option Tmp
 x:V
 e:Eff
def setO (fr:List V) (d:Option Tmp) (x:V):List V :=
 match d with
 | some t=>fr.set t x
 | none=>fr
def tch (n0 i:Nat) (e:Eff) (q:Nat):Option (Option Blk) :=
 match e with
 | .none=>none
 | .new blk=>if q=n0+i then some (some blk) else none
 | .upd t blk=>if q=t then some (some blk) else none
 | .app t old blk=>if q=n0+i then some (some blk) else if q=t then some old else none
def orB (a:Option (Option Blk)) (b:Option Blk):Option Blk :=
 match a with
 | some x=>x
 | none=>b
theorem tch_inv {n0 i q:Nat} {e:Eff} (h:tch n0 i e q≠none):q=n0+i ∨ ∃ t blk,(e = .upd t blk ∨ ∃ old,e = .app t old blk)∧q=t:=by
 cases e with
 | none=>exact (h rfl).elim
 | new blk =>
  simp only [tch] at h
  by_cases hq:q=n0+i
  ·exact .inl hq
  ·rw [if_neg hq] at h;exact (h rfl).elim
 | upd t blk =>
  simp only [tch] at h
  by_cases hq:q=t
  ·exact .inr ⟨t,blk, .inl rfl,hq⟩
  ·rw [if_neg hq] at h;exact (h rfl).elim
 | app t old blk =>
  simp only [tch] at h
  by_cases hq:q=n0+i
  ·exact .inl hq
  ·rw [if_neg hq] at h
   by_cases hq:q=t
   ·exact .inr ⟨t,blk, .inr ⟨_,rfl⟩,hq⟩
   ·rw [if_neg hq] at h;exact (h rfl).elim
def frX (X:Nat→Bool):Nat→List Rec→List V→List V
 | _,[],fr=>fr
 | i,r::rs,fr=>frX X (i+1) rs (if X i=true then setO fr r.d r.x else fr)
def lkX (n0:Nat) (X:Nat→Bool) (q:Nat):Nat→List Rec→Option Blk→Option Blk
 | _,[],b=>b
 | i,r::rs,b=>lkX n0 X q (i+1) rs (if X i=true then orB (tch n0 i r.e q) b else b)
theorem setO_len {fr:List V} {d:Option Tmp} {x:V}:(setO fr d x).length=fr.length:=by cases d<;>simp [setO]
theorem setO_ne {fr:List V} {d:Option Tmp} {x:V} {t:Nat} (h:d≠some t):(setO fr d x).getD t .dead=fr.getD t .dead:=by
 cases d with
 | none=>rfl
 | some u =>
  have:u≠t:=fun e=>h (by rw [e])
  simp [setO,List.getD_eq_getElem?_getD,List.getElem?_set_ne this]
theorem setO_eq {fr fr':List V} {x:V} {t:Nat} (h:fr.length=fr'.length):(setO fr (some t) x).getD t .dead=(setO fr' (some t) x).getD t .dead:=by
 simp only [setO,List.getD_eq_getElem?_getD,List.getElem?_set_self']
 by_cases ht:t<fr.length
 ·rw [List.getElem?_eq_getElem ht,List.getElem?_eq_getElem (h ▸ ht)];rfl
 ·rw [List.getElem?_eq_none (by omega),List.getElem?_eq_none (by omega)]
theorem setO_comm {fr:List V} {d e:Option Tmp} {x y:V} (h:∀ t,d=some t→e≠some t):setO (setO fr d x) e y=setO (setO fr e y) d x:=by
 cases d with
 | none=>rfl
 | some t =>
  cases e with
  | none=>rfl
  | some u =>
   have:t≠u:=fun h'=>h t rfl (by rw [h'])
   simp only [setO]
   rw [List.set_comm _ _ this]
theorem frX_same {X Y:Nat→Bool} {t:Nat}:∀ (rs:List Rec) (i:Nat) (fr fr':List V),(∀ j r,rs[j]? = some r→r.d=some t→X (i+j)=Y (i+j))→fr.length=fr'.length→fr.getD t .dead=fr'.getD t .dead →
  (frX X i rs fr).getD t .dead=(frX Y i rs fr').getD t .dead
 | [],i,fr,fr',_,_,h=>h
 | r::rs,i,fr,fr',hs,hl,h=>by
  unfold frX
  refine frX_same rs (i+1) _ _ (fun j r' hj hd=>?_) ?_ ?_
  ·have:=hs (j+1) r' (by simpa using hj) hd
   rwa [show i+1+j=i+(j+1) by omega]
  ·split<;>split<;>simp only [setO_len,hl]
  ·by_cases hd:r.d=some t
   ·have:=hs 0 r (by simp) hd
    rw [Nat.add_zero] at this
    rw [this]
    split
    ·rw [hd];exact setO_eq hl
    ·exact h
   ·split<;>split<;>simp only [setO_ne hd,h]
theorem frX_out {X:Nat→Bool}:∀ (rs:List Rec) (i:Nat) (fr:List V),(∀ j,j<rs.length→X (i+j)=false)→frX X i rs fr=fr
 | [],i,fr,_=>rfl
 | r::rs,i,fr,h=>by
  unfold frX
  have h0:=h 0 (by simp)
  rw [Nat.add_zero] at h0
  rw [h0,if_neg (by simp),frX_out rs (i+1) fr fun j hj=>?_]
  have:=h (j+1) (by simpa using hj)
  rwa [show i+1+j=i+(j+1) by omega]
theorem frX_set {X:Nat→Bool} {d:Option Tmp} {x:V}:∀ (rs:List Rec) (i:Nat) (fr:List V),(∀ j r,rs[j]? = some r→X (i+j)=true → ∀ t,r.d=some t→d≠some t)→frX X i rs (setO fr d x)=setO (frX X i rs fr) d x
 | [],i,fr,_=>rfl
 | r::rs,i,fr,h=>by
  unfold frX
  rw [← frX_set rs (i+1) _ fun j r' hj hX=>h (j+1) r' (by simpa using hj) (by rwa [show i+(j+1)=i+1+j by omega])]
  by_cases h0:X i=true
  ·rw [if_pos h0,if_pos h0,setO_comm fun t ht e=>h 0 r (by simp) (by simpa using h0) t e ht]
  ·rw [if_neg h0,if_neg h0]
def addX (X:Nat→Bool) (k:Nat):Nat→Bool:=fun j=>X j||j==k
theorem frX_add {X:Nat→Bool} {r:Rec} {k:Nat} (hX:X k=false):∀ (rs:List Rec) (i:Nat) (fr:List V),i≤k→rs[k - i]? = some r→(∀ j r',rs[j]? = some r'→i+j≠k→X (i+j)=true → ∀ t,r'.d=some t→r.d≠some t) →
  frX (addX X k) i rs fr=setO (frX X i rs fr) r.d r.x
 | [],i,fr,_,hr,_=>by simp at hr
 | r0::rs,i,fr,hi,hr,hd=>by
  unfold frX
  by_cases hik:i=k
  ·subst hik
   rw [Nat.sub_self] at hr
   simp at hr
   subst hr
   have e1:addX X i i=true:=by simp [addX]
   rw [e1,hX,if_pos rfl,if_neg (by simp)]
   have e2:∀ (rs:List Rec) (k':Nat) (fr:List V),i<k'→frX (addX X i) k' rs fr=frX X k' rs fr:=by
    intro rs
    induction rs with
    | nil=>intros;rfl
    | cons r1 rs ih =>
     intro k' fr hk'
     unfold frX
     have:addX X i k'=X k':=by simp [addX];omega
     rw [this,ih _ _ (by omega)]
   rw [e2 _ _ _ (by omega)]
   refine frX_set rs (i+1) fr fun j r' hj hX' t ht=>?_
   exact hd (j+1) r' (by simpa using hj) (by omega) (by rwa [show i+(j+1)=i+1+j by omega]) t ht
  ·have e1:addX X k i=X i:=by simp [addX,hik]
   rw [e1]
   refine frX_add hX rs (i+1) _ (by omega) ?_ fun j r' hj hne hX'=>hd (j+1) r' (by simpa using hj) (by omega) (by rwa [show i+(j+1)=i+1+j by omega])
   have:k - i=(k - (i+1))+1:=by omega
   rw [this] at hr
   simpa using hr
theorem lkX_same {n0 q:Nat} {X Y:Nat→Bool}:∀ (rs:List Rec) (i:Nat) (b:Option Blk),(∀ j r,rs[j]? = some r→tch n0 (i+j) r.e q≠none→X (i+j)=Y (i+j))→lkX n0 X q i rs b=lkX n0 Y q i rs b
 | [],i,b,_=>rfl
 | r::rs,i,b,hs=>by
  unfold lkX
  have e1:(if X i=true then orB (tch n0 i r.e q) b else b)=(if Y i=true then orB (tch n0 i r.e q) b else b):=by
   cases ht:tch n0 i r.e q with
   | none=>simp [orB]
   | some blk =>
    have:=hs 0 r (by simp) (by rw [Nat.add_zero,ht];simp)
    rw [Nat.add_zero] at this
    rw [this]
  rw [e1]
  exact lkX_same rs (i+1) _ fun j r' hj hd=>by
   have:=hs (j+1) r' (by simpa using hj) (by rwa [show i+(j+1)=i+1+j by omega])
   rwa [show i+1+j=i+(j+1) by omega]
theorem lkX_out {n0 q:Nat} {X:Nat→Bool}:∀ (rs:List Rec) (i:Nat) (b:Option Blk),(∀ j r,rs[j]? = some r→X (i+j)=true→tch n0 (i+j) r.e q=none)→lkX n0 X q i rs b=b
 | [],i,b,_=>rfl
 | r::rs,i,b,h=>by
  unfold lkX
  have e1:(if X i=true then orB (tch n0 i r.e q) b else b)=b:=by
   split
   ·rename_i hx
    have:=h 0 r (by simp) (by simpa using hx)
    rw [Nat.add_zero] at this
    rw [this];rfl
   ·rfl
  rw [e1]
  exact lkX_out rs (i+1) b fun j r' hj hX=>by
   have:=h (j+1) r' (by simpa using hj) (by rwa [show i+(j+1)=i+1+j by omega])
   rwa [show i+1+j=i+(j+1) by omega]
theorem lkX_add {n0 q:Nat} {X:Nat→Bool} {r:Rec} {k:Nat} (hX:X k=false):∀ (rs:List Rec) (i:Nat) (b:Option Blk),i≤k→rs[k - i]? = some r →
  (tch n0 k r.e q≠none → ∀ j r',rs[j]? = some r'→k<i+j→X (i+j)=true→tch n0 (i+j) r'.e q=none)→lkX n0 (addX X k) q i rs b=orB (tch n0 k r.e q) (lkX n0 X q i rs b)
 | [],i,b,_,hr,_=>by simp at hr
 | r0::rs,i,b,hi,hr,hd=>by
  unfold lkX
  by_cases hik:i=k
  ·subst hik
   rw [Nat.sub_self] at hr
   simp at hr
   subst hr
   have e1:addX X i i=true:=by simp [addX]
   rw [e1,hX,if_pos rfl,if_neg (by simp)]
   have e2:∀ (b:Option Blk),lkX n0 (addX X i) q (i+1) rs b=lkX n0 X q (i+1) rs b:=fun b=>by
    refine lkX_same rs (i+1) b fun j r' hj _=>?_
    simp [addX];omega
   rw [e2]
   cases ht:tch n0 i r0.e q with
   | none=>rfl
   | some blk =>
    show lkX n0 X q (i+1) rs blk=blk
    refine lkX_out rs (i+1) _ fun j r' hj hX'=>?_
    have:=hd (by rw [ht];simp) (j+1) r' (by simpa using hj) (by omega) (by rwa [show i+(j+1)=i+1+j by omega])
    rwa [show i+1+j=i+(j+1) by omega]
  ·have e1:addX X k i=X i:=by simp [addX,hik]
   rw [e1]
   refine lkX_add hX rs (i+1) _ (by omega) ?_ fun ht j r' hj hlt hX'=>by
    have:=hd ht (j+1) r' (by simpa using hj) (by omega) (by rwa [show i+(j+1)=i+1+j by omega])
    rwa [show i+1+j=i+(j+1) by omega]
   have:k - i=(k - (i+1))+1:=by omega
   rw [this] at hr
   simpa using hr
end Go.Proofs.YtkjdkbmfaamhaaaGreat
