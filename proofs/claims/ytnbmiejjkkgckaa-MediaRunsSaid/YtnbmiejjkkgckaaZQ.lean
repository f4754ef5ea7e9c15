/- Proved here: Regions that draw their order, on the abstract machine, for use in the proofs of the given statements; conditions stand in each theorem. -/
import Derived.Test.YtnbmiejjkkgckaaZP
import Derived.Test.YtnbmiejjkkgckaaZB
set_option linter.unusedSimpArgs false
set_option linter.unusedVariables false
set_option linter.unusedSimpArgs false
set_option linter.unusedVariables false
set_option linter.unnecessarySimpa false
namespace Go.Proofs.Ytnbmiejjkkgckaa
open Go.RowKit

mutual
/-- the numbers of blocks that a value names -/
def V.ment : V → List Nat
  | .own i => [i]
  | .ptr i _ => [i]
  | .rptr i .. => [i]
  | .agg cs => V.ments cs
  | .tup cs => V.ments cs
  | .clo _ cs => V.ments cs
  | .cond _ x => V.ment x
  | _ => []
def V.ments : List V → List Nat
  | [] => []
  | x :: xs => V.ment x ++ V.ments xs
end
def HeapOn (M : List Nat) (h h' : Heap) : Prop := ∀ q b, q ∈ M → h.look q = some b → h'.look q = some b
def HeapExt (h h' : Heap) : Prop := ∀ q b, h.look q = some b → h'.look q = some b
def EvSame (σ σ' : St) (l : List Operand) : Prop := ∀ y ∈ l, σ'.ev y = σ.ev y

theorem useV_det {G : Bool} {x : V} {F : V → Prop} (h : useV G x F) : ∃ y, F y ∧ ∀ F' : V → Prop, F' y → useV G x F' := by
  unfold useV at h
  cases x <;> first | exact ⟨_, h, fun F' h' => by unfold useV; exact h'⟩ | exact ⟨_, h.2, fun F' h' => by unfold useV; exact ⟨h.1, h'⟩⟩
theorem useVs_det {G : Bool} : ∀ {xs : List V} {F : List V → Prop}, useVs G xs F → ∃ ys, F ys ∧ ∀ F' : List V → Prop, F' ys → useVs G xs F'
  | [], F, h => ⟨[], h, fun F' h' => h'⟩
  | x :: xs, F, h => by
    obtain ⟨y, h1, hy⟩ := useV_det h
    obtain ⟨ys, h2, hys⟩ := useVs_det h1
    exact ⟨y :: ys, h2, fun F' h' => hy _ (hys _ h')⟩

theorem useR_mono {α : Type} {s : Prop × V} {f f' : V → RO α} {r : Prop × α} (hf : ∀ y r, f y = some r → f' y = some r) (h : useR s f = some r) : useR s f' = some r := by
  obtain ⟨p, y⟩ := s
  have h' : andR p (f y) = some r := h
  show andR p (f' y) = some r
  cases hy : f y with
  | none => rw [hy] at h'; cases h'
  | some q => rw [hy] at h'; rw [hf y q hy]; exact h'

theorem useR_monoS {α : Type} {G : Bool} {x : V} {f f' : V → RO α} {r : Prop × α} (hf : ∀ y r, (∀ q ∈ y.ment, q ∈ x.ment) → f y = some r → f' y = some r) (h : useR (strip G x) f = some r) : useR (strip G x) f' = some r := by
  have key : ∀ p y, (∀ q ∈ y.ment, q ∈ x.ment) → useR (p, y) f = some r → useR (p, y) f' = some r := by
    intro p y hy h
    have h' : andR p (f y) = some r := h
    show andR p (f' y) = some r
    cases hfy : f y with
    | none => rw [hfy] at h'; cases h'
    | some q => rw [hfy] at h'; rw [hf y q hy hfy]; exact h'
  cases x <;> exact key _ _ (fun q hq => by first | exact hq | simpa [V.ment] using hq) h
theorem HeapOn.sub {M M' : List Nat} {h h' : Heap} (he : HeapOn M h h') (hs : ∀ q ∈ M', q ∈ M) : HeapOn M' h h' := fun q b hq => he q b (hs q hq)
theorem andR_some {α : Type} {p : Prop} {r : RO α} {q : Prop × α} (h : andR p r = some q) : ∃ q', r = some q' := by
  cases r with
  | none => cases h
  | some q' => exact ⟨q', rfl⟩
theorem loadR_ext {P : Program} {G : Bool} {h h' : Heap} {t : TypeId} {x : V} (he : HeapOn x.ment h h') {r : Prop × V} (hr : loadR P G h t x = some r) : loadR P G h' t x = some r := by
  unfold loadR at hr ⊢
  split at hr
  · rename_i i
    cases hl : h.look i with
    | none => rw [hl] at hr; cases hr
    | some b => rw [hl] at hr; rw [he i b (by simp [V.ment]) hl]; exact hr
  · rename_i i off
    cases hl : h.look i with
    | none => rw [hl] at hr; cases hr
    | some b => rw [hl] at hr; rw [he i b (by simp [V.ment]) hl]; exact hr
  · exact hr
  · rename_i i k n j
    cases hl : h.look i with
    | none => rw [hl] at hr; cases hr
    | some b => rw [hl] at hr; rw [he i b (by simp [V.ment]) hl]; exact hr
  · cases hr
theorem fieldAddrR_ext {h h' : Heap} {off : Nat} {x : V} (he : HeapOn x.ment h h') {r : Prop × V} (hr : fieldAddrR h off x = some r) : fieldAddrR h' off x = some r := by
  unfold fieldAddrR at hr ⊢
  split at hr
  · rename_i i
    cases hl : h.look i with
    | none => rw [hl] at hr; cases hr
    | some b => rw [hl] at hr; rw [he i b (by simp [V.ment]) hl]; exact hr
  · rename_i i off
    cases hl : h.look i with
    | none => rw [hl] at hr; cases hr
    | some b => rw [hl] at hr; rw [he i b (by simp [V.ment]) hl]; exact hr
  · exact hr
  · rename_i i k n j
    cases hl : h.look i with
    | none => rw [hl] at hr; cases hr
    | some b => rw [hl] at hr; rw [he i b (by simp [V.ment]) hl]; exact hr
  · cases hr
theorem fieldAddrR1_ext {P : Program} {h h' : Heap} {q : Option (Nat × TypeId)} {x : V} (he : HeapOn x.ment h h') {r : Prop × V} (hr : fieldAddrR1 P h q x = some r) : fieldAddrR1 P h' q x = some r := by
  cases q with
  | none => cases hr
  | some q =>
    obtain ⟨off, ft⟩ := q
    have hr' : fieldAddrR1.fieldAddrR2 h off (P.szT ft) x = some r := hr
    show fieldAddrR1.fieldAddrR2 h' off (P.szT ft) x = some r
    cases hs : P.szT ft with
    | none => rw [hs] at hr'; cases hr'
    | some n => cases n with
      | zero => rw [hs] at hr'; cases hr'
      | succ n => rw [hs] at hr'; exact fieldAddrR_ext he hr'
theorem indexAddrR_ext {P : Program} {G : Bool} {h h' : Heap} {e : Option TypeId} {x ix : V} (he : HeapOn x.ment h h') {r : Prop × V} (hr : indexAddrR P G h e x ix = some r) : indexAddrR P G h' e x ix = some r := by
  unfold indexAddrR at hr ⊢
  split at hr
  · unfold indexAddrR.ixA at hr ⊢
    split at hr
    · exact hr
    · rename_i i
      cases hl : h.look i with
      | none => rw [hl] at hr; cases hr
      | some b => rw [hl] at hr; rw [he i b (by simp [V.ment]) hl]; exact hr
    · cases hr
  · cases hr
theorem nilCheckR_ext {h h' : Heap} {x : V} (he : HeapOn x.ment h h') {r : Prop × V} (hr : nilCheckR h x = some r) : nilCheckR h' x = some r := by
  unfold nilCheckR at hr ⊢
  split at hr
  · rename_i i
    cases hl : h.look i with
    | none => rw [hl] at hr; cases hr
    | some b => rw [hl] at hr; rw [he i b (by simp [V.ment]) hl]; exact hr
  · rename_i i off
    cases hl : h.look i with
    | none => rw [hl] at hr; cases hr
    | some b => rw [hl] at hr; rw [he i b (by simp [V.ment]) hl]; exact hr
  · exact hr
  · rename_i i k n j
    cases hl : h.look i with
    | none => rw [hl] at hr; cases hr
    | some b => rw [hl] at hr; rw [he i b (by simp [V.ment]) hl]; exact hr
  · exact hr
  · exact hr
  · cases hr
theorem lenR_ext {h h' : Heap} {u : Option TypeDesc} {x : V} (he : HeapOn x.ment h h') {r : Prop × V} (hr : lenR u h x = some r) : lenR u h' x = some r := by
  unfold lenR at hr ⊢
  split at hr
  · exact hr
  · exact hr
  · exact hr
  · rename_i i
    cases hl : h.look i with
    | none => rw [hl] at hr; cases hr
    | some b => rw [hl] at hr; rw [he i b (by simp [V.ment]) hl]; exact hr
  · rename_i i
    cases hl : h.look i with
    | none => rw [hl] at hr; cases hr
    | some b => rw [hl] at hr; rw [he i b (by simp [V.ment]) hl]; exact hr
  · cases hr
theorem indexAddrA_ext {P : Program} {G : Bool} {h h' : Heap} {u : Option TypeDesc} {e : Option TypeId} {x ix : V} (he : HeapOn x.ment h h') {r : Prop × V} (hr : indexAddrA P G h u e x ix = some r) : indexAddrA P G h' u e x ix = some r := by
  unfold indexAddrA at hr ⊢
  split at hr
  · unfold indexAddrA.iaS at hr ⊢
    split at hr
    · rename_i k i hk
      cases hl : h.look i with
      | none => rw [hl] at hr; cases hr
      | some b => rw [hl] at hr; rw [he i b (by simp [V.ment]) hl]; exact hr
    · rename_i k i off hk
      cases hl : h.look i with
      | none => rw [hl] at hr; cases hr
      | some b => rw [hl] at hr; rw [he i b (by simp [V.ment]) hl]; exact hr
    · cases hr
  · exact indexAddrR_ext he hr
theorem slcR_ext {P : Program} {G : Bool} {h h' : Heap} {u : Option TypeDesc} {x : V} {lo hi : Option V} (he : HeapOn x.ment h h') {r : Prop × V} (hr : slcR P G h u x lo hi = some r) : slcR P G h' u x lo hi = some r := by
  unfold slcR at hr ⊢
  split at hr
  · exact hr
  · exact hr
  · rename_i e i
    cases hl : h.look i with
    | none => rw [hl] at hr; cases hr
    | some b => rw [hl] at hr; rw [he i b (by simp [V.ment]) hl]; exact hr
  · cases hr
theorem lookupR_ext {P : Program} {h h' : Heap} {ok : Bool} {u : Option (TypeId × TypeId)} {x ix : V} (he : HeapOn x.ment h h') {r : Prop × V} (hr : lookupR P h ok u x ix = some r) : lookupR P h' ok u x ix = some r := by
  unfold lookupR at hr ⊢
  split at hr
  · rename_i kt et i k
    cases hl : h.look i with
    | none => rw [hl] at hr; unfold lookupR.lkA at hr; split at hr <;> first | (rename_i hx; cases hx) | cases hr
    | some b => rw [hl] at hr; rw [he i b (by simp [V.ment]) hl]; exact hr
  · cases hr
theorem evs_same {σ σ' : St} : ∀ (l : List Operand), (∀ y ∈ l, σ'.ev y = σ.ev y) → evs σ' l = evs σ l
  | [], _ => rfl
  | x :: r, h => by
    simp only [evs]
    rw [h x (by simp), evs_same r (fun y hy => h y (by simp [hy]))]
theorem evO_same {σ σ' : St} {o : Option Operand} (h : ∀ y, o = some y → σ'.ev y = σ.ev y) : evO σ' o = evO σ o := by
  cases o with
  | none => rfl
  | some y => simp only [evO]; rw [h y rfl]

theorem partsE_same {σ σ' : St} : ∀ (l : List (Nat × Operand)), (∀ p ∈ l, σ'.ev p.2 = σ.ev p.2) → partsE σ' l = partsE σ l
  | [], _ => rfl
  | (i, x) :: r, h => by
    simp only [partsE]
    rw [h (i, x) (by simp), partsE_same r (fun p hp => h p (by simp [hp]))]

theorem lookR_sim {P : Program} {G : Bool} {σ σ' : St} {op : Op} (he : EvSame σ σ' op.operands.toList) (hh : ∀ y ∈ op.operands.toList, HeapOn (σ.ev y).ment σ.h σ'.h) {r : Prop × V} (h : lookR P G σ op = some r) : lookR P G σ' op = some r := by
  unfold lookR at h ⊢
  cases op with
  | move x => dsimp only at h ⊢; rw [he x (by simp [Op.operands])]; exact h
  | assign x => dsimp only at h ⊢; rw [he x (by simp [Op.operands])]; exact h
  | pick c a b => dsimp only at h ⊢; rw [he c (by simp [Op.operands]), he a (by simp [Op.operands]), he b (by simp [Op.operands])]; exact h
  | unOp op t x => dsimp only at h ⊢; rw [he x (by simp [Op.operands])]; exact h
  | binOp op t x y u => dsimp only at h ⊢; rw [he x (by simp [Op.operands]), he y (by simp [Op.operands])]; exact h
  | load t a => dsimp only at h ⊢; rw [he a (by simp [Op.operands])]; exact useR_monoS (fun y r hy hr => loadR_ext ((hh a (by simp [Op.operands])).sub hy) hr) h
  | fieldAddr t x f => dsimp only at h ⊢; rw [he x (by simp [Op.operands])]; exact useR_monoS (fun y r hy hr => fieldAddrR1_ext ((hh x (by simp [Op.operands])).sub hy) hr) h
  | field t x f => dsimp only at h ⊢; rw [he x (by simp [Op.operands])]; exact h
  | index t x ix => dsimp only at h ⊢; rw [he x (by simp [Op.operands]), he ix (by simp [Op.operands])]; exact h
  | indexAddr t x ix => dsimp only at h ⊢; rw [he x (by simp [Op.operands]), he ix (by simp [Op.operands])]; exact useR_monoS (fun y r hy hr => useR_mono (fun z r hz => indexAddrA_ext ((hh x (by simp [Op.operands])).sub hy) hz) hr) h
  | extract x i => dsimp only at h ⊢; rw [he x (by simp [Op.operands])]; exact h
  | build t parts =>
    dsimp only at h ⊢
    rw [partsE_same parts.toList (fun p hp => he p.2 (by simp only [Op.operands, List.toList_toArray]; exact List.mem_map.2 ⟨p, hp, rfl⟩))]
    exact h
  | nilCheck x => dsimp only at h ⊢; rw [he x (by simp [Op.operands])]; exact useR_monoS (fun y r hy hr => nilCheckR_ext ((hh x (by simp [Op.operands])).sub hy) hr) h
  | convert s d x => dsimp only at h ⊢; rw [he x (by simp [Op.operands])]; exact h
  | slice t x lo hi mx =>
    cases mx with
    | some y => cases h
    | none =>
      dsimp only at h ⊢
      rw [he x (by simp [Op.operands]), evO_same (σ := σ) (σ' := σ') (o := lo) (fun y hy => he y (by subst hy; simp [Op.operands])), evO_same (σ := σ) (σ' := σ') (o := hi) (fun y hy => he y (by subst hy; simp [Op.operands]))]
      exact useR_monoS (fun y r hy hr => slcR_ext ((hh x (by simp [Op.operands])).sub hy) hr) h
  | lookup t x ix ok => dsimp only at h ⊢; rw [he x (by simp [Op.operands]), he ix (by simp [Op.operands])]; exact useR_monoS (fun y r hy hr => useR_mono (fun z r hz => lookupR_ext ((hh x (by simp [Op.operands])).sub hy) hz) hr) h
  | makeFunc fn first cs =>
    dsimp only at h ⊢
    rw [evs_same (σ := σ) (σ' := σ') cs.toList (fun y hy => he y (by simp [Op.operands]; exact .inr (by simpa using hy)))]
    exact h
  | _ => cases h

theorem kR_some_of {α : Type} {r : RO α} {K : α → Prop} (h : kR r K) : ∃ p v, r = some (p, v) ∧ p ∧ K v := by
  cases r with
  | none => exact h.elim
  | some q => exact ⟨q.1, q.2, rfl, h.1, h.2⟩

mutual
theorem lend_ext {h h' : Heap} : ∀ (x : V), HeapOn x.ment h h' → (x.lend1 h).pure = true → x.lend1 h' = x.lend1 h
  | .own i, he, hp => by
    unfold V.lend1 at hp ⊢
    cases hl : h.look i with
    | none => simp [lendC, lendB, hl, lendO, V.pure] at hp
    | some b =>
      have hl' := he i b (by simp [V.ment]) hl
      have h0 : lendC h' 0 = lendC h 0 := by funext x; cases x <;> rfl
      simp only [lendC, hl, hl', h0]
  | .clo f cs, he, hp => by simp only [V.lend1, V.pure, V.ment] at he hp ⊢; rw [lends_ext cs he hp]
  | .agg cs, he, hp => by simp only [V.lend1, V.pure, V.ment] at he hp ⊢; rw [lends_ext cs he hp]
  | .tup cs, he, hp => by simp only [V.lend1, V.pure, V.ment] at he hp ⊢; rw [lends_ext cs he hp]
  | .t _, _, _ => by simp only [V.lend1]
  | .ptr .., _, _ => by simp only [V.lend1]
  | .rptr .., _, _ => by simp only [V.lend1]
  | .elem .., _, _ => by simp only [V.lend1]
  | .cond .., _, _ => by simp only [V.lend1]
  | .dead, _, _ => by simp only [V.lend1]
theorem lends_ext {h h' : Heap} : ∀ (xs : List V), HeapOn (V.ments xs) h h' → V.pures (V.lends1 h xs) = true → V.lends1 h' xs = V.lends1 h xs
  | [], _, _ => rfl
  | x :: xs, he, hp => by
    simp only [V.lends1, V.pures, V.ments, Bool.and_eq_true] at he hp ⊢
    rw [lend_ext x (he.sub fun q hq => List.mem_append_left _ hq) hp.1, lends_ext xs (he.sub fun q hq => List.mem_append_right _ hq) hp.2]
end

theorem useV_ment {G : Bool} {x y : V} (h : ∀ F' : V → Prop, F' y → useV G x F') : ∀ q ∈ y.ment, q ∈ x.ment := by
  have h1 := h (fun z => z = y) rfl
  unfold useV at h1
  split at h1
  · intro q hq; rw [← h1.2] at hq; simpa [V.ment] using hq
  · intro q hq; rw [← h1] at hq; exact hq
theorem useVs_ments {G : Bool} : ∀ {xs ys : List V}, (∀ F' : List V → Prop, F' ys → useVs G xs F') → ∀ q ∈ V.ments ys, ∃ x ∈ xs, q ∈ x.ment
  | [], ys, h, q, hq => by
    have h1 : [] = ys := h (fun z => z = ys) rfl
    subst h1
    simp [V.ments] at hq
  | x :: xs, ys, h, q, hq => by
    have h1 : useV G x fun x' => useVs G xs fun xs' => x' :: xs' = ys := h (fun z => z = ys) rfl
    obtain ⟨y', h2, hy'⟩ := useV_det h1
    obtain ⟨ys', h3, hys'⟩ := useVs_det h2
    subst h3
    simp only [V.ments, List.mem_append] at hq
    rcases hq with hq | hq
    · exact ⟨x, by simp, useV_ment hy' q hq⟩
    · obtain ⟨z, hz, hm⟩ := useVs_ments hys' q hq
      exact ⟨z, by simp [hz], hm⟩
theorem useVs_ment {P : Program} {G : Bool} {σ : St} {c : Call} {ys : List V} (h : ∀ F' : List V → Prop, F' ys → useVs G (c.args.toList.map σ.ev) F') : ∀ q ∈ V.ments ys, ∃ y ∈ (Op.call c).operands.toList, q ∈ (σ.ev y).ment := by
  intro q hq
  obtain ⟨x, hx, hm⟩ := useVs_ments h q hq
  obtain ⟨y, hy, rfl⟩ := List.mem_map.1 hx
  exact ⟨y, by simp [Op.operands, Call.operands]; exact .inr (by simpa using hy), hm⟩
theorem map_same {σ σ' : St} : ∀ (l : List Operand), EvSame σ σ' l → l.map σ'.ev = l.map σ.ev
  | [], _ => rfl
  | x :: l, h => by
    simp only [List.map_cons]
    rw [h x (by simp), map_same l (fun y hy => h y (by simp [hy]))]

/-- an operation that only looks, or a call that only reads: it yields the same in every like state -/
theorem pstep_stable {P : Program} {G : Bool} {σ : St} {op : Op} {K : V → Prop} (h : pstep P G σ op K) :
    ∃ x, K x ∧ ∀ σ', EvSame σ σ' op.operands.toList → (∀ y ∈ op.operands.toList, HeapOn (σ.ev y).ment σ.h σ'.h) → ∀ K' : V → Prop, K' x → pstep P G σ' op K' := by
  have key : ∀ op, kR (lookR P G σ op) K → ∃ x, K x ∧ ∀ σ', EvSame σ σ' op.operands.toList → (∀ y ∈ op.operands.toList, HeapOn (σ.ev y).ment σ.h σ'.h) → ∀ K' : V → Prop, K' x → kR (lookR P G σ' op) K' := by
    intro op h
    obtain ⟨p, x, hr, hp, hk⟩ := kR_some_of h
    exact ⟨x, hk, fun σ' he hh K' hk' => by rw [lookR_sim he hh hr]; exact ⟨hp, hk'⟩⟩
  unfold pstep at h
  split at h
  · rename_i c
    obtain ⟨callee, args, tys⟩ := c
    unfold callC at h
    dsimp only at h
    split at h
    · obtain ⟨p, x, hr, hp, hk⟩ := kR_some_of h
      refine ⟨x, hk, fun σ' he hh K' hk' => ?_⟩
      show kR (callC.lenC P G σ' args.toList tys.toList) K'
      unfold callC.lenC at hr
      split at hr
      · rename_i y t r hy ht
        rw [hy, ht]
        show kR (useR (strip G (σ'.ev y)) fun x' => lenR (P.underlying t) σ'.h x') K'
        have e1 : σ'.ev y = σ.ev y := he y (by simp [Op.operands, Call.operands, hy])
        rw [e1, useR_monoS (fun z r hz hr => lenR_ext ((hh y (by simp [Op.operands, Call.operands, hy])).sub hz) hr) hr]
        exact ⟨hp, hk'⟩
      · cases hr
    · obtain ⟨p, x, hr, hp, hk⟩ := kR_some_of h
      refine ⟨x, hk, fun σ' he hh K' hk' => ?_⟩
      show kR (callC.mmC G σ' .min args.toList) K'
      unfold callC.mmC at hr
      split at hr
      · rename_i y z hy
        rw [hy]
        show kR (useR (strip G (σ'.ev y)) fun x' => useR (strip G (σ'.ev z)) fun y' => mmR .min x' y') K'
        rw [he y (by simp [Op.operands, Call.operands, hy]), he z (by simp [Op.operands, Call.operands, hy]), hr]
        exact ⟨hp, hk'⟩
      · cases hr
    · obtain ⟨p, x, hr, hp, hk⟩ := kR_some_of h
      refine ⟨x, hk, fun σ' he hh K' hk' => ?_⟩
      show kR (callC.mmC G σ' .max args.toList) K'
      unfold callC.mmC at hr
      split at hr
      · rename_i y z hy
        rw [hy]
        show kR (useR (strip G (σ'.ev y)) fun x' => useR (strip G (σ'.ev z)) fun y' => mmR .max x' y') K'
        rw [he y (by simp [Op.operands, Call.operands, hy]), he z (by simp [Op.operands, Call.operands, hy]), hr]
        exact ⟨hp, hk'⟩
      · cases hr
    · rename_i f
      obtain ⟨ys, h1, hys⟩ := useVs_det h
      have hargs : ∀ σ', EvSame σ σ' (Op.call { callee := .value (.func f), args := args, argTypes := tys }).operands.toList → args.toList.map σ'.ev = args.toList.map σ.ev := fun σ' he =>
        map_same _ fun y hy => he y (by simp [Op.operands, Call.operands]; exact .inr (by simpa using hy))
      have hment := useVs_ment (P := P) (σ := σ) (c := { callee := .value (.func f), args := args, argTypes := tys }) hys
      unfold callPV at h1
      split at h1
      · rename_i hp
        obtain ⟨r, hc, hk⟩ := h1
        refine ⟨r, hk, fun σ' he hh K' hk' => ?_⟩
        unfold pstep callC
        dsimp only
        rw [hargs σ' he]
        refine hys _ ?_
        unfold callPV
        rw [if_pos hp]
        exact ⟨r, hc, hk'⟩
      · rename_i hp
        obtain ⟨hpl, r, hc, hs, hk⟩ := h1
        refine ⟨r, hk, fun σ' he hh K' hk' => ?_⟩
        unfold pstep callC
        dsimp only
        rw [hargs σ' he]
        refine hys _ ?_
        unfold callPV
        rw [if_neg hp, lends_ext ys (fun q b hq => by
          obtain ⟨y, hy, hm⟩ := hment q hq
          exact hh y hy q b hm) hpl]
        exact ⟨hpl, r, hc, hs, hk'⟩
    · exact h.elim
  · rename_i op t x y u
    unfold pstep.bstep at h
    split at h
    · rename_i hagg
      obtain ⟨x', h1, hx'⟩ := useV_det h
      obtain ⟨y', h2, hy'⟩ := useV_det h1
      unfold eqC at h2
      split at h2
      · rename_i xs ys
        obtain ⟨b, hb, hk⟩ := h2
        refine ⟨_, hk, fun σ' he hh K' hk' => ?_⟩
        show pstep.bstep P G σ' op t x y u (isAggOp P (.binOp op t x y u)) K'
        rw [hagg]
        unfold pstep.bstep
        dsimp only
        rw [he x (by simp [Op.operands]), he y (by simp [Op.operands])]
        exact hx' _ (hy' _ ⟨b, hb, hk'⟩)
      · exact h2.elim
    · rename_i hagg
      obtain ⟨x', hk, hst⟩ := key _ h
      refine ⟨x', hk, fun σ' he hh K' hk' => ?_⟩
      show pstep.bstep P G σ' op t x y u (isAggOp P (.binOp op t x y u)) K'
      rw [hagg]
      exact hst σ' he hh K' hk'
  · rename_i op h1 h2
    obtain ⟨x', hk, hst⟩ := key _ h
    refine ⟨x', hk, fun σ' he hh K' hk' => ?_⟩
    unfold pstep
    split
    · exact (h1 _ rfl).elim
    · exact (h2 _ _ _ _ _ rfl).elim
    · exact hst σ' he hh K' hk'

/-! two operations that have nothing to do with one another -/
theorem ev_put {σ : St} {d : Option Tmp} {x : V} {y : Operand} (h : ∀ t, d = some t → y ≠ .tmp t) : (σ.put d x).ev y = σ.ev y := by
  cases d with
  | none => rfl
  | some t =>
    cases y with
    | tmp u =>
      have : t ≠ u := fun e => h t rfl (by rw [e])
      simp [St.ev, St.put, List.getD_eq_getElem?_getD, List.getElem?_set_ne this]
    | _ => rfl
theorem put_comm {σ : St} {d e : Option Tmp} {x y : V} (h : ∀ t, d = some t → e ≠ some t) : (σ.put d x).put e y = (σ.put e y).put d x := by
  cases d with
  | none => rfl
  | some t =>
    cases e with
    | none => rfl
    | some u =>
      have : t ≠ u := fun h' => h t rfl (by rw [h'])
      simp only [St.put]
      rw [List.set_comm _ _ this]
theorem kR_mono {α : Type} {r : RO α} {K K' : α → Prop} (hk : ∀ v, K v → K' v) (h : kR r K) : kR r K' := by
  cases r with
  | none => exact h.elim
  | some q => exact ⟨h.1, hk _ h.2⟩
theorem evsame_put {σ : St} {d : Option Tmp} {x : V} {l : List Operand} (h : ∀ t, d = some t → .tmp t ∉ l) : EvSame σ (σ.put d x) l := fun y hy => ev_put fun t ht e => h t ht (e ▸ hy)
theorem put_h {σ : St} {d : Option Tmp} {x : V} : (σ.put d x).h = σ.h := by cases d <;> rfl
theorem put_nx {σ : St} {d : Option Tmp} {x : V} : (σ.put d x).nx = σ.nx := by cases d <;> rfl
theorem put_add {σ : St} {d : Option Tmp} {x : V} {blk : Blk} : (σ.put d x).add blk = (σ.add blk).put d x := by cases d <;> rfl
theorem put_heap {σ : St} {d : Option Tmp} {x : V} {h : Heap} : ({ σ.put d x with h := h } : St) = ({ σ with h := h } : St).put d x := by cases d <;> rfl

def WFh (σ : St) : Prop := ∀ q, σ.nx ≤ q → σ.h.look q = none
/-- what an operation leaves of the state: its own slot, and blocks that were there -/
def Kept (σ σ' : St) (d : Option Tmp) : Prop := HeapExt σ.h σ'.h ∧ WFh σ' ∧ ∀ y : Operand, (∀ t, d = some t → y ≠ .tmp t) → σ'.ev y = σ.ev y
theorem kept_put {σ : St} {d : Option Tmp} {x : V} (hw : WFh σ) : Kept σ (σ.put d x) d := by
  refine ⟨fun q b h => by rw [put_h]; exact h, fun q hq => ?_, fun y hy => ev_put hy⟩
  rw [put_h]; rw [put_nx] at hq; exact hw q hq
theorem kept_add {σ : St} {d : Option Tmp} {x : V} {blk : Blk} (hw : WFh σ) : Kept σ ((σ.add blk).put d x) d := by
  refine ⟨fun q b h => ?_, fun q hq => ?_, fun y hy => ?_⟩
  · rw [put_h]
    simp only [St.add, Heap.look]
    rw [if_neg (fun e => by subst e; rw [hw _ (Nat.le_refl _)] at h; cases h)]
    exact h
  · rw [put_h]; rw [put_nx] at hq
    simp only [St.add, Heap.look] at hq ⊢
    rw [if_neg (by omega)]
    exact hw q (by omega)
  · rw [ev_put hy]; cases y <;> rfl

def heavy (P : Program) (op : Op) : Bool :=
  match op with
  | .store .. | .makeMap .. | .makeSlice .. | .mapUpdate .. | .insert .. | .defer _ => true
  | .call { callee := .builtin .append, .. } => true
  | .call { callee := .value (.func f), .. } => P.ioF f
  | .call { callee := .value _, .. } => true
  | _ => false

/-- an operation, in a state that differs in a slot that it has nothing to do with -/
theorem estep_comm {P : Program} {σ : St} {d dj : Option Tmp} {x : V} {op : Op} {K : St → Prop} (ho : ∀ t, d = some t → .tmp t ∉ op.operands.toList) (hd : ∀ t, d = some t → dj ≠ some t) (hh : heavy P op = false) (hw : WFh σ)
    (h : estep P (σ.put d x) dj op K) : estep P σ dj op (fun σ' => K (σ'.put d x) ∧ Kept σ σ' dj) := by
  have hp : ∀ op, (∀ t, d = some t → .tmp t ∉ op.operands.toList) → pstep P true (σ.put d x) op (kPut K (σ.put d x) dj) → pstep P true σ op (kPut (fun σ' => K (σ'.put d x) ∧ Kept σ σ' dj) σ dj) := by
    intro op ho h
    obtain ⟨y, hk, hst⟩ := pstep_stable h
    refine hst σ (fun z hz => (evsame_put ho z hz).symm) (fun z hz q b _ hq => by rw [put_h] at hq; exact hq) _ ?_
    unfold kPut at hk ⊢
    rw [put_comm hd] at hk
    exact ⟨hk, kept_put hw⟩
  cases op with
  | box t y =>
    unfold estep at h ⊢
    dsimp only at h ⊢
    rw [ev_put (fun t ht e => ho t ht (by rw [← e]; simp [Op.operands]))] at h
    refine kR_mono (fun blk hb => ?_) h
    unfold kAdd at hb ⊢
    rw [put_add, put_comm hd, put_nx] at hb
    exact ⟨hb, kept_add hw⟩
  | alloc t =>
    unfold estep at h ⊢
    dsimp only at h ⊢
    refine kR_mono (fun blk hb => ?_) h
    unfold kAdd at hb ⊢
    rw [put_add, put_comm hd, put_nx] at hb
    exact ⟨hb, kept_add hw⟩
  | buildSlice t n parts =>
    unfold estep at h ⊢
    dsimp only at h ⊢
    rw [partsE_same parts.toList (fun p hp => ev_put fun t ht e => ho t ht (by rw [← e]; simp only [Op.operands, List.toList_toArray]; exact List.mem_map.2 ⟨p, hp, rfl⟩))] at h
    refine kR_mono (fun blk hb => ?_) h
    unfold kAdd at hb ⊢
    rw [put_add, put_comm hd, put_nx] at hb
    exact ⟨hb, kept_add hw⟩
  | store t p y => cases hh
  | insert _ _ _ _ => cases hh
  | makeMap _ _ => cases hh
  | makeSlice _ _ _ => cases hh
  | mapUpdate _ _ _ _ => cases hh
  | call c =>
    unfold estep ecall at h ⊢
    dsimp only at h ⊢
    obtain ⟨callee, args, tys⟩ := c
    cases callee with
    | builtin b =>
      cases b with
      | append => cases hh
      | _ => exact hp _ ho h
    | invoke r m => exact hp _ ho h
    | value g =>
      cases g with
      | func f =>
        have hio : P.ioF f = false := hh
        dsimp only at h ⊢
        rw [hio] at h ⊢
        exact hp _ ho h
      | _ => exact hp _ ho h
  | _ => exact hp _ ho h

theorem guardS_same {ops : List Oper} {σ : St} {d : Option Tmp} {x : V} {j : Nat} {want : Bool} (h : ∀ t, d = some t → slotOf ops j ≠ some t) : guardS ops (σ.put d x) j want = guardS ops σ j want := by
  unfold guardS
  split
  · rename_i t ht
    cases d with
    | none => rfl
    | some u =>
      have : u ≠ t := fun e => h u rfl (by rw [e]; exact ht)
      simp [St.put, List.getD_eq_getElem?_getD, List.getElem?_set_ne this]
  · rfl

theorem gstep_comm {P : Program} {ops : List Oper} {σ : St} {d dj : Option Tmp} {x : V} {op : Op} {g : Option (Nat × Bool)} {K : St → Prop} (ho : ∀ t, d = some t → .tmp t ∉ op.operands.toList) (hg : ∀ t j w, d = some t → g = some (j, w) → slotOf ops j ≠ some t)
    (hd : ∀ t, d = some t → dj ≠ some t) (hh : heavy P op = false) (hw : WFh σ) (h : ostep P ops (σ.put d x) dj op g K) : ostep P ops σ dj op g (fun σ' => K (σ'.put d x) ∧ Kept σ σ' dj) := by
  unfold ostep at h ⊢
  split
  · exact estep_comm ho hd hh hw h
  · rename_i j want
    dsimp only at h
    rw [guardS_same (fun t ht => hg t j want ht rfl)] at h
    unfold gstep at h ⊢
    split
    · rename_i g' hg'
      rw [hg'] at h
      dsimp only at h
      split
      · rename_i hm
        rw [if_pos hm] at h
        obtain ⟨y, hk, hst⟩ := pstep_stable h
        refine hst σ (fun z hz => (evsame_put ho z hz).symm) (fun z hz q b _ hq => by rw [put_h] at hq; exact hq) _ ?_
        unfold kCond at hk ⊢
        rw [put_comm hd] at hk
        exact ⟨hk, kept_put hw⟩
      · rename_i hm
        rw [if_neg hm] at h
        refine ⟨fun hgt => estep_comm ho hd hh hw (h.1 hgt), fun hgf => ?_⟩
        have := h.2 hgf
        rw [put_comm hd] at this
        exact ⟨this, kept_put hw⟩
    · rename_i hg'
      rw [hg'] at h
      exact h.elim

/-- an operation that may be taken first: what it yields -/
theorem ostep_stable {P : Program} {ops : List Oper} {σ : St} {d : Option Tmp} {op : Op} {g : Option (Nat × Bool)} {K : St → Prop} (hm : merges P op = true) (h : ostep P ops σ d op g K) :
    ∃ y, K (σ.put d y) ∧ ∀ σ', EvSame σ σ' op.operands.toList → (∀ y ∈ op.operands.toList, HeapOn (σ.ev y).ment σ.h σ'.h) → (∀ j w, g = some (j, w) → ∀ t, slotOf ops j = some t → σ'.ev (.tmp t) = σ.ev (.tmp t)) → ∀ K' : St → Prop, K' (σ'.put d y) → ostep P ops σ' d op g K' := by
  unfold ostep at h
  split at h
  · have h1 : pstep P true σ op (kPut K σ d) := by
      cases op with
      | box _ _ => cases hm
      | alloc _ => cases hm
      | store _ _ _ => cases hm
      | insert _ _ _ _ => cases hm
      | makeMap _ _ => cases hm
      | makeSlice _ _ _ => cases hm
      | mapUpdate _ _ _ _ => cases hm
      | buildSlice _ _ _ => cases hm
      | call c =>
        unfold estep ecall at h
        dsimp only at h
        obtain ⟨callee, args, tys⟩ := c
        cases callee with
        | builtin b =>
          cases b with
          | append => cases hm
          | _ => exact h
        | invoke r m => exact h
        | value g =>
          cases g with
          | func f =>
            have hio : P.ioF f = false := by simpa [merges] using hm
            dsimp only at h
            rw [hio] at h
            exact h
          | _ => exact h
      | _ => exact h
    obtain ⟨y, hk, hst⟩ := pstep_stable h1
    refine ⟨y, hk, fun σ' he hh _ K' hk' => ?_⟩
    have h2 := hst σ' he hh (kPut K' σ' d) hk'
    unfold ostep
    cases op with
    | box _ _ => cases hm
    | alloc _ => cases hm
    | store _ _ _ => cases hm
    | insert _ _ _ _ => cases hm
    | makeMap _ _ => cases hm
    | makeSlice _ _ _ => cases hm
    | mapUpdate _ _ _ _ => cases hm
    | buildSlice _ _ _ => cases hm
    | call c =>
      dsimp only
      unfold estep ecall
      dsimp only
      obtain ⟨callee, args, tys⟩ := c
      cases callee with
      | builtin b =>
        cases b with
        | append => cases hm
        | _ => exact h2
      | invoke r m => exact h2
      | value g =>
        cases g with
        | func f =>
          have hio : P.ioF f = false := by simpa [merges] using hm
          dsimp only
          rw [hio]
          exact h2
        | _ => exact h2
    | _ => exact h2
  · rename_i j want
    unfold gstep at h
    split at h
    · rename_i g' hg'
      rw [if_pos hm] at h
      obtain ⟨y, hk, hst⟩ := pstep_stable h
      refine ⟨.cond g' y, hk, fun σ' he hh hs K' hk' => ?_⟩
      unfold ostep
      dsimp only
      have : guardS ops σ' j want = some g' := by
        rw [← hg']
        unfold guardS
        split
        · rename_i t ht
          have := hs j want rfl t ht
          simp only [St.ev] at this
          rw [this]
        · rfl
      rw [this]
      unfold gstep
      dsimp only
      rw [if_pos hm]
      exact hst σ' he hh (kCond K' σ' d g') hk'
    · exact h.elim
end Go.Proofs.Ytnbmiejjkkgckaa
/- Proved here: Regions that draw their order, on the abstract machine: the rule, for use in the proofs of the given statements; conditions stand in each theorem. -/
set_option linter.unusedSimpArgs false
set_option linter.unusedVariables false
set_option linter.unnecessarySimpa false
namespace Go.Proofs.Ytnbmiejjkkgckaa
open Go.RowKit

theorem pstep_mono {P : Program} {G : Bool} {σ : St} {op : Op} {K K' : V → Prop} (hk : ∀ v, K v → K' v) (h : pstep P G σ op K) : pstep P G σ op K' := by
  obtain ⟨x, h1, h2⟩ := pstep_stable h
  exact h2 σ (fun _ _ => rfl) (fun _ _ _ _ _ h => h) K' (hk x h1)
theorem estep_mono {P : Program} {σ : St} {d : Option Tmp} {op : Op} {K K' : St → Prop} (hk : ∀ σ, K σ → K' σ) (h : estep P σ d op K) : estep P σ d op K' := by
  have hp : ∀ op, pstep P true σ op (kPut K σ d) → pstep P true σ op (kPut K' σ d) := fun op h => pstep_mono (fun v hv => hk _ hv) h
  cases op with
  | box t y => unfold estep at h ⊢; exact kR_mono (fun v hv => hk _ hv) h
  | alloc t => unfold estep at h ⊢; exact kR_mono (fun v hv => hk _ hv) h
  | buildSlice t n parts => unfold estep at h ⊢; exact kR_mono (fun v hv => hk _ hv) h
  | store t p y => unfold estep at h ⊢; exact ⟨h.1, kR_mono (fun v hv => hk _ hv) h.2⟩
  | makeMap t r =>
    cases r with
    | none => unfold estep at h ⊢; exact hk _ h
    | some r => unfold estep at h ⊢; exact hp _ h
  | makeSlice t l c => unfold estep at h ⊢; exact kR_mono (fun v hv => hk _ hv) h
  | mapUpdate t m k x => unfold estep at h ⊢; exact ⟨h.1, kR_mono (fun v hv => hk _ hv) h.2⟩
  | insert t m k x => unfold estep at h ⊢; exact ⟨h.1, kR_mono (fun v hv => hk _ hv) h.2⟩
  | call c =>
    unfold estep ecall at h ⊢
    dsimp only at h ⊢
    obtain ⟨callee, args, tys⟩ := c
    cases callee with
    | builtin b =>
      cases b with
      | append => exact kR_mono (fun v hv => hk _ hv) h
      | _ => exact hp _ h
    | invoke r m => exact hp _ h
    | value g =>
      cases g with
      | func f =>
        dsimp only at h ⊢
        unfold callE at h ⊢
        cases hio : P.ioF f with
        | true =>
          rw [hio] at h
          obtain ⟨ys, h1, h2⟩ := useVs_det h
          exact h2 _ (ICall.mono hk h1)
        | false =>
          rw [hio] at h
          exact hp _ h
      | _ => exact hp _ h
  | _ => unfold estep at h ⊢; exact hp _ h
theorem ostep_mono {P : Program} {ops : List Oper} {σ : St} {d : Option Tmp} {op : Op} {g : Option (Nat × Bool)} {K K' : St → Prop} (hk : ∀ σ, K σ → K' σ) (h : ostep P ops σ d op g K) : ostep P ops σ d op g K' := by
  unfold ostep gstep at h ⊢
  split
  · exact estep_mono hk h
  · dsimp only at h
    split
    · rename_i hg
      rw [hg] at h
      dsimp only at h
      split
      · rename_i hm; rw [if_pos hm] at h; exact pstep_mono (fun v hv => hk _ hv) h
      · rename_i hm; rw [if_neg hm] at h; exact ⟨fun hg => estep_mono hk (h.1 hg), fun hg => hk _ (h.2 hg)⟩
    · rename_i hg; rw [hg] at h; exact h.elim

def dAny (P : Program) (ops : Array Oper) (K : St → Prop) : Nat → Array Bool → St → Prop
  | 0, listed, σ => Region.ready .any ops listed = [] ∧ K σ
  | f + 1, listed, σ => (Region.ready .any ops listed = [] → K σ) ∧ ∀ i ∈ Region.ready .any ops listed, ∃ o, ops[i]? = some o ∧ ostep P ops.toList σ o.dst o.op o.guard (dAny P ops K f (listed.setIfInBounds i true))

theorem ostep_ok {P : Program} {ops : List Oper} {Q : Exit → Act → World → Prop} {σ : St} {o : Oper} {K : St → Prop} (h : ostep P ops σ o.dst o.op o.guard K) {E : Env} {a : Act} {w : World} (hr : RelF E σ a w) {next : Act → World → Prop}
    (hn : ∀ a' w' E' σ', RelF E' σ' a' w' → Ext E w E' w' → K σ' → next a' w') : if Region.wanted o (yielded ops.toArray a.tmps) = true then o.wp P a w next Q ∨ (o.asks P a w ∧ LetsOut Q) else next (a.put o.dst undef) w := by
  unfold ostep at h
  split at h
  · rename_i hg
    have hw : Region.wanted o (yielded ops.toArray a.tmps) = true := by simp [Region.wanted, hg]
    rw [if_pos hw]
    exact .inl (estep_ok h E a w hr _ _ fun a' w' E' σ' h1 h2 h3 => hn a' w' E' σ' h1 h2 h3)
  · rename_i j want hg
    unfold gstep at h
    split at h
    · rename_i g hgs
      have hw := guard_ok hr hg hgs
      rw [hw]
      split at h
      · obtain ⟨x, hK, hy⟩ := pstep_ok h
        cases g with
        | true =>
          rw [if_pos rfl]
          exact .inl (hy rfl E a w hr _ _ fun v w' E' h1 h2 h3 _ => hn _ w' E' _ (h1.put o.dst (by rw [RdV]; exact ⟨fun _ => h3, fun h => by cases h⟩)) h2 hK)
        | false =>
          rw [if_neg (by simp)]
          exact hn _ w E _ (hr.put o.dst (by rw [RdV]; exact ⟨fun h => (by cases h), fun _ => rfl⟩)) (Ext.refl _ _) hK
      · cases g with
        | true =>
          rw [if_pos rfl]
          exact .inl (estep_ok (h.1 rfl) E a w hr _ _ fun a' w' E' σ' h1 h2 h3 => hn a' w' E' σ' h1 h2 h3)
        | false =>
          rw [if_neg (by simp)]
          exact hn _ w E _ (hr.put o.dst (by simp only [RdV])) (Ext.refl _ _) (h.2 rfl)
    · exact h.elim

theorem dAny_ok {P : Program} {ops : Array Oper} {Q : Exit → St → Prop} : ∀ (f : Nat) (listed : Array Bool) (σ : St), dAny P ops (Q .normal) f listed σ → ∀ E a w, RelF E σ a w → ∀ E0 w0, Ext E0 w0 E w → wpAny P .any ops (LiftQ E0 w0 Q) f listed a w
  | 0, listed, σ, h, E, a, w, hr, E0, w0, hE => ⟨h.1, σ, E, hr, hE, h.2⟩
  | f + 1, listed, σ, h, E, a, w, hr, E0, w0, hE => by
    refine ⟨fun h0 => ⟨σ, E, hr, hE, h.1 h0⟩, fun i hi => ?_⟩
    obtain ⟨o, ho, hs⟩ := h.2 i hi
    unfold wpOp
    rw [ho]
    dsimp only
    have := ostep_ok (Q := LiftQ E0 w0 Q) (next := wpAny P .any ops (LiftQ E0 w0 Q) f (listed.setIfInBounds i true)) hs hr (fun a' w' E' σ' h1 h2 h3 => dAny_ok f _ σ' h3 E' a' w' h1 E0 w0 (hE.trans h2))
    simpa using this

theorem looksAt_op {ops : Array Oper} {o : Oper} {d : Tmp} (h : d ∉ o.looksAt ops) : .tmp d ∉ o.op.operands.toList := by
  intro hm
  apply h
  unfold Oper.looksAt
  exact List.mem_append.2 (.inl (List.mem_filterMap.2 ⟨.tmp d, hm, rfl⟩))
theorem looksAt_guard {ops : Array Oper} {o : Oper} {d : Tmp} (h : d ∉ o.looksAt ops) {j : Nat} {w : Bool} (hg : o.guard = some (j, w)) : slotOf ops.toList j ≠ some d := by
  intro hs
  apply h
  unfold Oper.looksAt
  refine List.mem_append.2 (.inr ?_)
  rw [hg]
  dsimp only
  unfold slotOf at hs
  have e1 : ops.toList[j]? = ops[j]? := by simp
  rw [e1] at hs
  split at hs
  · rename_i o' ho'
    rw [ho']
    simp [hs]
  · cases hs

theorem dAny_first {P : Program} {ops : Array Oper} {K : St → Prop} {i : Nat} {oi : Oper} {y : V} (hi : ops[i]? = some oi)
    (hhv : ∀ (j : Nat) oj, ops[j]? = some oj → heavy P oj.op = true → mustB .any ops 16 j i = true) :
    ∀ (fuel : Nat) (listed : Array Bool) (σ : St), HeadInv .any ops ops.size listed →
      (∀ j oj, ops[j]? = some oj → j ≠ i → listed.getD j true = false → (∀ e ∈ oj.after, Region.binds .any e = true → e.on ≠ i) → oi.apart ops oj = true) →
      i ∈ Region.ready .any ops listed → WFh σ →
      (∀ σ', EvSame σ σ' oi.op.operands.toList → HeapExt σ.h σ'.h → (∀ j w, oi.guard = some (j, w) → ∀ t, slotOf ops.toList j = some t → σ'.ev (.tmp t) = σ.ev (.tmp t)) → ∀ K' : St → Prop, K' (σ'.put oi.dst y) → ostep P ops.toList σ' oi.dst oi.op oi.guard K') →
      dAny P ops K fuel (listed.setIfInBounds i true) (σ.put oi.dst y) → dAny P ops K (fuel + 1) listed σ := by
  intro fuel
  induction fuel with
  | zero =>
    intro listed σ inv hfree hr hw hst H
    refine ⟨fun h => (by rw [h] at hr; cases hr), fun j hj => ?_⟩
    by_cases hji : j = i
    · subst hji
      exact ⟨oi, hi, hst σ (fun _ _ => rfl) (fun _ _ h => h) (fun _ _ _ _ _ => rfl) _ H⟩
    · have := ready_mono hj hji
      rw [H.1] at this
      cases this
  | succ fuel ih =>
    intro listed σ inv hfree hr hw hst H
    refine ⟨fun h => (by rw [h] at hr; cases hr), fun j hj => ?_⟩
    by_cases hji : j = i
    · subst hji
      exact ⟨oi, hi, hst σ (fun _ _ => rfl) (fun _ _ h => h) (fun _ _ _ _ _ => rfl) _ H⟩
    · obtain ⟨oj, hoj, hs⟩ := H.2 j (ready_mono hj hji)
      refine ⟨oj, hoj, ?_⟩
      obtain ⟨hjun, oj', hoj', hall⟩ := mem_ready.1 hj
      rw [hoj] at hoj'
      injection hoj' with hoj'
      subst hoj'
      have hiu := (mem_ready.1 hr).1
      have hil : listed.getD i false = false := getD_both hiu
      have hnot : ∀ e ∈ oj.after, Region.binds .any e = true → e.on ≠ i := fun e he hb heq => by
        have h1 := hall e he hb
        rw [heq, hil] at h1
        cases h1
      have hap := hfree j oj hoj hji hjun hnot
      obtain ⟨p1, p2, p3⟩ := Oper.apart_spec hap
      have hnh : heavy P oj.op = false := by
        cases hh : heavy P oj.op with
        | false => rfl
        | true =>
          have := mustB_listed inv 16 j (hhv j oj hoj hh) (fun ok hk e he hb => by
            rw [hoj] at hk
            injection hk with hk
            subst hk
            exact hall e he hb)
          rw [hil] at this
          cases this
      have hjs : j < ops.size := (Array.getElem?_eq_some_iff.1 hoj).1
      have inv' := inv.set hj hjs
      have hr' := ready_mono hr (Ne.symm hji)
      have hc := gstep_comm (fun t ht => looksAt_op (p1 t ht)) (fun t j' w' ht hg => looksAt_guard (p1 t ht) hg) (fun t ht => p2 t ht) hnh hw hs
      refine ostep_mono (fun σ' hk => ?_) hc
      obtain ⟨hk1, hk2, hk3, hk4⟩ := hk
      refine ih (listed.setIfInBounds j true) σ' inv' ?_ hr' hk3 ?_ ?_
      · intro k ok hk hki hun hno
        refine hfree k ok hk hki ?_ hno
        by_cases hjk : j = k
        · subst hjk; exact hjun
        · rw [getD_set_ne true hjk] at hun; exact hun
      · intro σ'' he hh hg K' hK'
        refine hst σ'' (fun z hz => ?_) (fun q b hq => hh q b (hk2 q b hq)) (fun j' w' hgd t ht => ?_) K' hK'
        · rw [he z hz]
          exact hk4 z fun t ht e => looksAt_op (p3 t ht) (e ▸ hz)
        · rw [hg j' w' hgd t ht]
          refine hk4 _ fun t' ht' e => ?_
          injection e with e
          subst e
          exact looksAt_guard (p3 _ ht') hgd ht
      · rw [Array.setIfInBounds_comm _ _ hji]
        exact hk1

/-! the rule: the operations of 'plan' are taken first; then, in each order that is left -/
def planB (P : Program) (ops : Array Oper) : List Nat → Array Bool → Bool
  | [], _ => true
  | i :: r, listed => (Region.ready .any ops listed).contains i && Region.free .any ops listed i && (ops[i]?).any (merges P ·.op) &&
      ((List.range ops.size).all fun j => !(ops[j]?).any (heavy P ·.op) || mustB .any ops 16 j i) && planB P ops r (listed.setIfInBounds i true)
def listedP : List Nat → Array Bool → Array Bool
  | [], listed => listed
  | i :: r, listed => listedP r (listed.setIfInBounds i true)
inductive OT where
  | done
  | step (i : Nat) (t : OT)
  | alt (a b : OT)
def OT.heads : OT → List Nat
  | .done => []
  | .step i _ => [i]
  | .alt a b => a.heads ++ b.heads
def treeB (ops : Array Oper) : Nat → Array Bool → OT → Bool → Bool
  | 0, listed, t, _ => t.heads == [] && Region.ready .any ops listed == []
  | f + 1, listed, .done, top => !top || Region.ready .any ops listed == []
  | f + 1, listed, .step i t, top => (!top || Region.ready .any ops listed == [i]) && (ops[i]?).isSome && treeB ops f (listed.setIfInBounds i true) t true
  | f + 1, listed, .alt a b, top => (!top || Region.ready .any ops listed == (OT.alt a b).heads) && treeB ops (f + 1) listed a false && treeB ops (f + 1) listed b false
def psteps (P : Program) (l : List Oper) (K : St → Prop) : List Nat → St → Prop
  | [], σ => K σ
  | i :: r, σ => pstepsO P l (l[i]?) σ (psteps P l K r)
where
  pstepsO (P : Program) (l : List Oper) (o : Option Oper) (σ : St) (K : St → Prop) : Prop :=
    match o with
    | some o => ostep P l σ o.dst o.op o.guard K
    | none => False
def tsteps (P : Program) (l : List Oper) (K : St → Prop) : OT → St → Prop
  | .done, σ => K σ
  | .step i t, σ => psteps.pstepsO P l (l[i]?) σ (tsteps P l K t)
  | .alt a b, σ => tsteps P l K a σ ∧ tsteps P l K b σ

theorem tree_ok {P : Program} {l : List Oper} {K : St → Prop} : ∀ (f : Nat) (t : OT) (listed : Array Bool) (σ : St) (top : Bool), treeB l.toArray f listed t top = true → tsteps P l K t σ →
    (∀ i ∈ t.heads, ∃ f', f = f' + 1 ∧ ∃ o, l.toArray[i]? = some o ∧ ostep P l σ o.dst o.op o.guard (dAny P l.toArray K f' (listed.setIfInBounds i true))) ∧ (top = true → dAny P l.toArray K f listed σ)
  | 0, t, listed, σ, top, hB, h => by
    unfold treeB at hB
    simp only [Bool.and_eq_true, beq_iff_eq] at hB
    refine ⟨fun i hi => (by rw [hB.1] at hi; cases hi), fun _ => ⟨hB.2, ?_⟩⟩
    have : ∀ (t : OT), t.heads = [] → tsteps P l K t σ → K σ := by
      intro t
      induction t with
      | done => exact fun _ h => h
      | step i t _ => intro h; simp [OT.heads] at h
      | alt a b iha ihb =>
        intro hh h
        simp only [OT.heads, List.append_eq_nil_iff] at hh
        exact iha hh.1 h.1
    exact this t hB.1 h
  | f + 1, .done, listed, σ, top, hB, h => by
    refine ⟨fun i hi => (by cases hi), fun ht => ⟨fun _ => h, fun i hi => ?_⟩⟩
    unfold treeB at hB
    rw [ht] at hB
    simp only [Bool.not_true, Bool.false_or, beq_iff_eq] at hB
    rw [hB] at hi
    cases hi
  | f + 1, .step i t, listed, σ, top, hB, h => by
    unfold treeB at hB
    simp only [Bool.and_eq_true] at hB
    obtain ⟨⟨h1, h2⟩, h3⟩ := hB
    obtain ⟨o, ho⟩ := Option.isSome_iff_exists.1 h2
    have hstep : ostep P l σ o.dst o.op o.guard (dAny P l.toArray K f (listed.setIfInBounds i true)) := by
      have ho' : l[i]? = some o := by simpa using ho
      simp only [tsteps, ho', psteps.pstepsO] at h
      exact ostep_mono (fun σ' hk => (tree_ok f t _ σ' true h3 hk).2 rfl) h
    refine ⟨fun j hj => ?_, fun ht => ⟨fun h0 => ?_, fun j hj => ?_⟩⟩
    · simp only [OT.heads, List.mem_singleton] at hj
      subst hj
      exact ⟨f, rfl, o, ho, hstep⟩
    · rw [ht] at h1
      simp only [Bool.not_true, Bool.false_or, beq_iff_eq] at h1
      rw [h1] at h0
      cases h0
    · rw [ht] at h1
      simp only [Bool.not_true, Bool.false_or, beq_iff_eq] at h1
      rw [h1] at hj
      simp only [List.mem_singleton] at hj
      subst hj
      exact ⟨o, ho, by simpa using hstep⟩
  | f + 1, .alt a b, listed, σ, top, hB, h => by
    unfold treeB at hB
    simp only [Bool.and_eq_true] at hB
    obtain ⟨⟨h1, h2⟩, h3⟩ := hB
    have ha := (tree_ok (f + 1) a listed σ false h2 h.1).1
    have hb := (tree_ok (f + 1) b listed σ false h3 h.2).1
    have hall : ∀ i ∈ (OT.alt a b).heads, ∃ f', f + 1 = f' + 1 ∧ ∃ o, l.toArray[i]? = some o ∧ ostep P l σ o.dst o.op o.guard (dAny P l.toArray K f' (listed.setIfInBounds i true)) := by
      intro i hi
      simp only [OT.heads, List.mem_append] at hi
      exact hi.elim (ha i) (hb i)
    refine ⟨hall, fun ht => ?_⟩
    rw [ht] at h1
    simp only [Bool.not_true, Bool.false_or, beq_iff_eq] at h1
    refine ⟨fun h0 => ?_, fun i hi => ?_⟩
    · rw [h1] at h0
      have hk : ∀ (t : OT), t.heads = [] → tsteps P l K t σ → K σ := by
        intro t
        induction t with
        | done => exact fun _ h => h
        | step i t _ => intro h; simp [OT.heads] at h
        | alt a b iha ihb =>
          intro hh h
          simp only [OT.heads, List.append_eq_nil_iff] at hh
          exact iha hh.1 h.1
      exact hk (.alt a b) h0 h
    · rw [h1] at hi
      obtain ⟨f', hf, o, ho, hs⟩ := hall i hi
      have : f' = f := by omega
      subst this
      exact ⟨o, ho, by simpa using hs⟩

theorem plan_ok {P : Program} {l : List Oper} {K : St → Prop} {f : Nat} : ∀ (plan : List Nat) (listed : Array Bool) (σ : St), planB P l.toArray plan listed = true → HeadInv .any l.toArray l.toArray.size listed → WFh σ →
    psteps P l (fun σ' => WFh σ' → dAny P l.toArray K f (listedP plan listed) σ') plan σ → dAny P l.toArray K (f + plan.length) listed σ
  | [], listed, σ, _, _, hw, h => h hw
  | i :: r, listed, σ, hB, inv, hw, h => by
    unfold planB at hB
    simp only [Bool.and_eq_true] at hB
    obtain ⟨⟨⟨⟨b1, b2⟩, b3⟩, b4⟩, b5⟩ := hB
    have hr : i ∈ Region.ready .any l.toArray listed := by simpa using b1
    obtain ⟨oi, ho, hm⟩ : ∃ oi, l.toArray[i]? = some oi ∧ merges P oi.op = true := by
      cases hq : l.toArray[i]? with
      | none => rw [hq] at b3; cases b3
      | some oi => rw [hq] at b3; exact ⟨oi, rfl, by simpa using b3⟩
    have ho' : l[i]? = some oi := by simpa using ho
    simp only [psteps, ho', psteps.pstepsO] at h
    obtain ⟨y, hk, hst0⟩ := ostep_stable hm h
    have hst : ∀ σ', EvSame σ σ' oi.op.operands.toList → HeapExt σ.h σ'.h → (∀ j w, oi.guard = some (j, w) → ∀ t, slotOf l j = some t → σ'.ev (.tmp t) = σ.ev (.tmp t)) → ∀ K' : St → Prop, K' (σ'.put oi.dst y) → ostep P l σ' oi.dst oi.op oi.guard K' :=
      fun σ' he hh hg K' hk' => hst0 σ' he (fun y _ q b _ hq => hh q b hq) hg K' hk'
    have his : i < l.toArray.size := (Array.getElem?_eq_some_iff.1 ho).1
    refine dAny_first (y := y) ho (fun j oj hoj hh => ?_) (f + r.length) listed σ inv (Region.free_spec ho b2) hr hw hst ?_
    · have hj := (List.all_eq_true.1 b4) j (List.mem_range.2 (Array.getElem?_eq_some_iff.1 hoj).1)
      simp only [hoj, Option.any_some, hh, Bool.not_true, Bool.false_or] at hj
      exact hj
    · exact plan_ok r _ _ b5 (inv.set hr his) (kept_put hw).2.1 hk

theorem drawR_of {P : Program} {n0 : Nat} {id : Nat} {l : List Oper} {Q : Exit → St → Prop} {σ : St} (plan : List Nat) (t : OT) (hm : P.follows .mixedOrders = true) (hP : planB P l.toArray plan (Array.replicate l.length false) = true)
    (hT : treeB l.toArray (l.length - plan.length) (listedP plan (Array.replicate l.length false)) t true = true) (hlen : plan.length ≤ l.length)
    (h : psteps P l (tsteps P l (Q .normal) t) plan σ) : DrawR P n0 id l.toArray Q σ := by
  intro E a w hr E0 w0 hU hE
  refine wp_region_any hm ?_
  have hw : WFh σ := fun q hq => by
    cases hl : σ.h.look q with
    | none => rfl
    | some blk =>
      obtain ⟨hv, hB, _⟩ := hr.rel.has q blk hl
      have := hr.bound q (hr.rel.uses hl)
      omega
  have inv : HeadInv .any l.toArray l.toArray.size (Array.replicate l.length false) := by
    have := headInv_start (ops := l.toArray) (md := .any)
    simpa using this
  have pmono : ∀ (plan : List Nat) (K K' : St → Prop) (σ : St), (∀ σ, K σ → K' σ) → psteps P l K plan σ → psteps P l K' plan σ := by
    intro plan
    induction plan with
    | nil => exact fun K K' σ hk h => hk σ h
    | cons i r ih =>
      intro K K' σ hk h
      simp only [psteps] at h ⊢
      unfold psteps.pstepsO at h ⊢
      split
      · rename_i o ho
        rw [ho] at h
        exact ostep_mono (fun σ' h' => ih K K' σ' hk h') h
      · rename_i ho
        rw [ho] at h
        exact h
  have hd := plan_ok (f := l.length - plan.length) (K := Q .normal) plan (Array.replicate l.length false) σ hP inv hw (pmono plan _ _ σ (fun σ' h' _ => (tree_ok _ t _ σ' true hT h').2 rfl) h)
  rw [Nat.sub_add_cancel hlen] at hd
  have hdr : RelF E σ a { w with drawn := w.drawn + 1 } ∧ Ext E0 w0 E { w with drawn := w.drawn + 1 } := by
    have hb : Below w.heap.size w { w with drawn := w.drawn + 1 } := ⟨rfl, rfl, rfl, Nat.le_refl _, fun _ _ => rfl⟩
    obtain ⟨k1, k2⟩ := hr.later hb (fun _ h => h) (fun b hb => .inl hb) (fun b hb' => hr.rel.slt b hb')
    exact ⟨k1, hE.trans k2⟩
  have := dAny_ok _ _ σ hd E a _ hdr.1 E0 w0 hdr.2
  simpa using this
@[go_sem] theorem psteps_nil {P : Program} {l : List Oper} {K : St → Prop} {σ : St} : psteps P l K [] σ = K σ := rfl
@[go_sem] theorem psteps_cons {P : Program} {l : List Oper} {K : St → Prop} {σ : St} {i : Nat} {r : List Nat} : psteps P l K (i :: r) σ = psteps.pstepsO P l (l[i]?) σ (psteps P l K r) := rfl
@[go_sem] theorem psteps_some {P : Program} {l : List Oper} {K : St → Prop} {σ : St} {o : Oper} : psteps.pstepsO P l (some o) σ K = ostep P l σ o.dst o.op o.guard K := rfl
@[go_sem] theorem tsteps_done {P : Program} {l : List Oper} {K : St → Prop} {σ : St} : tsteps P l K .done σ = K σ := rfl
@[go_sem] theorem tsteps_step {P : Program} {l : List Oper} {K : St → Prop} {σ : St} {i : Nat} {t : OT} : tsteps P l K (.step i t) σ = psteps.pstepsO P l (l[i]?) σ (tsteps P l K t) := rfl
@[go_sem] theorem tsteps_alt {P : Program} {l : List Oper} {K : St → Prop} {σ : St} {a b : OT} : tsteps P l K (.alt a b) σ = (tsteps P l K a σ ∧ tsteps P l K b σ) := rfl
end Go.Proofs.Ytnbmiejjkkgckaa
/- Proved here: What the relation to the worlds says of sizes, for use in the proofs of the given statements; conditions stand in each theorem. -/
set_option linter.unusedSimpArgs false
set_option linter.unusedVariables false
namespace Go.Proofs.Ytnbmiejjkkgckaa
open Go.RowKit

mutual
def factsT : T → Prop
  | .lit v => FitV v
  | .list _ _ xs => xs.length ≤ maxLen ∧ factsTss xs
def factsTs : List T → Prop
  | [] => True
  | x :: xs => factsT x ∧ factsTs xs
def factsTss : List (List T) → Prop
  | [] => True
  | e :: es => factsTs e ∧ factsTss es
end
mutual
def factsV : V → Prop
  | .t x => factsT x
  | .agg cs => factsVs cs
  | .tup cs => factsVs cs
  | _ => True
def factsVs : List V → Prop
  | [] => True
  | x :: xs => factsV x ∧ factsVs xs
end
theorem factsTs_of : ∀ (e : List T), (∀ (j : Nat) x, e[j]? = some x → factsT x) → factsTs e
  | [], _ => by simp only [factsTs]
  | x :: r, h => by simp only [factsTs]; exact ⟨h 0 x rfl, factsTs_of r fun j y hy => h (j + 1) y (by simpa using hy)⟩
theorem factsTss_of : ∀ (es : List (List T)), (∀ (i : Nat) e, es[i]? = some e → factsTs e) → factsTss es
  | [], _ => by simp only [factsTss]
  | x :: r, h => by simp only [factsTss]; exact ⟨h 0 x rfl, factsTss_of r fun j y hy => h (j + 1) y (by simpa using hy)⟩
theorem factsTs_mem : ∀ {e : List T}, factsTs e → ∀ x ∈ e, factsT x
  | [], _, x, hx => by cases hx
  | y :: r, h, x, hx => by
    simp only [factsTs] at h
    rcases List.mem_cons.1 hx with rfl | hx
    · exact h.1
    · exact factsTs_mem h.2 x hx
theorem factsTss_mem : ∀ {es : List (List T)}, factsTss es → ∀ e ∈ es, factsTs e
  | [], _, x, hx => by cases hx
  | y :: r, h, x, hx => by
    simp only [factsTss] at h
    rcases List.mem_cons.1 hx with rfl | hx
    · exact h.1
    · exact factsTss_mem h.2 x hx
theorem RdT.facts {w : World} {S : Nat → Prop} {x : T} {v : Value} (h : RdT w S x v) : factsT x := by
  induction h with
  | lit v h1 hf => simp only [factsT]; exact hf
  | list k d xs A c hm hc hn hk ha hr ih =>
    simp only [factsT]
    refine ⟨hm, factsTss_of xs fun i e hi => factsTs_of e fun j x hx => ?_⟩
    obtain ⟨b, off, hA, _, hj⟩ := ha i e hi
    obtain ⟨u, hu⟩ := hj j x hx
    exact ih i e j x b off u hi hx hA hu
mutual
theorem RdV.facts {w : World} {E : Env} : ∀ (x : V) {v : Value}, RdV w E x v → factsV x
  | .t x, v, h => by simp only [RdV] at h; simp only [factsV]; exact h.facts
  | .agg cs, v, h => by simp only [RdV] at h; obtain ⟨vs, _, h1, _⟩ := h; simp only [factsV]; exact RdVs.facts cs h1
  | .tup cs, v, h => by simp only [RdV] at h; obtain ⟨vs, _, h1⟩ := h; simp only [factsV]; exact RdVs.facts cs h1
  | .own _, _, _ => by simp only [factsV]
  | .ptr .., _, _ => by simp only [factsV]
  | .rptr .., _, _ => by simp only [factsV]
  | .elem .., _, _ => by simp only [factsV]
  | .cond .., _, _ => by simp only [factsV]
  | .clo .., _, _ => by simp only [factsV]
  | .dead, _, _ => by simp only [factsV]
theorem RdVs.facts {w : World} {E : Env} : ∀ (xs : List V) {vs : List Value}, RdVs w E xs vs → factsVs xs
  | [], [], _ => by simp only [factsVs]
  | x :: xs, v :: vs, h => by simp only [RdVs] at h; simp only [factsVs]; exact ⟨RdV.facts x h.1, RdVs.facts xs h.2⟩
  | [], _ :: _, h => by simp only [RdVs] at h
  | _ :: _, [], h => by simp only [RdVs] at h
end
theorem awp_facts {P : Program} {n0 : Nat} {c : Code} {Q : Exit → St → Prop} {σ : St} (h : factsVs σ.fr → AWP P n0 c Q σ) : AWP P n0 c Q σ := by
  intro E a w hr E0 w0 hU hE
  exact h (RdVs.facts _ hr.fr) E a w hr E0 w0 hU hE
theorem cpure_facts {P : Program} {f : FuncId} {args : List V} {r : V} (he : P.enters f = true) (h : factsVs args → CPure P f args r) : CPure P f args r := by
  refine ⟨he, fun w S vs hS hargs => ?_⟩
  exact (h (RdVs.facts _ hargs)).2 w S vs hS hargs

/-- an address at which the slice lies: elder form of the relation -/
theorem rdT_lit_list {w : World} {S : Nat → Prop} : ∀ {e : List T} {vs : List Value}, RdTs w S e vs → ∀ (l : List Value), e = l.map .lit → vs = l
  | [], [], _, l, h => by cases l with
    | nil => rfl
    | cons _ _ => cases h
  | x :: e, v :: vs, hr, l, h => by
    cases l with
    | nil => cases h
    | cons u l =>
      simp only [List.map_cons, List.cons.injEq] at h
      obtain ⟨rfl, h2⟩ := h
      rw [(rdT_lit_inv hr.1).1, rdT_lit_list hr.2 l h2]
  | [], _ :: _, h, _, _ => h.elim
  | _ :: _, [], h, _, _ => h.elim
theorem sl_of_rdT {α : Type} {w : World} {S : Nat → Prop} {k : Nat} {d : List T} {f : α → List T} {g : α → List Value} {xs : List α} {A : Option Addr} {n c : Nat} (hfg : ∀ x, f x = (g x).map .lit)
    (h : RdT w S (.list k d (xs.map f)) (.slice A n c)) : Sl g k w A xs := by
  intro i x hx
  have hi : i < (xs.map f).length := by rw [List.length_map]; exact (List.getElem?_eq_some_iff.1 hx).1
  have h' := h
  cases h with
  | list _ _ _ _ _ hm hc hn hk ha hr =>
    have he : (xs.map f)[i]? = some (f x) := by rw [List.getElem?_map, hx]; rfl
    obtain ⟨b, off, hA, _⟩ := ha i _ he
    subst hA
    refine ⟨b, off, rfl, fun j v hj => ?_⟩
    obtain ⟨vs, h1, h2⟩ := rdT_elem h' hi
    have e1 : nth d (xs.map f) i = f x := by simp [nth, he]
    rw [e1] at h1
    have := rdT_lit_list h1 (g x) (hfg x)
    subst this
    exact h2 j v hj
attribute [go_sem] factsVs factsV
end Go.Proofs.Ytnbmiejjkkgckaa
