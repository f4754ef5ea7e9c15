/- Proved here: Regions that draw their order and make blocks, on the abstract machine: the rule, for use in the proofs of the given statements; conditions stand in each theorem. -/
import Derived.Test.YtnbmiejjkkgckaaZR
set_option linter.unusedSimpArgs false
set_option linter.unusedVariables false
set_option linter.unusedSimpArgs false
set_option linter.unusedVariables false
set_option linter.unnecessarySimpa false
namespace Go.Proofs.Ytnbmiejjkkgckaa
open Go.RowKit

abbrev Log := List (Nat × Nat × Bool)
/-! what the operations name -/
def addM (i : Nat) (u : Bool) : List Nat → Log → Log
  | [], log => log
  | q :: r, log => (i, q, u) :: addM i u r log
def mentL (i : Nat) (u : Bool) (σ : St) : List Operand → Log → Log
  | [], log => log
  | x :: r, log => mentX i u σ x (mentL i u σ r log)
where
  mentX (i : Nat) (u : Bool) (σ : St) (x : Operand) (log : Log) : Log :=
    match x with
    | .tmp t => addM i u (V.ment (σ.fr.getD t .dead)) log
    | _ => log
def opsOf (op : Op) : List Operand :=
  match op with
  | .alloc _ | .box .. | .buildSlice .. => []
  | .move _ | .assign _ | .pick .. | .unOp .. | .binOp .. | .extract .. | .field .. | .build .. | .convert .. => []
  | .load _ x | .nilCheck x | .fieldAddr _ x _ => [x]
  | .store _ p _ => [p]
  | .indexAddr _ a v | .index _ a v => [a, v]
  | .call { callee := .value (.func _), args, .. } => args.toList
  | .call { callee := .builtin _, args, .. } => args.toList
  | op => op.operands.toList
inductive CK where
  | look
  | new
  | box
  | store
  | app
  | bad
def ckind (P : Program) (op : Op) (g : Option (Nat × Bool)) : CK :=
  match op with
  | .box .. | .alloc .. | .buildSlice .. | .makeMap .. | .makeSlice .. => noG g .new
  | .mapUpdate .. | .insert .. | .defer _ => .bad
  | .store .. => noG g .store
  | .call { callee := .builtin .append, .. } => noG g .app
  | .call { callee := .value (.func f), .. } => ioK (P.ioF f) g
  | .call { callee := .value _, .. } => .bad
  | _ => .look
where
  noG (g : Option (Nat × Bool)) (k : CK) : CK :=
    match g with
    | none => k
    | some _ => .bad
  ioK (io : Bool) (g : Option (Nat × Bool)) : CK :=
    match io with
    | true => noG g .box
    | false => .look
def logOf (i : Nat) (σ : St) (k : CK) (l : List Operand) (log : Log) : Log :=
  match k, l with
  | .box, x :: r => mentL i true σ [x] (mentL i false σ r log)
  | .store, x :: r => mentL i true σ [x] (mentL i false σ r log)
  | .app, x :: r => mentL i true σ [x] (mentL i false σ r log)
  | _, l => mentL i false σ l log
def kNewC (n0 i : Nat) (σ : St) (d : Option Tmp) (K : St → Prop) (blk : Blk) : Prop := K (({ σ with h := (n0 + i, blk) :: σ.h } : St).put d (.own (n0 + i)))
def boxC (P : Program) (m : Nat) (σ : St) (d : Option Tmp) (op : Op) (K : St → Prop) : Prop :=
  match op with
  | .call { callee := .value (.func f), args, .. } => useVs true (args.toList.map σ.ev) fun xs => BCall P m σ d f xs K
  | _ => False
def storeC (P : Program) (σ : St) (d : Option Tmp) (op : Op) (K : St → Prop) : Prop :=
  match op, d with
  | .store t p x, none => kR (storeS P σ t p x) (kSt σ K)
  | _, _ => False
where
  kSt (σ : St) (K : St → Prop) (ib : Nat × Blk) : Prop := K { σ with h := σ.h.set ib.1 ib.2 }
def appC (P : Program) (n0 i : Nat) (σ : St) (d : Option Tmp) (op : Op) (K : St → Prop) : Prop :=
  match op with
  | .call { callee := .builtin .append, args, argTypes } => apL P n0 i σ d args.toList argTypes.toList K
  | _ => False
where
  kApp (n0 i : Nat) (σ : St) (d : Option Tmp) (K : St → Prop) (tb : Option Nat × Blk) : Prop := K (({ σ with h := (n0 + i, tb.2) :: delO σ.h tb.1 } : St).put d (.own (n0 + i)))
  apL (P : Program) (n0 i : Nat) (σ : St) (d : Option Tmp) (args : List Operand) (tys : List TypeId) (K : St → Prop) : Prop :=
    match args, tys with
    | [s, x], [t, t'] => t = t' ∧ kR (appS P σ (P.elemT t) s x) (kApp n0 i σ d K)
    | _, _ => False
def cStep (P : Program) (l : List Oper) (n0 i : Nat) (σ : St) (d : Option Tmp) (op : Op) (g : Option (Nat × Bool)) (k : CK) (K : St → Prop) : Prop :=
  match k with
  | .look => ostep P l σ d op g K
  | .new => kR (newR P σ op) (kNewC n0 i σ d K)
  | .box => boxC P (n0 + i) σ d op K
  | .store => storeC P σ d op K
  | .app => appC P n0 i σ d op K
  | .bad => False
def waitB (l : List Oper) (i j : Nat) : Bool := mustB .any l.toArray 16 i j
def chkE (l : List Oper) (n0 : Nat) (L : Log) (e : Nat × Nat × Bool) : Bool :=
  (L.all fun f => !(f.2.2 && f.2.1 == e.2.1) || f.1 == e.1 || (if f.1 < e.1 then waitB l e.1 f.1 else waitB l f.1 e.1)) && (decide (e.2.1 < n0) || (decide (e.2.1 - n0 < e.1) && waitB l e.1 (e.2.1 - n0)))
def chkL (l : List Oper) (n0 : Nat) (L : Log) : Bool := L.all (chkE l n0 L)
/-- the operations in the text's order -/
def cRun (P : Program) (l : List Oper) (n0 : Nat) (fin : St → Prop) : Nat → List Oper → Log → St → Prop
  | _, [], L, σ => chkL l n0 L = true ∧ fin σ
  | i, o :: os, L, σ => cStep P l n0 i σ o.dst o.op o.guard (ckind P o.op o.guard) (cRun P l n0 fin (i + 1) os (logOf i σ (ckind P o.op o.guard) (opsOf o.op) L))

def Steps (P : Program) (l : List Oper) (n0 : Nat) (L : Log) (σ' : St) : Nat → List Oper → List Rec → St → Prop
  | _, [], rs, σ => rs = [] ∧ σ' = σ
  | i, o :: os, rs, σ => ∃ r rs' σ1 M, rs = r :: rs' ∧ Vld P l n0 i o σ r M ∧ (∀ e ∈ M, (i, e.1, e.2) ∈ L) ∧ σ1.fr = setO σ.fr r.d r.x ∧ (∀ q, σ1.h.look q = orB (tch n0 i r.e q) (σ.h.look q)) ∧ σ1.nx = σ.nx ∧ σ1.df = σ.df ∧ Steps P l n0 L σ' (i + 1) os rs' σ1

theorem mem_addM {i : Nat} {u : Bool} {e : Nat × Nat × Bool} : ∀ (qs : List Nat) (log : Log), e ∈ addM i u qs log ↔ (∃ q ∈ qs, e = (i, q, u)) ∨ e ∈ log
  | [], log => by simp [addM]
  | q :: r, log => by simp [addM, mem_addM r log, or_assoc]
theorem mem_mentL {i : Nat} {u : Bool} {σ : St} {e : Nat × Nat × Bool} : ∀ (xs : List Operand) (log : Log), e ∈ log ∨ (∃ t, .tmp t ∈ xs ∧ ∃ q ∈ (σ.fr.getD t .dead).ment, e = (i, q, u)) → e ∈ mentL i u σ xs log
  | [], log, h => by
    rcases h with h | ⟨t, ht, _⟩
    · exact h
    · cases ht
  | x :: r, log, h => by
    unfold mentL
    have ih := mem_mentL (i := i) (u := u) (σ := σ) (e := e) r log
    cases x with
    | tmp t =>
      unfold mentL.mentX
      rw [mem_addM]
      rcases h with h | ⟨t', ht, q, hq, he⟩
      · exact .inr (ih (.inl h))
      · rcases List.mem_cons.1 ht with h1 | h1
        · injection h1 with h1
          subst h1
          exact .inl ⟨q, hq, he⟩
        · exact .inr (ih (.inr ⟨t', h1, q, hq, he⟩))
    | _ =>
      unfold mentL.mentX
      refine ih ?_
      rcases h with h | ⟨t', ht, q, hq, he⟩
      · exact .inl h
      · rcases List.mem_cons.1 ht with h1 | h1
        · cases h1
        · exact .inr ⟨t', h1, q, hq, he⟩
theorem ment_ite {c : Prop} [Decidable c] {x : V} (h : x.ment = []) : (if c then x else V.dead).ment = [] := by
  split
  · exact h
  · simp only [V.ment]
theorem ment_lit (v : Value) : (litV v).ment = [] := by
  have key : ∀ (cs : List Value), V.ments (cs.map fun v => V.t (.lit v)) = [] := by
    intro cs
    induction cs with
    | nil => simp only [List.map_nil, V.ments]
    | cons c cs ih => simp only [List.map_cons, V.ments, V.ment, ih, List.append_nil]
  cases v with
  | agg cs => unfold litV; exact ment_ite (by simp only [V.ment]; exact key _)
  | tuple _ => unfold litV; simp only [V.ment]
  | _ => unfold litV; exact ment_ite (by simp only [V.ment])
theorem ment_ev {σ : St} {y : Operand} {q : Nat} (h : q ∈ (σ.ev y).ment) : ∃ t, y = .tmp t ∧ q ∈ (σ.fr.getD t .dead).ment := by
  cases y with
  | tmp t => exact ⟨t, rfl, h⟩
  | const v => simp only [St.ev, ment_lit] at h; cases h
  | func f => simp [St.ev, V.ment] at h
  | global g => simp [St.ev, V.ment] at h
theorem opsOf_mem {P : Program} {op : Op} {y : Operand} (hm : merges P op = true) (hb : heapB op = true) (h : y ∈ op.operands.toList) : y ∈ opsOf op ∨ ∃ f, y = .func f := by
  cases op with
  | call c =>
    obtain ⟨callee, args, tys⟩ := c
    cases callee with
    | value g =>
      cases g with
      | func f =>
        simp only [Op.operands, Call.operands] at h
        simp at h
        rcases h with h | h
        · exact .inr ⟨f, h⟩
        · exact .inl (by simpa [opsOf] using h)
      | _ => exact .inl h
    | builtin b => left; simpa [Op.operands, Call.operands, opsOf] using h
    | invoke r m => exact .inl h
  | alloc t => cases hm
  | box t x => cases hm
  | buildSlice t n ps => cases hm
  | store _ _ _ => cases hm
  | insert _ _ _ _ => cases hm
  | makeMap _ _ => cases hm
  | makeSlice _ _ _ => cases hm
  | mapUpdate _ _ _ _ => cases hm
  | defer _ => cases hm
  | move _ => cases hb
  | assign _ => cases hb
  | pick _ _ _ => cases hb
  | unOp _ _ _ => cases hb
  | binOp _ _ _ _ _ => cases hb
  | extract _ _ => cases hb
  | field _ _ _ => cases hb
  | build _ _ => cases hb
  | convert _ _ _ => cases hb
  | _ => left; first | exact h | simpa [Op.operands, opsOf] using h

def pick2 (i : Nat) (L : Log) : List (Nat × Bool) := (L.filter fun e => e.1 == i).map (·.2)
theorem mem_pick2 {i : Nat} {L : Log} {e : Nat × Bool} : e ∈ pick2 i L ↔ (i, e.1, e.2) ∈ L := by
  unfold pick2
  rw [List.mem_map]
  constructor
  · rintro ⟨x, hx, rfl⟩
    rw [List.mem_filter] at hx
    obtain ⟨h1, h2⟩ := hx
    have : x.1 = i := by simpa using h2
    rw [← this]
    exact h1
  · intro h
    exact ⟨(i, e.1, e.2), List.mem_filter.2 ⟨h, by simp⟩, rfl⟩
theorem log_box {i : Nat} {σ : St} {x : Operand} {r : List Operand} {L : Log} : logOf i σ .box (x :: r) L = mentL i true σ [x] (mentL i false σ r L) := rfl
theorem log_store {i : Nat} {σ : St} {x : Operand} {r : List Operand} {L : Log} : logOf i σ .store (x :: r) L = mentL i true σ [x] (mentL i false σ r L) := rfl
theorem log_app {i : Nat} {σ : St} {x : Operand} {r : List Operand} {L : Log} : logOf i σ .app (x :: r) L = mentL i true σ [x] (mentL i false σ r L) := rfl
theorem log_sub {i : Nat} {σ : St} {k : CK} {l : List Operand} {L : Log} {e : Nat × Nat × Bool} (h : e ∈ L) : e ∈ logOf i σ k l L := by
  unfold logOf
  split
  · exact mem_mentL _ _ (.inl (mem_mentL _ _ (.inl h)))
  · exact mem_mentL _ _ (.inl (mem_mentL _ _ (.inl h)))
  · exact mem_mentL _ _ (.inl (mem_mentL _ _ (.inl h)))
  · exact mem_mentL _ _ (.inl h)
theorem log_ment {i : Nat} {σ : St} {k : CK} {l : List Operand} {L : Log} {y : Operand} {q : Nat} (hy : y ∈ l) (hq : q ∈ (σ.ev y).ment) : ∃ u, (i, q, u) ∈ logOf i σ k l L := by
  obtain ⟨t, rfl, ht⟩ := ment_ev hq
  unfold logOf
  split
  · rename_i x r
    rcases List.mem_cons.1 hy with h1 | h1
    · exact ⟨true, mem_mentL _ _ (.inr ⟨t, by simp [h1], q, ht, rfl⟩)⟩
    · exact ⟨false, mem_mentL _ _ (.inl (mem_mentL _ _ (.inr ⟨t, h1, q, ht, rfl⟩)))⟩
  · rename_i x r
    rcases List.mem_cons.1 hy with h1 | h1
    · exact ⟨true, mem_mentL _ _ (.inr ⟨t, by simp [h1], q, ht, rfl⟩)⟩
    · exact ⟨false, mem_mentL _ _ (.inl (mem_mentL _ _ (.inr ⟨t, h1, q, ht, rfl⟩)))⟩
  · rename_i x r
    rcases List.mem_cons.1 hy with h1 | h1
    · exact ⟨true, mem_mentL _ _ (.inr ⟨t, by simp [h1], q, ht, rfl⟩)⟩
    · exact ⟨false, mem_mentL _ _ (.inl (mem_mentL _ _ (.inr ⟨t, h1, q, ht, rfl⟩)))⟩
  · exact ⟨false, mem_mentL _ _ (.inr ⟨t, hy, q, ht, rfl⟩)⟩

theorem ckind_look {P : Program} {op : Op} {g : Option (Nat × Bool)} (h : ckind P op g = .look) : merges P op = true := by
  unfold ckind at h
  split at h
  any_goals (first | (exfalso; revert h; unfold ckind.noG; split <;> intro h <;> cases h; done) | (exfalso; cases h; done))
  · rename_i f args tys
    unfold ckind.ioK at h
    split at h
    · exfalso; revert h; unfold ckind.noG; split <;> intro h <;> cases h
    · rename_i hio
      simp [merges, hio]
  · unfold merges
    split <;> first | rfl | (exfalso; simp_all; done) | (rename_i hx1 hx2; exact (hx2 _ _ _ _ rfl).elim) | (exfalso; simp_all; rename_i hx; exact hx _ _ _ _ rfl rfl rfl rfl)
end Go.Proofs.Ytnbmiejjkkgckaa
/- Proved here: Regions that draw their order and make blocks, on the abstract machine: every order yields the same, for use in the proofs of the given statements; conditions stand in each theorem. -/
set_option linter.unusedSimpArgs false
set_option linter.unusedVariables false
set_option linter.unnecessarySimpa false
namespace Go.Proofs.Ytnbmiejjkkgckaa
open Go.RowKit

theorem ckind_new {P : Program} {op : Op} {g : Option (Nat × Bool)} (h : ckind P op g = .new) : g = none := by
  unfold ckind at h
  split at h <;> first | (cases h; done) | (unfold ckind.ioK at h; split at h <;> first | (cases h; done) | (unfold ckind.noG at h; split at h <;> first | rfl | (cases h; done))) | (unfold ckind.noG at h; split at h <;> first | rfl | (cases h; done))
theorem ckind_box {P : Program} {op : Op} {g : Option (Nat × Bool)} (h : ckind P op g = .box) : g = none := by
  unfold ckind at h
  split at h <;> first | (cases h; done) | (unfold ckind.ioK at h; split at h <;> first | (cases h; done) | (unfold ckind.noG at h; split at h <;> first | rfl | (cases h; done))) | (unfold ckind.noG at h; split at h <;> first | rfl | (cases h; done))

theorem ckind_store {P : Program} {op : Op} {g : Option (Nat × Bool)} (h : ckind P op g = .store) : g = none := by
  unfold ckind at h
  split at h <;> first | (cases h; done) | (unfold ckind.ioK at h; split at h <;> first | (cases h; done) | (unfold ckind.noG at h; split at h <;> first | rfl | (cases h; done))) | (unfold ckind.noG at h; split at h <;> first | rfl | (cases h; done))
theorem ckind_app {P : Program} {op : Op} {g : Option (Nat × Bool)} (h : ckind P op g = .app) : g = none := by
  unfold ckind at h
  split at h <;> first | (cases h; done) | (unfold ckind.ioK at h; split at h <;> first | (cases h; done) | (unfold ckind.noG at h; split at h <;> first | rfl | (cases h; done))) | (unfold ckind.noG at h; split at h <;> first | rfl | (cases h; done))
theorem mentOf {P : Program} {op : Op} {i : Nat} {σ : St} {k : CK} {L0 L : Log} (hm : merges P op = true) (hsub : ∀ e ∈ logOf i σ k (opsOf op) L0, e ∈ L) : heapB op = true → ∀ y ∈ op.operands.toList, ∀ q ∈ (σ.ev y).ment, q ∈ (pick2 i L).map (·.1) := by
  intro hb y hy q hq
  rcases opsOf_mem hm hb hy with h | ⟨f, rfl⟩
  · obtain ⟨u, hu⟩ := log_ment (k := k) (L := L0) h hq (i := i)
    exact List.mem_map.2 ⟨(q, u), mem_pick2.2 (hsub _ hu), rfl⟩
  · simp [St.ev, V.ment] at hq

theorem cRun_steps {P : Program} {l : List Oper} {n0 : Nat} {fin : St → Prop} : ∀ (os : List Oper) (i : Nat) (L0 : Log) (σ : St), cRun P l n0 fin i os L0 σ → ∃ L rs σ', (∀ e ∈ L0, e ∈ L) ∧ Steps P l n0 L σ' i os rs σ ∧ chkL l n0 L = true ∧ fin σ'
  | [], i, L0, σ, h => ⟨L0, [], σ, fun _ h => h, ⟨rfl, rfl⟩, h.1, h.2⟩
  | o :: os, i, L0, σ, h => by
    have h : cStep P l n0 i σ o.dst o.op o.guard (ckind P o.op o.guard) (cRun P l n0 fin (i + 1) os (logOf i σ (ckind P o.op o.guard) (opsOf o.op) L0)) := h
    unfold cStep at h
    cases hk : ckind P o.op o.guard with
    | bad => rw [hk] at h; exact h.elim
    | look =>
      rw [hk] at h
      dsimp only at h
      have hm := ckind_look hk
      obtain ⟨y, hK, hst⟩ := ostep_stable hm h
      obtain ⟨L, rs, σ', hsub, hS, hc, hf⟩ := cRun_steps os (i + 1) _ _ hK
      have h2 : ostep P l σ o.dst o.op o.guard (fun s => s = σ.put o.dst y) := hst σ (fun _ _ => rfl) (fun _ _ _ _ _ h => h) (fun _ _ _ _ _ => rfl) _ rfl
      obtain ⟨y', hy', hV⟩ := vld_look (n0 := n0) (i := i) (M := pick2 i L) hm h2 (mentOf hm hsub)
      refine ⟨L, _, σ', fun e he => hsub e (log_sub he), ⟨_, rs, σ.put o.dst y', pick2 i L, rfl, hV, fun e he => mem_pick2.1 he, put_setO, fun q => by rw [put_h]; rfl, put_nx, put_df, ?_⟩, hc, hf⟩
      rw [hy']
      exact hS
    | new =>
      rw [hk] at h
      dsimp only at h
      have hg := ckind_new hk
      cases hr : newR P σ o.op with
      | none => rw [hr] at h; exact h.elim
      | some pb =>
        obtain ⟨p, blk⟩ := pb
        rw [hr] at h
        obtain ⟨hp, hK⟩ := h
        obtain ⟨L, rs, σ', hsub, hS, hc, hf⟩ := cRun_steps os (i + 1) _ _ hK
        have hV : Vld P l n0 i o σ ⟨o.dst, .own (n0 + i), .new blk⟩ (pick2 i L) := vld_new hg hr hp
        refine ⟨L, _, σ', fun e he => hsub e (log_sub he), ⟨_, rs, ({ σ with h := (n0 + i, blk) :: σ.h } : St).put o.dst (.own (n0 + i)), pick2 i L, rfl, hV, fun e he => mem_pick2.1 he, put_setO, fun q => ?_, put_nx, put_df, hS⟩, hc, hf⟩
        rw [put_h]
        simp only [Heap.look, tch]
        split <;> rfl
    | box =>
      rw [hk] at h
      dsimp only at h
      have hg := ckind_box hk
      obtain ⟨f, args, tys, ho⟩ : ∃ f args tys, o.op = .call { callee := .value (.func f), args := args, argTypes := tys } := by
        unfold boxC at h
        split at h
        · rename_i ho; exact ⟨_, _, _, ho⟩
        · exact h.elim
      rw [ho] at h
      have h : useVs true (args.toList.map σ.ev) fun xs => BCall P (n0 + i) σ o.dst f xs _ := h
      obtain ⟨ys, h1, hys⟩ := useVs_det h
      obtain ⟨t, cs, al, y, e, h2, hxs, hl, hp, ha, hB, hK⟩ := h1
      obtain ⟨L, rs, σ', hsub, hS, hc, hf⟩ := cRun_steps os (i + 1) _ _ hK
      have hsub' : ∀ e ∈ logOf i σ .box (opsOf o.op) L0, e ∈ L := by rw [ho]; exact hsub
      have h3 : useVs true (args.toList.map σ.ev) fun xs => BCall P (n0 + i) σ o.dst f xs (fun s => s = (({ σ with h := h2 } : St).put o.dst y)) := hys _ ⟨t, cs, al, y, e, h2, hxs, hl, hp, ha, hB, rfl⟩
      obtain ⟨y', e', h2', hy', hlk, hV⟩ := vld_box (n0 := n0) (i := i) (M := pick2 i L) (ops := l) hg ho h3 (fun x rr hal q hq => by
        refine mem_pick2.2 (hsub' _ ?_)
        obtain ⟨t, rfl, ht⟩ := ment_ev hq
        have : opsOf o.op = .tmp t :: rr := by rw [ho]; exact hal
        rw [this, log_box]
        exact mem_mentL _ _ (.inr ⟨t, by simp, q, ht, rfl⟩))
      refine ⟨L, _, σ', fun e he => hsub e (log_sub he), ⟨_, rs, ({ σ with h := h2' } : St).put o.dst y', pick2 i L, rfl, hV, fun e he => mem_pick2.1 he, put_setO, fun q => ?_, put_nx, put_df, by rw [hy']; exact hS⟩, hc, hf⟩
      rw [put_h]
      exact hlk q
    | store =>
      rw [hk] at h
      dsimp only at h
      have hg := ckind_store hk
      obtain ⟨t, p, x, ho, hd⟩ : ∃ t p x, o.op = .store t p x ∧ o.dst = none := by
        unfold storeC at h
        split at h
        · rename_i ho hd; exact ⟨_, _, _, ho, hd⟩
        · exact h.elim
      rw [ho, hd] at h
      have h : kR (storeS P σ t p x) (storeC.kSt σ _) := h
      cases hr : storeS P σ t p x with
      | none => rw [hr] at h; exact h.elim
      | some pb =>
        obtain ⟨pp, ib⟩ := pb
        rw [hr] at h
        obtain ⟨hp, hK⟩ := h
        obtain ⟨L, rs, σ', hsub, hS, hc, hf⟩ := cRun_steps os (i + 1) _ _ hK
        have hsub' : ∀ e ∈ logOf i σ .store [p] L0, e ∈ L := hsub
        obtain ⟨⟨old, hold⟩, hV⟩ := vld_store (n0 := n0) (i := i) (ops := l) (M := pick2 i L) hg hd ho hr hp (fun q hq => by
          refine mem_pick2.2 (hsub' _ ?_)
          obtain ⟨t, rfl, ht⟩ := ment_ev hq
          rw [log_store]
          exact mem_mentL _ _ (.inr ⟨t, by simp, q, ht, rfl⟩))
        refine ⟨L, _, σ', fun e he => hsub' e (log_sub he), ⟨_, rs, { σ with h := σ.h.set ib.1 ib.2 }, pick2 i L, rfl, hV, fun e he => mem_pick2.1 he, rfl, fun q => ?_, rfl, rfl, hS⟩, hc, hf⟩
        show (σ.h.set ib.1 ib.2).look q = _
        rw [Heap.look_set _ _ _ hold]
        simp only [tch]
        split <;> rfl
    | app =>
      rw [hk] at h
      dsimp only at h
      have hg := ckind_app hk
      obtain ⟨s, x, t, ho⟩ : ∃ s x t, o.op = .call { callee := .builtin .append, args := #[s, x], argTypes := #[t, t] } := by
        unfold appC at h
        split at h
        · rename_i args tys ho
          unfold appC.apL at h
          split at h
          · rename_i s x t t' hx ht
            obtain ⟨rfl, _⟩ := h
            have ha : args = #[s, x] := by apply Array.ext'; simpa using hx
            have hb : tys = #[t, t] := by apply Array.ext'; simpa using ht
            exact ⟨s, x, t, by rw [ho, ha, hb]⟩
          · exact h.elim
        · exact h.elim
      rw [ho] at h
      have h : t = t ∧ kR (appS P σ (P.elemT t) s x) (appC.kApp n0 i σ o.dst _) := h
      cases hr : appS P σ (P.elemT t) s x with
      | none => rw [hr] at h; exact h.2.elim
      | some pb =>
        obtain ⟨pp, tb⟩ := pb
        rw [hr] at h
        obtain ⟨_, hp, hK⟩ := h
        obtain ⟨L, rs, σ', hsub, hS, hc, hf⟩ := cRun_steps os (i + 1) _ _ hK
        have hsub' : ∀ e ∈ logOf i σ .app [s, x] L0, e ∈ L := hsub
        have hV : Vld P l n0 i o σ ⟨o.dst, .own (n0 + i), effA tb.1 tb.2⟩ (pick2 i L) := vld_app hg ho hr hp (fun q hq => by
          refine mem_pick2.2 (hsub' _ ?_)
          obtain ⟨t, rfl, ht⟩ := ment_ev hq
          rw [log_app]
          exact mem_mentL _ _ (.inr ⟨t, by simp, q, ht, rfl⟩)) (fun q hq => by
          obtain ⟨u, hu⟩ := log_ment (k := .app) (L := L0) (l := [s, x]) (by simp : x ∈ [s, x]) hq (i := i)
          exact List.mem_map.2 ⟨(q, u), mem_pick2.2 (hsub' _ hu), rfl⟩)
        refine ⟨L, _, σ', fun e he => hsub' e (log_sub he), ⟨_, rs, ({ σ with h := (n0 + i, tb.2) :: delO σ.h tb.1 } : St).put o.dst (.own (n0 + i)), pick2 i L, rfl, hV, fun e he => mem_pick2.1 he, put_setO, fun q => ?_, put_nx, put_df, hS⟩, hc, hf⟩
        rw [put_h]
        simp only [Heap.look]
        cases htb : tb.1 with
        | none =>
          simp only [effA, tch, delO]
          split <;> rfl
        | some q' =>
          simp only [effA, tch, delO]
          rw [Heap.look_del]
          split
          · rfl
          · split <;> rfl

theorem steps_at {P : Program} {l : List Oper} {n0 : Nat} {L : Log} {σ' : St} : ∀ (os : List Oper) (i : Nat) (rs : List Rec) (σ : St), Steps P l n0 L σ' i os rs σ → ∀ k o, os[k]? = some o →
    ∃ r σk M, rs[k]? = some r ∧ Vld P l n0 (i + k) o σk r M ∧ (∀ e ∈ M, (i + k, e.1, e.2) ∈ L) ∧ σk.fr = frX (fun j => decide (j < i + k)) i rs σ.fr ∧ (∀ q, σk.h.look q = lkX n0 (fun j => decide (j < i + k)) q i rs (σ.h.look q)) ∧ σk.nx = σ.nx
  | [], i, rs, σ, h, k, o, ho => by simp at ho
  | o0 :: os, i, rs, σ, h, 0, o, ho => by
    obtain ⟨r, rs', σ1, M, rfl, hV, hM, hf, hl, hn, hnd, hS⟩ := h
    simp at ho
    subst ho
    refine ⟨r, σ, M, rfl, hV, hM, ?_, fun q => ?_, rfl⟩
    · rw [frX_out _ _ _ fun j hj => by simp]
    · rw [lkX_out _ _ _ fun j r hj hX => by have := of_decide_eq_true hX; omega]
  | o0 :: os, i, rs, σ, h, k + 1, o, ho => by
    obtain ⟨r, rs', σ1, M, rfl, hV, hM, hf, hl, hn, hnd, hS⟩ := h
    obtain ⟨r', σk, M', h1, h2, h3, h4, h5, h6⟩ := steps_at os (i + 1) rs' σ1 hS k o (by simpa using ho)
    have e1 : i + 1 + k = i + (k + 1) := by omega
    rw [e1] at h2 h3 h4 h5
    refine ⟨r', σk, M', by simpa using h1, h2, h3, ?_, fun q => ?_, h6.trans hn⟩
    · rw [h4, hf]
      show _ = frX _ (i + 1) rs' (if _ then _ else _)
      rw [if_pos (by simp)]
    · rw [h5 q, hl q]
      show _ = lkX _ _ _ (i + 1) rs' (if _ then _ else _)
      rw [if_pos (by simp)]
theorem steps_end {P : Program} {l : List Oper} {n0 : Nat} {L : Log} {σ' : St} : ∀ (os : List Oper) (i : Nat) (rs : List Rec) (σ : St), Steps P l n0 L σ' i os rs σ →
    rs.length = os.length ∧ σ'.fr = frX (fun _ => true) i rs σ.fr ∧ (∀ q, σ'.h.look q = lkX n0 (fun _ => true) q i rs (σ.h.look q)) ∧ σ'.nx = σ.nx ∧ σ'.df = σ.df
  | [], i, rs, σ, h => by
    obtain ⟨rfl, rfl⟩ := h
    exact ⟨rfl, rfl, fun q => rfl, rfl, rfl⟩
  | o0 :: os, i, rs, σ, h => by
    obtain ⟨r, rs', σ1, M, rfl, hV, hM, hf, hl, hn, hnd, hS⟩ := h
    obtain ⟨h1, h4, h5, h6, h7⟩ := steps_end os (i + 1) rs' σ1 hS
    refine ⟨by simp [h1], ?_, fun q => ?_, h6.trans hn, h7.trans hnd⟩
    · rw [h4, hf]; rfl
    · rw [h5 q, hl q]; rfl
theorem steps_dst {P : Program} {l : List Oper} {n0 : Nat} {L : Log} {σ' : St} : ∀ (os : List Oper) (i : Nat) (rs : List Rec) (σ : St), Steps P l n0 L σ' i os rs σ → ∀ j r, rs[j]? = some r → ∃ o, os[j]? = some o ∧ r.d = o.dst ∧ ∀ t blk, r.e = .upd t blk ∨ (∃ old, r.e = .app t old blk) → (i + j, t, true) ∈ L
  | [], i, rs, σ, h, j, r, hj => by
    obtain ⟨rfl, rfl⟩ := h
    simp at hj
  | o0 :: os, i, rs, σ, h, 0, r, hj => by
    obtain ⟨r0, rs', σ1, M, rfl, hV, hM, hf, hl, hn, hnd, hS⟩ := h
    simp at hj
    subst hj
    exact ⟨o0, rfl, hV.d, fun t blk he => hM _ (hV.u t blk he)⟩
  | o0 :: os, i, rs, σ, h, j + 1, r, hj => by
    obtain ⟨r0, rs', σ1, M, rfl, hV, hM, hf, hl, hn, hnd, hS⟩ := h
    obtain ⟨o, h1, h2, h3⟩ := steps_dst os (i + 1) rs' σ1 hS j r (by simpa using hj)
    exact ⟨o, by simpa using h1, h2, by rwa [show i + (j + 1) = i + 1 + j by omega]⟩

theorem frX_congr {X Y : Nat → Bool} : ∀ (rs : List Rec) (i : Nat) (fr : List V), (∀ j, j < rs.length → X (i + j) = Y (i + j)) → frX X i rs fr = frX Y i rs fr
  | [], i, fr, _ => rfl
  | r :: rs, i, fr, h => by
    unfold frX
    have h0 := h 0 (by simp)
    rw [Nat.add_zero] at h0
    rw [h0]
    exact frX_congr rs (i + 1) _ fun j hj => by
      have := h (j + 1) (by simpa using hj)
      rwa [show i + 1 + j = i + (j + 1) by omega]

/-! the conditions on the text -/
def distB (l : List Oper) (m : Nat) : Bool := (List.range m).all fun i => (List.range m).all fun j => i == j || (slotOf l i).isNone || slotOf l i != slotOf l j
def readB (l : List Oper) (m : Nat) : Bool := (List.range m).all fun i => (l[i]?).all fun o => (o.looksAt l.toArray).all fun t => (List.range m).all fun j =>
  slotOf l j != some t || (if j < i then waitB l i j else (j == i || waitB l j i))
def backB (l : List Oper) : Bool := (List.range l.length).all fun i => (l[i]?).all fun o => o.after.toList.all fun e => !Region.binds .any e || decide (e.on < i)
def tailB (l : List Oper) (m : Nat) : Bool := (List.range l.length).all fun i => decide (i < m) || (List.range m).all fun j => waitB l i j
def chkS (l : List Oper) (m : Nat) : Bool := distB l m && readB l m && backB l && tailB l m

theorem range_all {m : Nat} {f : Nat → Bool} (h : (List.range m).all f = true) {i : Nat} (hi : i < m) : f i = true := (List.all_eq_true.1 h) i (List.mem_range.2 hi)
theorem exists_least : ∀ (l : List Nat), l ≠ [] → ∃ i ∈ l, ∀ j ∈ l, i ≤ j
  | [], h => (h rfl).elim
  | [x], _ => ⟨x, by simp, fun j hj => by simp at hj; omega⟩
  | x :: y :: r, _ => by
    obtain ⟨i, hi, hm⟩ := exists_least (y :: r) (by simp)
    by_cases hx : x ≤ i
    · exact ⟨x, by simp, fun j hj => by
        rcases List.mem_cons.1 hj with h | h
        · omega
        · have := hm j h; omega⟩
    · exact ⟨i, List.mem_cons_of_mem _ hi, fun j hj => by
        rcases List.mem_cons.1 hj with h | h
        · omega
        · exact hm j h⟩
theorem lst_add {listed : Array Bool} {i : Nat} (hi : i < listed.size) : (fun j => (listed.setIfInBounds i true).getD j false) = addX (fun j => listed.getD j false) i := by
  funext j
  by_cases hij : j = i
  · subst hij
    simp [addX, hi]
  · simp only [addX]
    rw [getD_set_ne false (Ne.symm hij)]
    simp [hij]
section
variable {P : Program} {l : List Oper} {Q : Exit → St → Prop} {n0 m : Nat} {L : Log} {σT σ0 : St} {rs : List Rec} {fT : Nat}

theorem canon_ok (hS : Steps P l n0 L σT 0 (l.take m) rs σ0) (hn : σ0.nx = n0 + m) (hc : chkL l n0 L = true) (hk : chkS l m = true) (hm : m ≤ l.length)
    (hT : ∀ listed : Array Bool, listed.size = l.length → (∀ i, i < l.length → listed.getD i false = decide (i < m)) → dAny P l.toArray (Q .normal) fT listed σT) :
    ∀ (fuel : Nat) (todo : List Nat) (listed : Array Bool) (σX : St) (E : Env) (a : Act) (w : World), fuel = todo.length + fT → todo.Nodup → (∀ i, i ∈ todo ↔ i < m ∧ listed.getD i false = false) → (∀ i, m ≤ i → listed.getD i false = false) →
      HeadInv .any l.toArray l.toArray.size listed → σX.fr = frX (fun j => listed.getD j false) 0 rs σ0.fr → (∀ q, σX.h.look q = lkX n0 (fun j => listed.getD j false) q 0 rs (σ0.h.look q)) → σX.nx = n0 + m → σX.df = σ0.df → RelF E σX a w →
      (∀ q, E.U q → q < n0 ∨ ∃ j, listed.getD j false = true ∧ q = n0 + j) → ∀ E0 w0, Ext E0 w0 E w → wpAny P .any l.toArray (LiftQ E0 w0 Q) fuel listed a w := by
  obtain ⟨hlen, hendf, hendh, hendn, hendd⟩ := steps_end _ _ _ _ hS
  have hlen' : rs.length = m := by rw [hlen, List.length_take]; omega
  simp only [chkS, Bool.and_eq_true] at hk
  obtain ⟨⟨⟨kd, kr⟩, kb⟩, kt⟩ := hk
  intro fuel
  induction fuel with
  | zero =>
    intro todo listed σX E a w hf hnd htodo htail inv hfr hlk hnx hdf hr hU E0 w0 hE
    have h0 : todo = [] := List.length_eq_zero_iff.1 (by omega)
    have hf0 : fT = 0 := by omega
    subst hf0
    have hall : ∀ i, i < m → listed.getD i false = true := fun i hi => by
      cases h : listed.getD i false with
      | true => rfl
      | false => have := (htodo i).2 ⟨hi, h⟩; rw [h0] at this; cases this
    have hrT : RelF E σT a w := hr.like (by rw [hendf, hfr]; exact frX_congr _ _ _ fun j hj => by rw [Nat.zero_add, hall j (by omega)]) (fun q => by
      rw [hendh q, hlk q]; exact lkX_same _ _ _ fun j r hj _ => by
        have := (List.getElem?_eq_some_iff.1 hj).1
        rw [Nat.zero_add, hall j (by omega)]) (by rw [hendn, hn, hnx]) (by rw [hendd, hdf])
    exact dAny_ok _ _ σT (hT listed (by simpa using inv.size) fun i hi => by
      by_cases h : i < m
      · rw [hall i h]; simp [h]
      · rw [htail i (by omega)]; simp [h]) E a w hrT E0 w0 hE
  | succ fuel ih =>
    intro todo listed σX E a w hf hnd htodo htail inv hfr hlk hnx hdf hr hU E0 w0 hE
    by_cases h0 : todo = []
    · have hall : ∀ i, i < m → listed.getD i false = true := fun i hi => by
        cases h : listed.getD i false with
        | true => rfl
        | false => have := (htodo i).2 ⟨hi, h⟩; rw [h0] at this; cases this
      have hrT : RelF E σT a w := hr.like (by rw [hendf, hfr]; exact frX_congr _ _ _ fun j hj => by rw [Nat.zero_add, hall j (by omega)]) (fun q => by
        rw [hendh q, hlk q]; exact lkX_same _ _ _ fun j r hj _ => by
          have := (List.getElem?_eq_some_iff.1 hj).1
          rw [Nat.zero_add, hall j (by omega)]) (by rw [hendn, hn, hnx]) (by rw [hendd, hdf])
      have hfT : fuel + 1 = fT := by rw [h0] at hf; simpa using hf
      rw [hfT]
      exact dAny_ok _ _ σT (hT listed (by simpa using inv.size) fun i hi => by
        by_cases h : i < m
        · rw [hall i h]; simp [h]
        · rw [htail i (by omega)]; simp [h]) E a w hrT E0 w0 hE
    · have hsz : listed.size = l.length := by simpa using inv.size
      have wait : ∀ i j, waitB l i j = true → (∀ o, l[i]? = some o → ∀ e ∈ o.after, Region.binds .any e = true → listed.getD e.on false = true) → listed.getD j false = true := fun i j hw h =>
        mustB_listed inv 16 i hw fun oj hoj e he hb => h oj (by simpa using hoj) e he hb
      have waitl : ∀ i j, waitB l i j = true → listed.getD i false = true → listed.getD j false = true := fun i j hw hl =>
        mustB_listed inv 16 i hw fun oj hoj e he hb => inv.closed i oj hoj hl e he hb
      refine ⟨fun hr0 => ?_, fun i hi => ?_⟩
      · exfalso
        obtain ⟨i, hi, hmin⟩ := exists_least todo h0
        obtain ⟨him, hiu⟩ := (htodo i).1 hi
        have hil : i < l.length := by omega
        have : i ∈ Region.ready .any l.toArray listed := by
          refine mem_ready.2 ⟨getD_in (by omega) hiu, l[i], by simp [hil], fun e he hb => ?_⟩
          have h1 := range_all kb hil
          rw [List.getElem?_eq_getElem hil] at h1
          have h2 := (List.all_eq_true.1 h1) e (by simpa using he)
          rw [hb, Bool.not_true, Bool.false_or] at h2
          have h2 := of_decide_eq_true h2
          cases h3 : listed.getD e.on false with
          | true => rfl
          | false =>
            have := hmin e.on ((htodo e.on).2 ⟨by omega, h3⟩)
            omega
        rw [hr0] at this
        cases this
      · obtain ⟨hiu, o, ho, hall⟩ := mem_ready.1 hi
        have hil : i < l.length := by simpa using (Array.getElem?_eq_some_iff.1 ho).1
        have hou : l[i]? = some o := by simpa using ho
        have hiu' := getD_both hiu
        have hall' : ∀ o', l[i]? = some o' → ∀ e ∈ o'.after, Region.binds .any e = true → listed.getD e.on false = true := fun o' ho' e he hb => by
          rw [hou] at ho'
          injection ho' with ho'
          subst ho'
          exact hall e he hb
        have him : i < m := by
          rcases Nat.lt_or_ge i m with h | h
          · exact h
          · exfalso
            have h1 := range_all kt hil
            rw [decide_eq_false (by omega), Bool.false_or] at h1
            obtain ⟨j, hj⟩ := List.exists_mem_of_ne_nil _ h0
            obtain ⟨hjm, hju⟩ := (htodo j).1 hj
            have := wait i j (range_all h1 hjm) hall'
            rw [hju] at this
            cases this
        obtain ⟨r, σk, M, hri, hV, hM, hkf, hkh, hkn⟩ := steps_at _ _ _ _ hS i o (by rw [List.getElem?_take, if_pos him]; exact hou)
        rw [Nat.zero_add] at hV hM hkf hkh
        have hwr : ∀ t, t ∈ o.looksAt l.toArray → σX.fr.getD t .dead = σk.fr.getD t .dead := fun t ht => by
          rw [hfr, hkf]
          refine frX_same _ _ _ _ (fun j r' hj hd => ?_) rfl rfl
          rw [Nat.zero_add]
          obtain ⟨oj, hoj, hdj, _⟩ := steps_dst _ _ _ _ hS j r' hj
          have hjm : j < m := by have := (List.getElem?_eq_some_iff.1 hj).1; omega
          rw [List.getElem?_take, if_pos hjm] at hoj
          have h1 := range_all kr him
          rw [hou] at h1
          have h2 := range_all ((List.all_eq_true.1 h1) t ht) hjm
          have h3 : slotOf l j = some t := by unfold slotOf; rw [hoj]; dsimp only; rw [← hdj]; exact hd
          rw [h3] at h2
          simp only [bne_self_eq_false, Bool.false_or] at h2
          by_cases hji : j < i
          · rw [if_pos hji] at h2
            rw [wait i j h2 hall']
            simp [hji]
          · rw [if_neg hji] at h2
            simp only [Bool.or_eq_true, beq_iff_eq] at h2
            rcases h2 with h2 | h2
            · subst h2; simp only [hiu']; simp
            · have : listed.getD j false = false := by
                cases h4 : listed.getD j false with
                | false => rfl
                | true => have := waitl j i h2 h4; rw [hiu'] at this; cases this
              simp only [this]; simp [hji]
        have hce : ∀ e ∈ L, chkE l n0 L e = true := List.all_eq_true.1 hc
        have htc : ∀ q u, (i, q, u) ∈ L → ∀ j r', rs[j]? = some r' → tch n0 j r'.e q ≠ none → listed.getD j false = decide (j < i) := fun q u hq j r' hj ht => by
          have h1 := hce _ hq
          simp only [chkE, Bool.and_eq_true, Bool.or_eq_true] at h1
          obtain ⟨h1, h2⟩ := h1
          have hju : ∀ h : (j < i → waitB l i j = true) ∧ (i < j → waitB l j i = true) , listed.getD j false = decide (j < i) := fun h => by
            rcases Nat.lt_trichotomy j i with h3 | h3 | h3
            · rw [wait i j (h.1 h3) hall']; simp [h3]
            · subst h3; rw [hiu']; simp
            · have : listed.getD j false = false := by
                cases h4 : listed.getD j false with
                | false => rfl
                | true => have := waitl j i (h.2 h3) h4; rw [hiu'] at this; cases this
              rw [this]; simp; omega
          obtain ⟨oj, hoj, hdj, hupd⟩ := steps_dst _ _ _ _ hS j r' hj
          rcases tch_inv ht with hqj | ⟨t, blk, he, hqt⟩
          · rcases h2 with h2 | h2
            · have := of_decide_eq_true h2
              omega
            · obtain ⟨h3, h4⟩ := h2
              have h3' := of_decide_eq_true h3
              have : q - n0 = j := by omega
              rw [this] at h3' h4
              exact hju ⟨fun _ => h4, fun h => by omega⟩
          · have hjL := hupd t blk he
            rw [Nat.zero_add] at hjL
            have h3 := (List.all_eq_true.1 h1) _ hjL
            simp only [hqt, beq_self_eq_true, Bool.and_self, Bool.not_true, Bool.false_or, Bool.or_eq_true, beq_iff_eq] at h3
            refine hju ⟨fun h => ?_, fun h => ?_⟩
            · rcases h3 with h3 | h3
              · omega
              · rwa [if_pos h] at h3
            · rcases h3 with h3 | h3
              · omega
              · rwa [if_neg (by omega)] at h3
        have hgL : o.looksAt l.toArray = (o.op.operands.toList.filterMap fun | .tmp t => some t | _ => none) ++ (match o.guard with | some (g, _) => ((l.toArray[g]?).bind (·.dst)).toList | none => []) := rfl
        have hmain := hV.run σX (by rw [hnx, hkn, hn]) (fun y hy => by
          cases y with
          | tmp t => exact hwr t (by rw [hgL]; exact List.mem_append.2 (.inl (List.mem_filterMap.2 ⟨_, hy, rfl⟩)))
          | _ => rfl) (fun q b hq hb => by
          obtain ⟨e, he, rfl⟩ := List.mem_map.1 hq
          have := hM e he
          rw [hkh] at hb
          rw [hlk, ← hb]
          refine lkX_same _ _ _ fun j r' hj ht => ?_
          rw [Nat.zero_add] at ht ⊢
          exact htc e.1 e.2 this j r' hj ht) (fun j w' hg t ht => by
          refine hwr t ?_
          rw [hgL, hg]
          refine List.mem_append.2 (.inr ?_)
          dsimp only
          unfold slotOf at ht
          have e1 : l.toArray[j]? = l[j]? := by simp
          rw [e1]
          split at ht
          · rename_i o' ho'
            rw [ho']
            simp [ht]
          · cases ht) E a w (wpAny P .any l.toArray (LiftQ E0 w0 Q) fuel (listed.setIfInBounds i true)) (LiftQ E0 w0 Q) hr (by rw [hkn, hn]; omega) (fun hu => by
          rcases hU _ hu with h | ⟨j, hj, h⟩
          · omega
          · have : j = i := by omega
            subst this
            rw [hiu'] at hj; cases hj) ?_
        · unfold wpOp
          rw [ho]
          dsimp only
          unfold OW at hmain
          simpa using hmain
        · intro a' w' E' σ'' hf2 hh2 hn2 hd2 hr2 hE2 hU2
          have hX' := lst_add (listed := listed) (i := i) (by omega)
          refine ih (todo.erase i) (listed.setIfInBounds i true) σ'' E' a' w' ?_ (hnd.erase i) (fun j => ?_) (fun j hj => ?_) (inv.set hi (by simpa using hil)) ?_ (fun q => ?_) (hn2.trans hnx) (hd2.trans hdf) hr2 (fun q hq => ?_) E0 w0 (hE.trans hE2)
          · have hit : i ∈ todo := (htodo i).2 ⟨him, hiu'⟩
            have h1 := List.length_erase_of_mem hit
            have h2 := List.length_pos_of_mem hit
            omega
          · rw [hnd.mem_erase_iff, htodo j]
            constructor
            · rintro ⟨h1, h2, h3⟩
              exact ⟨h2, by rw [getD_set_ne false (Ne.symm h1)]; exact h3⟩
            · rintro ⟨h1, h2⟩
              have : j ≠ i := fun h => by
                subst h
                have h3 := congrFun hX' j
                simp only [addX, beq_self_eq_true, Bool.or_true] at h3
                rw [h3] at h2; cases h2
              exact ⟨this, h1, by rw [getD_set_ne false (Ne.symm this)] at h2; exact h2⟩
          · rw [getD_set_ne false (by omega)]; exact htail j hj
          · rw [hf2, hfr, hX']
            refine (frX_add (X := fun j => listed.getD j false) hiu' rs 0 σ0.fr (Nat.zero_le _) (by simpa using hri) fun j r' hj hne _ t ht1 ht2 => ?_).symm
            rw [Nat.zero_add] at hne
            obtain ⟨oj, hoj, hdj, _⟩ := steps_dst _ _ _ _ hS j r' hj
            have hjm : j < m := by have := (List.getElem?_eq_some_iff.1 hj).1; omega
            rw [List.getElem?_take, if_pos hjm] at hoj
            have h1 := range_all (range_all kd him) hjm
            have h2 : slotOf l i = some t := by unfold slotOf; rw [hou]; dsimp only; rw [← hV.d]; exact ht2
            have h3 : slotOf l j = some t := by unfold slotOf; rw [hoj]; dsimp only; rw [← hdj]; exact ht1
            rw [h2, h3] at h1
            simp at h1
            exact hne h1.symm
          · rw [hh2, hlk, hX']
            refine (lkX_add (X := fun j => listed.getD j false) hiu' rs 0 _ (Nat.zero_le _) (by simpa using hri) fun ht j r' hj hlt hX => ?_).symm
            rw [Nat.zero_add] at hlt hX ⊢
            cases htj : tch n0 j r'.e q with
            | none => rfl
            | some blk =>
              exfalso
              have htj' : tch n0 j r'.e q ≠ none := by rw [htj]; simp
              rcases tch_inv ht with hqi | ⟨t, blk', hei, hqt⟩
              · rcases tch_inv htj' with hqj | ⟨t, blk2, hej, hqt⟩
                · omega
                · obtain ⟨oj, hoj, hdj, hupd⟩ := steps_dst _ _ _ _ hS j r' hj
                  have hjL := hupd t blk2 hej
                  rw [Nat.zero_add] at hjL
                  have h1 := hce _ hjL
                  simp only [chkE, Bool.and_eq_true, Bool.or_eq_true] at h1
                  rcases h1.2 with h2 | ⟨h2, h3⟩
                  · have := of_decide_eq_true h2
                    omega
                  · have : t - n0 = i := by omega
                    rw [this] at h3
                    have := waitl j i h3 hX
                    rw [hiu'] at this
                    cases this
              · have h1 := htc q true (by rw [hqt]; exact hM _ (hV.u t blk' hei)) j r' hj htj'
                rw [hX] at h1
                have := of_decide_eq_true h1.symm
                omega
          · rcases hU2 q hq with h | h
            · rcases hU q h with h | ⟨j, hj, h⟩
              · exact .inl h
              · refine .inr ⟨j, getD_set_true hj, h⟩
            · refine .inr ⟨i, ?_, h⟩
              have h3 := congrFun hX' i
              simp only [addX, beq_self_eq_true, Bool.or_true] at h3
              exact h3
end
end Go.Proofs.Ytnbmiejjkkgckaa
/- Proved here: Regions that draw their order and make blocks, on the abstract machine: for the walk, for use in the proofs of the given statements; conditions stand in each theorem. -/
set_option linter.unusedSimpArgs false
set_option linter.unusedVariables false
set_option linter.unnecessarySimpa false
namespace Go.Proofs.Ytnbmiejjkkgckaa
open Go.RowKit

theorem listedP_get : ∀ (plan : List Nat) (A : Array Bool), (listedP plan A).size = A.size ∧ ∀ j, j < A.size → (listedP plan A).getD j false = (A.getD j false || plan.contains j)
  | [], A => ⟨rfl, fun j hj => by simp [listedP]⟩
  | i :: r, A => by
    obtain ⟨h1, h2⟩ := listedP_get r (A.setIfInBounds i true)
    refine ⟨by simpa [listedP] using h1, fun j hj => ?_⟩
    have h3 := h2 j (by simpa using hj)
    show (listedP r (A.setIfInBounds i true)).getD j false = _
    rw [h3]
    by_cases hij : i = j
    · subst hij
      simp [hj]
    · rw [getD_set_ne false hij]
      have : (j == i) = false := by simpa using Ne.symm hij
      simp only [List.contains_cons, this, Bool.false_or]
theorem listed_range {m n : Nat} {listed : Array Bool} (hs : listed.size = n) (h : ∀ i, i < n → listed.getD i false = decide (i < m)) : listed = listedP (List.range m) (Array.replicate n false) := by
  obtain ⟨h1, h2⟩ := listedP_get (List.range m) (Array.replicate n false)
  have h1' : (listedP (List.range m) (Array.replicate n false)).size = n := by simpa using h1
  refine Array.ext (by omega) fun i hi hi' => ?_
  have h3 := h i (by omega)
  have h4 := h2 i (by simp; omega)
  rw [getD_replicate_false, Bool.false_or] at h4
  have e1 : listed.getD i false = listed[i] := by simp [hi]
  have e2 : (listedP (List.range m) (Array.replicate n false)).getD i false = (listedP (List.range m) (Array.replicate n false))[i] := by simp [hi']
  rw [← e1, ← e2, h3, h4]
  by_cases him : i < m
  · simp [him]
  · simp [him]

/-- the rule: the first m operations in the text's order, then the rest -/
theorem drawC_of {P : Program} {n0 id : Nat} {l : List Oper} {Q : Exit → St → Prop} {σ : St} (m : Nat) (t : OT) (hm : P.follows .mixedOrders = true) (hS : chkS l m = true)
    (hT : treeB l.toArray (l.length - m) (listedP (List.range m) (Array.replicate l.length false)) t true = true) (hlen : m ≤ l.length)
    (h : cRun P l σ.nx (tsteps P l (Q .normal) t) 0 (l.take m) [] { σ with nx := σ.nx + m }) : DrawR P n0 id l.toArray Q σ := by
  intro E a w hr E0 w0 hU hE
  refine wp_region_any hm ?_
  have inv : HeadInv .any l.toArray l.toArray.size (Array.replicate l.length false) := by
    have := headInv_start (ops := l.toArray) (md := .any)
    simpa using this
  obtain ⟨L, rs, σT, _, hSt, hc, hf⟩ := cRun_steps _ _ _ _ h
  have hdr : RelF E σ a { w with drawn := w.drawn + 1 } ∧ Ext E0 w0 E { w with drawn := w.drawn + 1 } := by
    have hb : Below w.heap.size w { w with drawn := w.drawn + 1 } := ⟨rfl, rfl, rfl, Nat.le_refl _, fun _ _ => rfl⟩
    obtain ⟨k1, k2⟩ := hr.later hb (fun _ h => h) (fun b hb => .inl hb) (fun b hb' => hr.rel.slt b hb')
    exact ⟨k1, hE.trans k2⟩
  obtain ⟨hr1, hE1⟩ := hdr
  have hr2 : RelF E { σ with nx := σ.nx + m } a { w with drawn := w.drawn + 1 } := ⟨hr1.rel, fun i hi => by have := hr1.bound i hi; show i < σ.nx + m; omega, hr1.fr, hr1.defers⟩
  have hlenT : (l.take m).length = m := by rw [List.length_take]; omega
  have := canon_ok (Q := Q) (fT := l.length - m) hSt rfl hc hS hlen (fun listed hs hl => by
    rw [listed_range hs hl]
    exact (tree_ok _ t _ σT true hT hf).2 rfl) l.length (List.range m) (Array.replicate l.length false) { σ with nx := σ.nx + m } E a _ (by simp; omega) List.nodup_range (fun i => by
      rw [List.mem_range, getD_replicate_false]; simp) (fun i _ => getD_replicate_false _ _) inv (by
      rw [frX_out]; intro j hj; exact getD_replicate_false _ _) (fun q => by
      rw [lkX_out]; intro j r hj hX; rw [getD_replicate_false] at hX; cases hX) rfl rfl hr2 (fun q hq => .inl (hr1.bound q hq)) E0 w0 hE1
  simpa using this
section
variable {P : Program} {l : List Oper} {n0 i : Nat} {fin : St → Prop} {L : Log} {σ : St}
@[go_sem] theorem cRun_nil : cRun P l n0 fin i [] L σ = (chkL l n0 L = true ∧ fin σ) := rfl
@[go_sem] theorem cRun_cons {o : Oper} {os : List Oper} : cRun P l n0 fin i (o :: os) L σ = cStep P l n0 i σ o.dst o.op o.guard (ckind P o.op o.guard) (cRun P l n0 fin (i + 1) os (logOf i σ (ckind P o.op o.guard) (opsOf o.op) L)) := rfl
@[go_sem] theorem addM_nil {u : Bool} : addM i u [] L = L := rfl
@[go_sem] theorem addM_cons {u : Bool} {q : Nat} {r : List Nat} : addM i u (q :: r) L = (i, q, u) :: addM i u r L := rfl
@[go_sem] theorem mentL_nil {u : Bool} : mentL i u σ [] L = L := rfl
@[go_sem] theorem mentL_cons {u : Bool} {x : Operand} {r : List Operand} : mentL i u σ (x :: r) L = mentL.mentX i u σ x (mentL i u σ r L) := rfl
@[go_sem] theorem logOf_box {x : Operand} {r : List Operand} : logOf i σ .box (x :: r) L = mentL i true σ [x] (mentL i false σ r L) := rfl
@[go_sem] theorem logOf_store {x : Operand} {r : List Operand} : logOf i σ .store (x :: r) L = mentL i true σ [x] (mentL i false σ r L) := rfl
@[go_sem] theorem logOf_app {x : Operand} {r : List Operand} : logOf i σ .app (x :: r) L = mentL i true σ [x] (mentL i false σ r L) := rfl
@[go_sem] theorem logOf_look {r : List Operand} : logOf i σ .look r L = mentL i false σ r L := rfl
@[go_sem] theorem logOf_new {r : List Operand} : logOf i σ .new r L = mentL i false σ r L := rfl
end
attribute [go_sem] mentL.mentX opsOf ckind ckind.noG ckind.ioK newR kNewC boxC appC appC.kApp appC.apL appS apR apR.apB apR.apC apR.apD delO storeC storeC.kSt storeS stR stR.stB stR.stW cStep V.ment V.ments
end Go.Proofs.Ytnbmiejjkkgckaa
