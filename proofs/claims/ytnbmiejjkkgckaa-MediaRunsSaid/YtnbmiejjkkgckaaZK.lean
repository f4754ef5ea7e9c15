/- Proved here: An abstract machine for the walks of the given statements (values, relation to the worlds of the model); conditions stand in each theorem. -/
import Derived.Test.YtnbmiejjkkgckaaZB
import Derived.Laws.Entries
import Derived.Laws.Shifts
set_option linter.unusedSimpArgs false
set_option linter.unusedVariables false
set_option linter.unusedSimpArgs false
set_option linter.unusedVariables false
set_option linter.unnecessarySimpa false
namespace Go.Proofs.Ytnbmiejjkkgckaa
open Go.RowKit

/-- trees: what a cell reads as -/
inductive T where
  | lit (v : Value)
  | list (k : Nat) (d : List T) (xs : List (List T))
instance : Inhabited T := ⟨.lit undef⟩

def FitV : Value → Prop
  | .string s => s.size ≤ maxLen
  | _ => True

inductive RdT (w : World) (S : Nat → Prop) : T → Value → Prop
  | lit (v : Value) (h1 : v.oneCell' = true) (hf : FitV v) : RdT w S (.lit v) v
  | list (k : Nat) (d : List T) (xs : List (List T)) (A : Option Addr) (c : Nat) (hm : xs.length ≤ maxLen) (hc : xs.length ≤ c) (hn : A = none → c = 0) (hk : ∀ e ∈ xs, e.length = k)
      (ha : ∀ i e, xs[i]? = some e → ∃ b off, A = some ⟨b, off, none⟩ ∧ S b ∧ ∀ (j : Nat) x, e[j]? = some x → ∃ u, w.cell? ⟨b, off + i * k + j, none⟩ = some u)
      (hr : ∀ (i : Nat) e (j : Nat) x b off u, xs[i]? = some e → e[j]? = some x → A = some ⟨b, off, none⟩ → w.cell? ⟨b, off + i * k + j, none⟩ = some u → RdT w S x u) :
      RdT w S (.list k d xs) (.slice A xs.length c)

theorem cell_same {w w' : World} {b : Nat} (h : w'.heap[b]? = w.heap[b]?) (o : Nat) : w'.cell? ⟨b, o, none⟩ = w.cell? ⟨b, o, none⟩ := World.cell?_of_block (w := w) h

theorem RdT.mono {w w' : World} {S S' : Nat → Prop} (hS : ∀ b, S b → S' b) (hw : ∀ b, S b → w'.heap[b]? = w.heap[b]?) {x : T} {v : Value} (h : RdT w S x v) : RdT w' S' x v := by
  induction h with
  | lit v h1 hf => exact .lit v h1 hf
  | list k d xs A c hm hc hn hk ha hr ih =>
    refine .list k d xs A c hm hc hn hk ?_ ?_
    · intro i e hi
      obtain ⟨b, off, hA, hb, hj⟩ := ha i e hi
      refine ⟨b, off, hA, hS b hb, fun j x hx => ?_⟩
      obtain ⟨u, hu⟩ := hj j x hx
      exact ⟨u, by rw [cell_same (hw b hb)]; exact hu⟩
    · intro i e j x b off u hi hj hA hu
      obtain ⟨b', off', hA', hb, _⟩ := ha i e hi
      rw [hA] at hA'
      injection hA' with hA'
      injection hA' with h1 h2
      subst h1 h2
      rw [cell_same (hw b hb)] at hu
      exact ih i e j x b off u hi hj hA hu

theorem RdT.one {w : World} {S : Nat → Prop} {x : T} {v : Value} (h : RdT w S x v) : v.oneCell' = true := by
  cases h with
  | lit _ h1 _ => exact h1
  | list => rfl

def RdTs (w : World) (S : Nat → Prop) : List T → List Value → Prop
  | [], [] => True
  | x :: xs, v :: vs => RdT w S x v ∧ RdTs w S xs vs
  | _, _ => False

structure Env where
  S : Nat → Prop
  B : Nat → Option Value
  U : Nat → Prop
  D : Nat → Prop
  F : Nat → Option Value := fun _ => none
/-- what the handle of a number is: of a block of one's own, or of one that was given away -/
def Env.Is (E : Env) (i : Nat) (hv : Value) : Prop := E.B i = some hv ∨ E.F i = some hv

inductive V where
  | t (x : T)
  | agg (cs : List V)
  | tup (vs : List V)
  | own (i : Nat)
  | ptr (i off : Nat)
  | rptr (i k n j : Nat)
  | elem (k : Nat) (d : List T) (xs : List (List T)) (i j : Nat)
  | cond (g : Bool) (x : V)
  | clo (f : FuncId) (cs : List V)
  | dead
instance : Inhabited V := ⟨.dead⟩

mutual
def RdV (w : World) (E : Env) : V → Value → Prop
  | .t x, v => RdT w E.S x v
  | .agg cs, v => ∃ vs : Array Value, v = .agg vs ∧ RdVs w E cs vs.toList ∧ vs.toList.all (·.oneCell') = true
  | .tup cs, v => ∃ vs : Array Value, v = .tuple vs ∧ RdVs w E cs vs.toList
  | .own i, v => v.oneCell' = true ∧ E.U i ∧ ∀ hv, E.Is i hv → v = hv
  | .ptr i off, v => v.oneCell' = true ∧ E.U i ∧ ∀ hv, E.Is i hv → ∃ b, hv = .pointer (some ⟨b, 0, none⟩) ∧ v = .pointer (some ⟨b, off, none⟩)
  | .rptr i k n j, v => v.oneCell' = true ∧ E.U i ∧ ∀ hv, E.Is i hv → ∃ b m c, hv = .slice (some ⟨b, 0, none⟩) m c ∧ n < m ∧ v = .pointer (some ⟨b, n * k + j, none⟩)
  | .elem k d xs i j, v => ∃ b off c, RdT w E.S (.list k d xs) (.slice (some ⟨b, off, none⟩) xs.length c) ∧ i < xs.length ∧ v = .pointer (some ⟨b, off + i * k + j, none⟩)
  | .cond g x, v => (g = true → RdV w E x v) ∧ (g = false → v = undef)
  | .clo f cs, v => ∃ vs : Array Value, v = .func (.func f) #[] vs ∧ RdVs w E cs vs.toList
  | .dead, _ => True
def RdVs (w : World) (E : Env) : List V → List Value → Prop
  | [], [] => True
  | x :: xs, v :: vs => RdV w E x v ∧ RdVs w E xs vs
  | _, _ => False
end

inductive Blk where
  | box (cs : List V)
  | row (e k : Nat) (d : List T) (xs : List (List V))
  | map (es : List (Value × V))
  | shr (t : T)

/-- the block that a handle names -/
def blockOf : Value → Option Nat
  | .pointer (some a) => some a.block
  | .slice (some a) _ _ => some a.block
  | .map (some r) => some r
  | _ => none

/-- the entries of a map -/
def RdEs (w : World) (E : Env) : List (Value × V) → List MapEntry → Prop
  | [], [] => True
  | (k, x) :: xs, e :: es => e.key = k ∧ RdV w E x e.val ∧ RdEs w E xs es
  | _, _ => False

def BlkRel (w : World) (E : Env) : Blk → Value → Prop
  | .box cs, hv => ∃ b vs ty, hv = .pointer (some ⟨b, 0, none⟩) ∧ w.heap[b]? = some (.cells vs ty (0, 0)) ∧ RdVs w E cs vs.toList ∧ vs.toList.all (·.oneCell') = true
  | .row e k d xs, hv => ∃ cells, w.ownsRow 0 e k hv xs.length cells ∧ RdVs w E xs.flatten cells ∧ (∀ x ∈ xs, x.length = k) ∧ cells.all (·.oneCell') = true
  | .map es, hv => ∃ r entries clock, hv = .map (some r) ∧ w.heap[r]? = some (.map entries clock) ∧ RdEs w E es entries.toList ∧ (∀ e ∈ entries.toList, e.born < clock) ∧ (entries.toList.map (·.born)).Nodup
  | .shr t, hv => RdT w E.S t hv
def Env.at (E : Env) (blk : Blk) (i : Nat) : Option Value :=
  match blk with
  | .shr _ => E.F i
  | _ => E.B i

abbrev Heap := List (Nat × Blk)
def Heap.look (h : Heap) (i : Nat) : Option Blk :=
  match h with
  | [] => none
  | (j, b) :: r => if i = j then some b else Heap.look r i

structure Rel (w : World) (E : Env) (h : Heap) : Prop where
  has : ∀ i blk, h.look i = some blk → ∃ hv, E.at blk i = some hv ∧ BlkRel w E blk hv
  dom : ∀ i hv, E.B i = some hv → E.U i ∧ ∃ blk, h.look i = some blk
  domF : ∀ i hv, E.F i = some hv → E.U i ∧ E.B i = none
  own : ∀ i hv b, E.B i = some hv → blockOf hv = some b → b < w.heap.size ∧ ¬ E.S b ∧ ¬ E.D b
  apart : ∀ i j hi hj b, E.B i = some hi → E.B j = some hj → blockOf hi = some b → blockOf hj = some b → i = j
  slt : ∀ b, E.S b → b < w.heap.size
  dlt : ∀ b, E.D b → b < w.heap.size

structure Ext (E0 : Env) (w0 : World) (E : Env) (w : World) : Prop where
  os : w.os = w0.os
  tape : w.tape = w0.tape
  output : w.output = w0.output
  size : w0.heap.size ≤ w.heap.size
  keep : ∀ b, E0.S b ∨ E0.D b → w.heap[b]? = w0.heap[b]?
  S : ∀ b, E0.S b → E.S b
  S' : ∀ b, E.S b → E0.S b ∨ ¬ E0.D b
  D : ∀ b, E.D b ↔ E0.D b
  U : ∀ i, E0.U i → E.U i
  B : ∀ i, E0.U i → ∀ hv, E.B i = some hv → E0.B i = some hv
  W : ∀ i, E0.U i → ∀ hv, E.Is i hv → E0.Is i hv

theorem Rel.is {w : World} {E : Env} {h : Heap} {i : Nat} {h0 hv : Value} (hr : Rel w E h) (hB : E.B i = some h0) (hb : E.Is i hv) : hv = h0 := by
  rcases hb with hb | hb
  · rw [hB] at hb; injection hb with hb; exact hb.symm
  · rw [(hr.domF i hv hb).2] at hB; cases hB
theorem Rel.uses {w : World} {E : Env} {h : Heap} {i : Nat} {blk : Blk} (hr : Rel w E h) (hl : h.look i = some blk) : E.U i := by
  obtain ⟨hv, hat, _⟩ := hr.has i blk hl
  cases blk <;> first | exact (hr.domF i hv hat).1 | exact (hr.dom i hv hat).1
theorem Rel.isF {w : World} {E : Env} {h : Heap} {i : Nat} {h0 hv : Value} (hr : Rel w E h) (hF : E.F i = some h0) (hb : E.Is i hv) : hv = h0 := by
  rcases hb with hb | hb
  · rw [(hr.domF i h0 hF).2] at hb; cases hb
  · rw [hF] at hb; injection hb with hb; exact hb.symm
theorem Ext.refl (E : Env) (w : World) : Ext E w E w :=
  ⟨rfl, rfl, rfl, Nat.le_refl _, fun _ _ => rfl, fun _ h => h, fun _ h => .inl h, fun _ => .rfl, fun _ h => h, fun _ _ _ h => h, fun _ _ _ h => h⟩
theorem Ext.trans {E0 E1 E2 : Env} {w0 w1 w2 : World} (h : Ext E0 w0 E1 w1) (k : Ext E1 w1 E2 w2) : Ext E0 w0 E2 w2 where
  os := k.os.trans h.os
  tape := k.tape.trans h.tape
  output := k.output.trans h.output
  size := Nat.le_trans h.size k.size
  keep := fun b hb => (k.keep b (hb.imp (h.S b) ((h.D b).2))).trans (h.keep b hb)
  S := fun b hb => k.S b (h.S b hb)
  S' := fun b hb => by
    rcases k.S' b hb with h1 | h1
    · exact h.S' b h1
    · exact .inr fun hd => h1 ((h.D b).2 hd)
  D := fun b => (k.D b).trans (h.D b)
  U := fun i hi => k.U i (h.U i hi)
  B := fun i hi hv hb => h.B i hi hv (k.B i (h.U i hi) hv hb)
  W := fun i hi hv hb => h.W i hi hv (k.W i (h.U i hi) hv hb)

theorem Ext.rdT {E0 E : Env} {w0 w : World} (h : Ext E0 w0 E w) {x : T} {v : Value} (hx : RdT w0 E0.S x v) : RdT w E.S x v :=
  hx.mono h.S fun b hb => h.keep b (.inl hb)
theorem Ext.rdTs {E0 E : Env} {w0 w : World} (h : Ext E0 w0 E w) : ∀ {xs : List T} {vs : List Value}, RdTs w0 E0.S xs vs → RdTs w E.S xs vs
  | [], [], _ => trivial
  | _ :: _, _ :: _, hx => ⟨h.rdT hx.1, h.rdTs hx.2⟩
  | [], _ :: _, hx => hx.elim
  | _ :: _, [], hx => hx.elim

mutual
theorem Ext.rdV {E0 E : Env} {w0 w : World} (h : Ext E0 w0 E w) : ∀ (x : V) {v : Value}, RdV w0 E0 x v → RdV w E x v
  | .t x, v, hx => by
    simp only [RdV] at hx ⊢
    exact h.rdT hx
  | .agg cs, v, hx => by
    simp only [RdV] at hx ⊢
    obtain ⟨vs, hv, h1, h2⟩ := hx
    exact ⟨vs, hv, Ext.rdVs h cs h1, h2⟩
  | .tup cs, v, hx => by
    simp only [RdV] at hx ⊢
    obtain ⟨vs, hv, h1⟩ := hx
    exact ⟨vs, hv, Ext.rdVs h cs h1⟩
  | .own i, v, hx => by
    simp only [RdV] at hx ⊢
    exact ⟨hx.1, h.U i hx.2.1, fun hv hb => hx.2.2 hv (h.W i hx.2.1 hv hb)⟩
  | .ptr i off, v, hx => by
    simp only [RdV] at hx ⊢
    exact ⟨hx.1, h.U i hx.2.1, fun hv hb => hx.2.2 hv (h.W i hx.2.1 hv hb)⟩
  | .rptr i k n j, v, hx => by
    simp only [RdV] at hx ⊢
    exact ⟨hx.1, h.U i hx.2.1, fun hv hb => hx.2.2 hv (h.W i hx.2.1 hv hb)⟩
  | .elem k d xs i j, v, hx => by
    simp only [RdV] at hx ⊢
    obtain ⟨b, off, c, h1, h2⟩ := hx
    exact ⟨b, off, c, h.rdT h1, h2⟩
  | .cond g x, v, hx => by
    simp only [RdV] at hx ⊢
    exact ⟨fun hg => Ext.rdV h x (hx.1 hg), hx.2⟩
  | .clo f cs, v, hx => by
    simp only [RdV] at hx ⊢
    obtain ⟨vs, hv, h1⟩ := hx
    exact ⟨vs, hv, Ext.rdVs h cs h1⟩
  | .dead, v, hx => by simp only [RdV]
theorem Ext.rdVs {E0 E : Env} {w0 w : World} (h : Ext E0 w0 E w) : ∀ (xs : List V) {vs : List Value}, RdVs w0 E0 xs vs → RdVs w E xs vs
  | [], [], hx => by simp only [RdVs]
  | x :: xs, v :: vs, hx => by
    simp only [RdVs] at hx ⊢
    exact ⟨Ext.rdV h x hx.1, Ext.rdVs h xs hx.2⟩
  | [], _ :: _, hx => by simp only [RdVs] at hx
  | _ :: _, [], hx => by simp only [RdVs] at hx
end

theorem Ext.rdEs {E0 E : Env} {w0 w : World} (h : Ext E0 w0 E w) : ∀ (xs : List (Value × V)) {es : List MapEntry}, RdEs w0 E0 xs es → RdEs w E xs es
  | [], [], hx => trivial
  | (k, x) :: xs, e :: es, hx => ⟨hx.1, h.rdV x hx.2.1, Ext.rdEs h xs hx.2.2⟩
  | [], _ :: _, hx => hx.elim
  | _ :: _, [], hx => hx.elim

/-- a state of the abstract machine: slots, own blocks, the next number of a block -/
structure St where
  fr : List V
  h : Heap
  nx : Nat
  df : List FuncId := []
/-- the deferred calls: closures without arguments -/
def DefRel : List FuncId → List Deferred → Prop
  | [], [] => True
  | g :: gs, d :: ds => (∃ cap, d = { target := .fn (.func g) cap, args := #[] }) ∧ DefRel gs ds
  | _, _ => False

structure RelF (E : Env) (σ : St) (a : Act) (w : World) : Prop where
  rel : Rel w E σ.h
  bound : ∀ i, E.U i → i < σ.nx
  fr : RdVs w E σ.fr a.tmps.toList
  defers : DefRel σ.df a.defers

theorem RdVs.get {w : World} {E : Env} : ∀ {xs : List V} {vs : List Value} {i : Nat} {x : V}, RdVs w E xs vs → xs[i]? = some x → ∃ v, vs[i]? = some v ∧ RdV w E x v
  | [], [], i, x, _, hx => by simp at hx
  | x0 :: xs, v0 :: vs, 0, x, h, hx => by
    simp only [RdVs] at h
    simp at hx
    subst hx
    exact ⟨v0, rfl, h.1⟩
  | x0 :: xs, v0 :: vs, i + 1, x, h, hx => by
    simp only [RdVs] at h
    simp at hx ⊢
    exact RdVs.get h.2 hx
  | [], _ :: _, i, x, h, hx => by simp only [RdVs] at h
  | _ :: _, [], i, x, h, hx => by simp only [RdVs] at h
theorem RdVs.len {w : World} {E : Env} : ∀ {xs : List V} {vs : List Value}, RdVs w E xs vs → xs.length = vs.length
  | [], [], _ => rfl
  | x0 :: xs, v0 :: vs, h => by
    simp only [RdVs] at h
    simp [RdVs.len h.2]
  | [], _ :: _, h => by simp only [RdVs] at h
  | _ :: _, [], h => by simp only [RdVs] at h
theorem RdVs.set {w : World} {E : Env} {x : V} {v : Value} (hx : RdV w E x v) : ∀ {xs : List V} {vs : List Value} (i : Nat), RdVs w E xs vs → RdVs w E (xs.set i x) (vs.set i v)
  | [], [], i, h => by simp only [RdVs, List.set_nil]
  | x0 :: xs, v0 :: vs, 0, h => by
    simp only [RdVs] at h
    simp only [List.set_cons_zero, RdVs]
    exact ⟨hx, h.2⟩
  | x0 :: xs, v0 :: vs, i + 1, h => by
    simp only [RdVs] at h
    simp only [List.set_cons_succ, RdVs]
    exact ⟨h.1, RdVs.set hx i h.2⟩
  | [], _ :: _, i, h => by simp only [RdVs] at h
  | _ :: _, [], i, h => by simp only [RdVs] at h

def fitB : Value → Bool
  | .string s => decide (s.size ≤ maxLen)
  | _ => true
theorem fit_of {v : Value} (h : fitB v = true) : FitV v := by
  cases v <;> simp_all [fitB, FitV]
def litV : Value → V
  | .agg cs => if cs.toList.all (fun v => v.oneCell' && fitB v) then .agg (cs.toList.map fun v => .t (.lit v)) else .dead
  | .tuple _ => .dead
  | v => if fitB v then .t (.lit v) else .dead

def St.ev (σ : St) : Operand → V
  | .tmp t => σ.fr.getD t .dead
  | .const v => litV v
  | .func f => .t (.lit (.func (.func f) #[] #[]))
  | .global _ => .dead

theorem rdVs_lits {w : World} {E : Env} : ∀ (cs : List Value), (cs.all fun v => v.oneCell' && fitB v) = true → RdVs w E (cs.map fun v => .t (.lit v)) cs
  | [], _ => by simp only [List.map_nil, RdVs]
  | v :: r, h => by
    simp only [List.all_cons, Bool.and_eq_true] at h
    simp only [List.map_cons, RdVs, RdV]
    exact ⟨.lit v h.1.1 (fit_of h.1.2), rdVs_lits r (by simpa using h.2)⟩
theorem rdV_lit {w : World} {E : Env} {v : Value} (h1 : v.oneCell' = true) (h2 : fitB v = true) : RdV w E (.t (.lit v)) v := by
  simp only [RdV]; exact .lit v h1 (fit_of h2)
theorem rdV_ite {w : World} {E : Env} {c : Prop} [Decidable c] {x : V} {v : Value} (h : c → RdV w E x v) : RdV w E (if c then x else .dead) v := by
  split
  · exact h ‹_›
  · simp only [RdV]
theorem rdV_litV {w : World} {E : Env} (v : Value) : RdV w E (litV v) v := by
  cases v with
  | agg cs =>
    unfold litV
    refine rdV_ite fun h => ?_
    simp only [RdV]
    exact ⟨cs, rfl, rdVs_lits _ h, by simp only [List.all_eq_true, Bool.and_eq_true] at h ⊢; exact fun x hx => (h x hx).1⟩
  | tuple _ => unfold litV; simp only [RdV]
  | _ => unfold litV; refine rdV_ite fun h => ?_; exact rdV_lit (by rfl) h

theorem RelF.ev {E : Env} {σ : St} {a : Act} {w : World} (h : RelF E σ a w) (x : Operand) : RdV w E (σ.ev x) (a.eval x) := by
  cases x with
  | tmp t =>
    simp only [St.ev, Act.eval]
    cases hx : σ.fr[t]? with
    | none => simp [List.getD_eq_getElem?_getD, hx, RdV]
    | some y =>
      obtain ⟨v, hv, hr⟩ := RdVs.get h.fr hx
      have e1 : σ.fr.getD t .dead = y := by simp [List.getD_eq_getElem?_getD, hx]
      have e2 : a.tmps.getD t undef = v := by
        have : a.tmps[t]? = some v := by simpa using hv
        simp [Array.getD_eq_getD_getElem?, this]
      rw [e1, e2]; exact hr
  | const v => exact rdV_litV v
  | global g => simp only [St.ev, RdV]
  | func f => simp only [St.ev, Act.eval, RdV]; exact .lit _ rfl trivial

def St.put (σ : St) (d : Option Tmp) (x : V) : St :=
  match d with
  | some t => { σ with fr := σ.fr.set t x }
  | none => σ
theorem RelF.put {E : Env} {σ : St} {a : Act} {w : World} (h : RelF E σ a w) (d : Option Tmp) {x : V} {v : Value} (hx : RdV w E x v) : RelF E (σ.put d x) (a.put d v) w := by
  cases d with
  | none => exact h
  | some t =>
    refine ⟨h.rel, h.bound, ?_, h.defers⟩
    simp only [St.put, Act.put, Array.toList_setIfInBounds]
    exact RdVs.set hx t h.fr
end Go.Proofs.Ytnbmiejjkkgckaa
/- Proved here: Operations of the abstract machine that leave the world alone, for use in the proofs of the given statements; conditions stand in each theorem. -/
set_option linter.unusedSimpArgs false
set_option linter.unusedVariables false
set_option linter.unnecessarySimpa false
namespace Go.Proofs.Ytnbmiejjkkgckaa
open Go.RowKit

/-! the layout of the types -/
def _root_.Go.Program.szT (P : Program) (t : TypeId) : Option Nat := (P.info? t).map (·.size)
def _root_.Go.Program.aggT (P : Program) (t : TypeId) : Option Bool :=
  match P.underlying t with
  | some (.struct _) | some (.array _ _) => some true
  | some _ => some false
  | none => none
def _root_.Go.Program.fldT (P : Program) (t : TypeId) (f : Nat) : Option (Nat × TypeId) :=
  match P.underlying t with
  | some (.struct fs) => (fs[f]?).map fun x => (x.offset, x.type)
  | _ => none
def _root_.Go.Program.elemT (P : Program) (t : TypeId) : Option TypeId :=
  match P.underlying t with
  | some (.slice e) => some e
  | _ => none
def _root_.Go.Program.zeroT (P : Program) (t : TypeId) : Option (List Value) := ((P.info? t).bind (·.zero)).map (·.cells.toList)

theorem run_sizeOf {P : Program} {t : TypeId} {n : Nat} (h : P.szT t = some n) (w : World) : (sizeOf t).run P w = .ok n w := by
  unfold Program.szT at h
  cases hi : P.info? t with
  | none => simp [hi] at h
  | some i => simp [hi] at h; simp [sizeOf, typeInfo, hi, h]
theorem run_isAgg {P : Program} {t : TypeId} {b : Bool} (h : P.aggT t = some b) (w : World) : (isAgg t).run P w = .ok b w := by
  unfold Program.aggT at h
  cases hu : P.underlying t with
  | none => simp [hu] at h
  | some d =>
    rw [hu] at h
    simp only [isAgg, Sem.run_bind, run_underlying hu, Result.andThen_ok]
    cases d <;> simp at h <;> subst h <;> rfl

def V.cells : V → List V
  | .agg cs => cs
  | x => [x]
def partV (P : Program) (t : TypeId) (cs : List V) (off : Nat) : Option V :=
  match P.aggT t, P.szT t with
  | some true, some n => some (.agg ((cs.drop off).take n))
  | some false, _ => cs[off]?
  | _, _ => none

theorem RdVs.drop {w : World} {E : Env} : ∀ {xs : List V} {vs : List Value} (n : Nat), RdVs w E xs vs → RdVs w E (xs.drop n) (vs.drop n)
  | xs, vs, 0, h => by simpa using h
  | [], [], n + 1, h => by simp only [List.drop_nil]; exact h
  | x0 :: xs, v0 :: vs, n + 1, h => by
    simp only [RdVs] at h
    simp only [List.drop_succ_cons]
    exact RdVs.drop n h.2
  | [], _ :: _, _ + 1, h => by simp only [RdVs] at h
  | _ :: _, [], _ + 1, h => by simp only [RdVs] at h
theorem RdVs.take {w : World} {E : Env} : ∀ {xs : List V} {vs : List Value} (n : Nat), RdVs w E xs vs → RdVs w E (xs.take n) (vs.take n)
  | xs, vs, 0, h => by simp only [List.take_zero, RdVs]
  | [], [], n + 1, h => by simp only [List.take_nil]; exact h
  | x0 :: xs, v0 :: vs, n + 1, h => by
    simp only [RdVs] at h
    simp only [List.take_succ_cons, RdVs]
    exact ⟨h.1, RdVs.take n h.2⟩
  | [], _ :: _, _ + 1, h => by simp only [RdVs] at h
  | _ :: _, [], _ + 1, h => by simp only [RdVs] at h
theorem RdVs.append {w : World} {E : Env} : ∀ {xs ys : List V} {vs us : List Value}, RdVs w E xs vs → RdVs w E ys us → RdVs w E (xs ++ ys) (vs ++ us)
  | [], ys, [], us, _, h => h
  | x0 :: xs, ys, v0 :: vs, us, h, k => by
    simp only [RdVs] at h
    simp only [List.cons_append, RdVs]
    exact ⟨h.1, RdVs.append h.2 k⟩
  | [], _, _ :: _, _, h, _ => by simp only [RdVs] at h
  | _ :: _, _, [], _, h, _ => by simp only [RdVs] at h
theorem RdVs.ofT {w : World} {E : Env} : ∀ {xs : List T} {vs : List Value}, RdTs w E.S xs vs → RdVs w E (xs.map .t) vs
  | [], [], _ => by simp only [List.map_nil, RdVs]
  | x :: xs, v :: vs, h => by
    simp only [List.map_cons, RdVs, RdV]
    exact ⟨h.1, RdVs.ofT h.2⟩
  | [], _ :: _, h => h.elim
  | _ :: _, [], h => h.elim

/-- may stand in a cell -/
def V.isCell : V → Bool
  | .agg _ | .tup _ | .cond _ _ | .dead => false
  | _ => true
theorem RdV.one {w : World} {E : Env} {x : V} {v : Value} (hx : x.isCell = true) (h : RdV w E x v) : v.oneCell' = true := by
  cases x with
  | t x => simp only [RdV] at h; exact h.one
  | own i => simp only [RdV] at h; exact h.1
  | ptr i off => simp only [RdV] at h; exact h.1
  | rptr i k n j => simp only [RdV] at h; exact h.1
  | elem k d xs i j => simp only [RdV] at h; obtain ⟨b, off, c, _, _, rfl⟩ := h; rfl
  | clo f cs => simp only [RdV] at h; obtain ⟨vs, rfl, _⟩ := h; rfl
  | agg _ => simp [V.isCell] at hx
  | tup _ => simp [V.isCell] at hx
  | cond _ _ => simp [V.isCell] at hx
  | dead => simp [V.isCell] at hx
theorem RdVs.ones {w : World} {E : Env} : ∀ {xs : List V} {vs : List Value}, xs.all V.isCell = true → RdVs w E xs vs → vs.all (·.oneCell') = true
  | [], [], _, _ => rfl
  | x :: xs, v :: vs, hx, h => by
    simp only [RdVs] at h
    simp only [List.all_cons, Bool.and_eq_true] at hx ⊢
    exact ⟨RdV.one hx.1 h.1, RdVs.ones hx.2 h.2⟩
  | [], _ :: _, _, h => by simp only [RdVs] at h
  | _ :: _, [], _, h => by simp only [RdVs] at h

theorem part_ok {P : Program} {w : World} {E : Env} {t : TypeId} {cs : List V} {vs : Array Value} {off : Nat} {x : V} (h1 : RdVs w E cs vs.toList) (h2 : vs.toList.all (·.oneCell') = true)
    (h : partV P t cs off = some x) : ∃ v, (part t vs off).run P w = .ok v w ∧ RdV w E x v := by
  unfold partV at h
  split at h
  · rename_i n ha hs
    injection h with h
    subst h
    refine ⟨.agg (vs.extract off (off + n)), ?_, ?_⟩
    · simp [part, run_isAgg ha, run_sizeOf hs]
    · simp only [RdV]
      refine ⟨_, rfl, ?_, ?_⟩
      · have := RdVs.take n (RdVs.drop off h1)
        simpa [List.drop_take, Nat.add_sub_cancel_left] using this
      · simp only [List.all_eq_true] at h2 ⊢
        intro v hv
        simp only [Array.toList_extract, List.extract_eq_take_drop] at hv
        exact h2 v (List.mem_of_mem_drop (List.mem_of_mem_take hv))
  · rename_i ha
    obtain ⟨v, hv, hr⟩ := RdVs.get h1 h
    refine ⟨v, ?_, hr⟩
    have hv' : vs[off]? = some v := by simpa using hv
    simp [part, run_isAgg ha, hv']
  · cases h

/-- the operation yields what reads as x -/
def YV (P : Program) (o : Oper) (σ : St) (x : V) : Prop :=
  ∀ E a w, RelF E σ a w → ∀ (next : Act → World → Prop) Q, (∀ v w' E', RelF E' σ a w' → Ext E w E' w' → RdV w' E' x v → (∀ q, E'.U q → E.U q) → next (a.put o.dst v) w') → o.wp P a w next Q

theorem yv_of {P : Program} {o : Oper} {σ : St} {x : V} (h : ∀ E a w, RelF E σ a w → ∃ v, (execOp a.eval o).run P w = .ok (.value v) w ∧ RdV w E x v) : YV P o σ x := by
  intro E a w hr next Q hn
  obtain ⟨v, he, hv⟩ := h E a w hr
  unfold Oper.wp
  rw [he]
  exact hn v w E hr (Ext.refl E w) hv (fun _ h => h)

/-- a value under its condition -/
def useV (G : Bool) (x : V) (K : V → Prop) : Prop :=
  match x with
  | .cond g y => (G = true → g = true) ∧ K y
  | y => K y
theorem useV_ok {G : Bool} {x : V} {K : V → Prop} (h : useV G x K) : ∃ y, K y ∧ ∀ (w : World) (E : Env) v, G = true → RdV w E x v → RdV w E y v := by
  unfold useV at h
  split at h
  · exact ⟨_, h.2, fun w E v hG hx => by simp only [RdV] at hx; exact hx.1 (h.1 hG)⟩
  · exact ⟨_, h, fun w E v _ hx => hx⟩

/-! scalars: what a binary operation yields, and under which condition -/
def intB (op : BinOp) (k : IntKind) (a b : Int) : Option (Prop × Value) :=
  match op with
  | .add => some (True, .int k (k.wrap (a + b)))
  | .sub => some (True, .int k (k.wrap (a - b)))
  | .mul => some (True, .int k (k.wrap (a * b)))
  | .quo => some (b ≠ 0, .int k (k.wrap (a.tdiv b)))
  | .rem => some (b ≠ 0, .int k (a.tmod b))
  | .eql => some (True, .bool (a == b))
  | .neq => some (True, .bool (a != b))
  | .lss => some (True, .bool (decide (a < b)))
  | .leq => some (True, .bool (decide (a ≤ b)))
  | .gtr => some (True, .bool (decide (a > b)))
  | .geq => some (True, .bool (decide (a ≥ b)))
  | .and => some (True, .int k (bits .and k a b))
  | .or => some (True, .int k (bits .or k a b))
  | .xor => some (True, .int k (bits .xor k a b))
  | .andNot => some (True, .int k (bits .andNot k a b))
  | .shl => some (0 ≤ b, .int k (k.wrap (a * 2 ^ min b.toNat k.bits)))
  | .shr => some (0 ≤ b, .int k (a / 2 ^ min b.toNat k.bits))
def shB (op : BinOp) (k : IntKind) (a b : Int) : Option (Prop × Value) :=
  match op with
  | .shl => some (0 ≤ b, .int k (k.wrap (a * 2 ^ min b.toNat k.bits)))
  | .shr => some (0 ≤ b, .int k (a / 2 ^ min b.toNat k.bits))
  | _ => none
def strB (op : BinOp) (a b : ByteArray) : Option (Prop × Value) :=
  match op with
  | .add => some (((a.size + b.size : Nat) : Int) ≤ IntKind.i64.max, .string (a ++ b))
  | .eql => some (True, .bool (a.toList == b.toList))
  | .neq => some (True, .bool (!(a.toList == b.toList)))
  | .lss => some (True, .bool (Op.bytesLess a.toList b.toList))
  | .gtr => some (True, .bool (!(Op.bytesLess a.toList b.toList || a.toList == b.toList)))
  | _ => none
def binS (P : Program) (op : BinOp) (t : TypeId) (x y : Value) : Option (Prop × Value) :=
  match x, y with
  | .int k a, .int k' b => if k = k' then intB op k a b else shB op k a b
  | .string a, .string b => strB op a b
  | .bool a, .bool b =>
    match P.underlying t, op with
    | some .bool, .eql => some (True, .bool (a == b))
    | some .bool, .neq => some (True, .bool (!(a == b)))
    | _, _ => none
  | _, _ => none

theorem run_eqGuard {P : Program} {op : BinOp} {t : TypeId} {x y : Operand} {a b : Value} (ha : a.oneCell' = true) (h1 : a ≠ .nilIface) (w : World) : (eqGuard op t x y a b).run P w = .ok () w := by
  unfold eqGuard
  cases a with
  | nilIface => exact absurd rfl h1
  | agg _ => simp [Value.oneCell'] at ha
  | _ => split <;> rfl

theorem intB_ok {P : Program} {op : BinOp} {t : TypeId} {k : IntKind} {a b : Int} {v : Value} {p : Prop} (h : intB op k a b = some (p, v)) (hp : p) (w : World) :
    (binOp op t (.int k a) (.int k b)).run P w = .ok v w := by
  cases op <;> simp only [intB, reduceCtorEq, Option.some.injEq, Prod.mk.injEq] at h <;> obtain ⟨rfl, rfl⟩ := h <;>
    first | rfl | (rw [binOp_shl, shift_shl_any _ _ _ _ hp]; rfl) | (rw [binOp_shr, shift_shr_any _ _ _ _ hp]; rfl) | (show (if _ then _ else _ : Sem Value).run P w = _; rw [if_neg (by simp)]; first | rfl | (show (Op.intDiv _ _ _ _).run P w = _; unfold Op.intDiv; rw [if_neg hp]; rfl))
theorem shB_ok {P : Program} {op : BinOp} {t : TypeId} {k k' : IntKind} {a b : Int} {v : Value} {p : Prop} (h : shB op k a b = some (p, v)) (hp : p) (w : World) :
    (binOp op t (.int k a) (.int k' b)).run P w = .ok v w := by
  cases op <;> simp only [shB, reduceCtorEq, Option.some.injEq, Prod.mk.injEq] at h <;> obtain ⟨rfl, rfl⟩ := h <;>
    first | (rw [binOp_shl, shift_shl_any _ _ _ _ hp]; rfl) | (rw [binOp_shr, shift_shr_any _ _ _ _ hp]; rfl)
theorem strB_ok {P : Program} {op : BinOp} {t : TypeId} {a b : ByteArray} {v : Value} {p : Prop} (h : strB op a b = some (p, v)) (hp : p) (w : World) :
    (binOp op t (.string a) (.string b)).run P w = .ok v w := by
  cases op <;> simp only [strB, reduceCtorEq, Option.some.injEq, Prod.mk.injEq] at h <;> obtain ⟨rfl, rfl⟩ := h <;>
    first | rfl | (show (if _ then _ else _ : Sem Value).run P w = _; rw [if_neg (by omega)]; rfl)
theorem equal_bool {P : Program} {t : TypeId} (hu : P.underlying t = some .bool) (a b : Bool) (w : World) : (Op.equal t (.bool a) (.bool b)).run P w = .ok (a == b) w := by
  have h : ∀ d, (Op.equalIn (d + 1) t (.bool a) (.bool b)).run P w = .ok (a == b) w := fun d => by
    rw [Op.equalIn]
    simp only [Sem.run_bind, run_underlying hu, Result.andThen_ok, Sem.run_pure]
  exact h 9999
theorem binS_ok {P : Program} {op : BinOp} {t : TypeId} {x y v : Value} {p : Prop} (h : binS P op t x y = some (p, v)) (hp : p) (w : World) :
    (binOp op t x y).run P w = .ok v w ∧ x.oneCell' = true ∧ x ≠ .nilIface := by
  unfold binS at h
  split at h
  · rename_i k a k' b
    split at h
    · rename_i hk
      subst hk
      exact ⟨intB_ok h hp w, rfl, by simp⟩
    · exact ⟨shB_ok h hp w, rfl, by simp⟩
  · rename_i a b
    exact ⟨strB_ok h hp w, rfl, by simp⟩
  · rename_i a b
    refine ⟨?_, rfl, by simp⟩
    split at h
    · rename_i hu
      cases h
      show ((do pure (.bool (← Op.equal t (.bool a) (.bool b)))) : Sem Value).run P w = _
      simp only [Sem.run_bind, equal_bool hu, Result.andThen_ok, Sem.run_pure]
    · rename_i hu
      cases h
      show ((do pure (.bool (!(← Op.equal t (.bool a) (.bool b))))) : Sem Value).run P w = _
      simp only [Sem.run_bind, equal_bool hu, Result.andThen_ok, Sem.run_pure]
    · cases h
  · cases h
end Go.Proofs.Ytnbmiejjkkgckaa
/- Proved here: Operations of the abstract machine that leave the world alone, and calls that only read, for use in the proofs of the given statements; conditions stand in each theorem. -/
set_option linter.unusedSimpArgs false
set_option linter.unusedVariables false
set_option linter.unnecessarySimpa false
namespace Go.Proofs.Ytnbmiejjkkgckaa
open Go.RowKit

abbrev vint (n : Int) : V := .t (.lit (.int .i64 n))
abbrev vbool (b : Bool) : V := .t (.lit (.bool b))
abbrev vstr (s : ByteArray) : V := .t (.lit (.string s))

section
variable {P : Program} {G : Bool} {σ : St} {o : Oper} {K : V → Prop}

theorem ps_move {x : Operand} (ho : o.op = .move x ∨ o.op = .assign x) (h : K (σ.ev x)) : ∃ x, K x ∧ (G = true → YV P o σ x) :=
  ⟨_, h, fun _ => yv_of fun E a w hr => ⟨a.eval x, by rcases ho with ho | ho <;> simp [execOp, ho], hr.ev x⟩⟩

def pickV (G b : Bool) (x y : V) (K : V → Prop) : Prop :=
  match x, y with
  | .t (.lit (.bool p)), .t (.lit (.bool q)) => K (vbool (bif b then p else q))
  | .cond g (.t (.lit (.bool p))), .t (.lit (.bool q)) => ((G && b) = true → g = true) ∧ K (vbool (bif b then p else q))
  | .t (.lit (.bool p)), .cond g (.t (.lit (.bool q))) => ((G && !b) = true → g = true) ∧ K (vbool (bif b then p else q))
  | _, _ => False
theorem ps_pick {c x y : Operand} (ho : o.op = .pick c x y)
    (h : useV G (σ.ev c) fun c' => match c' with
      | .t (.lit (.bool b)) => pickV G b (σ.ev x) (σ.ev y) K
      | _ => False) : ∃ x, K x ∧ (G = true → YV P o σ x) := by
  obtain ⟨c', h, hc⟩ := useV_ok h
  split at h
  · rename_i b
    unfold pickV at h
    split at h
    · rename_i p q ex ey
      refine ⟨_, h, fun hG => yv_of fun E a w hr => ⟨if b then a.eval x else a.eval y, ?_, ?_⟩⟩
      · have hcv := hc w E (a.eval c) hG (hr.ev c)
        simp only [RdV] at hcv
        cases hcv' : a.eval c with
        | bool b' => rw [hcv'] at hcv; cases hcv; simp [execOp, ho, hcv', asBool]
        | _ => rw [hcv'] at hcv; cases hcv
      · have h1 := hr.ev x
        have h2 := hr.ev y
        rw [ex] at h1; rw [ey] at h2
        cases b
        · simpa using h2
        · simpa using h1
    · rename_i g p q ex ey
      refine ⟨_, h.2, fun hG => yv_of fun E a w hr => ⟨if b then a.eval x else a.eval y, ?_, ?_⟩⟩
      · have hcv := hc w E (a.eval c) hG (hr.ev c)
        simp only [RdV] at hcv
        cases hcv' : a.eval c with
        | bool b' => rw [hcv'] at hcv; cases hcv; simp [execOp, ho, hcv', asBool]
        | _ => rw [hcv'] at hcv; cases hcv
      · have h1 := hr.ev x
        have h2 := hr.ev y
        rw [ex] at h1; rw [ey] at h2
        cases b
        · simpa using h2
        · have h3 := h.1 (by simp [hG])
          rw [RdV] at h1
          simpa using h1.1 h3
    · rename_i g p q ex ey
      refine ⟨_, h.2, fun hG => yv_of fun E a w hr => ⟨if b then a.eval x else a.eval y, ?_, ?_⟩⟩
      · have hcv := hc w E (a.eval c) hG (hr.ev c)
        simp only [RdV] at hcv
        cases hcv' : a.eval c with
        | bool b' => rw [hcv'] at hcv; cases hcv; simp [execOp, ho, hcv', asBool]
        | _ => rw [hcv'] at hcv; cases hcv
      · have h1 := hr.ev x
        have h2 := hr.ev y
        rw [ex] at h1; rw [ey] at h2
        cases b
        · have h3 := h.1 (by simp [hG])
          rw [RdV] at h2
          simpa using h2.1 h3
        · simpa using h1
    · exact h.elim
  · exact h.elim

theorem rdT_lit_inv {w : World} {S : Nat → Prop} {v u : Value} (h : RdT w S (.lit v) u) : u = v ∧ v.oneCell' = true ∧ FitV v := by
  cases h with
  | lit _ h1 h2 => exact ⟨rfl, h1, h2⟩
theorem rdV_lit_inv {w : World} {E : Env} {v u : Value} (h : RdV w E (.t (.lit v)) u) : u = v ∧ v.oneCell' = true ∧ FitV v := by
  simp only [RdV] at h
  exact rdT_lit_inv h

def unV (op : UnOp) (x : V) (K : V → Prop) : Prop :=
  match op, x with
  | .not, .t (.lit (.bool b)) => K (vbool (!b))
  | .neg, .t (.lit (.int k n)) => K (.t (.lit (.int k (k.wrap (0 - n)))))
  | _, _ => False
theorem ps_unop {op : UnOp} {t : TypeId} {x : Operand} (ho : o.op = .unOp op t x) (h : useV G (σ.ev x) fun x' => unV op x' K) : ∃ x, K x ∧ (G = true → YV P o σ x) := by
  obtain ⟨c', h, hc⟩ := useV_ok h
  unfold unV at h
  split at h
  · refine ⟨_, h, fun hG => yv_of fun E a w hr => ⟨.bool (!_), ?_, rdV_lit rfl rfl⟩⟩
    have := (rdV_lit_inv (hc w E _ hG (hr.ev x))).1
    simp [execOp, ho, this, Op.unary]
  · refine ⟨_, h, fun hG => yv_of fun E a w hr => ⟨.int _ (IntKind.wrap _ (0 - _)), ?_, rdV_lit rfl rfl⟩⟩
    have := (rdV_lit_inv (hc w E _ hG (hr.ev x))).1
    simp [execOp, ho, this, Op.unary, Op.intArith]
  · exact h.elim

/-- two values of a type without addresses are equal exactly if b -/
def EqV (P : Program) (t : TypeId) (xs ys : List V) (b : Bool) : Prop :=
  ∀ (w : World) (E : Env) (vs us : Array Value), RdVs w E xs vs.toList → RdVs w E ys us.toList → (Op.equal t (.agg vs) (.agg us)).run P w = .ok b w ∧ ∀ x y, (eqGuard .eql t x y (.agg vs) (.agg us)).run P w = .ok () w

def binV (P : Program) (G : Bool) (op : BinOp) (t : TypeId) (x y : V) (K : V → Prop) : Prop :=
  match x, y with
  | .t (.lit a), .t (.lit b) =>
    match binS P op t a b with
    | some (p, v) => (G = true → p) ∧ K (.t (.lit v))
    | none => False
  | .agg xs, .agg ys =>
    match op with
    | .eql => ∃ b, (G = true → EqV P t xs ys b) ∧ K (vbool b)
    | .neq => ∃ b, (G = true → EqV P t xs ys b) ∧ K (vbool (!b))
    | _ => False
  | _, _ => False

theorem intB_one {op : BinOp} {k : IntKind} {a b : Int} {v : Value} {p : Prop} (h : intB op k a b = some (p, v)) : v.oneCell' = true ∧ FitV v := by
  cases op <;> simp only [intB, reduceCtorEq, Option.some.injEq, Prod.mk.injEq] at h <;> obtain ⟨rfl, rfl⟩ := h <;> exact ⟨rfl, trivial⟩
theorem shB_one {op : BinOp} {k : IntKind} {a b : Int} {v : Value} {p : Prop} (h : shB op k a b = some (p, v)) : v.oneCell' = true ∧ FitV v := by
  cases op <;> simp only [shB, reduceCtorEq, Option.some.injEq, Prod.mk.injEq] at h <;> obtain ⟨rfl, rfl⟩ := h <;> exact ⟨rfl, trivial⟩
theorem strB_one {op : BinOp} {a b : ByteArray} {v : Value} {p : Prop} (h : strB op a b = some (p, v)) (hp : p) : v.oneCell' = true ∧ FitV v := by
  cases op <;> simp only [strB, reduceCtorEq, Option.some.injEq, Prod.mk.injEq] at h <;> obtain ⟨rfl, rfl⟩ := h <;> refine ⟨rfl, ?_⟩ <;>
    first | trivial | (have hm : IntKind.i64.max = 9223372036854775807 := rfl; simp only [FitV, ByteArray.size_append, maxLen, hm] at hp ⊢; omega)
theorem binS_one {op : BinOp} {t : TypeId} {x y v : Value} {p : Prop} (h : binS P op t x y = some (p, v)) (hp : p) : v.oneCell' = true ∧ FitV v := by
  unfold binS at h
  split at h
  · split at h
    · exact intB_one h
    · exact shB_one h
  · exact strB_one h hp
  · split at h <;> first | (cases h; exact ⟨rfl, trivial⟩) | cases h
  · cases h

theorem ps_binop {op : BinOp} {t u : TypeId} {x y : Operand} (ho : o.op = .binOp op t x y u)
    (h : useV G (σ.ev x) fun x' => useV G (σ.ev y) fun y' => binV P G op t x' y' K) : ∃ x, K x ∧ (G = true → YV P o σ x) := by
  obtain ⟨x', h, hx⟩ := useV_ok h
  obtain ⟨y', h, hy⟩ := useV_ok h
  unfold binV at h
  split at h
  · rename_i va vb
    split at h
    · rename_i p v hb
      refine ⟨_, h.2, fun hG => yv_of fun E a w hr => ⟨v, ?_, ?_⟩⟩
      · have e1 := (rdV_lit_inv (hx w E _ hG (hr.ev x))).1
        have e2 := (rdV_lit_inv (hy w E _ hG (hr.ev y))).1
        obtain ⟨h1, h2, h3⟩ := binS_ok hb (h.1 hG) w
        simp only [execOp, ho, e1, e2, Sem.run_bind, run_eqGuard h2 h3, Result.andThen_ok, h1, Sem.run_pure]
      · obtain ⟨h1, h2⟩ := binS_one hb (h.1 hG)
        simp only [RdV]
        exact .lit v h1 h2
    · exact h.elim
  · rename_i xs ys
    split at h
    · obtain ⟨b, h1, h2⟩ := h
      refine ⟨_, h2, fun hG => yv_of fun E a w hr => ⟨.bool b, ?_, rdV_lit rfl rfl⟩⟩
      have e1 := hx w E _ hG (hr.ev x)
      have e2 := hy w E _ hG (hr.ev y)
      simp only [RdV] at e1 e2
      obtain ⟨vs, e3, r1, _⟩ := e1
      obtain ⟨us, e4, r2, _⟩ := e2
      obtain ⟨q1, q2⟩ := h1 hG w E vs us r1 r2
      have q3 : (binOp .eql t (.agg vs) (.agg us)).run P w = .ok (.bool b) w := by
        show ((do pure (.bool (← Op.equal t (.agg vs) (.agg us)))) : Sem Value).run P w = _
        simp only [Sem.run_bind, q1, Result.andThen_ok, Sem.run_pure]
      simp only [execOp, ho, e3, e4, Sem.run_bind, q2, q3, Result.andThen_ok, Sem.run_pure]
    · obtain ⟨b, h1, h2⟩ := h
      refine ⟨_, h2, fun hG => yv_of fun E a w hr => ⟨.bool (!b), ?_, rdV_lit rfl rfl⟩⟩
      have e1 := hx w E _ hG (hr.ev x)
      have e2 := hy w E _ hG (hr.ev y)
      simp only [RdV] at e1 e2
      obtain ⟨vs, e3, r1, _⟩ := e1
      obtain ⟨us, e4, r2, _⟩ := e2
      obtain ⟨q1, q2⟩ := h1 hG w E vs us r1 r2
      have q3 : (binOp .neq t (.agg vs) (.agg us)).run P w = .ok (.bool (!b)) w := by
        show ((do pure (.bool (!(← Op.equal t (.agg vs) (.agg us))))) : Sem Value).run P w = _
        simp only [Sem.run_bind, q1, Result.andThen_ok, Sem.run_pure]
      have q4 : (eqGuard .neq t x y (.agg vs) (.agg us)).run P w = .ok () w := q2 x y
      simp only [execOp, ho, e3, e4, Sem.run_bind, q4, q3, Result.andThen_ok, Sem.run_pure]
    · exact h.elim
  · exact h.elim

theorem ps_extract {x : Operand} {i : Nat} (ho : o.op = .extract x i)
    (h : useV G (σ.ev x) fun x' => match x' with
      | .tup vs => match vs[i]? with
        | some v => K v
        | none => False
      | _ => False) : ∃ x, K x ∧ (G = true → YV P o σ x) := by
  obtain ⟨x', h, hx⟩ := useV_ok h
  split at h
  · rename_i vs
    split at h
    · rename_i y hy
      refine ⟨_, h, fun hG => yv_of fun E a w hr => ?_⟩
      have e1 := hx w E _ hG (hr.ev x)
      simp only [RdV] at e1
      obtain ⟨us, e3, r1⟩ := e1
      obtain ⟨v, hv, hr'⟩ := RdVs.get r1 hy
      have hv' : us[i]? = some v := by simpa using hv
      exact ⟨v, by simp [execOp, ho, e3, Instr.extract, hv'], hr'⟩
    · exact h.elim
  · exact h.elim

theorem ps_field {t : TypeId} {x : Operand} {f : Nat} (ho : o.op = .field t x f)
    (h : useV G (σ.ev x) fun x' => match x', P.fldT t f with
      | .agg cs, some (off, ft) => match partV P ft cs off with
        | some v => K v
        | none => False
      | _, _ => False) : ∃ x, K x ∧ (G = true → YV P o σ x) := by
  obtain ⟨x', h, hx⟩ := useV_ok h
  split at h
  · rename_i cs off ft hf
    split at h
    · rename_i y hy
      refine ⟨_, h, fun hG => yv_of fun E a w hr => ?_⟩
      have e1 := hx w E _ hG (hr.ev x)
      simp only [RdV] at e1
      obtain ⟨us, e3, r1, r2⟩ := e1
      obtain ⟨v, hv, hr'⟩ := part_ok r1 r2 hy (P := P)
      refine ⟨v, ?_, hr'⟩
      unfold Program.fldT at hf
      split at hf
      · rename_i fs hu
        cases hfs : fs[f]? with
        | none => simp [hfs] at hf
        | some fd =>
          simp [hfs] at hf
          obtain ⟨rfl, rfl⟩ := hf
          simp [execOp, ho, e3, Instr.field, run_underlying hu, hfs, asAgg, hv]
      · cases hf
    · exact h.elim
  · exact h.elim
end
end Go.Proofs.Ytnbmiejjkkgckaa
/- Proved here: Operations of the abstract machine on memory that only look, for use in the proofs of the given statements; conditions stand in each theorem. -/
set_option linter.unusedSimpArgs false
set_option linter.unusedVariables false
set_option linter.unnecessarySimpa false
namespace Go.Proofs.Ytnbmiejjkkgckaa
open Go.RowKit

def nth (d : List T) (xs : List (List T)) (i : Nat) : List T := (xs[i]?).getD d
theorem nth_map {α : Type} (f : α → List T) (a : α) (xs : List α) (i : Nat) : nth (f a) (xs.map f) i = f (xs.getD i a) := by
  unfold nth
  rw [List.getD_eq_getElem?_getD, List.getElem?_map]
  cases xs[i]? <;> rfl
/-- an element of an own row -/
def nthV (d : List T) (xs : List (List V)) (i : Nat) : List V := (xs[i]?).getD (d.map .t)
/-- rows without memory of one's own behind -/
def tRows (xs : List (List T)) : List (List V) := xs.map (List.map .t)
theorem nthV_tRows {d : List T} {xs : List (List T)} {i : Nat} : nthV d (tRows xs) i = (nth d xs i).map .t := by
  unfold nthV tRows nth
  rw [List.getElem?_map]
  cases xs[i]? <;> rfl
theorem tRows_len {xs : List (List T)} : (tRows xs).length = xs.length := by simp [tRows]
theorem nthV_some {d : List T} {xs : List (List V)} {i : Nat} (h : i < xs.length) : xs[i]? = some (nthV d xs i) := by
  unfold nthV
  rw [List.getElem?_eq_getElem h]; rfl
theorem nth_some {d : List T} {xs : List (List T)} {i : Nat} (h : i < xs.length) : xs[i]? = some (nth d xs i) := by
  simp [nth, h]

theorem rdTs_of {w : World} {S : Nat → Prop} : ∀ (e : List T) (f : Nat → Option Value), (∀ (j : Nat) x, e[j]? = some x → ∃ u, f j = some u ∧ RdT w S x u) →
    ∃ vs, RdTs w S e vs ∧ ∀ j v, vs[j]? = some v → f j = some v
  | [], f, _ => ⟨[], trivial, by simp⟩
  | x :: r, f, h => by
    obtain ⟨u, hu, hx⟩ := h 0 x rfl
    obtain ⟨vs, h1, h2⟩ := rdTs_of r (fun j => f (j + 1)) (fun j y hy => h (j + 1) y (by simpa using hy))
    refine ⟨u :: vs, ⟨hx, h1⟩, fun j v hv => ?_⟩
    cases j with
    | zero => simp at hv; subst hv; exact hu
    | succ j => exact h2 j v (by simpa using hv)
theorem rdTs_ones {w : World} {S : Nat → Prop} : ∀ {e : List T} {vs : List Value}, RdTs w S e vs → vs.all (·.oneCell') = true
  | [], [], _ => rfl
  | x :: e, v :: vs, h => by simp only [List.all_cons, Bool.and_eq_true]; exact ⟨h.1.one, rdTs_ones h.2⟩
  | [], _ :: _, h => h.elim
  | _ :: _, [], h => h.elim
theorem RdTs.len {w : World} {S : Nat → Prop} : ∀ {e : List T} {vs : List Value}, RdTs w S e vs → e.length = vs.length
  | [], [], _ => rfl
  | x :: e, v :: vs, h => by simp [RdTs.len h.2]
  | [], _ :: _, h => h.elim
  | _ :: _, [], h => h.elim
theorem RdTs.drop {w : World} {S : Nat → Prop} : ∀ {e : List T} {vs : List Value} (n : Nat), RdTs w S e vs → RdTs w S (e.drop n) (vs.drop n)
  | _, _, 0, h => by simpa using h
  | [], [], n + 1, h => by simp only [List.drop_nil]; exact h
  | x :: e, v :: vs, n + 1, h => by simp only [List.drop_succ_cons]; exact RdTs.drop n h.2
  | [], _ :: _, _ + 1, h => h.elim
  | _ :: _, [], _ + 1, h => h.elim
theorem RdTs.take {w : World} {S : Nat → Prop} : ∀ {e : List T} {vs : List Value} (n : Nat), RdTs w S e vs → RdTs w S (e.take n) (vs.take n)
  | _, _, 0, h => by simp only [List.take_zero, RdTs]
  | [], [], n + 1, h => by simp only [List.take_nil]; exact h
  | x :: e, v :: vs, n + 1, h => by simp only [List.take_succ_cons]; exact ⟨h.1, RdTs.take n h.2⟩
  | [], _ :: _, _ + 1, h => h.elim
  | _ :: _, [], _ + 1, h => h.elim
theorem RdTs.append {w : World} {S : Nat → Prop} : ∀ {e f : List T} {vs us : List Value}, RdTs w S e vs → RdTs w S f us → RdTs w S (e ++ f) (vs ++ us)
  | [], _, [], _, _, h => h
  | x :: e, f, v :: vs, us, h, k => ⟨h.1, RdTs.append h.2 k⟩
  | [], _, _ :: _, _, h, _ => h.elim
  | _ :: _, _, [], _, h, _ => h.elim
theorem flatten_part {α : Type} {k : Nat} : ∀ (xs : List (List α)) (n : Nat) (e : List α), (∀ x ∈ xs, x.length = k) → xs[n]? = some e → ((xs.flatten).drop (n * k)).take k = e
  | [], n, e, _, h => by simp at h
  | x :: r, 0, e, hk, h => by
    simp at h
    subst h
    have := hk x (by simp)
    subst this
    simp
  | x :: r, n + 1, e, hk, h => by
    have h1 := hk x (by simp)
    rw [List.flatten_cons, Nat.add_mul, Nat.one_mul, Nat.add_comm (n * k) k, ← List.drop_drop]
    have : (x ++ r.flatten).drop k = r.flatten := by rw [← h1]; simp
    rw [this]
    exact flatten_part r n e (fun y hy => hk y (by simp [hy])) (by simpa using h)
theorem flatten_len {α : Type} {k : Nat} : ∀ (xs : List (List α)), (∀ x ∈ xs, x.length = k) → xs.flatten.length = xs.length * k
  | [], _ => by simp
  | x :: r, h => by
    rw [List.flatten_cons, List.length_append, flatten_len r (fun y hy => h y (by simp [hy])), h x (by simp), List.length_cons, Nat.add_mul]
    omega

theorem rdT_elem {w : World} {S : Nat → Prop} {k : Nat} {d : List T} {xs : List (List T)} {b off n c i : Nat} (h : RdT w S (.list k d xs) (.slice (some ⟨b, off, none⟩) n c)) (hi : i < xs.length) :
    ∃ vs, RdTs w S (nth d xs i) vs ∧ ∀ j v, vs[j]? = some v → w.cell? ⟨b, off + i * k + j, none⟩ = some v := by
  cases h with
  | list _ _ _ _ _ hm hc hnn hk ha hr =>
    refine rdTs_of _ (fun j => w.cell? ⟨b, off + i * k + j, none⟩) fun j x hx => ?_
    obtain ⟨b', off', hA, _, hj⟩ := ha i _ (nth_some hi)
    injection hA with hA
    injection hA with h1 h2
    subst h1 h2
    obtain ⟨u, hu⟩ := hj j x hx
    exact ⟨u, hu, hr i _ j x _ _ u (nth_some hi) hx rfl hu⟩

def loadP (P : Program) (t : TypeId) (cs : List V) (off : Nat) : Option V :=
  match P.aggT t, P.szT t with
  | some true, some n => if off + n ≤ cs.length then some (.agg ((cs.drop off).take n)) else none
  | some false, _ => cs[off]?
  | _, _ => none
theorem loadVar_ok {P : Program} {w : World} {E : Env} {b o off : Nat} {t : TypeId} {x : V} {cs : List V} {vs : List Value} (hcell : ∀ j v, vs[j]? = some v → w.cell? ⟨b, o + j, none⟩ = some v)
    (h1 : RdVs w E cs vs) (h2 : vs.all (·.oneCell') = true) (h : loadP P t cs off = some x) : ∃ v, (loadVar t ⟨b, o + off, none⟩).run P w = .ok v w ∧ RdV w E x v := by
  unfold loadP at h
  split at h
  · rename_i n ha hs
    split at h
    · rename_i hn
      injection h with h
      subst h
      have hl : ((vs.drop off).take n).length = n := by have := RdVs.len h1; simp; omega
      have hlc := run_loadCells_list (P := P) w ⟨b, o + off, none⟩ ((vs.drop off).take n) (by
        intro j v hv
        rw [Addr.add_lit]
        have : vs[off + j]? = some v := by
          rw [List.getElem?_take] at hv
          split at hv
          · rw [List.getElem?_drop] at hv; exact hv
          · cases hv
        rw [← hcell _ _ this, Nat.add_assoc])
      rw [hl] at hlc
      refine ⟨.agg ((vs.drop off).take n).toArray, ?_, ?_⟩
      · simp only [loadVar, Sem.run_bind, run_isAgg ha, Result.andThen_ok, if_true, run_sizeOf hs, hlc, Sem.run_pure]
      · simp only [RdV]
        refine ⟨_, rfl, RdVs.take n (RdVs.drop off h1), ?_⟩
        simp only [List.all_eq_true] at h2 ⊢
        intro v hv
        exact h2 v (List.mem_of_mem_drop (List.mem_of_mem_take hv))
    · cases h
  · rename_i ha
    obtain ⟨v, hv, hr⟩ := RdVs.get h1 h
    refine ⟨v, ?_, hr⟩
    have hc := hcell off v hv
    simp only [loadVar, Sem.run_bind, run_isAgg ha, Result.andThen_ok, Bool.false_eq_true, if_false, run_load, hc]
  · cases h

section
variable {P : Program} {G : Bool} {σ : St} {o : Oper} {K : V → Prop}

/-- a box: its address and its cells -/
theorem box_at {E : Env} {h : Heap} {w : World} {i : Nat} {cs : List V} (hr : Rel w E h) (hl : h.look i = some (.box cs)) :
    ∃ b vs ty, E.B i = some (.pointer (some ⟨b, 0, none⟩)) ∧ w.heap[b]? = some (.cells vs ty (0, 0)) ∧ RdVs w E cs vs.toList ∧ vs.toList.all (·.oneCell') = true := by
  obtain ⟨hv, h1, b, vs, ty, rfl, h2, h3⟩ := hr.has i _ hl
  exact ⟨b, vs, ty, h1, h2, h3⟩
theorem cell_of_heap {w : World} {b : Nat} {vs : Array Value} {ty : TypeId} {f : Nat × Nat} (h : w.heap[b]? = some (.cells vs ty f)) : ∀ j v, vs.toList[j]? = some v → w.cell? ⟨b, 0 + j, none⟩ = some v := by
  intro j v hv
  simp only [World.cell?, h, Nat.zero_add]
  simpa using hv
/-- an own row: one of its elements -/
theorem row_at {E : Env} {h : Heap} {w : World} {i e k n : Nat} {d : List T} {xs : List (List V)} (hr : Rel w E h) (hl : h.look i = some (.row e k d xs)) (hn : n < xs.length) :
    ∃ b c vs, E.B i = some (.slice (some ⟨b, 0, none⟩) xs.length c) ∧ RdVs w E (nthV d xs n) vs ∧ vs.all (·.oneCell') = true ∧ ∀ j v, vs[j]? = some v → w.cell? ⟨b, n * k + j, none⟩ = some v := by
  obtain ⟨hv, h1, cells, h2, h3, h4, h5⟩ := hr.has i _ hl
  have h2' := h2
  rcases h2.2 with ⟨rfl, h0⟩ | ⟨g, cap, cur, rfl, _, hg, hcap, _, hcs, htake⟩
  · omega
  · have hp := flatten_part xs n _ h4 (nthV_some (d := d) hn)
    refine ⟨g, cap, (cells.drop (n * k)).take k, h1, ?_, ?_, ?_⟩
    · rw [← hp]; exact RdVs.take k (RdVs.drop (n * k) h3)
    · simp only [List.all_eq_true] at h5 ⊢
      exact fun v hv => h5 v (List.mem_of_mem_drop (List.mem_of_mem_take hv))
    · intro j v hv
      rw [List.getElem?_take] at hv
      split at hv
      · rw [List.getElem?_drop, ← htake, List.getElem?_take] at hv
        split at hv
        · simp only [World.cell?, hg]
          simpa using hv
        · cases hv
      · cases hv

def loadV (P : Program) (G : Bool) (h : Heap) (t : TypeId) (x : V) (K : V → Prop) : Prop :=
  match x with
  | .own i => match h.look i with
    | some (.box cs) => match loadP P t cs 0 with
      | some v => K v
      | none => False
    | _ => False
  | .ptr i off => match h.look i with
    | some (.box cs) => match loadP P t cs off with
      | some v => K v
      | none => False
    | _ => False
  | .elem k d xs i j => match loadP P t ((nth d xs i).map .t) j with
    | some v => K v
    | none => False
  | .rptr i k n j => match h.look i with
    | some (.row _ k' d xs) => if k' = k then (match loadP P t (nthV d xs n) j with
      | some v => (G = true → n < xs.length) ∧ K v
      | none => False) else False
    | some (.shr (.list k' d xs)) => if k' = k then (match loadP P t ((nth d xs n).map .t) j with
      | some v => (G = true → n < xs.length) ∧ K v
      | none => False) else False
    | _ => False
  | _ => False

theorem run_loadAt {t : TypeId} {a : Addr} (w : World) : (Instr.loadAt t (.pointer (some a))).run P w = (loadVar t a).run P w := by
  simp [Instr.loadAt, Instr.sureAddr]

theorem ps_load {t : TypeId} {x : Operand} (ho : o.op = .load t x) (h : useV G (σ.ev x) fun x' => loadV P G σ.h t x' K) : ∃ x, K x ∧ (G = true → YV P o σ x) := by
  obtain ⟨x', h, hx⟩ := useV_ok h
  unfold loadV at h
  split at h
  · rename_i i
    split at h
    · rename_i cs hl
      split at h
      · rename_i v hv
        refine ⟨v, h, fun hG => yv_of fun E a w hr => ?_⟩
        obtain ⟨b, vs, ty, hB, hh, h1, h2⟩ := box_at hr.rel hl
        have e1 := hx w E _ hG (hr.ev x)
        simp only [RdV] at e1
        have e2 := e1.2.2 _ (.inl hB)
        obtain ⟨u, hu, hru⟩ := loadVar_ok (P := P) (o := 0) (cell_of_heap hh) h1 h2 hv
        exact ⟨u, by simp only [execOp, ho, e2, run_loadAt, Sem.run_bind, hu, Result.andThen_ok, Sem.run_pure], hru⟩
      · exact h.elim
    · exact h.elim
  · rename_i i off
    split at h
    · rename_i cs hl
      split at h
      · rename_i v hv
        refine ⟨v, h, fun hG => yv_of fun E a w hr => ?_⟩
        obtain ⟨b, vs, ty, hB, hh, h1, h2⟩ := box_at hr.rel hl
        have e1 := hx w E _ hG (hr.ev x)
        simp only [RdV] at e1
        obtain ⟨b', e3, e2⟩ := e1.2.2 _ (.inl hB)
        injection e3 with e3; injection e3 with e3; injection e3 with e3
        subst e3
        obtain ⟨u, hu, hru⟩ := loadVar_ok (P := P) (o := 0) (cell_of_heap hh) h1 h2 hv
        rw [Nat.zero_add] at hu
        exact ⟨u, by simp only [execOp, ho, e2, run_loadAt, Sem.run_bind, hu, Result.andThen_ok, Sem.run_pure], hru⟩
      · exact h.elim
    · exact h.elim
  · rename_i k d xs i j
    split at h
    · rename_i v hv
      refine ⟨v, h, fun hG => yv_of fun E a w hr => ?_⟩
      have e1 := hx w E _ hG (hr.ev x)
      simp only [RdV] at e1
      obtain ⟨b, off, c, h1, h2, e2⟩ := e1
      obtain ⟨vs, h3, h4⟩ := rdT_elem h1 h2
      obtain ⟨u, hu, hru⟩ := loadVar_ok (P := P) h4 (RdVs.ofT h3) (rdTs_ones h3) hv
      exact ⟨u, by simp only [execOp, ho, e2, run_loadAt, Sem.run_bind, hu, Result.andThen_ok, Sem.run_pure], hru⟩
    · exact h.elim
  · rename_i i k n j
    split at h
    · rename_i e k' d xs hl
      split at h
      · rename_i hk
        subst hk
        split at h
        · rename_i v hv
          refine ⟨v, h.2, fun hG => yv_of fun E a w hr => ?_⟩
          have e1 := hx w E _ hG (hr.ev x)
          simp only [RdV] at e1
          obtain ⟨b, c, vs, hB, h3, h3', h4⟩ := row_at hr.rel hl (h.1 hG)
          obtain ⟨b', m, c', e3, _, e2⟩ := e1.2.2 _ (.inl hB)
          injection e3 with e3; injection e3 with e3; injection e3 with e3
          subst e3
          obtain ⟨u, hu, hru⟩ := loadVar_ok (P := P) h4 h3 h3' hv
          exact ⟨u, by simp only [execOp, ho, e2, run_loadAt, Sem.run_bind, hu, Result.andThen_ok, Sem.run_pure], hru⟩
        · exact h.elim
      · exact h.elim
    · rename_i k' d xs hl
      split at h
      · rename_i hk
        subst hk
        split at h
        · rename_i v hv
          refine ⟨v, h.2, fun hG => yv_of fun E a w hr => ?_⟩
          have e1 := hx w E _ hG (hr.ev x)
          simp only [RdV] at e1
          obtain ⟨hv', hF, hT⟩ := hr.rel.has i _ hl
          obtain ⟨b, m, c', e3, _, e2⟩ := e1.2.2 _ (.inr hF)
          have hT' : RdT w E.S (.list k' d xs) (.slice (some ⟨b, 0, none⟩) m c') := by rw [← e3]; exact hT
          obtain ⟨vs, h3, h4⟩ := rdT_elem hT' (h.1 hG)
          obtain ⟨u, hu, hru⟩ := loadVar_ok (P := P) h4 (RdVs.ofT h3) (rdTs_ones h3) hv
          rw [Nat.zero_add] at hu
          exact ⟨u, by simp only [execOp, ho, e2, run_loadAt, Sem.run_bind, hu, Result.andThen_ok, Sem.run_pure], hru⟩
        · exact h.elim
      · exact h.elim
    · exact h.elim
  · exact h.elim

def fieldAddrV (h : Heap) (off : Nat) (x : V) (K : V → Prop) : Prop :=
  match x with
  | .own i => match h.look i with
    | some (.box _) => K (.ptr i off)
    | _ => False
  | .ptr i o => match h.look i with
    | some (.box _) => K (.ptr i (o + off))
    | _ => False
  | .elem k d xs i j => K (.elem k d xs i (j + off))
  | .rptr i k n j => match h.look i with
    | some (.row ..) => K (.rptr i k n (j + off))
    | some (.shr _) => K (.rptr i k n (j + off))
    | _ => False
  | _ => False

theorem run_fieldAt {s ft : TypeId} {f off n : Nat} (hf : P.fldT s f = some (off, ft)) (hs : P.szT ft = some (n + 1)) (b q : Nat) (w : World) :
    (Instr.fieldAt s (.pointer (some ⟨b, q, none⟩)) f).run P w = .ok (.pointer (some ⟨b, q + off, none⟩)) w := by
  unfold Program.fldT at hf
  split at hf
  · rename_i fs hu
    cases hfs : fs[f]? with
    | none => simp [hfs] at hf
    | some fd =>
      simp [hfs] at hf
      obtain ⟨rfl, rfl⟩ := hf
      simp [Instr.fieldAt, run_underlying hu, hfs, Instr.sureAddr, fieldPlace, run_sizeOf hs, Addr.add_lit]
  · cases hf

theorem ps_fieldAddr {t : TypeId} {x : Operand} {f : Nat} (ho : o.op = .fieldAddr t x f)
    (h : useV G (σ.ev x) fun x' => match P.fldT t f with
      | some (off, ft) => match P.szT ft with
        | some (_ + 1) => fieldAddrV σ.h off x' K
        | _ => False
      | none => False) : ∃ x, K x ∧ (G = true → YV P o σ x) := by
  obtain ⟨x', h, hx⟩ := useV_ok h
  split at h
  · rename_i off ft hf
    split at h
    · rename_i n hs
      have hrun : ∀ (E : Env) (a : Act) (w : World) (b q : Nat), a.eval x = .pointer (some ⟨b, q, none⟩) → (execOp a.eval o).run P w = .ok (.value (.pointer (some ⟨b, q + off, none⟩))) w := by
        intro E a w b q he
        simp only [execOp, ho, he, Sem.run_bind, run_fieldAt hf hs, Result.andThen_ok, Sem.run_pure]
      unfold fieldAddrV at h
      split at h
      · rename_i i
        split at h
        · rename_i cs hl
          refine ⟨_, h, fun hG => yv_of fun E a w hr => ?_⟩
          have e1 := hx w E _ hG (hr.ev x)
          obtain ⟨b, vs, ty, hB, hh, h1, h2⟩ := box_at hr.rel hl
          simp only [RdV] at e1
          refine ⟨_, hrun E a w _ _ (e1.2.2 _ (.inl hB)), ?_⟩
          simp only [RdV]
          exact ⟨rfl, e1.2.1, fun hv hb => ⟨b, hr.rel.is hB hb, by simp⟩⟩
        · exact h.elim
      · rename_i i q
        split at h
        · rename_i cs hl
          refine ⟨_, h, fun hG => yv_of fun E a w hr => ?_⟩
          have e1 := hx w E _ hG (hr.ev x)
          obtain ⟨b, vs, ty, hB, hh, h1, h2⟩ := box_at hr.rel hl
          simp only [RdV] at e1
          obtain ⟨b', e3, e2⟩ := e1.2.2 _ (.inl hB)
          injection e3 with e3; injection e3 with e3; injection e3 with e3
          subst e3
          refine ⟨_, hrun E a w _ _ e2, ?_⟩
          simp only [RdV]
          exact ⟨rfl, e1.2.1, fun hv hb => ⟨b, hr.rel.is hB hb, by simp⟩⟩
        · exact h.elim
      · rename_i k d xs i j
        refine ⟨_, h, fun hG => yv_of fun E a w hr => ?_⟩
        have e1 := hx w E _ hG (hr.ev x)
        simp only [RdV] at e1
        obtain ⟨b, off', c, h1, h2, e2⟩ := e1
        refine ⟨_, hrun E a w _ _ e2, ?_⟩
        simp only [RdV]
        exact ⟨b, off', c, h1, h2, by rw [Nat.add_assoc _ j off]⟩
      · rename_i i k n' j
        split at h
        · rename_i e k' d xs hl
          refine ⟨_, h, fun hG => yv_of fun E a w hr => ?_⟩
          have e1 := hx w E _ hG (hr.ev x)
          obtain ⟨hv, hB, _⟩ := hr.rel.has i _ hl
          simp only [RdV] at e1
          obtain ⟨b', m, c', e3, e4, e2⟩ := e1.2.2 _ (.inl hB)
          refine ⟨_, hrun E a w _ _ e2, ?_⟩
          simp only [RdV]
          exact ⟨rfl, e1.2.1, fun hv' hb => ⟨b', m, c', by rw [hr.rel.is hB hb]; exact e3, e4, by rw [Nat.add_assoc _ j off]⟩⟩
        · rename_i t' hl
          refine ⟨_, h, fun hG => yv_of fun E a w hr => ?_⟩
          have e1 := hx w E _ hG (hr.ev x)
          obtain ⟨hv, hF, _⟩ := hr.rel.has i _ hl
          simp only [RdV] at e1
          obtain ⟨b', m, c', e3, e4, e2⟩ := e1.2.2 _ (.inr hF)
          refine ⟨_, hrun E a w _ _ e2, ?_⟩
          simp only [RdV]
          exact ⟨rfl, e1.2.1, fun hv' hb => ⟨b', m, c', by rw [hr.rel.isF hF hb]; exact e3, e4, by rw [Nat.add_assoc _ j off]⟩⟩
        · exact h.elim
      · exact h.elim
    · exact h.elim
  · exact h.elim

def indexAddrV (P : Program) (G : Bool) (h : Heap) (t : TypeId) (x ix : V) (K : V → Prop) : Prop :=
  match ix, P.elemT t with
  | .t (.lit (.int _ n)), some e =>
    match x with
    | .t (.list k d xs) => if P.szT e = some k then (G = true → 0 ≤ n ∧ n < xs.length) ∧ K (.elem k d xs n.toNat 0) else False
    | .own i => match h.look i with
      | some (.row _ k d xs) => if P.szT e = some k then (G = true → 0 ≤ n ∧ n < xs.length) ∧ K (.rptr i k n.toNat 0) else False
      | some (.shr (.list k d xs)) => if P.szT e = some k then (G = true → 0 ≤ n ∧ n < xs.length) ∧ K (.elem k d xs n.toNat 0) else False
      | _ => False
    | _ => False
  | _, _ => False

theorem run_indexAt {t e : TypeId} {k : Nat} (ht : P.elemT t = some e) (hk : P.szT e = some k) {b off m c : Nat} {kk : IntKind} {n : Int} (h0 : 0 ≤ n) (h1 : n < m) (w : World) :
    (Instr.indexAt t (.slice (some ⟨b, off, none⟩) m c) (.int kk n)).run P w = .ok (.pointer (some ⟨b, off + n.toNat * k, none⟩)) w := by
  unfold Program.elemT at ht
  split at ht
  · rename_i e' hu
    injection ht with ht
    subst ht
    simp [Instr.indexAt, asIntOf, run_underlying hu, run_sizeOf hk, h0, h1, Addr.add_lit]
  · cases ht

theorem ps_indexAddr {t : TypeId} {x ix : Operand} (ho : o.op = .indexAddr t x ix) (h : useV G (σ.ev x) fun x' => useV G (σ.ev ix) fun ix' => indexAddrV P G σ.h t x' ix' K) :
    ∃ x, K x ∧ (G = true → YV P o σ x) := by
  obtain ⟨x', h0, hx⟩ := useV_ok h
  clear h
  obtain ⟨ix', h, hix⟩ := useV_ok h0
  clear h0
  unfold indexAddrV at h
  split at h
  · rename_i kk n e ht
    split at h
    · rename_i k d xs
      split at h
      · rename_i hk
        refine ⟨_, h.2, fun hG => yv_of fun E a w hr => ?_⟩
        have e1 := hx w E _ hG (hr.ev x)
        have e2 := (rdV_lit_inv (hix w E _ hG (hr.ev ix))).1
        obtain ⟨hn0, hn1⟩ := h.1 hG
        simp only [RdV] at e1
        generalize hv : a.eval x = v at e1
        have e1' := e1
        cases e1 with
        | list _ _ _ A c hm hc hnn hkk ha hrr =>
          obtain ⟨b, off, hA, _⟩ := ha n.toNat _ (nth_some (d := d) (by omega))
          subst hA
          refine ⟨.pointer (some ⟨b, off + n.toNat * k, none⟩), by simp only [execOp, ho, e2, hv, Sem.run_bind, run_indexAt ht hk hn0 hn1, Result.andThen_ok, Sem.run_pure], ?_⟩
          simp only [RdV]
          exact ⟨b, off, c, e1', by omega, by simp⟩
      · exact h.elim
    · rename_i i
      split at h
      · rename_i e' k d xs hl
        split at h
        · rename_i hk
          refine ⟨_, h.2, fun hG => yv_of fun E a w hr => ?_⟩
          have e1 := hx w E _ hG (hr.ev x)
          have e2 := (rdV_lit_inv (hix w E _ hG (hr.ev ix))).1
          obtain ⟨hn0, hn1⟩ := h.1 hG
          simp only [RdV] at e1
          obtain ⟨b, c, vs, hB, h3, _, h4⟩ := row_at (n := n.toNat) hr.rel hl (by omega)
          have e3 := e1.2.2 _ (.inl hB)
          refine ⟨.pointer (some ⟨b, 0 + n.toNat * k, none⟩), by simp only [execOp, ho, e2, e3, Sem.run_bind, run_indexAt ht hk hn0 hn1, Result.andThen_ok, Sem.run_pure], ?_⟩
          simp only [RdV]
          exact ⟨rfl, e1.2.1, fun hv hb => ⟨b, xs.length, c, hr.rel.is hB hb, by omega, by simp⟩⟩
        · exact h.elim
      · rename_i k d xs hl
        split at h
        · rename_i hk
          refine ⟨_, h.2, fun hG => yv_of fun E a w hr => ?_⟩
          have e0 := hx w E _ hG (hr.ev x)
          have e2 := (rdV_lit_inv (hix w E _ hG (hr.ev ix))).1
          obtain ⟨hn0, hn1⟩ := h.1 hG
          simp only [RdV] at e0
          obtain ⟨hv', hF, hT⟩ := hr.rel.has i _ hl
          have hv : a.eval x = hv' := e0.2.2 _ (.inr hF)
          have e1 : RdT w E.S (.list k d xs) hv' := hT
          have e1' := e1
          cases e1 with
          | list _ _ _ A c hm hc hnn hkk ha hrr =>
            obtain ⟨b, off, hA, _⟩ := ha n.toNat _ (nth_some (d := d) (by omega))
            subst hA
            refine ⟨.pointer (some ⟨b, off + n.toNat * k, none⟩), by simp only [execOp, ho, e2, hv, Sem.run_bind, run_indexAt ht hk hn0 hn1, Result.andThen_ok, Sem.run_pure], ?_⟩
            simp only [RdV]
            exact ⟨b, off, c, e1', by omega, by simp⟩
        · exact h.elim
      · exact h.elim
    · exact h.elim
  · exact h.elim

def indexV (P : Program) (G : Bool) (t : TypeId) (x ix : V) (K : V → Prop) : Prop :=
  match x, ix, P.underlying t with
  | .t (.lit (.string s)), .t (.lit (.int _ n)), some .string => (G = true → 0 ≤ n ∧ n < s.size) ∧ K (.t (.lit (.int .u8 (s.data.toList.getD n.toNat 0).toNat)))
  | _, _, _ => False
theorem ps_index {t : TypeId} {x ix : Operand} (ho : o.op = .index t x ix) (h : useV G (σ.ev x) fun x' => useV G (σ.ev ix) fun ix' => indexV P G t x' ix' K) :
    ∃ x, K x ∧ (G = true → YV P o σ x) := by
  obtain ⟨x', h0, hx⟩ := useV_ok h
  clear h
  obtain ⟨ix', h, hix⟩ := useV_ok h0
  clear h0
  unfold indexV at h
  split at h
  · rename_i s kk n hu
    refine ⟨_, h.2, fun hG => yv_of fun E a w hr => ?_⟩
    have e1 := (rdV_lit_inv (hx w E _ hG (hr.ev x))).1
    have e2 := (rdV_lit_inv (hix w E _ hG (hr.ev ix))).1
    obtain ⟨h0, h1⟩ := h.1 hG
    refine ⟨.int .u8 (s.data.toList.getD n.toNat 0).toNat, ?_, rdV_lit rfl rfl⟩
    have hlt : n.toNat < s.size := by omega
    have hs : s[n.toNat]? = some (s.data.toList.getD n.toNat 0) := by
      rw [List.getD_eq_getElem?_getD, getElem?_pos s n.toNat hlt]
      have h2 : n.toNat < s.data.toList.length := by simpa using hlt
      rw [List.getElem?_eq_getElem h2]
      simp
      rfl
    simp [execOp, ho, e1, e2, Instr.index, asIntOf, run_underlying hu, h0, hs]
  · exact h.elim
end
end Go.Proofs.Ytnbmiejjkkgckaa
