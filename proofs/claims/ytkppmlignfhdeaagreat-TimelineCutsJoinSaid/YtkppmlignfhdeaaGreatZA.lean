/- Proved here: Reading of slices as lists, kept over later worlds, and regions that draw their order, for use in the proofs of the given statements; conditions stand in each theorem. -/
import Derived.WalkKit
import Derived.WalkSpells
import Derived.WalkLawsBesides
import Derived.Deep.QuietTactic
import Derived.BigQuiet
import Derived.Lib.Hide
import Derived.Deep.RegionWith
import Derived.Deep.RegionLaw
import Derived.Deep.CutRange
import Derived.Maps.AppendAt
import Derived.Deep.AppendLies
import Derived.Lib.SliceRun
import Derived.Deep.RegionHeld3
import Derived.StillTail
set_option linter.unusedSimpArgs false
set_option linter.unusedVariables false
set_option linter.unusedSectionVars false
namespace Go.Proofs.YtkppmlignfhdeaaGreat
open Go.RowKit

/-- the slice value with address A reads as the list xs, each element of k cells -/
def Sl {α : Type} (f : α → List Value) (k : Nat) (w : World) (A : Option Addr) (xs : List α) : Prop :=
  ∀ i x, xs[i]? = some x → ∃ b off, A = some ⟨b, off, none⟩ ∧ ∀ j v, (f x)[j]? = some v → w.cell? ⟨b, off + i * k + j, none⟩ = some v

theorem cell_lt {w : World} {a : Addr} {v : Value} (h : w.cell? a = some v) : a.block < w.heap.size := World.block_lt_of_cell? _ _ h

theorem Sl.later {α : Type} {f : α → List Value} {k : Nat} {w w' : World} {A : Option Addr} {xs : List α} (h : Sl f k w A xs) (hb : Below w.heap.size w w') : Sl f k w' A xs := by
  intro i x hx
  obtain ⟨b, off, rfl, hc⟩ := h i x hx
  exact ⟨b, off, rfl, fun j v hj => (hb.cell (cell_lt (hc j v hj))).trans (hc j v hj)⟩
theorem later_alloc (w : World) (o : Obj) : Below w.heap.size w (w.alloc o) := (Below.refl _ _).alloc (Nat.le_refl _) o
theorem Sl.alloc {α : Type} {f : α → List Value} {k : Nat} {w : World} {A : Option Addr} {xs : List α} (h : Sl f k w A xs) (o : Obj) : Sl f k (w.alloc o) A xs :=
  h.later (later_alloc w o)

/-- the first index from k on -/
def idxFrom {α : Type} (p : α → Bool) : List α → Nat → Int
  | [], _ => -1
  | x :: r, k => if p x then (k : Int) else idxFrom p r (k + 1)
def idx {α : Type} (p : α → Bool) (l : List α) : Int := idxFrom p l 0

theorem idx_step {α : Type} {p : α → Bool} {l : List α} {k : Nat} (h : k < l.length) (hp : p l[k] = false) :
   idxFrom p (l.drop (k+1)) (k+1) = idxFrom p (l.drop k) k := by
  rw [List.drop_eq_getElem_cons h]; simp [idxFrom, hp]
theorem idx_hit {α : Type} {p : α → Bool} {l : List α} {k : Nat} (h : k < l.length) (hp : p l[k] = true) :
   (k : Int) = idxFrom p (l.drop k) k := by
  rw [List.drop_eq_getElem_cons h]; simp [idxFrom, hp]
theorem idx_end {α : Type} {p : α → Bool} {l : List α} {k : Nat} (h : ¬ k < l.length) :
   -1 = idxFrom p (l.drop k) k := by
  rw [List.drop_eq_nil_of_le (by omega)]; simp [idxFrom]
theorem ret_int {k : IntKind} {a b : Int} (h : a = b) : Ending.returned (.int k a) = .returned (.int k b) := by rw [h]

theorem _root_.Go.RowKit.Below.drewN {B : Nat} {a w : World} (h : Below B a w) (n : Nat) : Below B a (w.drewN n) := ⟨h.os, h.tape, h.output, h.size, h.block⟩
/-! a region that draws its order, whose operations leave what was there alone -/
structure Later (w : World) where
  w' : World
  h : Below w.heap.size w w'
instance laterInh (w : World) : Inhabited (Later w) := ⟨⟨w, Below.refl _ _⟩⟩
theorem later_out {w w2 : World} (h : ∃ x : Later w, w2 = x.w') : Below w.heap.size w w2 := by
  obtain ⟨x, rfl⟩ := h
  exact x.h
def Later.of {w w' : World} (h : Below w.heap.size w w') : Later w := ⟨w', h⟩
theorem cell_later' {w : World} {a : Addr} {v : Value} (h : w.cell? a = some v) (x : Later w) : x.w'.cell? a = some v := (x.h.cell (cell_lt h)).trans h
theorem wp_region_later {P : Program} {id : Nat} {Q : Exit → Act → World → Prop} {a : Act} {w : World} {l : List Oper} (hm : P.follows .mixedOrders = true) (hB : Region.lexB .any l.toArray = true)
    (h : wpQuiet P l.toArray (fun w' => ∃ x : Later w, w' = x.w') (fun a' => ∀ w', (∃ x : Later w, w' = x.w') → Q .normal a' w') l a) : (Code.region id l.toArray true).wp P Q a w :=
  wp_region_quiet (C := fun w' => ∃ x : Later w, w' = x.w') hm hB ⟨⟨w.drew, (Below.refl _ _).drew⟩, rfl⟩ (by simpa using h)
theorem calls_later {P : Program} {f : FuncId} {args : Array Value} {w : World} {x : Later w} {v : Value}
    (h : Calls P f args x.w' fun e w' => e = .returned v ∧ Below x.w'.heap.size x.w' w') : Calls P f args x.w' fun e w'' => e = .returned v ∧ ∃ y : Later w, w'' = y.w' :=
  h.mono fun _ _ ⟨he, hb⟩ => ⟨he, ⟨⟨_, x.h.trans (hb.mono x.h.size)⟩, rfl⟩⟩
end Go.Proofs.YtkppmlignfhdeaaGreat
namespace Go.Proofs.YtkppmlignfhdeaaGreat
open Go.RowKit
/-- a slice of one-cell elements -/
def Sl1 {α : Type} (f : α → Value) (w : World) (A : Option Addr) (xs : List α) : Prop :=
  ∀ i x, xs[i]? = some x → ∃ b off, A = some ⟨b, off, none⟩ ∧ w.cell? ⟨b, off + i, none⟩ = some (f x)
theorem Sl1.later {α : Type} {f : α → Value} {w w' : World} {A : Option Addr} {xs : List α} (h : Sl1 f w A xs) (hb : Below w.heap.size w w') : Sl1 f w' A xs := by
  intro i x hx
  obtain ⟨b, off, rfl, hc⟩ := h i x hx
  exact ⟨b, off, rfl, (hb.cell (cell_lt hc)).trans hc⟩
theorem Sl1.alloc {α : Type} {f : α → Value} {w : World} {A : Option Addr} {xs : List α} (h : Sl1 f w A xs) (o : Obj) : Sl1 f (w.alloc o) A xs :=
  h.later (later_alloc w o)
theorem Sl1.nil {α : Type} (f : α → Value) (w : World) (A : Option Addr) : Sl1 f w A [] := fun i x h => by simp at h
theorem Sl.nil {α : Type} (f : α → List Value) (k : Nat) (w : World) (A : Option Addr) : Sl f k w A [] := fun i x h => by simp at h
end Go.Proofs.YtkppmlignfhdeaaGreat
/- Proved here: Owned rows of structs read as lists, and appends to them, for use in the proofs of the given statements; conditions stand in each theorem. -/
namespace Go.Proofs.YtkppmlignfhdeaaGreat
open Go.RowKit

section
variable {α : Type} {f : α → List Value} {k : Nat}
theorem flat_len (hk : ∀ x, (f x).length = k) (xs : List α) : (xs.flatMap f).length = xs.length * k := by
  induction xs with
  | nil => simp
  | cons x r ih => simp [hk, ih, Nat.add_mul]; omega
theorem flat_get (hk : ∀ x, (f x).length = k) : ∀ (xs : List α) (i j : Nat), j < k → (xs.flatMap f)[i * k + j]? = (xs[i]?).bind fun x => (f x)[j]?
  | [], i, j, _ => by simp
  | x :: r, 0, j, hj => by
    have h : j < (f x).length := by rw [hk]; exact hj
    simp [List.getElem?_append_left h]
  | x :: r, i + 1, j, hj => by
    have h : ¬ (i + 1) * k + j < (f x).length := by rw [hk, Nat.add_mul]; omega
    rw [List.flatMap_cons, List.getElem?_append_right (by omega), hk]
    have e : (i + 1) * k + j - k = i * k + j := by rw [Nat.add_mul]; omega
    rw [e, flat_get hk r i j hj]
    simp
theorem flat_set (hk : ∀ x, (f x).length = k) (xs : List α) (i : Nat) (hi : i < xs.length) (y : α) (j : Nat) (hj : j < k) (u : Value) (h : f y = (f xs[i]).set j u) :
    (xs.flatMap f).set (i * k + j) u = (xs.set i y).flatMap f := by
  have hk0 : 0 < k := by omega
  apply List.ext_getElem?
  intro t
  have ht : t = t / k * k + t % k := by rw [Nat.mul_comm]; exact (Nat.div_add_mod t k).symm
  have hm := Nat.mod_lt t hk0
  have e1 := flat_get hk (xs.set i y) (t / k) (t % k) hm
  have e2 := flat_get hk xs (t / k) (t % k) hm
  rw [← ht] at e1 e2
  rw [e1, List.getElem?_set]
  by_cases hti : t / k = i
  · subst hti
    rw [List.getElem?_set_self hi]
    simp only [Option.bind_some]
    rw [h, List.getElem?_set]
    have hl : t < (xs.flatMap f).length := by
      rw [flat_len hk]
      have := Nat.div_lt_iff_lt_mul hk0 (x := t) (y := xs.length)
      exact this.1 hi
    have hj2 : j < (f xs[t / k]).length := by rw [hk]; exact hj
    by_cases hjt : j = t % k
    · subst hjt
      rw [if_pos ht.symm, if_pos rfl, if_pos (by rw [← ht]; exact hl), if_pos (by rw [hk]; exact hj)]
    · rw [if_neg (by omega), if_neg hjt, e2]
      simp [hi]
  · rw [List.getElem?_set_ne (Ne.symm hti), if_neg, e2]
    intro hh
    apply hti
    rw [← hh, Nat.mul_comm, Nat.mul_add_div hk0, Nat.div_eq_of_lt hj, Nat.add_zero]

theorem own_sl (hk : ∀ x, (f x).length = k) {w : World} {base e n c : Nat} {A : Option Addr} {xs : List α} (h : w.ownsRow base e k (.slice A n c) xs.length (xs.flatMap f)) : Sl f k w A xs := by
  intro i x hx
  have hi : i < xs.length := (List.getElem?_eq_some_iff.1 hx).1
  rcases h.2 with ⟨h1, h2⟩ | ⟨g, cap, cur, hv, _, hg, _⟩
  · rw [h2] at hi; omega
  · injection hv with h1 h2 h3
    subst h1 h2 h3
    refine ⟨g, 0, rfl, fun j v hj => ?_⟩
    have hjk : j < k := by rw [← hk x]; exact (List.getElem?_eq_some_iff.1 hj).1
    have h4 := h.cellAt (i * k + j) (by
      have : (i + 1) * k ≤ xs.length * k := Nat.mul_le_mul_right k hi
      rw [Nat.add_mul] at this; omega)
    rw [Nat.zero_add, h4, flat_get hk xs i j hjk, hx]
    exact hj
theorem own_form {w : World} {base e n : Nat} {v : Value} {xs : List Value} (h : w.ownsRow base e k v n xs) : ∃ A c, v = .slice A n c ∧ n ≤ maxLen := by
  rcases h.2 with ⟨h1, h2⟩ | ⟨g, cap, cur, hv, _, hg, h3, h4, _⟩
  · exact ⟨none, 0, by rw [h1, h2], by rw [h2]; exact Nat.zero_le _⟩
  · exact ⟨_, _, hv, by omega⟩
/-- the address, where there is an element -/
theorem own_addr {w : World} {base e n c : Nat} {A : Option Addr} {xs : List Value} (h : w.ownsRow base e k (.slice A n c) n xs) (hn : 0 < n) : ∃ g, A = some ⟨g, 0, none⟩ ∧ base ≤ g ∧ g < w.heap.size := by
  obtain ⟨g, cap, hv, hb, hl⟩ := h.form hn
  injection hv with h1 h2 h3
  exact ⟨g, h1, hb, hl⟩
theorem sl_news (hk : ∀ x, (f x).length = k) {w : World} {ad : Addr} {xs : List α} (h : Sl f k w (some ad) xs) : ∀ j u, (xs.flatMap f)[j]? = some u → w.cell? (ad.add j) = some u := by
  intro j u hu
  have hl : j < (xs.flatMap f).length := (List.getElem?_eq_some_iff.1 hu).1
  rw [flat_len hk] at hl
  have hk0 : 0 < k := by
    rcases Nat.eq_zero_or_pos k with h0 | h0
    · subst h0; omega
    · exact h0
  have ht : j = j / k * k + j % k := by rw [Nat.mul_comm]; exact (Nat.div_add_mod j k).symm
  have hm := Nat.mod_lt j hk0
  have hi : j / k < xs.length := (Nat.div_lt_iff_lt_mul hk0).2 hl
  rw [ht, flat_get hk xs _ _ hm, List.getElem?_eq_getElem hi] at hu
  obtain ⟨b, off, hA, hc⟩ := h (j / k) xs[j / k] (List.getElem?_eq_getElem hi)
  injection hA with hA
  subst hA
  rw [Addr.add_lit, ← hc (j % k) u hu]
  congr 2
  omega
end
theorem step_append_own_at {P : Program} {ops : Array Oper} {o : Oper} {a : Act} {w : World} {K : Act → World → Prop} {Q : Exit → Act → World → Prop} {E : Prop} (hgd : o.guard = none) (s x : Operand) (t : TypeId)
    (ho : o.op = .call { callee := .builtin .append, args := #[s, x], argTypes := #[t, t] })
    (base : Nat) (e : TypeId) (i : TypeInfo) (z : Value) (size bytes : Nat) (ht : P.underlying t = some (.slice e)) (hi : P.info? e = some i) (hz : i.zero = some z)
    (hsize : i.size = size) (hby : i.bytes = bytes) (hzs : z.cells.size = size) (hsz : 0 < size)
    (v : Value) (n : Nat) (xs : List Value) (hs : a.eval s = v) (hown : w.ownsRow base e size v n xs)
    (ad : Addr) (m c : Nat) (news : List Value) (hx : a.eval x = .slice (some ad) m c) (hl : news.length = m * size) (hnews : ∀ j u, news[j]? = some u → w.cell? (ad.add j) = some u) (h1 : ∀ u ∈ news, u.oneCell' = true)
    (h63 : n + m ≤ maxLen) (hbytes : (n + m) * bytes ≤ 140737488355328) (hbase : base ≤ w.heap.size)
    (h : ∀ v' w', w'.ownsRow base e size v' (n + m) (xs ++ news) → w.grownBy w' v.ownBlock → (v' = .slice none 0 0 ↔ v = .slice none 0 0 ∧ m = 0) → (v'.ownBlock = v.ownBlock ∨ v'.ownBlock = some w.heap.size) → K (a.put o.dst v') w') :
    if Region.wanted o (yielded ops a.tmps) = true then Oper.wp P o a w K Q else E := by
  have hw : Region.wanted o (yielded ops a.tmps) = true := by simp [Region.wanted, hgd]
  rw [if_pos hw]
  obtain ⟨v', w', hr, h2, h3, h4, h5⟩ := run_append_own_at (P := P) w base t o.type e i z size bytes ht hi hz hsize hby hzs hsz v n xs hown ad m c news hl hnews h1 h63 hbytes hbase
  unfold Oper.wp execOp
  simp only [ho, resolve, invoke, builtin, Sem.run_bind, Sem.run_pure, Result.andThen_ok, List.map_toArray, List.map_cons, List.map_nil, hs, hx, hr]
  exact h v' w' h2 h3 h4 h5
theorem cells_new {w : World} (cs : Array Value) (t : TypeId) : ∀ j u, cs.toList[j]? = some u → (w.alloc (.cells cs t)).cell? ((⟨w.heap.size, 0, none⟩ : Addr).add j) = some u :=
  World.news_of_block (heap_alloc_new w _)
theorem own_later {w w' : World} {base e k n : Nat} {v : Value} {xs : List Value} (h : w.ownsRow base e k v n xs) (hb : Below w.heap.size w w') : w'.ownsRow base e k v n xs :=
  h.kept (row := none) ⟨hb.os, hb.tape, hb.output, hb.size, fun i hi _ => hb.block i hi⟩ (by cases h2 : v.ownBlock <;> simp)
theorem own_mono {w : World} {base base' e k n : Nat} {v : Value} {xs : List Value} (h : w.ownsRow base e k v n xs) (hb : base' ≤ base) : w.ownsRow base' e k v n xs := by
  refine ⟨h.1, ?_⟩
  rcases h.2 with h1 | ⟨g, cap, cur, hv, hg, rest⟩
  · exact .inl h1
  · exact .inr ⟨g, cap, cur, hv, by omega, rest⟩
end Go.Proofs.YtkppmlignfhdeaaGreat
/- Proved here: A law on regions that draw their order, with operations that only look taken first, for use in the proofs of the given statements; conditions stand in each theorem. -/
namespace Go.Proofs.YtkppmlignfhdeaaGreat
open Go.RowKit

/-! A REGION THAT DRAWS ITS ORDER: the operations that only look are taken first, in the order of the text; the others (calls, append, stores) behind them, in whatever order their edges allow. -/
section
variable {P : Program} {ops : Array Oper} {Q : Exit → Act → World → Prop} {md : Region.Mode} {fin : Nat → Bool}

def Cl (b w : World) : Prop := Below b.heap.size b w
theorem Cl.refl (b : World) : Cl b b := Below.refl _ _
theorem Cl.trans {a b c : World} (h : Cl a b) (k : Cl b c) : Cl a c := Below.trans h (Below.mono k h.size)

/-- the operation yields v, whatever later world, and leaves it as it is -/
def YieldsS (P : Program) (ops : Array Oper) (b : World) (o : Oper) (v : Value) (a : Act) : Prop :=
  (Region.wanted o (yielded ops a.tmps) = true ∧ ∀ w, Cl b w → ((execOp a.eval o).run P w = .ok (.value v) w ∨ ((execOp a.eval o).run P w = .ok .skip w ∧ v = undef))) ∨
  (Region.wanted o (yielded ops a.tmps) = false ∧ v = undef)

theorem YieldsS.later {b b' : World} {o : Oper} {v : Value} {a : Act} (h : YieldsS P ops b o v a) (hb : Cl b b') : YieldsS P ops b' o v a := by
  rcases h with ⟨h1, h2⟩ | h
  · exact .inl ⟨h1, fun w hw => h2 w (hb.trans hw)⟩
  · exact .inr h
theorem YieldsS.of_same {b : World} {o : Oper} {v : Value} {a a' : Act} (hy : YieldsS P ops b o v a) (he : execOp a'.eval o = execOp a.eval o)
    (hw : Region.wanted o (yielded ops a'.tmps) = Region.wanted o (yielded ops a.tmps)) : YieldsS P ops b o v a' := by
  unfold YieldsS at *
  rw [he, hw]
  exact hy
theorem YieldsS.wpOp {b : World} {i : Nat} {o : Oper} {v : Value} {a : Act} (hi : ops[i]? = some o) (hy : YieldsS P ops b o v a)
    {K : Act → World → Prop} {w : World} (hw : Cl b w) (h : K (a.put o.dst v) w) : wpOp P ops Q i K a w := by
  unfold Go.wpOp
  simp only [hi]
  rcases hy with ⟨hw', hv⟩ | ⟨hw', rfl⟩
  · simp only [hw', if_true]
    rcases hv w hw with hv' | ⟨hv', rfl⟩
    · simp only [Oper.wp, hv', Oper.upon]; exact .inl h
    · refine .inl ?_
      unfold Oper.wp
      rw [hv']
      exact h
  · simp only [hw', Bool.false_eq_true, if_false]; exact h

def wpAnyT (P : Program) (md : Region.Mode) (ops : Array Oper) (Q : Exit → Act → World → Prop) (fin : Nat → Bool) : Nat → Array Bool → Act → World → Prop
  | 0, listed, a, w => Region.ready md ops listed = [] ∧ Q .normal a w
  | f + 1, listed, a, w => (Region.ready md ops listed = [] → Q .normal a w) ∧
    ∀ i ∈ Region.ready md ops listed,
      (∃ o v, ops[i]? = some o ∧ YieldsS P ops w o v a ∧ wpAnyT P md ops Q fin f (listed.setIfInBounds i true) (a.put o.dst v) w) ∨
      (fin i = false ∧ wpOp P ops Q i (fun a' w' => Cl w w' ∧ wpAnyT P md ops Q fin f (listed.setIfInBounds i true) a' w') a w) ∨
      (fin i = true ∧ wpOp P ops Q i (fun a' w' => wpAnyT P md ops Q fin f (listed.setIfInBounds i true) a' w') a w)

theorem wpAny_of_T : ∀ (f : Nat) (listed : Array Bool) (a : Act) (w : World), wpAnyT P md ops Q fin f listed a w → wpAny P md ops Q f listed a w
  | 0, _, _, _, h => ⟨h.1, h.2⟩
  | f + 1, _, _, w, h => by
    refine ⟨fun h0 => h.1 h0, fun i hi => ?_⟩
    rcases h.2 i hi with ⟨o, v, ho, hy, hk⟩ | ⟨_, hk⟩ | ⟨_, hk⟩
    · exact hy.wpOp ho (Cl.refl _) (wpAny_of_T f _ _ w hk)
    · exact wpOp_mono (fun a' w' h' => wpAny_of_T f _ _ w' h'.2) hk
    · exact wpOp_mono (fun a' w' h' => wpAny_of_T f _ _ w' h') hk

/-- the operation j waits for i, over at most d edges -/
def mustB (md : Region.Mode) (ops : Array Oper) : Nat → Nat → Nat → Bool
  | 0, _, _ => false
  | d + 1, j, i => match ops[j]? with
    | some oj => oj.after.any fun e => Region.binds md e && (e.on == i || mustB md ops d e.on i)
    | none => false
theorem mustB_listed {i : Nat} {listed : Array Bool} (inv : HeadInv md ops ops.size listed) : ∀ (d j : Nat), mustB md ops d j i = true →
    (∀ oj, ops[j]? = some oj → ∀ e ∈ oj.after, Region.binds md e = true → listed.getD e.on false = true) → listed.getD i false = true
  | 0, _, h, _ => by simp [mustB] at h
  | d + 1, j, h, hj => by
    unfold mustB at h
    cases ho : ops[j]? with
    | none => simp [ho] at h
    | some oj =>
      rw [ho] at h
      obtain ⟨e, he, hb⟩ := Array.any_eq_true'.1 h
      simp only [Bool.and_eq_true, Bool.or_eq_true, beq_iff_eq] at hb
      have hl := hj oj ho e he hb.1
      rcases hb.2 with h1 | h1
      · rw [← h1]; exact hl
      · exact mustB_listed inv d e.on h1 (fun ok hk e' he' hb' => inv.closed e.on ok hk hl e' he' hb')

/-- kinds of operations that do not look at the world -/
def noWorld : Op → Bool
  | .move _ | .assign _ => true
  | _ => false
theorem YieldsS.any {b b' : World} {o : Oper} {v : Value} {a : Act} (hn : noWorld o.op = true) (h : YieldsS P ops b o v a) : YieldsS P ops b' o v a := by
  rcases h with ⟨h1, h2⟩ | h
  · refine .inl ⟨h1, fun w hw => ?_⟩
    have h3 := h2 b (Cl.refl b)
    cases hop : o.op with
    | move x => simp only [execOp, hop, Sem.run_pure] at h3 ⊢; simpa using h3
    | assign x => simp only [execOp, hop, Sem.run_pure] at h3 ⊢; simpa using h3
    | _ => rw [hop] at hn; simp [noWorld] at hn
  · exact .inr h

theorem wpOp_putS {b : World} {j : Nat} {oi oj : Oper} {v : Value} (hj : ops[j]? = some oj) (hap : oi.apart ops oj = true)
    (hsi : ∀ cs b, oi.op ≠ .select cs b) (hsj : ∀ cs b, oj.op ≠ .select cs b)
    (hQ : ∀ c a w, Q (.panic c) (a.put oi.dst v) w → Q (.panic c) a w) {K : Act → World → Prop} {a : Act} {w : World}
    (hy : YieldsS P ops b oi v a) (h : wpOp P ops Q j K (a.put oi.dst v) w) :
    wpOp P ops Q j (fun a' w' => YieldsS P ops b oi v a' ∧ K (a'.put oi.dst v) w') a w := by
  obtain ⟨h1, h2, h3⟩ := Oper.apart_spec hap
  have keep : ∀ (a : Act), YieldsS P ops b oi v a → ∀ u, YieldsS P ops b oi v (a.put oj.dst u) := fun a hy u =>
    hy.of_same (execOp_put oi hsi a oj.dst u h3) (wanted_put oi a oj.dst u h3)
  have keepD : ∀ d, YieldsS P ops b oi v { a with defers := d :: a.defers } := fun d => hy.of_same rfl rfl
  unfold wpOp at *
  simp only [hj] at *
  rw [wanted_put oj a oi.dst v h1] at h
  split
  · rename_i hw
    simp only [hw, if_true] at h
    rcases h with h | ⟨hasks, hlets⟩
    case inr => exact .inr ⟨by unfold Oper.asks at *; rw [execOp_put oj hsj a oi.dst v h1] at hasks; exact hasks, hlets⟩
    refine .inl ?_
    unfold Oper.wp at *
    rw [execOp_put oj hsj a oi.dst v h1] at h
    generalize (execOp a.eval oj).run P w = r at *
    cases r with
    | ok n w' =>
      cases n <;> simp only [Oper.upon] at h ⊢
      case value u => exact ⟨keep a hy u, by rw [← Act.put_comm a v u h2]; exact h⟩
      case skip => exact ⟨keep a hy _, by rw [← Act.put_comm a v undef h2]; exact h⟩
      case defer d =>
        refine ⟨keep _ (keepD d) _, ?_⟩
        rw [← Act.put_comm _ v undef h2, ← Act.put_defers]
        exact h
      case enter f args =>
        refine Calls.mono h fun e w'' he => ?_
        cases e with
        | returned u => exact ⟨keep a hy u, by rw [← Act.put_comm a v u h2]; exact he⟩
        | panicked c => exact hQ _ _ _ he
        | outgrown => exact he
      case row row args => exact Rows.mono h fun u w'' he => ⟨keep a hy u, by rw [← Act.put_comm a v u h2]; exact he⟩
    | halt x w' =>
      cases x <;> simp only [Oper.upon] at h ⊢
      case panic u => exact hQ _ _ _ h
  · rename_i hw
    simp only [hw] at h
    exact ⟨keep a hy _, by rw [← Act.put_comm a v undef h2]; exact h⟩

theorem YieldsS.put {b : World} {oi oj : Oper} {v : Value} (hap : oi.apart ops oj = true) (hsi : ∀ cs b, oi.op ≠ .select cs b) {a : Act} (hy : YieldsS P ops b oi v a) (u : Value) :
    YieldsS P ops b oi v (a.put oj.dst u) :=
  hy.of_same (execOp_put oi hsi a oj.dst u (Oper.apart_spec hap).2.2) (wanted_put oi a oj.dst u (Oper.apart_spec hap).2.2)

theorem wpAnyT_first {i : Nat} {oi : Oper} {v : Value} (hi : ops[i]? = some oi) (hsel : ∀ (j : Nat) (o : Oper) cs b, ops[j]? = some o → o.op ≠ .select cs b)
    (hQ : ∀ c a w, Q (.panic c) (a.put oi.dst v) w → Q (.panic c) a w) (hfin : ∀ j, fin j = true → mustB md ops 16 j i = true ∨ noWorld oi.op = true) :
    ∀ (fuel : Nat) (listed : Array Bool) (a : Act) (b : World), HeadInv md ops ops.size listed →
      (∀ j oj, ops[j]? = some oj → j ≠ i → listed.getD j true = false → (∀ e ∈ oj.after, Region.binds md e = true → e.on ≠ i) → oi.apart ops oj = true) →
      i ∈ Region.ready md ops listed → YieldsS P ops b oi v a →
      wpAnyT P md ops Q fin fuel (listed.setIfInBounds i true) (a.put oi.dst v) b → wpAnyT P md ops Q fin (fuel + 1) listed a b := by
  intro fuel
  induction fuel with
  | zero =>
    intro listed a b _ _ hr hy H
    refine ⟨fun h => (by rw [h] at hr; cases hr), fun j hj => ?_⟩
    by_cases hji : j = i
    · subst hji; exact .inl ⟨oi, v, hi, hy, H⟩
    · have := ready_mono hj hji
      rw [H.1] at this
      cases this
  | succ fuel ih =>
    intro listed a b inv hfree hr hy H
    refine ⟨fun h => (by rw [h] at hr; cases hr), fun j hj => ?_⟩
    by_cases hji : j = i
    · subst hji; exact .inl ⟨oi, v, hi, hy, H⟩
    · have h1 := H.2 j (ready_mono hj hji)
      obtain ⟨hjun, oj, hoj, hall⟩ := mem_ready.1 hj
      have hiu := (mem_ready.1 hr).1
      have hnot : ∀ e ∈ oj.after, Region.binds md e = true → e.on ≠ i := fun e he hb heq => by
        have h1 := hall e he hb
        rw [heq] at h1
        rcases Nat.lt_or_ge i listed.size with h' | h'
        · simp [h'] at hiu h1; rw [hiu] at h1; cases h1
        · simp [Array.getElem?_eq_none h'] at h1
      have hap := hfree j oj hoj hji hjun hnot
      have hfree' : ∀ k ok, ops[k]? = some ok → k ≠ i → (listed.setIfInBounds j true).getD k true = false →
          (∀ e ∈ ok.after, Region.binds md e = true → e.on ≠ i) → oi.apart ops ok = true := fun k ok hk hki hun hno => by
        refine hfree k ok hk hki ?_ hno
        by_cases hjk : j = k
        · subst hjk; exact hjun
        · rw [getD_set_ne true hjk] at hun; exact hun
      have hjs : j < ops.size := (Array.getElem?_eq_some_iff.1 hoj).1
      have inv' := inv.set hj hjs
      have hr' := ready_mono hr (Ne.symm hji)
      rcases h1 with ⟨o, u, ho, hyu, hk⟩ | ⟨hf, hk⟩ | ⟨hf, hk⟩
      · rw [ho] at hoj
        injection hoj with hoj
        subst hoj
        refine .inl ⟨o, u, ho, ?_, ?_⟩
        · exact hyu.of_same (execOp_put o (fun cs b => hsel j o cs b ho) a oi.dst v (Oper.apart_spec hap).1).symm (wanted_put o a oi.dst v (Oper.apart_spec hap).1).symm
        · refine ih _ _ b inv' hfree' hr' (hy.put hap (fun cs b => hsel i oi cs b hi) u) ?_
          rw [Array.setIfInBounds_comm _ _ hji, ← Act.put_comm a v u (Oper.apart_spec hap).2.1]
          exact hk
      · refine .inr (.inl ⟨hf, ?_⟩)
        have h2 := wpOp_putS (Q := Q) hoj hap (fun cs b => hsel i oi cs b hi) (fun cs b => hsel j oj cs b hoj) hQ hy hk
        refine wpOp_mono (fun a' w' h3 => ⟨h3.2.1, ih _ a' w' inv' hfree' hr' (h3.1.later h3.2.1) ?_⟩) h2
        rw [Array.setIfInBounds_comm _ _ hji]
        exact h3.2.2
      · rcases hfin j hf with hmust | hnw
        · exfalso
          have := mustB_listed inv 16 j hmust (fun ok hk e he hb => by
            rw [hoj] at hk
            injection hk with hk
            subst hk
            exact hall e he hb)
          rcases Nat.lt_or_ge i listed.size with h' | h'
          · simp [h'] at hiu this; rw [hiu] at this; cases this
          · simp [Array.getElem?_eq_none h'] at this
        · refine .inr (.inr ⟨hf, ?_⟩)
          have h2 := wpOp_putS (Q := Q) hoj hap (fun cs b => hsel i oi cs b hi) (fun cs b => hsel j oj cs b hoj) hQ hy hk
          refine wpOp_mono (fun a' w' h3 => ih _ a' w' inv' hfree' hr' (h3.1.any hnw) ?_) h2
          rw [Array.setIfInBounds_comm _ _ hji]
          exact h3.2

/-- kinds of operations that are no call of a Go function -/
def noCall : Op → Bool
  | .call { callee := .builtin .len, .. } => true
  | .call { callee := .builtin .cap, .. } => true
  | .call _ | .go _ | .defer _ | .send .. | .recv .. | .select .. => false
  | _ => true
def NoEnter (s : Sem Next) : Prop := ∀ (P : Program) (w w' : World) (f : FuncId) (args : Array Value), s.run P w ≠ .ok (.enter f args) w'
theorem noEnter_bind {α : Type} (s : Sem α) (k : α → Sem Next) (h : ∀ a, NoEnter (k a)) : NoEnter (s >>= k) := by
  intro P w w' f args
  rw [Sem.run_bind]
  cases s.run P w with
  | ok a w1 => exact h a P w1 w' f args
  | halt x w1 => simp [Result.andThen]
theorem noEnter_val (v : Value) : NoEnter (pure (Next.value v)) := by
  intro P w w' f args
  rw [Sem.run_pure]
  simp
theorem noEnter_skip : NoEnter (pure Next.skip) := by
  intro P w w' f args
  rw [Sem.run_pure]
  simp
theorem noEnter_halt (h : Halt) : NoEnter (.halt h) := by
  intro P w w' f args
  simp [Sem.run]
theorem noEnter_panic (e : RuntimeError) : NoEnter (runtimePanic e) := by
  refine noEnter_bind _ _ fun p => ?_
  cases e <;> dsimp only <;> first | exact noEnter_halt _ | (refine noEnter_bind _ _ fun _ => noEnter_bind _ _ fun _ => ?_; exact noEnter_halt _)
theorem noCall_spec {ρ : Operand → Value} {o : Oper} (h : noCall o.op = true) : NoEnter (execOp ρ o) := by
  unfold execOp
  cases hop : o.op with
  | call c =>
    rw [hop] at h
    obtain ⟨callee, cargs, ct⟩ := c
    cases callee with
    | value f => simp [noCall] at h
    | invoke r m => simp [noCall] at h
    | builtin b =>
      cases b <;> simp [noCall] at h
      · exact (noEnter_bind (Builtin.cap_ ct o.type (cargs.map ρ)) _ fun v => noEnter_val v)
      · exact (noEnter_bind (Builtin.len_ ct o.type (cargs.map ρ)) _ fun v => noEnter_val v)
  | go c => rw [hop] at h; simp [noCall] at h
  | defer c => rw [hop] at h; simp [noCall] at h
  | send a b => rw [hop] at h; simp [noCall] at h
  | recv a b c => rw [hop] at h; simp [noCall] at h
  | select a b => rw [hop] at h; simp [noCall] at h
  | nilCheck x =>
    dsimp only
    split
    · exact noEnter_panic _
    · exact noEnter_panic _
    · exact noEnter_panic _
    · split
      · exact noEnter_panic _
      · repeat (first | exact noEnter_val _ | exact noEnter_halt _ | (refine noEnter_bind _ _ fun _ => ?_) | split)
      · exact noEnter_val _
    · exact noEnter_val _
  | _ => first | exact noEnter_val _ | exact noEnter_bind _ _ fun _ => noEnter_val _ | exact noEnter_bind _ _ fun _ => noEnter_skip | skip

def pickQ : List Oper → List Bool → List Oper
  | o :: l, true :: m => o :: pickQ l m
  | _ :: l, false :: m => pickQ l m
  | _, _ => []
/-- the quiet operations, in the text's order, each ready and free at its turn -/
def lexQ (md : Region.Mode) (ops : Array Oper) (fins : List Nat) : List Bool → Nat → Array Bool → Bool
  | [], _, _ => true
  | true :: m, k, listed => (Region.ready md ops listed).contains k && Region.free md ops listed k && ((fins.all fun j => mustB md ops 16 j k) || ((ops[k]?).map (noWorld ·.op)).getD false) && ((ops[k]?).map (noCall ·.op)).getD false &&
      lexQ md ops fins m (k + 1) (listed.setIfInBounds k true)
  | false :: m, k, listed => lexQ md ops fins m (k + 1) listed
def listedQ : List Bool → Nat → Array Bool → Array Bool
  | [], _, listed => listed
  | true :: m, k, listed => listedQ m (k + 1) (listed.setIfInBounds k true)
  | false :: m, k, listed => listedQ m (k + 1) listed
def countQ : List Bool → Nat
  | [] => 0
  | true :: m => countQ m + 1
  | false :: m => countQ m

theorem yieldsS_of_quiet {b : World} {o : Oper} {a : Act} {K : Act → Prop} (hc : noCall o.op = true) (hw : Region.wanted o (yielded ops a.tmps) = true)
    (h : o.quiet P a (fun w' => ∃ x : Later b, w' = x.w') K) : ∃ v, YieldsS P ops b o v a ∧ K (a.put o.dst v) := by
  obtain ⟨v, h1, h2⟩ := h
  refine ⟨v, .inl ⟨hw, fun w hcl => ?_⟩, h2⟩
  have h3 := h1 w ⟨⟨w, hcl⟩, rfl⟩
  unfold Oper.quietAt at h3
  have h4 := noCall_spec (ρ := a.eval) hc P w
  generalize (execOp a.eval o).run P w = r at *
  cases r with
  | ok n w' =>
    cases n <;> simp only [Oper.quietUpon] at h3
    case value u => exact .inl (by rw [h3.1, h3.2])
    case skip => exact .inr ⟨by rw [h3.1], h3.2⟩
    case enter f args => exact absurd rfl (h4 w' f args)
  | halt x w' => simp only [Oper.quietUpon] at h3

theorem wpAnyT_of_quiet {fins : List Nat} (hf : ∀ j, fin j = true → j ∈ fins) (hsel : Region.noSelect ops = true) (hQ : ∀ c a a' w, Q (.panic c) a w → Q (.panic c) a' w) {b : World} {fuel : Nat} : ∀ (l : List Oper) (m : List Bool) (k : Nat) (listed : Array Bool) (a : Act),
    (∀ j, l[j]? = ops[k + j]?) → lexQ md ops fins m k listed = true → m.length = l.length → HeadInv md ops ops.size listed →
    wpQuiet P ops (fun w' => ∃ x : Later b, w' = x.w') (fun a' => wpAnyT P md ops Q fin fuel (listedQ m k listed) a' b) (pickQ l m) a →
    wpAnyT P md ops Q fin (fuel + countQ m) listed a b
  | [], [], k, listed, a, _, _, _, _, h => h
  | o :: l, false :: m, k, listed, a, hl, hB, hlen, inv, h =>
    wpAnyT_of_quiet hf hsel hQ l m (k + 1) listed a (fun j => by have := hl (j + 1); simpa [Nat.add_assoc, Nat.add_comm 1 j] using this) hB (by simpa using hlen) inv h
  | o :: l, true :: m, k, listed, a, hl, hB, hlen, inv, h => by
    have h0 : ops[k]? = some o := by simpa using (hl 0).symm
    simp only [lexQ, Bool.and_eq_true] at hB
    obtain ⟨⟨⟨⟨hr, hfr⟩, hm⟩, hnc⟩, hB'⟩ := hB
    have hr' : k ∈ Region.ready md ops listed := by simpa using hr
    have hc : noCall o.op = true := by simpa [h0] using hnc
    have hm' : ∀ j, fin j = true → mustB md ops 16 j k = true ∨ noWorld o.op = true := fun j hj => by
      rcases Bool.or_eq_true _ _ ▸ hm with h1 | h1
      · exact .inl (List.all_eq_true.1 h1 j (hf j hj))
      · exact .inr (by simpa [h0] using h1)
    have step : ∀ v, YieldsS P ops b o v a → wpQuiet P ops (fun w' => ∃ x : Later b, w' = x.w') (fun a' => wpAnyT P md ops Q fin fuel (listedQ m (k+1) (listed.setIfInBounds k true)) a' b) (pickQ l m) (a.put o.dst v) →
        wpAnyT P md ops Q fin (fuel + countQ (true :: m)) listed a b := fun v hy hk =>
      wpAnyT_first h0 (Region.noSelect_spec hsel) (fun c a w hh => hQ _ _ _ _ hh) hm' (fuel + countQ m) listed a b inv (Region.free_spec h0 hfr) hr' hy
        (wpAnyT_of_quiet hf hsel hQ l m (k + 1) _ _ (fun j => by have := hl (j + 1); simpa [Nat.add_assoc, Nat.add_comm 1 j] using this) hB' (by simpa using hlen)
          (inv.set hr' (Array.getElem?_eq_some_iff.1 h0).1) hk)
    simp only [pickQ, wpQuiet] at h
    by_cases hw : Region.wanted o (yielded ops a.tmps) = true
    · rw [if_pos hw] at h
      obtain ⟨v, hy, hk⟩ := yieldsS_of_quiet hc hw h
      exact step v hy hk
    · rw [if_neg hw] at h
      exact step undef (.inr ⟨by simpa using hw, rfl⟩) h

theorem headInv_start : HeadInv md ops ops.size (Array.replicate ops.size false) := by
  refine ⟨by simp, fun j oj hj hl e he hb => ?_, fun t h1 h2 => by omega⟩
  exfalso
  rcases Nat.lt_or_ge j ops.size with h | h
  · simp [h] at hl
  · simp [h] at hl

/-- **The region**: m marks the operations that only look (they are walked first), fins the last stores. -/
theorem wp_region_qt {id : Nat} {a : Act} {w : World} {l : List Oper} (m : List Bool) (fins : List Nat) (hm : P.follows .mixedOrders = true) (hs : Region.noSelect l.toArray = true)
    (hB : lexQ .any l.toArray fins m 0 (Array.replicate l.toArray.size false) = true) (hlen : m.length = l.length)
    (h : wpQuiet P l.toArray (fun w' => ∃ x : Later w.drew, w' = x.w') (fun a' => wpAnyT P .any l.toArray (NoPanic Q) (fins.contains ·) (l.toArray.size - countQ m) (listedQ m 0 (Array.replicate l.toArray.size false)) a' w.drew) (pickQ l m) a)
    (hc : countQ m ≤ l.toArray.size) : (Code.region id l.toArray true).wp P Q a w := by
  refine wp_region_noPanic (wp_region_any hm ?_)
  refine wpAny_of_T (fin := (fins.contains ·)) _ _ _ w.drew ?_
  have := wpAnyT_of_quiet (P := P) (md := .any) (Q := NoPanic Q) (fin := (fins.contains ·)) (fins := fins) (fun j hj => by simpa using hj) hs (fun c a a' w hh => hh.elim) (fuel := l.toArray.size - countQ m) l m 0 _ a (by simp) hB hlen headInv_start h
  rw [Nat.sub_add_cancel hc] at this
  exact this

/-! the operations behind: one at a time -/
theorem tail_done {f : Nat} {listed : Array Bool} {a : Act} {w : World} (hr : Region.ready md ops listed = []) (h : Q .normal a w) : wpAnyT P md ops Q fin f listed a w := by
  cases f with
  | zero => exact ⟨hr, h⟩
  | succ f => exact ⟨fun _ => h, fun i hi => by rw [hr] at hi; cases hi⟩
def TailKeep (P : Program) (md : Region.Mode) (ops : Array Oper) (Q : Exit → Act → World → Prop) (fin : Nat → Bool) (f : Nat) (listed : Array Bool) (i : Nat) (a : Act) (w : World) : Prop :=
  ∃ o, ops[i]? = some o ∧ o.guard = none ∧ ∀ K : Act → World → Prop, (∀ a' w', Below w.heap.size w w' → wpAnyT P md ops Q fin f (listed.setIfInBounds i true) a' w' → K a' w') → o.wp P a w K Q
/-- one operation is ready, and it keeps what was there -/
theorem tail_one {i f : Nat} {o : Oper} {listed : Array Bool} {a : Act} {w : World} (hr : Region.ready md ops listed = [i]) (ho : ops[i]? = some o) (hfin : fin i = false) (hg : o.guard = none)
    (h : ∀ K : Act → World → Prop, (∀ a' w', Below w.heap.size w w' → wpAnyT P md ops Q fin f (listed.setIfInBounds i true) a' w' → K a' w') → o.wp P a w K Q) :
    wpAnyT P md ops Q fin (f + 1) listed a w := by
  refine ⟨fun h0 => by (rw [hr] at h0; cases h0), fun j hj => ?_⟩
  rw [hr] at hj
  simp only [List.mem_singleton] at hj
  subst hj
  refine .inr (.inl ⟨hfin, ?_⟩)
  unfold wpOp
  rw [ho]
  simp only [Region.wanted, hg, if_true]
  exact .inl (h _ fun a' w' h1 h2 => ⟨h1, h2⟩)
/-- two operations are ready, and each keeps what was there -/
theorem tail_two {i j f : Nat} {oi oj : Oper} {listed : Array Bool} {a : Act} {w : World} (hr : Region.ready md ops listed = [i, j]) (hoi : ops[i]? = some oi) (hfi : fin i = false) (hgi : oi.guard = none)
    (hoj : ops[j]? = some oj) (hfj : fin j = false) (hgj : oj.guard = none)
    (h : ∀ K : Act → World → Prop, (∀ a' w', Below w.heap.size w w' → wpAnyT P md ops Q fin f (listed.setIfInBounds i true) a' w' → K a' w') → oi.wp P a w K Q)
    (h' : ∀ K : Act → World → Prop, (∀ a' w', Below w.heap.size w w' → wpAnyT P md ops Q fin f (listed.setIfInBounds j true) a' w' → K a' w') → oj.wp P a w K Q) :
    wpAnyT P md ops Q fin (f + 1) listed a w := by
  refine ⟨fun h0 => by (rw [hr] at h0; cases h0), fun k hk => ?_⟩
  rw [hr] at hk
  simp only [List.mem_cons, List.not_mem_nil, or_false] at hk
  rcases hk with rfl | rfl
  · refine .inr (.inl ⟨hfi, ?_⟩)
    unfold wpOp
    rw [hoi]
    simp only [Region.wanted, hgi, if_true]
    exact .inl (h _ fun a' w' h1 h2 => ⟨h1, h2⟩)
  · refine .inr (.inl ⟨hfj, ?_⟩)
    unfold wpOp
    rw [hoj]
    simp only [Region.wanted, hgj, if_true]
    exact .inl (h' _ fun a' w' h1 h2 => ⟨h1, h2⟩)
/-- an operation that waits for all that only look -/
theorem tail_loud {i f : Nat} {o : Oper} {listed : Array Bool} {a : Act} {w : World} (hr : Region.ready md ops listed = [i]) (ho : ops[i]? = some o) (hfin : fin i = true) (hg : o.guard = none)
    (h : ∀ K : Act → World → Prop, (∀ a' w', wpAnyT P md ops Q fin f (listed.setIfInBounds i true) a' w' → K a' w') → o.wp P a w K Q) :
    wpAnyT P md ops Q fin (f + 1) listed a w := by
  refine ⟨fun h0 => by (rw [hr] at h0; cases h0), fun j hj => ?_⟩
  rw [hr] at hj
  simp only [List.mem_singleton] at hj
  subst hj
  refine .inr (.inr ⟨hfin, ?_⟩)
  unfold wpOp
  rw [ho]
  simp only [Region.wanted, hg, if_true]
  exact .inl (h _ fun a' w' h1 => h1)
end
theorem below_dd {B : Nat} {a b : World} (h : Below B a b) : Below B a.drew b.drew := ⟨h.os, h.tape, h.output, h.size, h.block⟩
theorem wp_append_own_at {P : Program} {o : Oper} {a : Act} {w : World} {K : Act → World → Prop} {Q : Exit → Act → World → Prop} (s x : Operand) (t : TypeId)
    (ho : o.op = .call { callee := .builtin .append, args := #[s, x], argTypes := #[t, t] })
    (base : Nat) (e : TypeId) (i : TypeInfo) (z : Value) (size bytes : Nat) (ht : P.underlying t = some (.slice e)) (hi : P.info? e = some i) (hz : i.zero = some z)
    (hsize : i.size = size) (hby : i.bytes = bytes) (hzs : z.cells.size = size) (hsz : 0 < size)
    (v : Value) (n : Nat) (xs : List Value) (hs : a.eval s = v) (hown : w.ownsRow base e size v n xs)
    (ad : Addr) (m c : Nat) (news : List Value) (hx : a.eval x = .slice (some ad) m c) (hl : news.length = m * size) (hnews : ∀ j u, news[j]? = some u → w.cell? (ad.add j) = some u) (h1 : ∀ u ∈ news, u.oneCell' = true)
    (h63 : n + m ≤ maxLen) (hbytes : (n + m) * bytes ≤ 140737488355328) (hbase : base ≤ w.heap.size)
    (h : ∀ v' w', w'.ownsRow base e size v' (n + m) (xs ++ news) → w.grownBy w' v.ownBlock → (v' = .slice none 0 0 ↔ v = .slice none 0 0 ∧ m = 0) → (v'.ownBlock = v.ownBlock ∨ v'.ownBlock = some w.heap.size) → K (a.put o.dst v') w') : o.wp P a w K Q := by
  obtain ⟨v', w', hr, h2, h3, h4, h5⟩ := run_append_own_at (P := P) w base t o.type e i z size bytes ht hi hz hsize hby hzs hsz v n xs hown ad m c news hl hnews h1 h63 hbytes hbase
  unfold Oper.wp execOp
  simp only [ho, resolve, invoke, builtin, Sem.run_bind, Sem.run_pure, Result.andThen_ok, List.map_toArray, List.map_cons, List.map_nil, hs, hx, hr]
  exact h v' w' h2 h3 h4 h5
end Go.Proofs.YtkppmlignfhdeaaGreat
