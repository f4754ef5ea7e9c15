/- Proved here: Reading of slices as lists, kept over later worlds, and regions that draw their order, for use in the proofs of the given statements; conditions stand in each theorem. -/
import Derived.WalkKit
import Derived.WalkSpells
import Derived.WalkLawsBesides
import Derived.Deep.QuietTactic
import Derived.BigQuiet
import Derived.Lib.Hide
import Derived.Deep.RegionWith
import Derived.Deep.RegionLaw
import Derived.Deep.CutRange
namespace Go.Proofs.Ytnbmiejjkkgckaa
open Go.RowKit

/-- the slice value with address A reads as the list xs, each element of k cells -/
def Sl {α : Type} (f : α → List Value) (k : Nat) (w : World) (A : Option Addr) (xs : List α) : Prop :=
  ∀ i x, xs[i]? = some x → ∃ b off, A = some ⟨b, off, none⟩ ∧ ∀ j v, (f x)[j]? = some v → w.cell? ⟨b, off + i * k + j, none⟩ = some v

theorem cell_lt {w : World} {a : Addr} {v : Value} (h : w.cell? a = some v) : a.block < w.heap.size := World.block_lt_of_cell? _ _ h

theorem Sl.later {α : Type} {f : α → List Value} {k : Nat} {w w' : World} {A : Option Addr} {xs : List α} (h : Sl f k w A xs) (hb : Below w.heap.size w w') : Sl f k w' A xs := by
  intro i x hx
  obtain ⟨b, off, rfl, hc⟩ := h i x hx
  exact ⟨b, off, rfl, fun j v hj => (hb.cell (cell_lt (hc j v hj))).trans (hc j v hj)⟩
theorem later_alloc (w : World) (o : Obj) : Below w.heap.size w (w.alloc o) := (Below.refl _ _).alloc (Nat.le_refl _) o
theorem Sl.alloc {α : Type} {f : α → List Value} {k : Nat} {w : World} {A : Option Addr} {xs : List α} (h : Sl f k w A xs) (o : Obj) : Sl f k (w.alloc o) A xs :=
  h.later (later_alloc w o)

/-- the first index from k on -/
def idxFrom {α : Type} (p : α → Bool) : List α → Nat → Int
  | [], _ => -1
  | x :: r, k => if p x then (k : Int) else idxFrom p r (k + 1)
def idx {α : Type} (p : α → Bool) (l : List α) : Int := idxFrom p l 0

theorem idx_step {α : Type} {p : α → Bool} {l : List α} {k : Nat} (h : k < l.length) (hp : p l[k] = false) :
   idxFrom p (l.drop (k+1)) (k+1) = idxFrom p (l.drop k) k := by
  rw [List.drop_eq_getElem_cons h]; simp [idxFrom, hp]
theorem idx_hit {α : Type} {p : α → Bool} {l : List α} {k : Nat} (h : k < l.length) (hp : p l[k] = true) :
   (k : Int) = idxFrom p (l.drop k) k := by
  rw [List.drop_eq_getElem_cons h]; simp [idxFrom, hp]
theorem idx_end {α : Type} {p : α → Bool} {l : List α} {k : Nat} (h : ¬ k < l.length) :
   -1 = idxFrom p (l.drop k) k := by
  rw [List.drop_eq_nil_of_le (by omega)]; simp [idxFrom]
theorem ret_int {k : IntKind} {a b : Int} (h : a = b) : Ending.returned (.int k a) = .returned (.int k b) := by rw [h]

theorem _root_.Go.RowKit.Below.drewN {B : Nat} {a w : World} (h : Below B a w) (n : Nat) : Below B a (w.drewN n) := ⟨h.os, h.tape, h.output, h.size, h.block⟩
/-! a region that draws its order, whose operations leave what was there alone -/
structure Later (w : World) where
  w' : World
  h : Below w.heap.size w w'
instance laterInh (w : World) : Inhabited (Later w) := ⟨⟨w, Below.refl _ _⟩⟩
theorem later_out {w w2 : World} (h : ∃ x : Later w, w2 = x.w') : Below w.heap.size w w2 := by
  obtain ⟨x, rfl⟩ := h
  exact x.h
def Later.of {w w' : World} (h : Below w.heap.size w w') : Later w := ⟨w', h⟩
theorem cell_later' {w : World} {a : Addr} {v : Value} (h : w.cell? a = some v) (x : Later w) : x.w'.cell? a = some v := (x.h.cell (cell_lt h)).trans h
theorem wp_region_later {P : Program} {id : Nat} {Q : Exit → Act → World → Prop} {a : Act} {w : World} {l : List Oper} (hm : P.follows .mixedOrders = true) (hB : Region.lexB .any l.toArray = true)
    (h : wpQuiet P l.toArray (fun w' => ∃ x : Later w, w' = x.w') (fun a' => ∀ w', (∃ x : Later w, w' = x.w') → Q .normal a' w') l a) : (Code.region id l.toArray true).wp P Q a w :=
  wp_region_quiet (C := fun w' => ∃ x : Later w, w' = x.w') hm hB ⟨⟨w.drew, (Below.refl _ _).drew⟩, rfl⟩ (by simpa using h)
theorem calls_later {P : Program} {f : FuncId} {args : Array Value} {w : World} {x : Later w} {v : Value}
    (h : Calls P f args x.w' fun e w' => e = .returned v ∧ Below x.w'.heap.size x.w' w') : Calls P f args x.w' fun e w'' => e = .returned v ∧ ∃ y : Later w, w'' = y.w' :=
  h.mono fun _ _ ⟨he, hb⟩ => ⟨he, ⟨⟨_, x.h.trans (hb.mono x.h.size)⟩, rfl⟩⟩
end Go.Proofs.Ytnbmiejjkkgckaa
namespace Go.Proofs.Ytnbmiejjkkgckaa
open Go.RowKit
/-- a slice of one-cell elements -/
def Sl1 {α : Type} (f : α → Value) (w : World) (A : Option Addr) (xs : List α) : Prop :=
  ∀ i x, xs[i]? = some x → ∃ b off, A = some ⟨b, off, none⟩ ∧ w.cell? ⟨b, off + i, none⟩ = some (f x)
theorem Sl1.later {α : Type} {f : α → Value} {w w' : World} {A : Option Addr} {xs : List α} (h : Sl1 f w A xs) (hb : Below w.heap.size w w') : Sl1 f w' A xs := by
  intro i x hx
  obtain ⟨b, off, rfl, hc⟩ := h i x hx
  exact ⟨b, off, rfl, (hb.cell (cell_lt hc)).trans hc⟩
theorem Sl1.alloc {α : Type} {f : α → Value} {w : World} {A : Option Addr} {xs : List α} (h : Sl1 f w A xs) (o : Obj) : Sl1 f (w.alloc o) A xs :=
  h.later (later_alloc w o)
theorem Sl1.nil {α : Type} (f : α → Value) (w : World) (A : Option Addr) : Sl1 f w A [] := fun i x h => by simp at h
theorem Sl.nil {α : Type} (f : α → List Value) (k : Nat) (w : World) (A : Option Addr) : Sl f k w A [] := fun i x h => by simp at h
end Go.Proofs.Ytnbmiejjkkgckaa
