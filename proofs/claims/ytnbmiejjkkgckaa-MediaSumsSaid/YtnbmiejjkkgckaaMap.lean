/- Proved here: Maps with string keys as run equations, for use in the proofs of the given statements; conditions stand in each theorem. -/
import Derived.Test.YtnbmiejjkkgckaaBase2
import Derived.Maps.Own
namespace Go.Proofs.Ytnbmiejjkkgckaa
open Go.RowKit

theorem ba_eq {a b : ByteArray} : (a == b) = true ↔ a = b := by
  cases a; cases b
  show (ByteArray.beq _ _ = true) ↔ _
  simp [ByteArray.beq]
/-- block b is a map with string keys -/
def MapS (w : World) (b : Nat) (kvs : List (ByteArray × Value)) : Prop :=
  ∃ es clock, w.heap[b]? = some (.map es clock) ∧ es.toList.map (fun e => (e.key, e.val)) = kvs.map fun p => (Value.string p.1, p.2)
def findS (kvs : List (ByteArray × Value)) (s : ByteArray) : Option Value := (kvs.find? fun p => s == p.1).map (·.2)
theorem MapS.lt {w : World} {b : Nat} {kvs : List (ByteArray × Value)} (h : MapS w b kvs) : b < w.heap.size := by
  obtain ⟨es, cl, h1, _⟩ := h
  exact (Array.getElem?_eq_some_iff.1 h1).1
theorem MapS.later {w w' : World} {b : Nat} {kvs : List (ByteArray × Value)} (h : MapS w b kvs) {B : Nat} (hb : Below B w w') (hB : b < B) : MapS w' b kvs := by
  obtain ⟨es, cl, h1, h2⟩ := h
  exact ⟨es, cl, (hb.block b hB).trans h1, h2⟩
theorem MapS.new (w : World) : MapS (w.alloc (.map #[] 0)) w.heap.size [] := ⟨#[], 0, heap_alloc_new w _, rfl⟩
theorem findNow_string (s : ByteArray) : ∀ (es : List MapEntry) (kvs : List (ByteArray × Value)) (i : Nat), es.map (fun e => (e.key, e.val)) = kvs.map (fun p => (Value.string p.1, p.2)) →
    ∃ r, Instr.findNow .string (.string s) es i = some r ∧ r.map (·.2) = findS kvs s ∧ ∀ q, r = some q → i ≤ q.1 ∧ (es[q.1 - i]?).map (·.key) = some (Value.string s)
  | [], kvs, i, h => by
    cases kvs with
    | nil => exact ⟨none, rfl, rfl, fun q hq => by cases hq⟩
    | cons p r => simp at h
  | e :: es, kvs, i, h => by
    cases kvs with
    | nil => simp at h
    | cons p r =>
      simp only [List.map_cons, List.cons.injEq, Prod.mk.injEq] at h
      obtain ⟨⟨h1, h2⟩, h3⟩ := h
      by_cases hk : (s == p.1) = true
      · refine ⟨some (i, e.val), ?_, ?_, ?_⟩
        · simp [Instr.findNow, h1, Instr.sameNow, hk]
        · simp [findS, hk, h2]
        · rintro q hq
          injection hq with hq
          subst hq
          simp [h1]
          exact (ba_eq.1 hk).symm
      · have hk' : (s == p.1) = false := by simpa using hk
        obtain ⟨q, hq1, hq2, hq3⟩ := findNow_string s es r (i + 1) h3
        refine ⟨q, ?_, ?_, ?_⟩
        · simp [Instr.findNow, h1, Instr.sameNow, hk', hq1]
        · rw [hq2]; simp [findS, hk']
        · intro x hx
          obtain ⟨h4, h5⟩ := hq3 x hx
          refine ⟨by omega, ?_⟩
          have e1 : x.1 - i = (x.1 - (i + 1)) + 1 := by omega
          rw [e1, List.getElem?_cons_succ]
          exact h5
theorem run_checkKey_string {P : Program} {k : TypeId} (hk : P.underlying k = some .string) (em : Bool) (s : ByteArray) (w : World) : (Instr.checkKey em 10000 k (.string s)).run P w = .ok () w := by
  have e : (10000 : Nat) = 9999 + 1 := rfl
  rw [e, Instr.checkKey, Sem.run_bind, run_underlying hk]
  rfl
theorem run_lookupS {P : Program} {t k e : TypeId} (ht : P.underlying t = some (.map k e)) (hk : P.underlying k = some .string) {z : Value} {w : World} (hz : (zeroValue e).run P w = .ok z w) {b : Nat} {kvs : List (ByteArray × Value)} (h : MapS w b kvs) (s : ByteArray) :
    (Instr.lookup t (.map (some b)) (.string s) false).run P w = .ok ((findS kvs s).getD z) w := by
  obtain ⟨es, cl, h1, h2⟩ := h
  obtain ⟨r, h3, h4, _⟩ := findNow_string s es.toList kvs 0 h2
  unfold Instr.lookup
  simp only [Sem.run_bind, run_underlying ht, Result.andThen_ok]
  simp only [getObj, Sem.run, h1, Sem.run_bind, Sem.run_pure, Result.andThen_ok, run_checkKey_string hk, Instr.findKey, run_underlying hk, h3]
  cases r with
  | none => simp at h4; simp [← h4, Sem.run_bind, hz]
  | some q => simp at h4; simp [← h4]
theorem run_updateS {P : Program} {t k e : TypeId} (ht : P.underlying t = some (.map k e)) (hk : P.underlying k = some .string) {w : World} {b : Nat} {kvs : List (ByteArray × Value)} (h : MapS w b kvs) (s : ByteArray) (v : Value) (hn : findS kvs s = none) :
    ∃ w', (Instr.mapUpdate t (.map (some b)) (.string s) v).run P w = .ok () w' ∧ MapS w' b (kvs ++ [(s, v)]) ∧ w.grownBy w' (some b) := by
  obtain ⟨es, cl, h1, h2⟩ := h
  obtain ⟨r, h3, h4, _⟩ := findNow_string s es.toList kvs 0 h2
  rw [hn] at h4
  have hr : r = none := by cases r <;> simp at h4 ⊢
  subst hr
  have hlt := (Array.getElem?_eq_some_iff.1 h1).1
  refine ⟨{ w with heap := w.heap.setIfInBounds b (.map (es.push { key := .string s, val := v, born := cl }) (cl + 1)) }, ?_, ⟨es.push { key := .string s, val := v, born := cl }, cl + 1, by simp [hlt], by simp [h2]⟩, ⟨rfl, rfl, rfl, by simp, fun j hj hne => ?_⟩⟩
  · unfold Instr.mapUpdate
    simp only [Sem.run_bind, run_underlying ht, Result.andThen_ok]
    simp only [getObj, setObj, Sem.run, h1, Sem.run_bind, Sem.run_pure, Result.andThen_ok, run_checkKey_string hk, Instr.findKey, run_underlying hk, h3]
  · have : b ≠ j := fun e => hne (by rw [e])
    simp [Array.getElem?_setIfInBounds_ne this]
end Go.Proofs.Ytnbmiejjkkgckaa
