/- Proved here: Several operations ready at once in a drawn region, and the append that copies, for use in the proofs of the given statements; conditions stand in each theorem. -/
import Derived.Test.YtnbmiejjkkgckaaReg
namespace Go.Proofs.Ytnbmiejjkkgckaa
open Go.RowKit
section
variable {P : Program} {ops : Array Oper} {Q : Exit → Act → World → Prop} {md : Region.Mode} {fin : Nat → Bool}
def TailK (P : Program) (md : Region.Mode) (ops : Array Oper) (Q : Exit → Act → World → Prop) (fin : Nat → Bool) (f : Nat) (listed : Array Bool) (a : Act) (w : World) (i : Nat) : Prop :=
  ∃ o, ops[i]? = some o ∧ fin i = false ∧ o.guard = none ∧ ∀ K : Act → World → Prop, (∀ a' w', Below w.heap.size w w' → wpAnyT P md ops Q fin f (listed.setIfInBounds i true) a' w' → K a' w') → o.wp P a w K Q
def TailAll (P : Program) (md : Region.Mode) (ops : Array Oper) (Q : Exit → Act → World → Prop) (fin : Nat → Bool) (f : Nat) (listed : Array Bool) (a : Act) (w : World) : List Nat → Prop
  | [] => True
  | i :: r => TailK P md ops Q fin f listed a w i ∧ TailAll P md ops Q fin f listed a w r
theorem TailAll.mem {f : Nat} {listed : Array Bool} {a : Act} {w : World} : ∀ {rs : List Nat}, TailAll P md ops Q fin f listed a w rs → ∀ i ∈ rs, TailK P md ops Q fin f listed a w i
  | [], _, i, hi => by cases hi
  | j :: r, h, i, hi => by
    rcases List.mem_cons.1 hi with rfl | hi
    · exact h.1
    · exact TailAll.mem h.2 i hi
theorem tail_all {f : Nat} {listed : Array Bool} {a : Act} {w : World} (rs : List Nat) (hne : rs.isEmpty = false) (hr : Region.ready md ops listed = rs) (h : TailAll P md ops Q fin f listed a w rs) : wpAnyT P md ops Q fin (f + 1) listed a w := by
  refine ⟨fun h0 => by (rw [hr] at h0; rw [h0] at hne; cases hne), fun j hj => ?_⟩
  rw [hr] at hj
  obtain ⟨o, ho, hf, hg, hk⟩ := h.mem j hj
  refine .inr (.inl ⟨hf, ?_⟩)
  unfold wpOp
  rw [ho]
  simp only [Region.wanted, hg, if_true]
  exact .inl (hk _ fun a' w' h1 h2 => ⟨h1, h2⟩)
end

/-- 'append([]T{}, xs...)': a copy in new memory; nothing of what was there has turned -/
theorem run_append_clone {α : Type} {P : Program} {f : α → List Value} {k : Nat} (hk : ∀ x, (f x).length = k) (hk0 : 0 < k) {w : World} (base : Nat) (t ty e : TypeId) (i : TypeInfo) (z : Value) (bytes : Nat) (ht : P.underlying t = some (.slice e)) (hi : P.info? e = some i) (hz : i.zero = some z)
    (hsize : i.size = k) (hby : i.bytes = bytes) (hzs : z.cells.size = k) (g : Nat) (hg : w.heap[g]? = some (.cells #[] e (0, 0))) (hbg : base ≤ g) (hbase : base ≤ w.heap.size)
    (A : Option Addr) (m c : Nat) (xs : List α) (hm : m = xs.length) (hS : Sl f k w A xs) (h63 : m ≤ 65536) (hb : bytes ≤ 65536) :
    ∃ v' w', (Builtin.append_ #[t, t] ty #[.slice (some ⟨g, 0, none⟩) 0 0, .slice A m c]).run P w = .ok v' w' ∧ w'.ownsRow base e k v' m (xs.flatMap f) ∧ Below w.heap.size w w' := by
  subst hsize
  subst hby
  have hgl := (Array.getElem?_eq_some_iff.1 hg).1
  have hfl := flat_len hk xs
  rcases Nat.eq_zero_or_pos m with h0 | h0
  · have hx : xs = [] := List.eq_nil_of_length_eq_zero (by omega)
    subst hx
    subst h0
    have hself : w.ownsRow base e i.size (.slice (some ⟨g, 0, none⟩) 0 0) 0 ([].flatMap f) := ⟨by simp, .inr ⟨g, 0, #[], rfl, hbg, hg, Nat.le_refl _, Nat.zero_le _, by simp, by simp⟩⟩
    cases A with
    | none => exact ⟨_, w, by simp [Builtin.append_, run_underlying ht, sizeOf, typeInfo, hi, Builtin.lenOf, Builtin.firstCells, storeCells], hself, Below.refl _ _⟩
    | some ad =>
      have hr := run_append_room (P := P) w t ty e i ht hi g 0 0 #[] hg ad 0 c [] (by simp) (fun j u hj => by simp at hj) (by simp) (by omega) (by simp)
      refine ⟨_, _, hr, ⟨by simp, .inr ⟨g, 0, #[], rfl, hbg, ?_, Nat.le_refl _, Nat.zero_le _, by simp, by simp⟩⟩, ⟨rfl, rfl, rfl, by simp, fun q hq => ?_⟩⟩
      · simpa using setRow_heap w g #[] #[] e (0, 0) hg
      · by_cases hqg : q = g
        · subst hqg
          rw [hg]
          simpa using setRow_heap w q #[] #[] e (0, 0) hg
        · exact setRow_other w g q _ hqg
  · obtain ⟨b, off, hA, _⟩ := hS 0 xs[0] (List.getElem?_eq_getElem (by omega))
    subst hA
    have hmul : m * i.bytes ≤ 65536 * 65536 := Nat.mul_le_mul h63 hb
    have hr := run_append_grow (P := P) w t ty e i z ht hi hz ⟨g, 0, none⟩ 0 0 [] (by simp) (fun j v hj => by simp at hj) ⟨b, off, none⟩ m c (xs.flatMap f) (by rw [hfl, hm]) (sl_news hk hS) (by omega) (by omega) (growslice_fits (by omega) (by rw [Nat.zero_add]; omega))
    have hge := grownCap_ge w (0 + m) 0 e
    have hcm : grownCap w (0 + m) 0 e ≤ maxLen := grownCap_le_maxLen w (0 + m) 0 e (by simp only [maxLen]; omega)
    rw [Nat.zero_add] at hr hge hcm
    refine ⟨_, _, hr, ⟨by rw [hfl, hm], .inr ⟨w.heap.size, _, _, rfl, hbase, heap_alloc_new w.drew _, by omega, hcm, ?_, ?_⟩⟩, ((Below.refl _ _).drew).alloc (Nat.le_refl _) _⟩
    · simp only [Array.size_append, List.size_toArray, size_zeroCells, hzs, hfl]
      simp only [List.length_nil, Nat.zero_mul, Nat.zero_add, ← hm, ← Nat.add_mul]
      congr 1
      omega
    · simp only [Array.toList_append, List.append_assoc, List.nil_append]
      have : m * i.size = (xs.flatMap f).length := by rw [hfl, hm]
      rw [this]
      exact List.take_left
theorem wp_append_clone {α : Type} {P : Program} {f : α → List Value} {k : Nat} {o : Oper} {a : Act} {w : World} {K : Act → World → Prop} {Q : Exit → Act → World → Prop} (s x : Operand) (t : TypeId)
    (ho : o.op = .call { callee := .builtin .append, args := #[s, x], argTypes := #[t, t] })
    (hk : ∀ x, (f x).length = k) (hk0 : 0 < k) (base : Nat) (e : TypeId) (i : TypeInfo) (z : Value) (bytes : Nat) (ht : P.underlying t = some (.slice e)) (hi : P.info? e = some i) (hz : i.zero = some z)
    (hsize : i.size = k) (hby : i.bytes = bytes) (hzs : z.cells.size = k) (g : Nat) (hs : a.eval s = .slice (some ⟨g, 0, none⟩) 0 0) (hg : w.heap[g]? = some (.cells #[] e (0, 0))) (hbg : base ≤ g) (hbase : base ≤ w.heap.size)
    (A : Option Addr) (m c : Nat) (xs : List α) (hx : a.eval x = .slice A m c) (hm : m = xs.length) (hS : Sl f k w A xs) (h63 : m ≤ 65536) (hb : bytes ≤ 65536)
    (h : ∀ v' w', w'.ownsRow base e k v' m (xs.flatMap f) → Below w.heap.size w w' → K (a.put o.dst v') w') : o.wp P a w K Q := by
  obtain ⟨v', w', hr, h2, h3⟩ := run_append_clone (P := P) hk hk0 base t o.type e i z bytes ht hi hz hsize hby hzs g hg hbg hbase A m c xs hm hS h63 hb
  unfold Oper.wp execOp
  simp only [ho, resolve, invoke, builtin, Sem.run_bind, Sem.run_pure, Result.andThen_ok, List.map_toArray, List.map_cons, List.map_nil, hs, hx, hr]
  exact h v' w' h2 h3
end Go.Proofs.Ytnbmiejjkkgckaa
