/- Proved here: Owned rows of structs read as lists, and appends to them, for use in the proofs of the given statements; conditions stand in each theorem. -/
import Derived.Test.YtnbmiejjkkgckaaBase
import Derived.Maps.AppendAt
import Derived.Deep.AppendLies
import Derived.Lib.SliceRun
import Derived.Deep.RegionHeld3
namespace Go.Proofs.Ytnbmiejjkkgckaa
open Go.RowKit

section
variable {α : Type} {f : α → List Value} {k : Nat}
theorem flat_len (hk : ∀ x, (f x).length = k) (xs : List α) : (xs.flatMap f).length = xs.length * k := by
  induction xs with
  | nil => simp
  | cons x r ih => simp [hk, ih, Nat.add_mul]; omega
theorem flat_get (hk : ∀ x, (f x).length = k) : ∀ (xs : List α) (i j : Nat), j < k → (xs.flatMap f)[i * k + j]? = (xs[i]?).bind fun x => (f x)[j]?
  | [], i, j, _ => by simp
  | x :: r, 0, j, hj => by
    have h : j < (f x).length := by rw [hk]; exact hj
    simp [List.getElem?_append_left h]
  | x :: r, i + 1, j, hj => by
    have h : ¬ (i + 1) * k + j < (f x).length := by rw [hk, Nat.add_mul]; omega
    rw [List.flatMap_cons, List.getElem?_append_right (by omega), hk]
    have e : (i + 1) * k + j - k = i * k + j := by rw [Nat.add_mul]; omega
    rw [e, flat_get hk r i j hj]
    simp
theorem flat_set (hk : ∀ x, (f x).length = k) (xs : List α) (i : Nat) (hi : i < xs.length) (y : α) (j : Nat) (hj : j < k) (u : Value) (h : f y = (f xs[i]).set j u) :
    (xs.flatMap f).set (i * k + j) u = (xs.set i y).flatMap f := by
  have hk0 : 0 < k := by omega
  apply List.ext_getElem?
  intro t
  have ht : t = t / k * k + t % k := by rw [Nat.mul_comm]; exact (Nat.div_add_mod t k).symm
  have hm := Nat.mod_lt t hk0
  have e1 := flat_get hk (xs.set i y) (t / k) (t % k) hm
  have e2 := flat_get hk xs (t / k) (t % k) hm
  rw [← ht] at e1 e2
  rw [e1, List.getElem?_set]
  by_cases hti : t / k = i
  · subst hti
    rw [List.getElem?_set_self hi]
    simp only [Option.bind_some]
    rw [h, List.getElem?_set]
    have hl : t < (xs.flatMap f).length := by
      rw [flat_len hk]
      have := Nat.div_lt_iff_lt_mul hk0 (x := t) (y := xs.length)
      exact this.1 hi
    have hj2 : j < (f xs[t / k]).length := by rw [hk]; exact hj
    by_cases hjt : j = t % k
    · subst hjt
      rw [if_pos ht.symm, if_pos rfl, if_pos (by rw [← ht]; exact hl), if_pos (by rw [hk]; exact hj)]
    · rw [if_neg (by omega), if_neg hjt, e2]
      simp [hi]
  · rw [List.getElem?_set_ne (Ne.symm hti), if_neg, e2]
    intro hh
    apply hti
    rw [← hh, Nat.mul_comm, Nat.mul_add_div hk0, Nat.div_eq_of_lt hj, Nat.add_zero]

theorem own_sl (hk : ∀ x, (f x).length = k) {w : World} {base e n c : Nat} {A : Option Addr} {xs : List α} (h : w.ownsRow base e k (.slice A n c) xs.length (xs.flatMap f)) : Sl f k w A xs := by
  intro i x hx
  have hi : i < xs.length := (List.getElem?_eq_some_iff.1 hx).1
  rcases h.2 with ⟨h1, h2⟩ | ⟨g, cap, cur, hv, _, hg, _⟩
  · rw [h2] at hi; omega
  · injection hv with h1 h2 h3
    subst h1 h2 h3
    refine ⟨g, 0, rfl, fun j v hj => ?_⟩
    have hjk : j < k := by rw [← hk x]; exact (List.getElem?_eq_some_iff.1 hj).1
    have h4 := h.cellAt (i * k + j) (by
      have : (i + 1) * k ≤ xs.length * k := Nat.mul_le_mul_right k hi
      rw [Nat.add_mul] at this; omega)
    rw [Nat.zero_add, h4, flat_get hk xs i j hjk, hx]
    exact hj
theorem own_form {w : World} {base e n : Nat} {v : Value} {xs : List Value} (h : w.ownsRow base e k v n xs) : ∃ A c, v = .slice A n c ∧ n ≤ maxLen := by
  rcases h.2 with ⟨h1, h2⟩ | ⟨g, cap, cur, hv, _, hg, h3, h4, _⟩
  · exact ⟨none, 0, by rw [h1, h2], by rw [h2]; exact Nat.zero_le _⟩
  · exact ⟨_, _, hv, by omega⟩
/-- the address, where there is an element -/
theorem own_addr {w : World} {base e n c : Nat} {A : Option Addr} {xs : List Value} (h : w.ownsRow base e k (.slice A n c) n xs) (hn : 0 < n) : ∃ g, A = some ⟨g, 0, none⟩ ∧ base ≤ g ∧ g < w.heap.size := by
  obtain ⟨g, cap, hv, hb, hl⟩ := h.form hn
  injection hv with h1 h2 h3
  exact ⟨g, h1, hb, hl⟩
theorem sl_news (hk : ∀ x, (f x).length = k) {w : World} {ad : Addr} {xs : List α} (h : Sl f k w (some ad) xs) : ∀ j u, (xs.flatMap f)[j]? = some u → w.cell? (ad.add j) = some u := by
  intro j u hu
  have hl : j < (xs.flatMap f).length := (List.getElem?_eq_some_iff.1 hu).1
  rw [flat_len hk] at hl
  have hk0 : 0 < k := by
    rcases Nat.eq_zero_or_pos k with h0 | h0
    · subst h0; omega
    · exact h0
  have ht : j = j / k * k + j % k := by rw [Nat.mul_comm]; exact (Nat.div_add_mod j k).symm
  have hm := Nat.mod_lt j hk0
  have hi : j / k < xs.length := (Nat.div_lt_iff_lt_mul hk0).2 hl
  rw [ht, flat_get hk xs _ _ hm, List.getElem?_eq_getElem hi] at hu
  obtain ⟨b, off, hA, hc⟩ := h (j / k) xs[j / k] (List.getElem?_eq_getElem hi)
  injection hA with hA
  subst hA
  rw [Addr.add_lit, ← hc (j % k) u hu]
  congr 2
  omega
end
theorem step_append_own_at {P : Program} {ops : Array Oper} {o : Oper} {a : Act} {w : World} {K : Act → World → Prop} {Q : Exit → Act → World → Prop} {E : Prop} (hgd : o.guard = none) (s x : Operand) (t : TypeId)
    (ho : o.op = .call { callee := .builtin .append, args := #[s, x], argTypes := #[t, t] })
    (base : Nat) (e : TypeId) (i : TypeInfo) (z : Value) (size bytes : Nat) (ht : P.underlying t = some (.slice e)) (hi : P.info? e = some i) (hz : i.zero = some z)
    (hsize : i.size = size) (hby : i.bytes = bytes) (hzs : z.cells.size = size) (hsz : 0 < size)
    (v : Value) (n : Nat) (xs : List Value) (hs : a.eval s = v) (hown : w.ownsRow base e size v n xs)
    (ad : Addr) (m c : Nat) (news : List Value) (hx : a.eval x = .slice (some ad) m c) (hl : news.length = m * size) (hnews : ∀ j u, news[j]? = some u → w.cell? (ad.add j) = some u) (h1 : ∀ u ∈ news, u.oneCell' = true)
    (h63 : n + m ≤ maxLen) (hbytes : (n + m) * bytes ≤ 140737488355328) (hbase : base ≤ w.heap.size)
    (h : ∀ v' w', w'.ownsRow base e size v' (n + m) (xs ++ news) → w.grownBy w' v.ownBlock → (v' = .slice none 0 0 ↔ v = .slice none 0 0 ∧ m = 0) → (v'.ownBlock = v.ownBlock ∨ v'.ownBlock = some w.heap.size) → K (a.put o.dst v') w') :
    if Region.wanted o (yielded ops a.tmps) = true then Oper.wp P o a w K Q else E := by
  have hw : Region.wanted o (yielded ops a.tmps) = true := by simp [Region.wanted, hgd]
  rw [if_pos hw]
  obtain ⟨v', w', hr, h2, h3, h4, h5⟩ := run_append_own_at (P := P) w base t o.type e i z size bytes ht hi hz hsize hby hzs hsz v n xs hown ad m c news hl hnews h1 h63 hbytes hbase
  unfold Oper.wp execOp
  simp only [ho, resolve, invoke, builtin, Sem.run_bind, Sem.run_pure, Result.andThen_ok, List.map_toArray, List.map_cons, List.map_nil, hs, hx, hr]
  exact h v' w' h2 h3 h4 h5
theorem cells_new {w : World} (cs : Array Value) (t : TypeId) : ∀ j u, cs.toList[j]? = some u → (w.alloc (.cells cs t)).cell? ((⟨w.heap.size, 0, none⟩ : Addr).add j) = some u :=
  World.news_of_block (heap_alloc_new w _)
theorem own_later {w w' : World} {base e k n : Nat} {v : Value} {xs : List Value} (h : w.ownsRow base e k v n xs) (hb : Below w.heap.size w w') : w'.ownsRow base e k v n xs :=
  h.kept (row := none) ⟨hb.os, hb.tape, hb.output, hb.size, fun i hi _ => hb.block i hi⟩ (by cases h2 : v.ownBlock <;> simp)
theorem own_mono {w : World} {base base' e k n : Nat} {v : Value} {xs : List Value} (h : w.ownsRow base e k v n xs) (hb : base' ≤ base) : w.ownsRow base' e k v n xs := by
  refine ⟨h.1, ?_⟩
  rcases h.2 with h1 | ⟨g, cap, cur, hv, hg, rest⟩
  · exact .inl h1
  · exact .inr ⟨g, cap, cur, hv, by omega, rest⟩
end Go.Proofs.Ytnbmiejjkkgckaa
