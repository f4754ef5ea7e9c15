/- Proved here: Calls of the abstract machine that only read, for use in the proofs of the given statements; conditions stand in each theorem. -/
import Derived.Test.YtnbmiejjkkgckaaZK
import Derived.Great.BuildSlice
set_option linter.unusedSimpArgs false
set_option linter.unusedVariables false
set_option linter.unusedSimpArgs false
set_option linter.unusedVariables false
set_option linter.unnecessarySimpa false
namespace Go.Proofs.Ytnbmiejjkkgckaa
open Go.RowKit

def bareE (S : Nat → Prop) : Env := ⟨S, fun _ => none, fun _ => False, fun _ => False, fun _ => none⟩

mutual
def V.pure : V → Bool
  | .t _ | .elem .. | .dead => true
  | .agg cs => V.pures cs
  | .tup cs => V.pures cs
  | .cond _ x => V.pure x
  | .clo _ cs => V.pures cs
  | .own _ | .ptr .. | .rptr .. => false
def V.pures : List V → Bool
  | [] => true
  | x :: xs => V.pure x && V.pures xs
end
mutual
theorem RdV.unbare {w : World} {E : Env} : ∀ (x : V) {v : Value}, RdV w (bareE E.S) x v → RdV w E x v
  | .t x, v, h => by simp only [RdV] at h ⊢; exact h
  | .agg cs, v, h => by
    simp only [RdV] at h ⊢
    obtain ⟨vs, hv, h1, h2⟩ := h
    exact ⟨vs, hv, RdVs.unbare cs h1, h2⟩
  | .tup cs, v, h => by
    simp only [RdV] at h ⊢
    obtain ⟨vs, hv, h1⟩ := h
    exact ⟨vs, hv, RdVs.unbare cs h1⟩
  | .own i, v, h => by simp only [RdV] at h; exact h.2.1.elim
  | .ptr i off, v, h => by simp only [RdV] at h; exact h.2.1.elim
  | .rptr i k n j, v, h => by simp only [RdV] at h; exact h.2.1.elim
  | .elem k d xs i j, v, h => by simp only [RdV] at h ⊢; exact h
  | .cond g x, v, h => by
    simp only [RdV] at h ⊢
    exact ⟨fun hg => RdV.unbare x (h.1 hg), h.2⟩
  | .clo f cs, v, h => by
    simp only [RdV] at h ⊢
    obtain ⟨vs, hv, h1⟩ := h
    exact ⟨vs, hv, RdVs.unbare cs h1⟩
  | .dead, v, h => by simp only [RdV]
theorem RdVs.unbare {w : World} {E : Env} : ∀ (xs : List V) {vs : List Value}, RdVs w (bareE E.S) xs vs → RdVs w E xs vs
  | [], [], h => by simp only [RdVs]
  | x :: xs, v :: vs, h => by simp only [RdVs] at h ⊢; exact ⟨RdV.unbare x h.1, RdVs.unbare xs h.2⟩
  | [], _ :: _, h => by simp only [RdVs] at h
  | _ :: _, [], h => by simp only [RdVs] at h
end
mutual
theorem RdV.bare {w : World} {E : Env} : ∀ (x : V) {v : Value}, x.pure = true → RdV w E x v → RdV w (bareE E.S) x v
  | .t x, v, _, h => by simp only [RdV] at h ⊢; exact h
  | .agg cs, v, hp, h => by
    simp only [V.pure] at hp
    simp only [RdV] at h ⊢
    obtain ⟨vs, hv, h1, h2⟩ := h
    exact ⟨vs, hv, RdVs.bare cs hp h1, h2⟩
  | .tup cs, v, hp, h => by
    simp only [V.pure] at hp
    simp only [RdV] at h ⊢
    obtain ⟨vs, hv, h1⟩ := h
    exact ⟨vs, hv, RdVs.bare cs hp h1⟩
  | .own i, v, hp, h => by simp [V.pure] at hp
  | .ptr i off, v, hp, h => by simp [V.pure] at hp
  | .rptr i k n j, v, hp, h => by simp [V.pure] at hp
  | .elem k d xs i j, v, _, h => by simp only [RdV] at h ⊢; exact h
  | .cond g x, v, hp, h => by
    simp only [V.pure] at hp
    simp only [RdV] at h ⊢
    exact ⟨fun hg => RdV.bare x hp (h.1 hg), h.2⟩
  | .clo f cs, v, hp, h => by
    simp only [V.pure] at hp
    simp only [RdV] at h ⊢
    obtain ⟨vs, hv, h1⟩ := h
    exact ⟨vs, hv, RdVs.bare cs hp h1⟩
  | .dead, v, _, h => by simp only [RdV]
theorem RdVs.bare {w : World} {E : Env} : ∀ (xs : List V) {vs : List Value}, V.pures xs = true → RdVs w E xs vs → RdVs w (bareE E.S) xs vs
  | [], [], _, h => by simp only [RdVs]
  | x :: xs, v :: vs, hp, h => by
    simp only [V.pures, Bool.and_eq_true] at hp
    simp only [RdVs] at h ⊢
    exact ⟨RdV.bare x hp.1 h.1, RdVs.bare xs hp.2 h.2⟩
  | [], _ :: _, _, h => by simp only [RdVs] at h
  | _ :: _, [], _, h => by simp only [RdVs] at h
end

/-- a function of the program's own text -/
def _root_.Go.Program.enters (P : Program) (f : FuncId) : Bool :=
  match P.funcs[f]? with
  | some fn => !(fn.name == "runtime.NumGoroutine") && !fn.body.isNone
  | none => false

def CPure (P : Program) (f : FuncId) (args : List V) (r : V) : Prop :=
  P.enters f = true ∧ ∀ (w : World) (S : Nat → Prop) (vs : List Value), (∀ b, S b → b < w.heap.size) → RdVs w (bareE S) args vs →
    Calls P f vs.toArray w fun e w' => ∃ v S', e = .returned v ∧ (∀ b, S b → S' b) ∧ (∀ b, S' b → S b ∨ w.heap.size ≤ b) ∧ (∀ b, S' b → b < w'.heap.size) ∧
      RdV w' (bareE S') r v ∧ Below w.heap.size w w'

def lendCs (f : V → Option T) : List V → Option (List T)
  | [] => some []
  | x :: xs => match f x, lendCs f xs with
    | some t, some ts => some (t :: ts)
    | _, _ => none
def lendRs (f : V → Option T) : List (List V) → Option (List (List T))
  | [] => some []
  | x :: xs => match lendCs f x, lendRs f xs with
    | some t, some ts => some (t :: ts)
    | _, _ => none
def lendB (f : V → Option T) : Option Blk → Option T
  | some (.row _ k d xs) => match lendRs f xs with
    | some ts => some (.list k d ts)
    | none => none
  | some (.shr t) => some t
  | _ => none
/-- a row of one's own, seen as a slice that nobody writes -/
def lendC (h : Heap) : Nat → V → Option T
  | _, .t x => some x
  | n + 1, .own i => lendB (lendC h n) (h.look i)
  | _, _ => none
def lendO (i : Nat) (o : Option T) : V :=
  match o with
  | some t => .t t
  | none => .own i
mutual
/-- a row of one's own, lent -/
def V.lend (h : Heap) : V → V
  | .own i => lendO i (lendC h 6 (.own i))
  | .agg cs => .agg (V.lends h cs)
  | .tup cs => .tup (V.lends h cs)
  | .clo f cs => .clo f (V.lends h cs)
  | x => x
def V.lends (h : Heap) : List V → List V
  | [] => []
  | x :: xs => V.lend h x :: V.lends h xs
end
/-- no memory behind it -/
def V.scal : V → Bool
  | .t (.lit _) => true
  | .agg cs => cs.all fun c => match c with
    | .t (.lit _) => true
    | _ => false
  | .tup cs => cs.all fun c => match c with
    | .t (.lit _) => true
    | _ => false
  | _ => false

def lentS (E : Env) (h : Heap) (b : Nat) : Prop := E.S b ∨ ∃ i hv e k d xs, E.B i = some hv ∧ h.look i = some (.row e k d xs) ∧ blockOf hv = some b

theorem lendCs_t (f : V → Option T) (hf : ∀ x, f (.t x) = some x) : ∀ (ts : List T), lendCs f (ts.map .t) = some ts
  | [] => rfl
  | t :: ts => by simp only [List.map_cons, lendCs, hf, lendCs_t f hf ts]
theorem lendRs_t (f : V → Option T) (hf : ∀ x, f (.t x) = some x) : ∀ (xs : List (List T)), lendRs f (tRows xs) = some xs
  | [] => rfl
  | x :: xs => by
    have := lendRs_t f hf xs
    unfold tRows at this ⊢
    simp only [List.map_cons, lendRs, lendCs_t f hf, this]
theorem lendC_t (h : Heap) (n : Nat) (x : T) : lendC h n (.t x) = some x := by cases n <;> rfl
theorem lendCs_len {f : V → Option T} : ∀ {xs : List V} {ts : List T}, lendCs f xs = some ts → ts.length = xs.length
  | [], ts, h => by simp [lendCs] at h; subst h; rfl
  | x :: xs, ts, h => by
    simp only [lendCs] at h
    split at h
    · rename_i t ts' _ h2
      injection h with h; subst h
      simp [lendCs_len h2]
    · cases h
theorem lendRs_len {f : V → Option T} : ∀ {xs : List (List V)} {ts : List (List T)}, lendRs f xs = some ts → ts.length = xs.length
  | [], ts, h => by simp [lendRs] at h; subst h; rfl
  | x :: xs, ts, h => by
    simp only [lendRs] at h
    split at h
    · rename_i t ts' _ h2
      injection h with h; subst h
      simp [lendRs_len h2]
    · cases h
theorem lendRs_all {f : V → Option T} {k : Nat} : ∀ {xs : List (List V)} {ts : List (List T)}, lendRs f xs = some ts → (∀ x ∈ xs, x.length = k) → ∀ t ∈ ts, t.length = k
  | [], ts, h, _ => by simp [lendRs] at h; subst h; simp
  | x :: xs, ts, h, hk => by
    simp only [lendRs] at h
    split at h
    · rename_i t ts' h1 h2
      injection h with h; subst h
      intro t' ht'
      rcases List.mem_cons.1 ht' with rfl | ht'
      · rw [lendCs_len h1]; exact hk x (by simp)
      · exact lendRs_all h2 (fun y hy => hk y (by simp [hy])) t' ht'
    · cases h
theorem lendCs_rd {w : World} {E : Env} {S' : Nat → Prop} {f : V → Option T} (hf : ∀ x t v, f x = some t → RdV w E x v → RdT w S' t v) : ∀ {xs : List V} {ts : List T} {vs : List Value}, lendCs f xs = some ts → RdVs w E xs vs → RdTs w S' ts vs
  | [], ts, [], h, _ => by simp [lendCs] at h; subst h; trivial
  | x :: xs, ts, v :: vs, h, hr => by
    simp only [lendCs] at h
    simp only [RdVs] at hr
    split at h
    · rename_i t ts' h1 h2
      injection h with h; subst h
      exact ⟨hf x t v h1 hr.1, lendCs_rd hf h2 hr.2⟩
    · cases h
  | [], _, _ :: _, _, h => by simp only [RdVs] at h
  | _ :: _, _, [], _, h => by simp only [RdVs] at h
theorem lendCs_append {f : V → Option T} : ∀ {xs ys : List V} {ts us : List T}, lendCs f xs = some ts → lendCs f ys = some us → lendCs f (xs ++ ys) = some (ts ++ us)
  | [], ys, ts, us, h, k => by simp [lendCs] at h; subst h; simpa using k
  | x :: xs, ys, ts, us, h, k => by
    simp only [lendCs] at h
    split at h
    · rename_i t ts' h1 h2
      injection h with h; subst h
      simp only [List.cons_append, lendCs, h1, lendCs_append h2 k]
    · cases h
theorem lendRs_flat {f : V → Option T} : ∀ {xs : List (List V)} {ts : List (List T)}, lendRs f xs = some ts → lendCs f xs.flatten = some ts.flatten
  | [], ts, h => by simp [lendRs] at h; subst h; rfl
  | x :: xs, ts, h => by
    simp only [lendRs] at h
    split at h
    · rename_i t ts' h1 h2
      injection h with h; subst h
      rw [List.flatten_cons, List.flatten_cons]
      exact lendCs_append h1 (lendRs_flat h2)
    · cases h
theorem lendRs_append {f : V → Option T} : ∀ {xs ys : List (List V)} {ts us : List (List T)}, lendRs f xs = some ts → lendRs f ys = some us → lendRs f (xs ++ ys) = some (ts ++ us)
  | [], ys, ts, us, h, k => by simp [lendRs] at h; subst h; simpa using k
  | x :: xs, ys, ts, us, h, k => by
    simp only [lendRs] at h
    split at h
    · rename_i t ts' h1 h2
      injection h with h; subst h
      simp only [List.cons_append, lendRs, h1, lendRs_append h2 k]
    · cases h
theorem rdT_row {w : World} {S S' : Nat → Prop} {e k : Nat} {d : List T} {xs : List (List T)} {hv : Value} {cells : List Value} (h2 : w.ownsRow 0 e k hv xs.length cells) (h3 : RdTs w S xs.flatten cells)
    (h4 : ∀ x ∈ xs, x.length = k) (hS : ∀ b, S b → S' b) (hb : ∀ b, blockOf hv = some b → S' b) : RdT w S' (.list k d xs) hv := by
  rcases h2.2 with ⟨rfl, h0⟩ | ⟨g, cap, cur, rfl, _, hg, hcap, hm, hcs, htake⟩
  · have hx : xs = [] := List.eq_nil_of_length_eq_zero h0
    subst hx
    exact .list k d [] none 0 (by simp [maxLen]) (Nat.le_refl _) (fun _ => rfl) (by simp) (by simp) (by simp)
  · have hcell : ∀ n, n < xs.length → ∃ vs, RdTs w S (nth d xs n) vs ∧ ∀ j v, vs[j]? = some v → w.cell? ⟨g, 0 + n * k + j, none⟩ = some v := by
      intro n hn
      have hp := flatten_part xs n _ h4 (nth_some (d := d) hn)
      refine ⟨(cells.drop (n * k)).take k, ?_, ?_⟩
      · rw [← hp]; exact RdTs.take k (RdTs.drop (n * k) h3)
      · intro j v hv
        rw [List.getElem?_take] at hv
        split at hv
        · rw [List.getElem?_drop, ← htake, List.getElem?_take] at hv
          split at hv
          · simp only [World.cell?, hg, Nat.zero_add]
            simpa using hv
          · cases hv
        · cases hv
    have key : ∀ {e : List T} {vs : List Value}, RdTs w S e vs → ∀ (j : Nat) x, e[j]? = some x → ∃ v, vs[j]? = some v ∧ RdT w S x v := by
      intro e vs hr j x hx
      obtain ⟨v, hv, hr'⟩ := RdVs.get (RdVs.ofT (E := bareE S) hr) (i := j) (x := .t x) (by simp [hx])
      exact ⟨v, hv, by simp only [RdV] at hr'; exact hr'⟩
    refine .list k d xs _ cap (by omega) hcap (by simp) h4 ?_ ?_
    · intro i e hi
      have hlt : i < xs.length := (List.getElem?_eq_some_iff.1 hi).1
      refine ⟨g, 0, rfl, hb g rfl, fun j x hx => ?_⟩
      obtain ⟨vs, h5, h6⟩ := hcell i hlt
      have : e = nth d xs i := by simp [nth, hi]
      subst this
      obtain ⟨v, hv, _⟩ := key h5 j x hx
      exact ⟨v, h6 j v hv⟩
    · intro i e j x b off u hi hj hA hu
      injection hA with hA
      injection hA with hA1 hA2
      subst hA1 hA2
      have hlt : i < xs.length := (List.getElem?_eq_some_iff.1 hi).1
      obtain ⟨vs, h5, h6⟩ := hcell i hlt
      have : e = nth d xs i := by simp [nth, hi]
      subst this
      obtain ⟨v, hv, hr⟩ := key h5 j x hj
      have := h6 j v hv
      rw [hu] at this
      injection this with this
      subst this
      exact hr.mono hS fun _ _ => rfl

/-- what is lent reads as a slice that nobody writes -/
theorem lendC_rd {w : World} {E : Env} {h : Heap} {S' : Nat → Prop} (hr : Rel w E h) (hS : ∀ b, E.S b → S' b) (hO : ∀ i hv e k d xs, E.B i = some hv → h.look i = some (.row e k d xs) → ∀ b, blockOf hv = some b → S' b) :
    ∀ (n : Nat) (x : V) (t : T) (v : Value), lendC h n x = some t → RdV w E x v → RdT w S' t v
  | n, .t x, t, v, h1, hx => by
    rw [lendC_t] at h1; injection h1 with h1; subst h1
    simp only [RdV] at hx
    exact hx.mono hS fun _ _ => rfl
  | n + 1, .own i, t, v, h1, hx => by
    simp only [lendC] at h1
    unfold lendB at h1
    split at h1
    · rename_i e k d xs hl
      split at h1
      · rename_i ts hts
        injection h1 with h1; subst h1
        obtain ⟨hv, hB, cells, h2, h3, h4, h5⟩ := hr.has i _ hl
        simp only [RdV] at hx
        have := hx.2.2 hv (.inl hB)
        subst this
        rw [← lendRs_len hts] at h2
        refine rdT_row (S := S') h2 ?_ (lendRs_all hts h4) (fun _ h => h) (hO i _ e k d xs hB hl)
        exact lendCs_rd (fun x t v h1 h2 => lendC_rd hr hS hO n x t v h1 h2) (lendRs_flat hts) h3
      · cases h1
    · rename_i t' hl
      injection h1 with h1; subst h1
      obtain ⟨hv, hF, hT⟩ := hr.has i _ hl
      simp only [RdV] at hx
      have := hx.2.2 hv (.inr hF)
      subst this
      exact RdT.mono hS (fun _ _ => rfl) hT
    · cases h1
  | 0, .own i, t, v, h1, hx => by simp [lendC] at h1
  | n, .agg _, t, v, h1, hx => by cases n <;> simp [lendC] at h1
  | n, .tup _, t, v, h1, hx => by cases n <;> simp [lendC] at h1
  | n, .ptr _ _, t, v, h1, hx => by cases n <;> simp [lendC] at h1
  | n, .rptr _ _ _ _, t, v, h1, hx => by cases n <;> simp [lendC] at h1
  | n, .elem _ _ _ _ _, t, v, h1, hx => by cases n <;> simp [lendC] at h1
  | n, .cond _ _, t, v, h1, hx => by cases n <;> simp [lendC] at h1
  | n, .clo _ _, t, v, h1, hx => by cases n <;> simp [lendC] at h1
  | n, .dead, t, v, h1, hx => by cases n <;> simp [lendC] at h1

mutual
theorem RdV.lend {w : World} {E : Env} {h : Heap} (hr : Rel w E h) : ∀ (x : V) {v : Value}, (x.lend h).pure = true → RdV w E x v → RdV w (bareE (lentS E h)) (x.lend h) v
  | .own i, v, hp, hx => by
    unfold V.lend at hp ⊢
    cases hl : lendC h 6 (.own i) with
    | none => simp [hl, lendO, V.pure] at hp
    | some t =>
      simp only [lendO]
      have := lendC_rd (S' := lentS E h) hr (fun b hb => .inl hb) (fun i hv e k d xs hB hl b hb => .inr ⟨i, hv, e, k, d, xs, hB, hl, hb⟩) 6 _ _ _ hl hx
      simp only [RdV]
      exact this
  | .agg cs, v, hp, hx => by
    simp only [V.lend, V.pure] at hp ⊢
    simp only [RdV] at hx ⊢
    obtain ⟨vs, hv, h1, h2⟩ := hx
    exact ⟨vs, hv, RdVs.lend hr cs hp h1, h2⟩
  | .t x, v, hp, hx => by
    simp only [V.lend, RdV] at hx ⊢
    exact hx.mono (fun b hb => .inl hb) fun _ _ => rfl
  | .elem k d xs i j, v, hp, hx => by
    simp only [V.lend, RdV] at hx ⊢
    obtain ⟨b, off, c, h1, h2⟩ := hx
    exact ⟨b, off, c, h1.mono (fun b hb => .inl hb) fun _ _ => rfl, h2⟩
  | .dead, v, hp, hx => by simp only [V.lend, RdV]
  | .tup cs, v, hp, hx => by
    simp only [V.lend, V.pure] at hp ⊢
    simp only [RdV] at hx ⊢
    obtain ⟨vs, hv, h1⟩ := hx
    exact ⟨vs, hv, RdVs.lend hr cs hp h1⟩
  | .cond g x, v, hp, hx => by
    simp only [V.lend] at hp ⊢
    have h1 := RdV.bare _ hp hx
    have hE : Ext (bareE E.S) w (bareE (lentS E h)) w := ⟨rfl, rfl, rfl, Nat.le_refl _, fun _ _ => rfl, fun b hb => .inl hb, fun _ _ => .inr id, fun _ => .rfl, fun _ h => h, fun _ h => h.elim, fun _ h => h.elim⟩
    exact hE.rdV _ h1
  | .ptr i off, v, hp, hx => by simp [V.lend, V.pure] at hp
  | .rptr i k n j, v, hp, hx => by simp [V.lend, V.pure] at hp
  | .clo f cs, v, hp, hx => by
    simp only [V.lend, V.pure] at hp ⊢
    simp only [RdV] at hx ⊢
    obtain ⟨vs, hv, h1⟩ := hx
    exact ⟨vs, hv, RdVs.lend hr cs hp h1⟩
theorem RdVs.lend {w : World} {E : Env} {h : Heap} (hr : Rel w E h) : ∀ (xs : List V) {vs : List Value}, V.pures (V.lends h xs) = true → RdVs w E xs vs → RdVs w (bareE (lentS E h)) (V.lends h xs) vs
  | [], [], _, _ => by simp only [V.lends, RdVs]
  | x :: xs, v :: vs, hp, hx => by
    simp only [V.lends, V.pures, Bool.and_eq_true] at hp
    simp only [V.lends, RdVs] at hx ⊢
    exact ⟨RdV.lend hr x hp.1 hx.1, RdVs.lend hr xs hp.2 hx.2⟩
  | [], _ :: _, _, h => by simp only [RdVs] at h
  | _ :: _, [], _, h => by simp only [RdVs] at h
end

/-- old blocks kept: the relation stays -/
theorem Rel.later {w w' : World} {E : Env} {h : Heap} {S' : Nat → Prop} (hr : Rel w E h) (hb : Below w.heap.size w w') (h1 : ∀ b, E.S b → S' b) (h2 : ∀ b, S' b → E.S b ∨ w.heap.size ≤ b)
    (h3 : ∀ b, S' b → b < w'.heap.size) : Rel w' { E with S := S' } h ∧ Ext E w { E with S := S' } w' := by
  have hE : Ext E w { E with S := S' } w' := by
    refine ⟨hb.os, hb.tape, hb.output, hb.size, fun b hb' => hb.block b (hb'.elim (hr.slt b) (hr.dlt b)), h1, fun b hb' => ?_, fun _ => .rfl, fun _ h => h, fun _ _ _ h => h, fun _ _ _ h => h⟩
    rcases h2 b hb' with h | h
    · exact .inl h
    · exact .inr fun hd => by have := hr.dlt b hd; omega
  refine ⟨⟨fun i blk hl => ?_, hr.dom, hr.domF, fun i hv b hB hbk => ?_, hr.apart, h3, fun b hb' => Nat.lt_of_lt_of_le (hr.dlt b hb') hb.size⟩, hE⟩
  · obtain ⟨hv, hB, hrel⟩ := hr.has i blk hl
    refine ⟨hv, by cases blk <;> exact hB, ?_⟩
    cases blk with
    | box cs =>
      obtain ⟨b, vs, ty, rfl, hh, hvs, h1s⟩ := hrel
      refine ⟨b, vs, ty, rfl, ?_, hE.rdVs cs hvs, h1s⟩
      rw [hb.block b (Array.getElem?_eq_some_iff.1 hh).1]
      exact hh
    | row e k d xs =>
      obtain ⟨cells, h5, h6, h7⟩ := hrel
      exact ⟨cells, own_later h5 hb, hE.rdVs _ h6, h7⟩
    | map es =>
      obtain ⟨r, entries, clock, rfl, h5, h6, h7⟩ := hrel
      exact ⟨r, entries, clock, rfl, by rw [hb.block r (Array.getElem?_eq_some_iff.1 h5).1]; exact h5, hE.rdEs _ h6, h7⟩
    | shr t => exact hE.rdT hrel
  · obtain ⟨o1, o2, o3⟩ := hr.own i hv b hB hbk
    refine ⟨Nat.lt_of_lt_of_le o1 hb.size, fun hs => ?_, o3⟩
    rcases h2 b hs with h | h
    · exact o2 h
    · omega

theorem RelF.later {w w' : World} {E : Env} {σ : St} {a : Act} {S' : Nat → Prop} (hr : RelF E σ a w) (hb : Below w.heap.size w w') (h1 : ∀ b, E.S b → S' b) (h2 : ∀ b, S' b → E.S b ∨ w.heap.size ≤ b)
    (h3 : ∀ b, S' b → b < w'.heap.size) : RelF { E with S := S' } σ a w' ∧ Ext E w { E with S := S' } w' := by
  obtain ⟨k1, k2⟩ := hr.rel.later hb h1 h2 h3
  exact ⟨⟨k1, hr.bound, k2.rdVs _ hr.fr, hr.defers⟩, k2⟩

theorem rdV_scal {w : World} {E E' : Env} {w' : World} {r : V} {v : Value} (hs : r.scal = true) (h : RdV w E r v) : RdV w' E' r v := by
  have key : ∀ (cs : List V) (vs : List Value), (cs.all fun c => match c with
    | .t (.lit _) => true
    | _ => false) = true → RdVs w E cs vs → RdVs w' E' cs vs := by
    intro cs
    induction cs with
    | nil => intro vs _ h; cases vs with
      | nil => simp only [RdVs]
      | cons _ _ => simp only [RdVs] at h
    | cons c cs ih =>
      intro vs hc h
      cases vs with
      | nil => simp only [RdVs] at h
      | cons v vs =>
        simp only [List.all_cons, Bool.and_eq_true] at hc
        simp only [RdVs] at h ⊢
        refine ⟨?_, ih vs hc.2 h.2⟩
        have hc1 := hc.1
        split at hc1
        · obtain ⟨rfl, q1, q2⟩ := rdV_lit_inv h.1
          simp only [RdV]
          exact .lit _ q1 q2
        · cases hc1
  unfold V.scal at hs
  split at hs
  · obtain ⟨rfl, q1, q2⟩ := rdV_lit_inv h
    simp only [RdV]
    exact .lit _ q1 q2
  · simp only [RdV] at h ⊢
    obtain ⟨vs, hv, h1, h2⟩ := h
    exact ⟨vs, hv, key _ _ hs h1, h2⟩
  · simp only [RdV] at h ⊢
    obtain ⟨vs, hv, h1⟩ := h
    exact ⟨vs, hv, key _ _ hs h1⟩
  · cases hs

def useVs (G : Bool) : List V → (List V → Prop) → Prop
  | [], K => K []
  | x :: xs, K => useV G x fun x' => useVs G xs fun xs' => K (x' :: xs')
theorem useVs_ok {G : Bool} : ∀ {xs : List V} {K : List V → Prop}, useVs G xs K → ∃ ys, K ys ∧ ∀ (w : World) (E : Env) vs, G = true → RdVs w E xs vs → RdVs w E ys vs
  | [], K, h => ⟨[], h, fun _ _ _ _ h => h⟩
  | x :: xs, K, h => by
    obtain ⟨x', h1, hx⟩ := useV_ok h
    obtain ⟨xs', h2, hxs⟩ := useVs_ok h1
    refine ⟨_, h2, fun w E vs hG hr => ?_⟩
    cases vs with
    | nil => simp only [RdVs] at hr
    | cons v vs =>
      simp only [RdVs] at hr ⊢
      exact ⟨hx w E v hG hr.1, hxs w E vs hG hr.2⟩

theorem lendCs_le {f g : V → Option T} (hfg : ∀ x t, f x = some t → g x = some t) : ∀ {xs : List V} {ts : List T}, lendCs f xs = some ts → lendCs g xs = some ts
  | [], ts, h => h
  | x :: xs, ts, h => by
    simp only [lendCs] at h ⊢
    split at h
    · rename_i t ts' h1 h2
      rw [hfg x t h1, lendCs_le hfg h2]; exact h
    · cases h
theorem lendRs_le {f g : V → Option T} (hfg : ∀ x t, f x = some t → g x = some t) : ∀ {xs : List (List V)} {ts : List (List T)}, lendRs f xs = some ts → lendRs g xs = some ts
  | [], ts, h => h
  | x :: xs, ts, h => by
    simp only [lendRs] at h ⊢
    split at h
    · rename_i t ts' h1 h2
      rw [lendCs_le hfg h1, lendRs_le hfg h2]; exact h
    · cases h
theorem lendC_succ (h : Heap) : ∀ (n : Nat) (x : V) (t : T), lendC h n x = some t → lendC h (n + 1) x = some t
  | n, .t x, t, h1 => by rw [lendC_t] at h1 ⊢; exact h1
  | n + 1, .own i, t, h1 => by
    simp only [lendC] at h1 ⊢
    unfold lendB at h1 ⊢
    split at h1
    · rename_i e k d xs hl
      split at h1
      · rename_i ts hts
        have hts' : lendRs (fun x => lendC h (n + 1) x) xs = some ts := lendRs_le (f := lendC h n) (g := lendC h (n + 1)) (fun x t hx => lendC_succ h n x t hx) hts
        rw [show lendRs (lendC h (n + 1)) xs = some ts from hts']
        exact h1
      · cases h1
    · exact h1
    · cases h1
  | 0, .own i, t, h1 => by simp [lendC] at h1
  | n, .agg _, t, h1 => by cases n <;> simp [lendC] at h1
  | n, .tup _, t, h1 => by cases n <;> simp [lendC] at h1
  | n, .ptr _ _, t, h1 => by cases n <;> simp [lendC] at h1
  | n, .rptr _ _ _ _, t, h1 => by cases n <;> simp [lendC] at h1
  | n, .elem _ _ _ _ _, t, h1 => by cases n <;> simp [lendC] at h1
  | n, .cond _ _, t, h1 => by cases n <;> simp [lendC] at h1
  | n, .clo _ _, t, h1 => by cases n <;> simp [lendC] at h1
  | n, .dead, t, h1 => by cases n <;> simp [lendC] at h1
mutual
/-- the same, of rows that lead to no others -/
def V.lend1 (h : Heap) : V → V
  | .own i => lendO i (lendC h 1 (.own i))
  | .agg cs => .agg (V.lends1 h cs)
  | .tup cs => .tup (V.lends1 h cs)
  | .clo f cs => .clo f (V.lends1 h cs)
  | x => x
def V.lends1 (h : Heap) : List V → List V
  | [] => []
  | x :: xs => V.lend1 h x :: V.lends1 h xs
end
mutual
theorem lend1_eq {h : Heap} : ∀ (x : V), (x.lend1 h).pure = true → x.lend h = x.lend1 h
  | .own i, hp => by
    unfold V.lend1 at hp ⊢
    cases hl : lendC h 1 (.own i) with
    | none => simp [hl, lendO, V.pure] at hp
    | some t =>
      unfold V.lend
      rw [lendC_succ h 5 _ t (lendC_succ h 4 _ t (lendC_succ h 3 _ t (lendC_succ h 2 _ t (lendC_succ h 1 _ t hl))))]
  | .agg cs, hp => by simp only [V.lend1, V.pure, V.lend] at hp ⊢; rw [lends1_eq cs hp]
  | .tup cs, hp => by simp only [V.lend1, V.pure, V.lend] at hp ⊢; rw [lends1_eq cs hp]
  | .clo f cs, hp => by simp only [V.lend1, V.pure, V.lend] at hp ⊢; rw [lends1_eq cs hp]
  | .t _, _ => by simp only [V.lend1, V.lend]
  | .ptr .., _ => by simp only [V.lend1, V.lend]
  | .rptr .., _ => by simp only [V.lend1, V.lend]
  | .elem .., _ => by simp only [V.lend1, V.lend]
  | .cond .., _ => by simp only [V.lend1, V.lend]
  | .dead, _ => by simp only [V.lend1, V.lend]
theorem lends1_eq {h : Heap} : ∀ (xs : List V), V.pures (V.lends1 h xs) = true → V.lends h xs = V.lends1 h xs
  | [], _ => rfl
  | x :: xs, hp => by
    simp only [V.lends1, V.pures, V.lends, Bool.and_eq_true] at hp ⊢
    rw [lend1_eq x hp.1, lends1_eq xs hp.2]
end
def callPV (P : Program) (G : Bool) (h : Heap) (f : FuncId) (xs : List V) (K : V → Prop) : Prop :=
  if V.pures xs = true then ∃ r, (G = true → CPure P f xs r) ∧ K r
  else V.pures (V.lends1 h xs) = true ∧ ∃ r, (G = true → CPure P f (V.lends1 h xs) r) ∧ r.scal = true ∧ K r

theorem run_callFn {P : Program} {ρ : Operand → Value} {o : Oper} {f : FuncId} {args : Array Operand} {tys : Array TypeId} (ho : o.op = .call { callee := .value (.func f), args := args, argTypes := tys })
    (hρ : ρ (.func f) = .func (.func f) #[] #[]) (he : P.enters f = true) (w : World) : (execOp ρ o).run P w = .ok (.enter f (args.map ρ)) w := by
  unfold Program.enters at he
  split at he
  · rename_i fn hf
    simp only [Bool.and_eq_true, Bool.not_eq_true'] at he
    have hn : ¬ fn.name = "runtime.NumGoroutine" := by simpa using he.1
    have hb : ¬ fn.body = none := fun h => by rw [h] at he; simp at he
    simp [execOp, ho, resolve, hρ, Deferred.ofValue, invoke, callFunc, hf, hn, hb]
  · cases he

theorem rdVs_map {w : World} {E : Env} {σ : St} {a : Act} (hr : RelF E σ a w) : ∀ (l : List Operand), RdVs w E (l.map σ.ev) (l.map a.eval)
  | [] => by simp only [List.map_nil, RdVs]
  | x :: l => by simp only [List.map_cons, RdVs]; exact ⟨hr.ev x, rdVs_map hr l⟩

theorem ps_call {P : Program} {G : Bool} {σ : St} {o : Oper} {K : V → Prop} {f : FuncId} {args : Array Operand} {tys : Array TypeId} (ho : o.op = .call { callee := .value (.func f), args := args, argTypes := tys })
    (h : useVs G (args.toList.map σ.ev) fun xs => callPV P G σ.h f xs K) : ∃ x, K x ∧ (G = true → YV P o σ x) := by
  obtain ⟨ys, h1, hys⟩ := useVs_ok h
  unfold callPV at h1
  split at h1
  · rename_i hp
    obtain ⟨r, hC, hK⟩ := h1
    refine ⟨r, hK, fun hG E a w hr next Q hn => ?_⟩
    have hvs := hys w E _ hG (rdVs_map hr args.toList)
    obtain ⟨he, hcall⟩ := hC hG
    have h2 := hcall w E.S _ hr.rel.slt (RdVs.bare _ hp hvs)
    unfold Oper.wp
    rw [run_callFn ho rfl he]
    simp only [Oper.upon]
    have e1 : (args.toList.map a.eval).toArray = args.map a.eval := by apply Array.ext'; simp only [Array.toList_map]
    rw [e1] at h2
    refine Calls.mono h2 ?_
    rintro e w' ⟨v, S', rfl, q1, q2, q3, q4, q5⟩
    obtain ⟨k1, k2⟩ := hr.later q5 q1 q2 q3
    exact hn v w' _ k1 k2 (RdV.unbare (E := { E with S := S' }) r q4) (fun _ h => h)
  · obtain ⟨hp, r, hC, hs, hK⟩ := h1
    have hle := lends1_eq ys hp
    rw [← hle] at hp hC
    refine ⟨r, hK, fun hG E a w hr next Q hn => ?_⟩
    have hvs := hys w E _ hG (rdVs_map hr args.toList)
    obtain ⟨he, hcall⟩ := hC hG
    have h2 := hcall w (lentS E σ.h) _ (fun b hb => by
      rcases hb with hb | ⟨i, hv, _, _, _, _, hB, _, hbk⟩
      · exact hr.rel.slt b hb
      · exact (hr.rel.own i hv b hB hbk).1) (RdVs.lend hr.rel _ hp hvs)
    unfold Oper.wp
    rw [run_callFn ho rfl he]
    simp only [Oper.upon]
    have e1 : (args.toList.map a.eval).toArray = args.map a.eval := by apply Array.ext'; simp only [Array.toList_map]
    rw [e1] at h2
    refine Calls.mono h2 ?_
    rintro e w' ⟨v, S', rfl, q1, q2, q3, q4, q5⟩
    obtain ⟨k1, k2⟩ := hr.later q5 (fun _ h => h) (fun b hb => .inl hb) (fun b hb => Nat.lt_of_lt_of_le (hr.rel.slt b hb) q5.size)
    exact hn v w' _ k1 k2 (rdV_scal hs q4) (fun _ h => h)
end Go.Proofs.Ytnbmiejjkkgckaa
/- Proved here: More operations of the abstract machine that only look, and all of them together, for use in the proofs of the given statements; conditions stand in each theorem. -/
set_option linter.unusedSimpArgs false
set_option linter.unusedVariables false
set_option linter.unnecessarySimpa false
namespace Go.Proofs.Ytnbmiejjkkgckaa
open Go.RowKit
section
variable {P : Program} {G : Bool} {σ : St} {o : Oper} {K : V → Prop}

/-! len -/
def lenV (P : Program) (h : Heap) (t : TypeId) (x : V) (K : V → Prop) : Prop :=
  match P.underlying t, x with
  | some .string, .t (.lit (.string s)) => K (vint s.size)
  | some (.slice _), .t (.list _ _ xs) => K (vint xs.length)
  | some (.slice _), .t (.lit (.slice _ n _)) => K (vint n)
  | some (.slice _), .own i => match h.look i with
    | some (.row _ _ _ xs) => K (vint xs.length)
    | some (.shr (.list _ _ xs)) => K (vint xs.length)
    | _ => False
  | some (.array n _), _ => K (vint n)
  | some (.map _ _), .own i => match h.look i with
    | some (.map es) => K (vint es.length)
    | _ => False
  | _, _ => False
theorem RdEs.len {w : World} {E : Env} : ∀ {xs : List (Value × V)} {es : List MapEntry}, RdEs w E xs es → xs.length = es.length
  | [], [], _ => rfl
  | _ :: _, _ :: _, h => by simp [RdEs.len h.2.2]
  | [], _ :: _, h => h.elim
  | _ :: _, [], h => h.elim
theorem run_len {args : Array Operand} {x : Operand} {t : TypeId} {tys : Array TypeId} (ho : o.op = .call { callee := .builtin .len, args := #[x], argTypes := tys }) (ht : tys[0]? = some t) {ρ : Operand → Value} {w : World} {n : Nat}
    (h : (Builtin.len_ tys o.type #[ρ x]).run P w = .ok (.int .i64 n) w) : (execOp ρ o).run P w = .ok (.value (.int .i64 n)) w := by
  simp [execOp, ho, resolve, invoke, builtin, h]
theorem rdT_slice {w : World} {S : Nat → Prop} {k : Nat} {d : List T} {xs : List (List T)} {v : Value} (h : RdT w S (.list k d xs) v) : ∃ A c, v = .slice A xs.length c ∧ xs.length ≤ c := by
  cases h with
  | list _ _ _ A c hm hc => exact ⟨A, c, rfl, hc⟩
theorem ps_len {x : Operand} {t : TypeId} {tys : Array TypeId} (ho : o.op = .call { callee := .builtin .len, args := #[x], argTypes := tys }) (ht : tys[0]? = some t)
    (h : useV G (σ.ev x) fun x' => lenV P σ.h t x' K) : ∃ x, K x ∧ (G = true → YV P o σ x) := by
  obtain ⟨x', h1, hx⟩ := useV_ok h
  unfold lenV at h1
  split at h1
  · rename_i s hu
    refine ⟨_, h1, fun hG => yv_of fun E a w hr => ⟨_, run_len (args := #[]) ho ht (n := s.size) ?_, rdV_lit rfl rfl⟩⟩
    rw [(rdV_lit_inv (hx w E _ hG (hr.ev x))).1]
    simp [Builtin.len_, ht, run_underlying hu, goInt]
  · rename_i xs hu
    refine ⟨_, h1, fun hG => yv_of fun E a w hr => ⟨_, run_len (args := #[]) ho ht (n := xs.length) ?_, rdV_lit rfl rfl⟩⟩
    have e1 := hx w E _ hG (hr.ev x)
    simp only [RdV] at e1
    obtain ⟨A, c, e2, _⟩ := rdT_slice e1
    rw [e2]
    simp [Builtin.len_, ht, run_underlying hu, goInt]
  · rename_i n _ hu
    refine ⟨_, h1, fun hG => yv_of fun E a w hr => ⟨_, run_len (args := #[]) ho ht (n := n) ?_, rdV_lit rfl rfl⟩⟩
    rw [(rdV_lit_inv (hx w E _ hG (hr.ev x))).1]
    simp [Builtin.len_, ht, run_underlying hu, goInt]
  · rename_i i hu
    split at h1
    · rename_i e k d xs hl
      refine ⟨_, h1, fun hG => yv_of fun E a w hr => ⟨_, run_len (args := #[]) ho ht (n := xs.length) ?_, rdV_lit rfl rfl⟩⟩
      have e1 := hx w E _ hG (hr.ev x)
      simp only [RdV] at e1
      obtain ⟨hv, hB, cells, h2, _⟩ := hr.rel.has i _ hl
      obtain ⟨A, c, e3, _⟩ := own_form h2
      rw [e1.2.2 _ (.inl hB), e3]
      simp [Builtin.len_, ht, run_underlying hu, goInt]
    · rename_i k d xs hl
      refine ⟨_, h1, fun hG => yv_of fun E a w hr => ⟨_, run_len (args := #[]) ho ht (n := xs.length) ?_, rdV_lit rfl rfl⟩⟩
      have e1 := hx w E _ hG (hr.ev x)
      simp only [RdV] at e1
      obtain ⟨hv, hF, hT⟩ := hr.rel.has i _ hl
      obtain ⟨A, c, e3, _⟩ := rdT_slice (show RdT w E.S (.list k d xs) hv from hT)
      rw [e1.2.2 _ (.inr hF), e3]
      simp [Builtin.len_, ht, run_underlying hu, goInt]
    · exact h1.elim
  · rename_i n _ hu
    refine ⟨_, h1, fun hG => yv_of fun E a w hr => ⟨_, run_len (args := #[]) ho ht (n := n) ?_, rdV_lit rfl rfl⟩⟩
    simp [Builtin.len_, ht, run_underlying hu, goInt]
  · rename_i i hu
    split at h1
    · rename_i es hl
      refine ⟨_, h1, fun hG => yv_of fun E a w hr => ⟨_, run_len (args := #[]) ho ht (n := es.length) ?_, rdV_lit rfl rfl⟩⟩
      have e1 := hx w E _ hG (hr.ev x)
      simp only [RdV] at e1
      obtain ⟨hv, hB, r, entries, clock, rfl, h2, h3, _⟩ := hr.rel.has i _ hl
      rw [e1.2.2 _ (.inl hB)]
      have := RdEs.len h3
      simp only [Array.length_toList] at this
      have hgo : (getObj r).run P w = .ok (.map entries clock) w := by simp [getObj, Sem.run, h2]
      simp [Builtin.len_, ht, run_underlying hu, goInt, hgo, this]
    · exact h1.elim
  · exact h1.elim

/-! build -/
def _root_.Go.Program.plT (P : Program) (t : TypeId) : Option (List (Nat × Nat)) :=
  match P.underlying t with
  | some (.struct fields) => fields.toList.mapM fun f => (P.info? f.type).map fun i => (f.offset, i.size)
  | some (.array n e) => (P.info? e).map fun i => (List.range n).map fun j => (j * i.size, i.size)
  | _ => none
def fillV (place : Nat → Option (Nat × Nat)) : List V → List (Nat × V) → Option (List V)
  | cells, [] => some cells
  | cells, (i, v) :: rest =>
    match place i with
    | none => none
    | some (off, size) => if v.cells.length ≠ size ∨ off + v.cells.length > cells.length ∨ v.cells.all V.isCell = false then none
      else fillV place (cells.take off ++ v.cells ++ cells.drop (off + v.cells.length)) rest
def useParts (G : Bool) : List (Nat × V) → (List (Nat × V) → Prop) → Prop
  | [], K => K []
  | (i, x) :: r, K => useV G x fun x' => useParts G r fun r' => K ((i, x') :: r')
def RdPs (w : World) (E : Env) : List (Nat × V) → List (Nat × Value) → Prop
  | [], [] => True
  | (i, x) :: xs, (j, v) :: vs => i = j ∧ RdV w E x v ∧ RdPs w E xs vs
  | _, _ => False
theorem useParts_ok {G : Bool} : ∀ {xs : List (Nat × V)} {K : List (Nat × V) → Prop}, useParts G xs K → ∃ ys, K ys ∧ ∀ (w : World) (E : Env) vs, G = true → RdPs w E xs vs → RdPs w E ys vs
  | [], K, h => ⟨[], h, fun _ _ _ _ h => h⟩
  | (i, x) :: xs, K, h => by
    obtain ⟨x', h1, hx⟩ := useV_ok h
    obtain ⟨xs', h2, hxs⟩ := useParts_ok h1
    refine ⟨_, h2, fun w E vs hG hr => ?_⟩
    cases vs with
    | nil => simp only [RdPs] at hr
    | cons v vs =>
      obtain ⟨j, v⟩ := v
      simp only [RdPs] at hr ⊢
      exact ⟨hr.1, hx w E v hG hr.2.1, hxs w E vs hG hr.2.2⟩

theorem fold_set_list : ∀ (l : List Value) (off k : Nat) (cs : Array Value), off + k + l.length ≤ cs.size →
    ((l.zipIdx k).foldl (fun cs (c, j) => cs.setIfInBounds (off + j) c) cs).toList = cs.toList.take (off + k) ++ l ++ cs.toList.drop (off + k + l.length)
  | [], off, k, cs, h => by simp
  | v :: l, off, k, cs, h => by
    simp only [List.zipIdx_cons, List.foldl_cons]
    simp only [List.length_cons] at h
    rw [fold_set_list l off (k + 1) _ (by simp; omega)]
    simp only [Array.toList_setIfInBounds, List.length_cons]
    have e1 : off + (k + 1) = off + k + 1 := by omega
    rw [e1]
    have hlt : off + k < cs.toList.length := by simp; omega
    rw [List.take_set, List.drop_set_of_lt (by omega), List.take_add_one, List.set_append_right _ _ (by simp; omega)]
    have e2 : off + k - (cs.toList.take (off + k)).length = 0 := by simp; omega
    rw [e2, List.getElem?_eq_getElem hlt]
    simp
    omega

theorem V.cells_ok {w : World} {E : Env} {x : V} {v : Value} (h : RdV w E x v) (hc : x.cells.all V.isCell = true) : RdVs w E x.cells v.cells.toList := by
  cases x with
  | agg cs =>
    simp only [RdV] at h
    obtain ⟨vs, rfl, h1, _⟩ := h
    exact h1
  | t x =>
    have := RdV.one rfl h
    cases v <;> first | (simp only [V.cells, Value.cells, RdVs, RdV] at h ⊢; exact ⟨h, trivial⟩) | simp [Value.oneCell'] at this
  | own i =>
    have := RdV.one rfl h
    cases v <;> first | (simp only [V.cells, Value.cells, RdVs]; exact ⟨h, trivial⟩) | simp [Value.oneCell'] at this
  | ptr i j =>
    have := RdV.one rfl h
    cases v <;> first | (simp only [V.cells, Value.cells, RdVs]; exact ⟨h, trivial⟩) | simp [Value.oneCell'] at this
  | rptr i k n j =>
    have := RdV.one rfl h
    cases v <;> first | (simp only [V.cells, Value.cells, RdVs]; exact ⟨h, trivial⟩) | simp [Value.oneCell'] at this
  | elem k d xs i j =>
    have := RdV.one rfl h
    cases v <;> first | (simp only [V.cells, Value.cells, RdVs]; exact ⟨h, trivial⟩) | simp [Value.oneCell'] at this
  | clo f cs =>
    have := RdV.one rfl h
    cases v <;> first | (simp only [V.cells, Value.cells, RdVs]; exact ⟨h, trivial⟩) | simp [Value.oneCell'] at this
  | tup cs => simp [V.cells, V.isCell] at hc
  | cond g x => simp [V.cells, V.isCell] at hc
  | dead => simp [V.cells, V.isCell] at hc

theorem fill_ok {w : World} {E : Env} (pv pc : Nat → Option (Nat × Nat)) (hpc : ∀ i x, pv i = some x → pc i = some x) : ∀ (parts : List (Nat × V)) (vparts : List (Nat × Value)) (cells : List V) (cs : Array Value) (out : List V),
    RdPs w E parts vparts → RdVs w E cells cs.toList → cs.toList.all (·.oneCell') = true → fillV pv cells parts = some out →
    ∃ r, Instr.fill pc cs vparts = some r ∧ RdVs w E out r.toList ∧ r.toList.all (·.oneCell') = true
  | [], [], cells, cs, out, _, h1, h2, h => by
    simp only [fillV, Option.some.injEq] at h
    subst h
    exact ⟨cs, rfl, h1, h2⟩
  | (i, x) :: parts, (j, v) :: vparts, cells, cs, out, hp, h1, h2, h => by
    simp only [RdPs] at hp
    obtain ⟨rfl, hx, hp⟩ := hp
    unfold fillV at h
    unfold Instr.fill
    split at h
    · cases h
    · rename_i off size hpl
      split at h
      · cases h
      · rename_i hcond
        simp only [not_or, Decidable.not_not, Nat.not_lt, Bool.not_eq_false] at hcond
        obtain ⟨c1, c2, c3⟩ := hcond
        have hcells := V.cells_ok hx c3
        have hl := RdVs.len hcells
        have hl2 := RdVs.len h1
        simp only [Array.length_toList] at hl hl2
        simp only [hpc _ _ hpl]
        have hno : ¬ (v.cells.size ≠ size ∨ off + v.cells.size > cs.size) := by omega
        have hno2 : ¬ ((v.cells.size ≠ size || off + v.cells.size > cs.size) = true) := by simpa using hno
        rw [if_neg (by simpa using hno)]
        have hz : (v.cells.zipIdx.foldl (fun cs (c, j) => cs.setIfInBounds (off + j) c) cs).toList = cs.toList.take off ++ v.cells.toList ++ cs.toList.drop (off + v.cells.size) := by
          have := fold_set_list v.cells.toList off 0 cs (by simp; omega)
          simp only [Nat.add_zero, Array.length_toList] at this
          rw [← this]
          congr 1
          rw [← Array.foldl_toList]
          simp
        refine fill_ok pv pc hpc parts vparts _ _ out hp ?_ ?_ h
        · rw [hz]
          have e1 : v.cells.size = x.cells.length := hl.symm
          rw [e1]
          exact RdVs.append (RdVs.append (RdVs.take off h1) hcells) (RdVs.drop _ h1)
        · rw [hz]
          have hv1 := RdVs.ones c3 hcells
          simp only [List.all_append, Bool.and_eq_true, List.all_eq_true] at h2 hv1 ⊢
          exact ⟨⟨fun y hy => h2 y (List.mem_of_mem_take hy), hv1⟩, fun y hy => h2 y (List.mem_of_mem_drop hy)⟩
  | [], _ :: _, _, _, _, hp, _, _, _ => by simp only [RdPs] at hp
  | _ :: _, [], _, _, _, hp, _, _, _ => by simp only [RdPs] at hp

def zeroV (z : List Value) : List V := z.map fun v => .t (.lit v)
def zeroOk (z : List Value) : Bool := z.all fun v => v.oneCell' && fitB v
def buildV (P : Program) (G : Bool) (t : TypeId) (parts : List (Nat × V)) (K : V → Prop) : Prop :=
  match P.plT t, P.zeroT t with
  | some pl, some z => zeroOk z = true ∧ useParts G parts fun ps => match fillV (fun i => pl[i]?) (zeroV z) ps with
    | some cs => K (.agg cs)
    | none => False
  | _, _ => False
theorem rdPs_map {w : World} {E : Env} {a : Act} (hr : RelF E σ a w) : ∀ (l : List (Nat × Operand)), RdPs w E (l.map fun (i, x) => (i, σ.ev x)) (l.map fun (i, x) => (i, a.eval x))
  | [] => by simp only [List.map_nil, RdPs]
  | (i, x) :: l => by simp only [List.map_cons, RdPs]; exact ⟨trivial, hr.ev x, rdPs_map hr l⟩
theorem zeroT_info {t : TypeId} {z : List Value} (h : P.zeroT t = some z) : ∃ it v, P.info? t = some it ∧ it.zero = some v ∧ v.cells.toList = z := by
  unfold Program.zeroT at h
  cases hi : P.info? t with
  | none => simp [hi] at h
  | some it =>
    cases hz : it.zero with
    | none => simp [hi, hz] at h
    | some v => exact ⟨it, v, rfl, hz, by simpa [hi, hz] using h⟩
theorem ps_build {t : TypeId} {parts : Array (Nat × Operand)} (ho : o.op = .build t parts) (h : buildV P G t (parts.toList.map fun (i, x) => (i, σ.ev x)) K) : ∃ x, K x ∧ (G = true → YV P o σ x) := by
  unfold buildV at h
  split at h
  · rename_i pl z hpl hz
    obtain ⟨hzo, h⟩ := h
    obtain ⟨ys, h1, hys⟩ := useParts_ok h
    split at h1
    · rename_i cs hf
      refine ⟨_, h1, fun hG => yv_of fun E a w hr => ?_⟩
      obtain ⟨it, zv, hi, hzv, hzc⟩ := zeroT_info hz
      have hps := hys w E _ hG (rdPs_map hr parts.toList)
      have hzo' : zv.cells.toList.all (·.oneCell') = true := by
        rw [hzc]
        unfold zeroOk at hzo
        simp only [List.all_eq_true, Bool.and_eq_true] at hzo ⊢
        exact fun x hx => (hzo x hx).1
      have hz1 : RdVs w E (zeroV z) zv.cells.toList := by rw [hzc]; exact rdVs_lits z hzo
      have key : ∃ r, P.built t (parts.map fun (i, x) => (i, a.eval x)).toList = some r ∧ RdVs w E cs r.toList ∧ r.toList.all (·.oneCell') = true := by
        unfold Program.plT at hpl
        unfold Program.built
        have e1 : (parts.map fun (i, x) => (i, a.eval x)).toList = parts.toList.map fun (i, x) => (i, a.eval x) := by simp
        rw [e1]
        split at hpl
        · rename_i fs hu
          simp only [hi, hu, hzv, hpl]
          exact fill_ok _ _ (fun i x hx => by simpa using hx) ys _ _ _ cs hps hz1 hzo' hf
        · rename_i n e hu
          cases hie : P.info? e with
          | none => simp [hie] at hpl
          | some ie =>
            simp only [hie, Option.map_some, Option.some.injEq] at hpl
            simp only [hi, hu, hzv, hie]
            refine fill_ok _ _ (fun i x hx => ?_) ys _ _ _ cs hps hz1 hzo' hf
            rw [← hpl] at hx
            simp only [List.getElem?_map] at hx
            cases hq : (List.range n)[i]? with
            | none => simp [hq] at hx
            | some q =>
              have : q = i := by
                have := List.getElem?_eq_some_iff.1 hq
                obtain ⟨h1, h2⟩ := this
                simpa using h2.symm
              subst this
              simpa [hq] using hx
        · cases hpl
      obtain ⟨r, hb, hr1, hr2⟩ := key
      refine ⟨.agg r, ?_, ?_⟩
      · simp only [execOp, ho, Sem.run_bind, run_build w t _ r hb, Result.andThen_ok, Sem.run_pure]
      · simp only [RdV]
        exact ⟨r, rfl, hr1, hr2⟩
    · exact h1.elim
  · exact h.elim

/-! a check on nil, conversions, parts of strings and slices -/
def nilCheckV (h : Heap) (x : V) (K : V → Prop) : Prop :=
  match x with
  | .own i => match h.look i with
    | some (.box _) => K (.own i)
    | _ => False
  | .ptr i off => match h.look i with
    | some (.box _) => K (.ptr i off)
    | _ => False
  | .elem k d xs i j => K (.elem k d xs i j)
  | .rptr i k n j => match h.look i with
    | some (.row ..) => K (.rptr i k n j)
    | some (.shr _) => K (.rptr i k n j)
    | _ => False
  | .clo f cs => K (.clo f cs)
  | .t (.lit (.func (.func f) a b)) => K (.t (.lit (.func (.func f) a b)))
  | _ => False
theorem ps_nilCheck {x : Operand} (ho : o.op = .nilCheck x) (h : useV G (σ.ev x) fun x' => nilCheckV σ.h x' K) : ∃ x, K x ∧ (G = true → YV P o σ x) := by
  obtain ⟨x', h1, hx⟩ := useV_ok h
  unfold nilCheckV at h1
  split at h1
  · rename_i i
    split at h1
    · rename_i cs hl
      refine ⟨_, h1, fun hG => yv_of fun E a w hr => ?_⟩
      have e1 := hx w E _ hG (hr.ev x)
      obtain ⟨b, vs, ty, hB, _⟩ := box_at hr.rel hl
      have e2 := e1
      simp only [RdV] at e2
      have e3 := e2.2.2 _ (.inl hB)
      exact ⟨a.eval x, by simp [execOp, ho, e3], e1⟩
    · exact h1.elim
  · rename_i i off
    split at h1
    · rename_i cs hl
      refine ⟨_, h1, fun hG => yv_of fun E a w hr => ?_⟩
      have e1 := hx w E _ hG (hr.ev x)
      obtain ⟨b, vs, ty, hB, _⟩ := box_at hr.rel hl
      have e2 := e1
      simp only [RdV] at e2
      obtain ⟨b', _, e3⟩ := e2.2.2 _ (.inl hB)
      exact ⟨a.eval x, by simp [execOp, ho, e3], e1⟩
    · exact h1.elim
  · refine ⟨_, h1, fun hG => yv_of fun E a w hr => ?_⟩
    have e1 := hx w E _ hG (hr.ev x)
    have e2 := e1
    simp only [RdV] at e2
    obtain ⟨b, off, c, _, _, e3⟩ := e2
    exact ⟨a.eval x, by simp [execOp, ho, e3], e1⟩
  · rename_i i k n j
    split at h1
    · rename_i e k' d xs hl
      refine ⟨_, h1, fun hG => yv_of fun E a w hr => ?_⟩
      have e1 := hx w E _ hG (hr.ev x)
      obtain ⟨hv, hB, _⟩ := hr.rel.has i _ hl
      have e2 := e1
      simp only [RdV] at e2
      obtain ⟨b', m, c', _, _, e3⟩ := e2.2.2 _ (.inl hB)
      exact ⟨a.eval x, by simp [execOp, ho, e3], e1⟩
    · rename_i t' hl
      refine ⟨_, h1, fun hG => yv_of fun E a w hr => ?_⟩
      have e1 := hx w E _ hG (hr.ev x)
      obtain ⟨hv, hF, _⟩ := hr.rel.has i _ hl
      have e2 := e1
      simp only [RdV] at e2
      obtain ⟨b', m, c', _, _, e3⟩ := e2.2.2 _ (.inr hF)
      exact ⟨a.eval x, by simp [execOp, ho, e3], e1⟩
    · exact h1.elim
  · refine ⟨_, h1, fun hG => yv_of fun E a w hr => ?_⟩
    have e1 := hx w E _ hG (hr.ev x)
    have e2 := e1
    simp only [RdV] at e2
    obtain ⟨vs, e3, _⟩ := e2
    exact ⟨a.eval x, by simp [execOp, ho, e3], e1⟩
  · refine ⟨_, h1, fun hG => yv_of fun E a w hr => ?_⟩
    have e1 := hx w E _ hG (hr.ev x)
    have e3 := (rdV_lit_inv e1).1
    exact ⟨a.eval x, by simp [execOp, ho, e3], e1⟩
  · exact h1.elim

def convV (P : Program) (s d : TypeId) (x : V) (K : V → Prop) : Prop :=
  match P.underlying s, P.underlying d, x with
  | some _, some (.int k), .t (.lit (.int _ n)) => K (.t (.lit (.int k (k.wrap n))))
  | some _, some .string, .t (.lit (.string b)) => K (.t (.lit (.string b)))
  | _, _, _ => False
theorem ps_convert {s d : TypeId} {x : Operand} (ho : o.op = .convert s d x) (h : useV G (σ.ev x) fun x' => convV P s d x' K) : ∃ x, K x ∧ (G = true → YV P o σ x) := by
  obtain ⟨x', h1, hx⟩ := useV_ok h
  unfold convV at h1
  split at h1
  · rename_i ds k kk n hs hd
    refine ⟨_, h1, fun hG => yv_of fun E a w hr => ⟨.int k (k.wrap n), ?_, rdV_lit rfl rfl⟩⟩
    have e1 := (rdV_lit_inv (hx w E _ hG (hr.ev x))).1
    simp only [execOp, ho, e1, Sem.run_bind, convert, run_underlying hs, run_underlying hd, Result.andThen_ok, Conv.intToInt, Sem.run_pure]
  · rename_i ds b hs hd
    refine ⟨_, h1, fun hG => yv_of fun E a w hr => ⟨.string b, ?_, ?_⟩⟩
    · have e1 := (rdV_lit_inv (hx w E _ hG (hr.ev x))).1
      simp only [execOp, ho, e1, Sem.run_bind, convert, run_underlying hs, run_underlying hd, Result.andThen_ok, Sem.run_pure]
    · have e1 := rdV_lit_inv (hx w E _ hG (hr.ev x))
      simp only [RdV]
      exact .lit _ e1.2.1 e1.2.2
  · exact h1.elim
end
end Go.Proofs.Ytnbmiejjkkgckaa
/- Proved here: Operations of the abstract machine that make or write memory, for use in the proofs of the given statements; conditions stand in each theorem. -/
set_option linter.unusedSimpArgs false
set_option linter.unusedVariables false
set_option linter.unnecessarySimpa false
namespace Go.Proofs.Ytnbmiejjkkgckaa
open Go.RowKit

def Heap.set (h : Heap) (i : Nat) (blk : Blk) : Heap :=
  match h with
  | [] => []
  | (j, b) :: r => if i = j then (j, blk) :: r else (j, b) :: Heap.set r i blk
def Heap.del (h : Heap) (i : Nat) : Heap :=
  match h with
  | [] => []
  | (j, b) :: r => if i = j then Heap.del r i else (j, b) :: Heap.del r i
theorem Heap.look_set (h : Heap) (i : Nat) (blk : Blk) {old : Blk} (hl : h.look i = some old) (j : Nat) : (h.set i blk).look j = if j = i then some blk else h.look j := by
  induction h with
  | nil => simp [Heap.look] at hl
  | cons x r ih =>
    obtain ⟨k, b⟩ := x
    simp only [Heap.set, Heap.look] at hl ⊢
    by_cases hik : i = k
    · subst hik
      simp only [if_true, Heap.look]
      split <;> rfl
    · rw [if_neg hik] at hl ⊢
      simp only [Heap.look]
      by_cases hjk : j = k
      · subst hjk
        rw [if_pos rfl, if_neg (fun h => hik h.symm), if_pos rfl]
      · rw [if_neg hjk, ih hl, if_neg hjk]
theorem Heap.look_del (h : Heap) (i j : Nat) : (h.del i).look j = if j = i then none else h.look j := by
  induction h with
  | nil => simp [Heap.look, Heap.del]
  | cons x r ih =>
    obtain ⟨k, b⟩ := x
    simp only [Heap.del, Heap.look]
    by_cases hik : i = k
    · subst hik
      rw [if_pos rfl, ih]
      by_cases hj : j = i
      · rw [if_pos hj, if_pos hj]
      · rw [if_neg hj, if_neg hj, if_neg hj]
    · rw [if_neg hik]
      simp only [Heap.look]
      by_cases hjk : j = k
      · subst hjk
        rw [if_pos rfl, if_neg (fun h => hik h.symm), if_pos rfl]
      · rw [if_neg hjk, ih, if_neg hjk]

theorem BlkRel.keep {w w' : World} {E E' : Env} (hE : Ext E w E' w') : ∀ {blk : Blk} {hv : Value}, BlkRel w E blk hv → (∀ b, blockOf hv = some b → w'.heap[b]? = w.heap[b]?) → BlkRel w' E' blk hv
  | .box cs, hv, h, hk => by
    obtain ⟨b, vs, ty, rfl, hh, hvs, h1s⟩ := h
    exact ⟨b, vs, ty, rfl, by rw [hk b rfl]; exact hh, hE.rdVs cs hvs, h1s⟩
  | .row e k d xs, hv, h, hk => by
    obtain ⟨cells, h5, h6, h7⟩ := h
    refine ⟨cells, ⟨h5.1, ?_⟩, hE.rdVs _ h6, h7⟩
    rcases h5.2 with h | ⟨g, cap, cur, rfl, r1, r2, r3⟩
    · exact .inl h
    · exact .inr ⟨g, cap, cur, rfl, r1, by rw [hk g rfl]; exact r2, r3⟩
  | .map es, hv, h, hk => by
    obtain ⟨r, entries, clock, rfl, h5, h6, h7⟩ := h
    exact ⟨r, entries, clock, rfl, by rw [hk r rfl]; exact h5, hE.rdEs _ h6, h7⟩
  | .shr t, hv, h, hk => hE.rdT h
/-- a block that one may write to -/
def Blk.mine : Blk → Bool
  | .shr _ => false
  | _ => true
theorem at_mine {E : Env} {blk : Blk} {i : Nat} (h : blk.mine = true) : E.at blk i = E.B i := by
  cases blk <;> first | rfl | cases h

/-- one block more -/
def Env.add (E : Env) (i : Nat) (hv : Value) : Env := { E with B := fun j => if j = i then some hv else E.B j, U := fun j => j = i ∨ E.U j }
theorem Ext.add {E0 E : Env} {w0 w : World} (h : Ext E0 w0 E w) {i : Nat} (hi : ¬ E0.U i) (hv : Value) : Ext E0 w0 (E.add i hv) w :=
  ⟨h.os, h.tape, h.output, h.size, h.keep, h.S, h.S', h.D, fun j hj => .inr (h.U j hj), fun j hj hv' hb => by
    simp only [Env.add] at hb
    split at hb
    · rename_i hji; subst hji; exact (hi hj).elim
    · exact h.B j hj hv' hb, fun j hj hv' hb => by
    have hji : j ≠ i := fun h => hi (h ▸ hj)
    simp only [Env.Is, Env.add, if_neg hji] at hb
    exact h.W j hj hv' hb⟩

/-- nothing old is written, a block is new -/
theorem RelF.add {w w' : World} {E : Env} {σ : St} {a : Act} {hv : Value} {blk : Blk} {S' : Nat → Prop} (hr : RelF E σ a w) (hb : Below w.heap.size w w') (h1 : ∀ b, E.S b → S' b) (h2 : ∀ b, S' b → E.S b ∨ w.heap.size ≤ b)
    (h3 : ∀ b, S' b → b < w'.heap.size) (hblk : Ext E w (({ E with S := S' } : Env).add σ.nx hv) w' → BlkRel w' (({ E with S := S' } : Env).add σ.nx hv) blk hv)
    (hnew : ∀ b, blockOf hv = some b → w.heap.size ≤ b ∧ b < w'.heap.size ∧ ¬ S' b) (hone : hv.oneCell' = true) (hm : blk.mine = true) :
    RelF (({ E with S := S' } : Env).add σ.nx hv) { σ with h := (σ.nx, blk) :: σ.h, nx := σ.nx + 1 } a w' ∧ Ext E w (({ E with S := S' } : Env).add σ.nx hv) w' ∧
      RdV w' (({ E with S := S' } : Env).add σ.nx hv) (.own σ.nx) hv := by
  obtain ⟨k1, k2⟩ := hr.rel.later hb h1 h2 h3
  have hnU : ¬ E.U σ.nx := fun h => by have := hr.bound _ h; omega
  have hnB : E.B σ.nx = none := by
    cases h : E.B σ.nx with
    | none => rfl
    | some v => exact (hnU (hr.rel.dom _ _ h).1).elim
  have hE := k2.add hnU hv
  have hE' : Ext { E with S := S' } w' (({ E with S := S' } : Env).add σ.nx hv) w' := (Ext.refl ({ E with S := S' } : Env) w').add (E0 := ({ E with S := S' } : Env)) hnU hv
  refine ⟨⟨⟨fun i blk' hl => ?_, fun i v hB => ?_, fun i v hF => ?_, fun i v b hB hbk => ?_, fun i j hi hj b hBi hBj hbi hbj => ?_, h3, k1.dlt⟩, fun i hi => ?_, hE.rdVs _ hr.fr, hr.defers⟩, hE, ?_⟩
  · simp only [Heap.look] at hl
    split at hl
    · rename_i hi
      subst hi
      injection hl with hl
      subst hl
      exact ⟨hv, by rw [at_mine hm]; simp [Env.add], hblk hE⟩
    · rename_i hi
      obtain ⟨hv', hB, hrel⟩ := k1.has i blk' hl
      exact ⟨hv', by cases blk' <;> simp [Env.add, Env.at, hi] at hB ⊢ <;> exact hB, hrel.keep hE' fun _ _ => rfl⟩
  · simp only [Env.add] at hB
    simp only [Env.add, Heap.look]
    split at hB
    · rename_i hi
      subst hi
      exact ⟨.inl rfl, blk, by simp⟩
    · rename_i hi
      obtain ⟨q1, q2⟩ := hr.rel.dom i v hB
      exact ⟨.inr q1, by simp [hi]; exact q2⟩
  · obtain ⟨q1, q2⟩ := hr.rel.domF i v hF
    refine ⟨.inr q1, ?_⟩
    simp only [Env.add]
    rw [if_neg (fun h => hnU (show E.U σ.nx from by rw [← h]; exact q1))]
    exact q2
  · simp only [Env.add] at hB
    split at hB
    · injection hB with hB
      subst hB
      obtain ⟨q1, q2, q3⟩ := hnew b hbk
      exact ⟨q2, q3, fun hd => by have := hr.rel.dlt b hd; omega⟩
    · exact k1.own i v b hB hbk
  · simp only [Env.add] at hBi hBj
    split at hBi
    · rename_i hi'
      split at hBj
      · rename_i hj'; rw [hi', hj']
      · injection hBi with hBi
        subst hBi
        have := (hnew b hbi).1
        have := (hr.rel.own j hj b hBj hbj).1
        omega
    · split at hBj
      · injection hBj with hBj
        subst hBj
        have := (hnew b hbj).1
        have := (hr.rel.own i hi b hBi hbi).1
        omega
      · exact hr.rel.apart i j hi hj b hBi hBj hbi hbj
  · simp only [Env.add] at hi
    rcases hi with rfl | hi
    · exact Nat.lt_succ_self _
    · have := hr.bound i hi; show i < σ.nx + 1; omega
  · simp only [RdV]
    refine ⟨hone, .inl rfl, fun hv' hB => ?_⟩
    rcases hB with hB | hB
    · simp [Env.add] at hB; exact hB
    · exact (hnU (hr.rel.domF _ _ hB).1).elim

def St.add (σ : St) (blk : Blk) : St := { σ with h := (σ.nx, blk) :: σ.h, nx := σ.nx + 1 }

def OpW (P : Program) (o : Oper) (σ : St) (K : St → Prop) : Prop :=
  ∀ E a w, RelF E σ a w → ∀ (next : Act → World → Prop) Q, (∀ a' w' E' σ', RelF E' σ' a' w' → Ext E w E' w' → K σ' → next a' w') → o.wp P a w next Q
theorem opw_yv {P : Program} {o : Oper} {σ : St} {K : St → Prop} {x : V} (h : YV P o σ x) (hK : K (σ.put o.dst x)) : OpW P o σ K := by
  intro E a w hr next Q hn
  exact h E a w hr next Q fun v w' E' h1 h2 h3 _ => hn _ w' E' _ (h1.put o.dst h3) h2 hK

theorem later_self (w : World) : ∀ b : Nat, w.heap.size ≤ b → True := fun _ _ => trivial
section
variable {P : Program} {σ : St} {o : Oper} {K : St → Prop}

/-- an operation that makes a block -/
def NewOp (P : Program) (o : Oper) (σ : St) (blk : Blk) : Prop := blk.mine = true ∧ ∀ E a w, RelF E σ a w → ∃ hv w', (execOp a.eval o).run P w = .ok (.value hv) w' ∧ Below w.heap.size w w' ∧ hv.oneCell' = true ∧
      (∀ b, blockOf hv = some b → w.heap.size ≤ b ∧ b < w'.heap.size) ∧ ∀ E', Ext E w E' w' → BlkRel w' E' blk hv
theorem opw_new {blk : Blk} {x : V} (hx : x = .own σ.nx) (h : NewOp P o σ blk)
    (hK : K ((σ.add blk).put o.dst x)) : OpW P o σ K := by
  intro E a w hr next Q hn
  obtain ⟨hv, w', hrun, hb, hone, hnew, hblk⟩ := h.2 E a w hr
  have h0 : ∀ b, E.S b → b < w.heap.size := hr.rel.slt
  obtain ⟨k1, k2, k3⟩ := hr.add (S' := E.S) hb (fun _ h => h) (fun b hb => .inl hb) (fun b hb' => Nat.lt_of_lt_of_le (h0 b hb') hb.size) (fun hE => hblk _ hE)
    (fun b hb' => ⟨(hnew b hb').1, (hnew b hb').2, fun hs => by have := h0 b hs; have := (hnew b hb').1; omega⟩) hone h.1
  unfold Oper.wp
  rw [hrun]
  subst hx
  exact hn _ w' _ _ (k1.put o.dst k3) k2 hK

theorem below_alloc (w : World) (ob : Obj) : Below w.heap.size w (w.alloc ob) := later_alloc w ob
theorem size_alloc (w : World) (ob : Obj) : (w.alloc ob).heap.size = w.heap.size + 1 := by show (w.heap.push ob).size = _; simp

/-! box, alloc -/
def boxV (x : V) (K : Blk → Prop) : Prop := x.cells.all V.isCell = true ∧ K (.box x.cells)
theorem run_newVar (t : TypeId) (v : Value) (w : World) : (newVar t v).run P w = .ok ⟨w.heap.size, 0, none⟩ (w.alloc (.cells v.cells t)) := by
  simp [newVar, newRow]
theorem new_box {t : TypeId} {x : Operand} {K : Blk → Prop} (ho : o.op = .box t x) (h : useV true (σ.ev x) fun x' => boxV x' K) : ∃ blk, K blk ∧ NewOp P o σ blk := by
  obtain ⟨x', h1, hx⟩ := useV_ok h
  obtain ⟨hc, hK⟩ := h1
  refine ⟨_, hK, rfl, fun E a w hr => ?_⟩
  have e1 := hx w E _ rfl (hr.ev x)
  have e2 := V.cells_ok e1 hc
  refine ⟨.pointer (some ⟨w.heap.size, 0, none⟩), w.alloc (.cells (a.eval x).cells t), ?_, below_alloc w _, rfl, ?_, ?_⟩
  · simp [execOp, ho, Instr.box, run_newVar]
  · intro b hb
    simp only [blockOf, Option.some.injEq] at hb
    subst hb
    exact ⟨Nat.le_refl _, by rw [size_alloc]; omega⟩
  · intro E' hE
    exact ⟨w.heap.size, _, t, rfl, heap_alloc_new w _, hE.rdVs _ e2, RdVs.ones hc e2⟩
theorem ow_box {t : TypeId} {x : Operand} (ho : o.op = .box t x) (h : useV true (σ.ev x) fun x' => boxV x' fun blk => K ((σ.add blk).put o.dst (.own σ.nx))) : OpW P o σ K := by
  obtain ⟨blk, hK, hN⟩ := new_box ho h
  exact opw_new rfl hN hK
theorem new_alloc {t : TypeId} {z : List Value} (ho : o.op = .alloc t) (hz : P.zeroT t = some z) (hzo : zeroOk z = true) : NewOp P o σ (.box (zeroV z)) := by
  refine ⟨rfl, ?_⟩
  intro E a w hr
  obtain ⟨it, zv, hi, hzv, hzc⟩ := zeroT_info hz
  refine ⟨.pointer (some ⟨w.heap.size, 0, none⟩), w.alloc (.cells zv.cells t), ?_, below_alloc w _, rfl, ?_, ?_⟩
  · simp [execOp, ho, Instr.alloc, run_newVar, zeroValue, typeInfo, hi, hzv]
  · intro b hb
    simp only [blockOf, Option.some.injEq] at hb
    subst hb
    exact ⟨Nat.le_refl _, by rw [size_alloc]; omega⟩
  · intro E' hE
    refine ⟨w.heap.size, _, t, rfl, heap_alloc_new w _, by rw [hzc]; exact rdVs_lits z hzo, ?_⟩
    rw [hzc]
    unfold zeroOk at hzo
    simp only [List.all_eq_true, Bool.and_eq_true] at hzo ⊢
    exact fun x hx => (hzo x hx).1

theorem ow_alloc {t : TypeId} {z : List Value} (ho : o.op = .alloc t) (hz : P.zeroT t = some z) (hzo : zeroOk z = true) (hK : K ((σ.add (.box (zeroV z))).put o.dst (.own σ.nx))) : OpW P o σ K := opw_new rfl (new_alloc ho hz hzo) hK

/-! store -/
/-- only the block of the handle of i is written -/
theorem RelF.upd {w w' : World} {E : Env} {a : Act} {i : Nat} {hv : Value} {old blk : Blk} (hr : RelF E σ a w) (hB : E.B i = some hv) (hl : σ.h.look i = some old) (hg : w.grownBy w' (blockOf hv)) (hsz : w'.heap.size = w.heap.size)
    (hblk : Ext E w E w' → BlkRel w' E blk hv) (hm : blk.mine = true) : RelF E { σ with h := σ.h.set i blk } a w' ∧ Ext E w E w' := by
  have hne : ∀ b, E.S b ∨ E.D b → some b ≠ blockOf hv := fun b hb he => by
    obtain ⟨_, q2, q3⟩ := hr.rel.own i hv b hB he.symm
    exact hb.elim q2 q3
  have hE : Ext E w E w' := ⟨hg.os, hg.tape, hg.output, hg.size, fun b hb => hg.block b (hb.elim (hr.rel.slt b) (hr.rel.dlt b)) (hne b hb), fun _ h => h, fun _ h => .inl h, fun _ => .rfl, fun _ h => h, fun _ _ _ h => h, fun _ _ _ h => h⟩
  refine ⟨⟨⟨fun j blk' hlj => ?_, fun j v hBj => ?_, hr.rel.domF, fun j v b hBj hbk => ?_, hr.rel.apart, fun b hb => by rw [hsz]; exact hr.rel.slt b hb, fun b hb => by rw [hsz]; exact hr.rel.dlt b hb⟩, hr.bound, hE.rdVs _ hr.fr, hr.defers⟩, hE⟩
  · rw [Heap.look_set _ _ _ hl] at hlj
    split at hlj
    · rename_i hji
      subst hji
      injection hlj with hlj
      subst hlj
      exact ⟨hv, by rw [at_mine hm]; exact hB, hblk hE⟩
    · rename_i hji
      obtain ⟨v, hBj, hrel⟩ := hr.rel.has j blk' hlj
      refine ⟨v, hBj, ?_⟩
      cases hmj : blk'.mine with
      | true =>
        have hBj' : E.B j = some v := by rw [← at_mine hmj]; exact hBj
        refine hrel.keep hE fun b hb => ?_
        refine hg.block b (hr.rel.own j v b hBj' hb).1 fun he => ?_
        exact hji (hr.rel.apart j i v hv b hBj' hB hb he.symm)
      | false =>
        cases blk' <;> first | exact hE.rdT hrel | simp [Blk.mine] at hmj
  · obtain ⟨q1, q2⟩ := hr.rel.dom j v hBj
    refine ⟨q1, ?_⟩
    rw [Heap.look_set _ _ _ hl]
    split
    · exact ⟨_, rfl⟩
    · exact q2
  · obtain ⟨q1, q2⟩ := hr.rel.own j v b hBj hbk
    exact ⟨by rw [hsz]; exact q1, q2⟩

def putCells (cs : List V) (off : Nat) (xs : List V) : List V := cs.take off ++ xs ++ cs.drop (off + xs.length)
def tCells : List V → Option (List T)
  | [] => some []
  | .t x :: r => (tCells r).map (x :: ·)
  | _ :: _ => none
def storeV (P : Program) (h : Heap) (t : TypeId) (p x : V) (K : Heap → Prop) : Prop :=
  x.cells.all V.isCell = true ∧ P.szT t = some x.cells.length ∧
  match p with
  | .own i => match h.look i with
    | some (.box cs) => x.cells.length ≤ cs.length ∧ K (h.set i (.box (putCells cs 0 x.cells)))
    | _ => False
  | .ptr i off => match h.look i with
    | some (.box cs) => off + x.cells.length ≤ cs.length ∧ K (h.set i (.box (putCells cs off x.cells)))
    | _ => False
  | .rptr i k n j => match h.look i with
    | some (.row e k' d xs) => k' = k ∧ n < xs.length ∧ j + x.cells.length ≤ k ∧ K (h.set i (.row e k d (xs.set n (putCells (nthV d xs n) j x.cells))))
    | _ => False
  | _ => False

theorem run_storeAt {t : TypeId} {b off n : Nat} {v : Value} {cur : Array Value} {ty : TypeId} {w : World} (hg : w.heap[b]? = some (.cells cur ty (0, 0))) (hs : P.szT t = some v.cells.size) (hfit : off + v.cells.size ≤ cur.size)
    (h1 : v.cells.toList.all (·.oneCell') = true) : (Instr.storeAt t (.pointer (some ⟨b, off, none⟩)) v).run P w = .ok () (w.setRow b (cur.toList.take off ++ v.cells.toList ++ cur.toList.drop (off + v.cells.size)).toArray) := by
  have := run_storeCells_at P b off ty v.cells.toList 0 cur w hg (by simpa using hfit) (fun x hx => (List.all_eq_true.1 h1) x hx)
  simp only [Nat.add_zero, Array.length_toList] at this
  simp [Instr.storeAt, Instr.sureAddr, storeVar, run_sizeOf hs, this]

theorem grown_setRow (w : World) (b : Nat) (cs : Array Value) : w.grownBy (w.setRow b cs) (some b) :=
  ⟨rfl, rfl, rfl, by simp, fun k _ hk => setRow_other w b k cs fun h => hk (by rw [h])⟩

theorem store_box {w : World} {E : Env} {a : Act} {i b off : Nat} {cs : List V} {x : V} {v : Value} {vs : Array Value} {ty t : TypeId} (hr : RelF E σ a w) (hl : σ.h.look i = some (.box cs)) (hB : E.B i = some (.pointer (some ⟨b, 0, none⟩)))
    (hh : w.heap[b]? = some (.cells vs ty (0, 0))) (hvs : RdVs w E cs vs.toList) (h1 : vs.toList.all (·.oneCell') = true) (hx : RdV w E x v) (hc : x.cells.all V.isCell = true) (hs : P.szT t = some x.cells.length)
    (hfit : off + x.cells.length ≤ cs.length) : ∃ w', (Instr.storeAt t (.pointer (some ⟨b, off, none⟩)) v).run P w = .ok () w' ∧ RelF E { σ with h := σ.h.set i (.box (putCells cs off x.cells)) } a w' ∧ Ext E w E w' := by
  have hcells := V.cells_ok hx hc
  have hl1 := RdVs.len hcells
  have hl2 := RdVs.len hvs
  simp only [Array.length_toList] at hl1 hl2
  have hones := RdVs.ones hc hcells
  refine ⟨_, run_storeAt (n := 0) hh (by rw [← hl1]; exact hs) (by omega) hones, ?_⟩
  refine hr.upd hB hl (by simpa [blockOf] using grown_setRow w b _) (by simp) (fun hE => ?_) rfl
  refine ⟨b, _, ty, rfl, setRow_heap w b vs _ ty _ hh, ?_, ?_⟩
  · refine hE.rdVs _ ?_
    rw [← hl1]
    exact RdVs.append (RdVs.append (RdVs.take off hvs) hcells) (RdVs.drop _ hvs)
  · simp only [List.all_append, Bool.and_eq_true, List.all_eq_true] at h1 hones ⊢
    exact ⟨⟨fun y hy => h1 y (List.mem_of_mem_take hy), hones⟩, fun y hy => h1 y (List.mem_of_mem_drop hy)⟩

theorem rdTs_of_cells {w : World} {E : Env} : ∀ {xs : List V} {ts : List T} {vs : List Value}, tCells xs = some ts → RdVs w E xs vs → RdTs w E.S ts vs
  | [], ts, [], h, _ => by simp [tCells] at h; subst h; trivial
  | x :: xs, ts, v :: vs, h, hr => by
    simp only [RdVs] at hr
    cases x <;> simp [tCells] at h
    obtain ⟨r, h1, h2⟩ := h
    subst h2
    refine ⟨?_, rdTs_of_cells h1 hr.2⟩
    have := hr.1
    simp only [RdV] at this
    exact this
  | [], _, _ :: _, _, h => by simp only [RdVs] at h
  | _ :: _, _, [], _, h => by simp only [RdVs] at h
theorem tCells_len : ∀ {xs : List V} {ts : List T}, tCells xs = some ts → ts.length = xs.length
  | [], ts, h => by simp [tCells] at h; subst h; rfl
  | x :: xs, ts, h => by
    cases x <;> simp [tCells] at h
    obtain ⟨r, h1, h2⟩ := h
    subst h2
    simp [tCells_len h1]
end
end Go.Proofs.Ytnbmiejjkkgckaa
/- Proved here: Stores, slices made and appends of the abstract machine, for use in the proofs of the given statements; conditions stand in each theorem. -/
set_option linter.unusedSimpArgs false
set_option linter.unusedVariables false
set_option linter.unnecessarySimpa false
namespace Go.Proofs.Ytnbmiejjkkgckaa
open Go.RowKit

theorem drop_part {α : Type} (L : List α) (a k m : Nat) (h : m ≤ k) : ((L.drop a).take k).drop m ++ L.drop (a + k) = L.drop (a + m) := by
  rw [← List.drop_drop, ← List.drop_drop]
  generalize L.drop a = M
  rw [List.drop_take, show M.drop k = (M.drop m).drop (k - m) from by rw [List.drop_drop]; congr 1; omega]
  exact List.take_append_drop _ _
theorem flatten_set {α : Type} {k : Nat} : ∀ (xs : List (List α)) (n : Nat) (e' : List α), (∀ x ∈ xs, x.length = k) → n < xs.length → e'.length = k → (xs.set n e').flatten = xs.flatten.take (n * k) ++ e' ++ xs.flatten.drop (n * k + k)
  | [], n, e', _, h, _ => by simp at h
  | x :: r, 0, e', hk, _, he => by
    have := hk x (by simp)
    simp [this]
  | x :: r, n + 1, e', hk, hn, he => by
    have h1 := hk x (by simp)
    rw [List.set_cons_succ, List.flatten_cons, flatten_set r n e' (fun y hy => hk y (by simp [hy])) (by simpa using hn) he, List.flatten_cons]
    have e1 : (n + 1) * k = x.length + n * k := by rw [Nat.add_mul, h1]; omega
    rw [e1, List.take_append, List.take_of_length_le (by omega : x.length ≤ x.length + n * k), Nat.add_sub_cancel_left]
    have e2 : x.length + n * k + k = x.length + (n * k + k) := by omega
    rw [e2, List.drop_append, List.drop_of_length_le (by omega : x.length ≤ x.length + (n * k + k)), Nat.add_sub_cancel_left]
    simp

section
variable {P : Program} {σ : St} {o : Oper} {K : St → Prop}

theorem opw_skip {σ' : St} (h : ∀ E a w, RelF E σ a w → ∃ w', (execOp a.eval o).run P w = .ok .skip w' ∧ RelF E σ' a w' ∧ Ext E w E w') (hd : o.dst = none) (hK : K σ') : OpW P o σ K := by
  intro E a w hr next Q hn
  obtain ⟨w', hrun, k1, k2⟩ := h E a w hr
  unfold Oper.wp
  rw [hrun]
  have : a.put o.dst undef = a := by rw [hd]; rfl
  show next (a.put o.dst undef) w'
  rw [this]
  exact hn _ w' _ _ k1 k2 hK

theorem run_store_op {t : TypeId} {p x : Operand} (ho : o.op = .store t p x) {ρ : Operand → Value} {w w' : World} (h : (Instr.storeAt t (ρ p) (ρ x)).run P w = .ok () w') : (execOp ρ o).run P w = .ok .skip w' := by
  simp only [execOp, ho, Sem.run_bind, h, Result.andThen_ok, Sem.run_pure]

/-- an operation that yields nothing, and leaves the environment alone -/
def SkipOp (P : Program) (o : Oper) (σ σ' : St) : Prop := ∀ E a w, RelF E σ a w → ∃ w', (execOp a.eval o).run P w = .ok .skip w' ∧ RelF E σ' a w' ∧ Ext E w E w'
theorem skip_store {t : TypeId} {p x : Operand} (ho : o.op = .store t p x) (h : useV true (σ.ev p) fun p' => useV true (σ.ev x) fun x' => storeV P σ.h t p' x' fun h' => K { σ with h := h' }) : ∃ σ', K σ' ∧ SkipOp P o σ σ' := by
  obtain ⟨p', h1, hp⟩ := useV_ok h
  obtain ⟨x', h2, hx⟩ := useV_ok h1
  obtain ⟨hc, hs, h3⟩ := h2
  split at h3
  · rename_i i
    split at h3
    · rename_i cs hl
      refine ⟨_, h3.2, fun E a w hr => ?_⟩
      obtain ⟨b, vs, ty, hB, hh, hvs, h1s⟩ := box_at hr.rel hl
      have e1 := hp w E _ rfl (hr.ev p)
      simp only [RdV] at e1
      obtain ⟨w', hrun, k1, k2⟩ := store_box (P := P) hr hl hB hh hvs h1s (hx w E _ rfl (hr.ev x)) hc hs (by omega : 0 + x'.cells.length ≤ cs.length)
      refine ⟨w', run_store_op ho ?_, k1, k2⟩
      rw [e1.2.2 _ (.inl hB)]
      exact hrun
    · exact h3.elim
  · rename_i i off
    split at h3
    · rename_i cs hl
      refine ⟨_, h3.2, fun E a w hr => ?_⟩
      obtain ⟨b, vs, ty, hB, hh, hvs, h1s⟩ := box_at hr.rel hl
      have e1 := hp w E _ rfl (hr.ev p)
      simp only [RdV] at e1
      obtain ⟨b', e3, e2⟩ := e1.2.2 _ (.inl hB)
      injection e3 with e3; injection e3 with e3; injection e3 with e3
      subst e3
      obtain ⟨w', hrun, k1, k2⟩ := store_box (P := P) hr hl hB hh hvs h1s (hx w E _ rfl (hr.ev x)) hc hs h3.1
      refine ⟨w', run_store_op ho ?_, k1, k2⟩
      rw [e2]
      exact hrun
    · exact h3.elim
  · rename_i i k n j
    split at h3
    · rename_i e k' d xs hl
      obtain ⟨hk, hn, hj, hK⟩ := h3
      subst hk
      refine ⟨_, hK, fun E a w hr => ?_⟩
      obtain ⟨hv, hB, cells, h5, h6, h7, h8⟩ := hr.rel.has i _ hl
      have h5' := h5
      rcases h5.2 with ⟨_, h0⟩ | ⟨g, cap, cur, rfl, _, hg, hcap, hcm, hcs, htake⟩
      · omega
      · have e1 := hp w E _ rfl (hr.ev p)
        simp only [RdV] at e1
        obtain ⟨b', m, c, e3, _, e2⟩ := e1.2.2 _ (.inl hB)
        injection e3 with e3 e4 e5; injection e3 with e3; injection e3 with e3
        subst e3
        have hcells := V.cells_ok (hx w E _ rfl (hr.ev x)) hc
        have hl1 := RdVs.len hcells
        simp only [Array.length_toList] at hl1
        have hnk : n * k' + k' ≤ xs.length * k' := by
          have : (n + 1) * k' ≤ xs.length * k' := Nat.mul_le_mul_right k' hn
          rw [Nat.add_mul, Nat.one_mul] at this; exact this
        have hck : xs.length * k' ≤ cap * k' := Nat.mul_le_mul_right k' hcap
        have hones := RdVs.ones hc hcells
        have hrun := run_storeAt (P := P) (n := 0) (t := t) (off := n * k' + j) hg (by rw [← hl1]; exact hs) (by omega) hones
        refine ⟨_, run_store_op ho (by rw [e2]; exact hrun), ?_⟩
        have hlen : cells.length = xs.length * k' := h5.1
        refine hr.upd hB hl (by simpa [blockOf] using grown_setRow w g _) (by simp) (fun hE => ?_) rfl
        have hT := hE.rdVs _ h6
        have hV := hE.rdVs _ hcells
        unfold putCells
        generalize x'.cells = ts at *
        generalize hvl : (a.eval x).cells = va at *
        have hnl : (nthV d xs n).length = k' := h7 _ (List.mem_of_getElem? (nthV_some hn))
        have hcurl : cur.toList.length = cap * k' := by simpa using hcs
        refine ⟨cells.take (n * k' + j) ++ va.toList ++ cells.drop (n * k' + j + va.size), ⟨?_, .inr ⟨g, cap, _, by simp, Nat.zero_le _, setRow_heap w g cur _ e _ hg, by simpa using hcap, hcm, ?_, ?_⟩⟩, ?_, ?_, ?_⟩
        · simp only [List.length_append, List.length_take, List.length_drop, Array.length_toList, List.length_set]
          omega
        · simp only [List.size_toArray, List.length_append, List.length_take, List.length_drop, Array.length_toList]
          omega
        · simp only [List.length_set]
          rw [← htake, List.take_append, List.take_append, List.take_take, List.take_take, List.drop_take]
          simp only [List.length_append, List.length_take, Array.length_toList, List.take_drop]
          rw [Nat.min_eq_left (by omega : n * k' + j ≤ xs.length * k'), Nat.min_eq_right (by omega : n * k' + j ≤ xs.length * k'), Nat.min_eq_left (by omega : n * k' + j ≤ cur.size),
            List.take_of_length_le (by simp; omega : va.toList.length ≤ xs.length * k' - (n * k' + j))]
        · rw [flatten_set xs n _ h7 hn (by simp only [List.length_append, List.length_take, List.length_drop]; omega)]
          have hp1 := flatten_part xs n _ h7 (nthV_some (d := d) hn)
          have q1 : (nthV d xs n).take j = (xs.flatten.drop (n * k')).take j := by rw [← hp1, List.take_take, Nat.min_eq_left (by omega)]
          have q2 : (nthV d xs n).drop (j + ts.length) ++ xs.flatten.drop (n * k' + k') = xs.flatten.drop (n * k' + (j + ts.length)) := by
            rw [← hp1]
            exact drop_part _ _ _ _ hj
          have q3 : xs.flatten.take (n * k') ++ (nthV d xs n).take j = xs.flatten.take (n * k' + j) := by
            rw [q1, List.take_add]
          have q4 : xs.flatten.take (n * k') ++ ((nthV d xs n).take j ++ ts ++ (nthV d xs n).drop (j + ts.length)) ++ xs.flatten.drop (n * k' + k') = xs.flatten.take (n * k' + j) ++ ts ++ xs.flatten.drop (n * k' + (j + ts.length)) := by
            rw [← q3, ← q2]; simp only [List.append_assoc]
          rw [q4]
          have e6 : va.size = ts.length := by omega
          have e7 : n * k' + j + va.size = n * k' + (j + ts.length) := by omega
          rw [e7] at hT hV ⊢
          exact RdVs.append (RdVs.append (RdVs.take _ hT) hV) (RdVs.drop _ hT)
        · intro y hy
          rcases List.mem_or_eq_of_mem_set hy with hy | rfl
          · exact h7 y hy
          · simp only [List.length_append, List.length_take, List.length_drop]; omega
        · simp only [List.all_append, Bool.and_eq_true, List.all_eq_true] at h8 hones ⊢
          exact ⟨⟨fun y hy => h8 y (List.mem_of_mem_take hy), hones⟩, fun y hy => h8 y (List.mem_of_mem_drop hy)⟩
    · exact h3.elim
  · exact h3.elim
theorem ow_store {t : TypeId} {p x : Operand} (ho : o.op = .store t p x) (hd : o.dst = none) (h : useV true (σ.ev p) fun p' => useV true (σ.ev x) fun x' => storeV P σ.h t p' x' fun h' => K { σ with h := h' }) : OpW P o σ K := by
  obtain ⟨σ', hK, hS⟩ := skip_store ho h
  exact opw_skip hS hd hK
end
end Go.Proofs.Ytnbmiejjkkgckaa
