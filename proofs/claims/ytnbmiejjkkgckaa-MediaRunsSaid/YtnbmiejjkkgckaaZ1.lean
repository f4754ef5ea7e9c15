/- Proved here: How the arguments of a statement are read by the abstract machine, type by type, and how a contract of a function gives its row, for use in the proofs of the given statements; conditions stand in each theorem. -/
import Derived.Test.YtnbmiejjkkgckaaZT
import Derived.WalkKit
import Derived.ProofKit
import Derived.OpenShut
import Derived.ShutString
import Derived.ChangeOld
import Derived.Below
import Derived.Carry
import Derived.WideShapes
import Derived.Test.YtnbmiejjkkgckaaZV
set_option linter.unusedSimpArgs false
set_option linter.unusedVariables false
set_option linter.unusedSimpArgs false
set_option linter.unusedVariables false
namespace Go.Proofs.Ytnbmiejjkkgckaa
open Go.RowKit Go.ChangeShapes Go.WideShapes

/-- every block that is there -/
def allS (w : World) : Nat → Prop := fun b => b < w.heap.size
/-- cells of a type read al the list that 'c' gives -/
def Opens {α : Type} (P : Program) (t : TypeId) (c : α → List T) : Prop :=
  ∀ {H : Type} (enc : TypeId × Value → H) (w : World) (spare : Nat → Bool) (held : Bool) (n : Nat) (cs : List Value) (x : DataW H × List MemPlace), DataW.trod enc P w 0 spare held n t cs = some x → ∃ a, RdTs w (allS w) (c a) cs
section
variable {P : Program} {t : TypeId} {α β : Type}
theorem Opens.map {c : α → List T} {c' : β → List T} (g : α → β) (h : ∀ a, c' (g a) = c a) (ho : Opens P t c) : Opens P t c' := by
  intro H enc w spare held n cs x hx
  obtain ⟨a, ha⟩ := ho enc w spare held n cs x hx
  exact ⟨g a, by rw [h]; exact ha⟩
theorem opens_bool (ht : P.underlying t = some .bool) : Opens P t fun b : Bool => [.lit (.bool b)] := by
  intro H enc w spare held n cs x hx
  obtain ⟨b, rfl, _⟩ := DataW.trod_bool ht hx
  exact ⟨b, .lit _ rfl trivial, trivial⟩
theorem opens_int {k : IntKind} (ht : P.underlying t = some (.int k)) : Opens P t fun n : Int => [.lit (.int k n)] := by
  intro H enc w spare held n cs x hx
  obtain ⟨b, rfl, _⟩ := DataW.trod_int ht hx
  exact ⟨b, .lit _ rfl trivial, trivial⟩
theorem opens_string (ht : P.underlying t = some .string) : Opens P t fun s : ByteArray => [.lit (.string s)] := by
  intro H enc w spare held n cs x hx
  obtain ⟨s, rfl, _, hs⟩ := DataW.trod_string ht hx
  exact ⟨s, .lit _ rfl hs, trivial⟩
theorem choose_list {Q : Nat → α → Prop} : ∀ (n : Nat), (∀ i, i < n → ∃ a, Q i a) → ∃ al : List α, al.length = n ∧ ∀ i a, al[i]? = some a → Q i a
  | 0, _ => ⟨[], rfl, by simp⟩
  | n + 1, h => by
    obtain ⟨al, h1, h2⟩ := choose_list n fun i hi => h i (by omega)
    obtain ⟨a, ha⟩ := h n (by omega)
    refine ⟨al ++ [a], by simp [h1], fun i b hb => ?_⟩
    by_cases hi : i < n
    · rw [List.getElem?_append_left (by omega)] at hb
      exact h2 i b hb
    · have hi2 : i < (al ++ [a]).length := (List.getElem?_eq_some_iff.1 hb).1
      have : i = n := by simp [h1] at hi2; omega
      subst this
      rw [List.getElem?_append_right (by omega), h1] at hb
      simp at hb
      subst hb; exact ha
theorem cell_spot {w : World} {a : Addr} {v : Value} (h : w.cell? a = some v) : a.spot = none := by
  unfold World.cell? at h
  split at h
  · cases hs : a.spot with
    | none => rfl
    | some x => rw [hs] at h; simp at h
  · cases h
theorem cell_lts {w : World} {a : Addr} {v : Value} (h : w.cell? a = some v) : a.block < w.heap.size := by
  unfold World.cell? at h
  split at h
  · rename_i hh
    exact (Array.getElem?_eq_some_iff.1 hh).1
  · cases h
theorem rdTs_at {w : World} {S : Nat → Prop} : ∀ {xs : List T} {vs : List Value} {j : Nat} {x : T} {v : Value}, RdTs w S xs vs → xs[j]? = some x → vs[j]? = some v → RdT w S x v
  | x :: xs, v :: vs, 0, _, _, h, hx, hv => by simp at hx hv; subst hx hv; exact h.1
  | x :: xs, v :: vs, j + 1, _, _, h, hx, hv => rdTs_at (j := j) h.2 (by simpa using hx) (by simpa using hv)
  | [], _, _, _, _, _, hx, _ => by simp at hx
  | _ :: _, [], _, _, _, h, _, _ => h.elim
theorem opens_slice {e : TypeId} {c : α → List T} {k : Nat} (d : List T) (ht : P.underlying t = some (.slice e)) (he : Opens P e c) (hk : P.cellsOf e = k) (hc : ∀ a, (c a).length = k) (hpos : 0 < k) :
    Opens P t fun al : List α => [.list k d (al.map c)] := by
  subst hk
  intro H enc w spare held n cs x hx
  rcases DataW.trod_slice ht hx with ⟨rfl, _⟩ | ⟨a, len, cap, elems, rest, m, rfl, rfl, rfl, hb, hl, hm, hlen, hel, _, _⟩
  · exact ⟨[], .list _ _ _ none 0 (Nat.zero_le _) (Nat.zero_le _) (fun _ => rfl) (by simp) (by simp) (by simp), trivial⟩
  · obtain ⟨al, h1, h2⟩ := choose_list (Q := fun i x => ∃ cs, w.cells? 0 (a.add (i * P.cellsOf e)) (P.cellsOf e) = some cs ∧ RdTs w (allS w) (c x) cs) len fun i hi => by
      have h3 := hel i hi
      rw [List.getElem?_eq_getElem (by omega)] at h3
      obtain ⟨cs, h4, h5⟩ := Option.bind_eq_some_iff.1 h3
      obtain ⟨y, hy⟩ := he enc w spare held m cs _ h5
      exact ⟨y, cs, h4, hy⟩
    refine ⟨al, ?_, trivial⟩
    have hlen' : (al.map c).length = len := by simp [h1]
    rw [← hlen']
    have key : ∀ i y, al[i]? = some y → ∃ cs, RdTs w (allS w) (c y) cs ∧ cs.length = P.cellsOf e ∧ a.spot = none ∧ a.block < w.heap.size ∧ ∀ j, j < P.cellsOf e → w.cell? ⟨a.block, a.off + i * P.cellsOf e + j, none⟩ = cs[j]? := by
      intro i y hy
      obtain ⟨cs, h3, h4⟩ := h2 i y hy
      obtain ⟨_, h5, h6⟩ := World.cells?_some h3
      have h0 := h6 0 hpos
      rw [List.getElem?_eq_getElem (by omega)] at h0
      have hlt := cell_lts h0
      have hsp : a.spot = none := by
        have hl0 : 0 < al.length := by have := (List.getElem?_eq_some_iff.1 hy).1; omega
        obtain ⟨cs0, g3, g4⟩ := h2 0 _ (List.getElem?_eq_getElem hl0)
        obtain ⟨_, g5, g6⟩ := World.cells?_some g3
        have g0 := g6 0 hpos
        rw [List.getElem?_eq_getElem (by omega), Nat.zero_mul] at g0
        have e0 : (a.add 0).add 0 = a := by simp [Addr.add]
        rw [e0] at g0
        exact cell_spot g0
      obtain ⟨b, off, sp⟩ := a
      have hsp' : sp = none := hsp
      subst hsp'
      rw [Addr.add_lit, Addr.add_lit] at hlt
      refine ⟨cs, h4, h5, rfl, hlt, fun j hj => ?_⟩
      have := h6 j hj
      rw [Addr.add_lit, Addr.add_lit] at this
      exact this
    refine .list _ _ _ (some a) cap (by omega) (by omega) (fun h => by cases h) ?_ ?_ ?_
    · intro y hy
      obtain ⟨z, _, rfl⟩ := List.mem_map.1 hy
      exact hc z
    · intro i y hy
      rw [List.getElem?_map, Option.map_eq_some_iff] at hy
      obtain ⟨z, hz, rfl⟩ := hy
      obtain ⟨cs, k1, k2, k3, k4, k5⟩ := key i z hz
      obtain ⟨b, off, sp⟩ := a
      have k3' : sp = none := k3
      subst k3'
      refine ⟨b, off, rfl, k4, fun j x hx => ?_⟩
      have hj : j < P.cellsOf e := by rw [← hc z]; exact (List.getElem?_eq_some_iff.1 hx).1
      exact ⟨cs[j]'(by omega), by rw [k5 j hj, List.getElem?_eq_getElem (by omega)]⟩
    · intro i y j x' b off u hy hx' hA hu
      rw [List.getElem?_map, Option.map_eq_some_iff] at hy
      obtain ⟨z, hz, rfl⟩ := hy
      obtain ⟨cs, k1, k2, k3, k4, k5⟩ := key i z hz
      injection hA with hA
      subst hA
      have hj : j < P.cellsOf e := by rw [← hc z]; exact (List.getElem?_eq_some_iff.1 hx').1
      rw [k5 j hj] at hu
      exact rdTs_at k1 hx' hu

/-! structs -/
def laysF (P : Program) : List Field → Nat → Option Nat
  | [], o => some o
  | f :: r, o => if f.offset = o then laysF P r (o + P.cellsOf f.type) else none
theorem laysF_le {P : Program} : ∀ {fs : List Field} {o e : Nat}, laysF P fs o = some e → o ≤ e
  | [], o, e, h => by simp [laysF] at h; omega
  | f :: r, o, e, h => by
    unfold laysF at h
    split at h
    · have := laysF_le h; omega
    · cases h
def OpensF (P : Program) (fs : List Field) (c : α → List T) : Prop :=
  ∀ {H : Type} (enc : TypeId × Value → H) (w : World) (spare : Nat → Bool) (held : Bool) (n : Nat) (cs : List Value), (∀ f ∈ fs, ∃ x, DataW.trod enc P w 0 spare held n f.type ((cs.drop f.offset).take (P.cellsOf f.type)) = some x) →
    ∀ o e, laysF P fs o = some e → ∃ a, RdTs w (allS w) (c a) ((cs.drop o).take (e - o))
theorem opensF_nil : OpensF P [] fun _ : Unit => [] := by
  intro H enc w spare held n cs _ o e h
  simp [laysF] at h
  subst h
  exact ⟨(), by simp [RdTs]⟩
theorem opensF_cons {f : Field} {r : List Field} {c : α → List T} {c' : β → List T} (h1 : Opens P f.type c) (h2 : OpensF P r c') : OpensF P (f :: r) fun x : α × β => c x.1 ++ c' x.2 := by
  intro H enc w spare held n cs hx o e hl
  unfold laysF at hl
  split at hl
  · rename_i ho
    obtain ⟨x, hx1⟩ := hx f (by simp)
    obtain ⟨a, ha⟩ := h1 enc w spare held n _ _ hx1
    obtain ⟨b, hb⟩ := h2 enc w spare held n cs (fun g hg => hx g (by simp [hg])) _ _ hl
    have hle := laysF_le hl
    refine ⟨(a, b), ?_⟩
    have : (cs.drop o).take (e - o) = (cs.drop f.offset).take (P.cellsOf f.type) ++ (cs.drop (o + P.cellsOf f.type)).take (e - (o + P.cellsOf f.type)) := by
      rw [ho, show e - o = P.cellsOf f.type + (e - (o + P.cellsOf f.type)) by omega, List.take_add, List.drop_drop]
    rw [this]
    exact RdTs.append ha hb
  · cases hl
theorem opens_struct {fs : Array Field} {c : α → List T} (ht : P.underlying t = some (.struct fs)) (hl : laysF P fs.toList 0 = some (P.cellsOf t)) (h : OpensF P fs.toList c) : Opens P t c := by
  intro H enc w spare held n cs x hx
  obtain ⟨xs, m, rfl, rfl, h1, h2, h3⟩ := DataW.trod_struct ht hx
  obtain ⟨a, ha⟩ := h enc w spare held m cs (fun f hf => by
    obtain ⟨i, hi, rfl⟩ := List.mem_iff_getElem.1 hf
    have hi' : i < fs.size := by simpa using hi
    have := h3 i fs[i] (by simp [hi'])
    rw [List.getElem?_eq_getElem (by omega)] at this
    exact ⟨_, by simpa using this⟩) 0 _ hl
  refine ⟨a, ?_⟩
  simpa [← h1] using ha
end

/-! arguments -/
def OpensV {α : Type} (P : Program) (t : TypeId) (v : α → V) : Prop :=
  ∀ {H : Type} (enc : TypeId × Value → H) (w : World) (spare : Nat → Bool) (held : Bool) (val : Value) (d : DataW H) (p : List MemPlace), Value.okWide P w .any 0 t val → DataW.Trod enc P w 0 spare held t val d p → ∃ a, RdV w (bareE (allS w)) (v a) val
section
variable {P : Program} {t : TypeId} {α β : Type}
theorem one_cell {w : World} {S : Nat → Prop} {x : T} {u : Value} {l : List Value} (hl : l = [u]) (h : RdTs w S [x] l) : RdV w (bareE S) (.t x) u := by
  subst hl
  simp only [RdV]
  exact h.1
theorem opensV_bool (ht : P.underlying t = some .bool) : OpensV P t fun b : Bool => .t (.lit (.bool b)) := by
  rintro H enc w spare held val d p hv ⟨n, hn⟩
  obtain ⟨b, rfl⟩ := okWide_bool ht hv
  obtain ⟨a, ha⟩ := opens_bool ht enc w spare held n _ _ hn
  exact ⟨a, one_cell rfl ha⟩
theorem opensV_int {k : IntKind} (ht : P.underlying t = some (.int k)) : OpensV P t fun n : Int => .t (.lit (.int k n)) := by
  rintro H enc w spare held val d p hv ⟨n, hn⟩
  obtain ⟨b, rfl⟩ := okWide_int ht hv
  obtain ⟨a, ha⟩ := opens_int ht enc w spare held n _ _ hn
  exact ⟨a, one_cell rfl ha⟩
theorem opensV_string (ht : P.underlying t = some .string) : OpensV P t fun s : ByteArray => .t (.lit (.string s)) := by
  rintro H enc w spare held val d p hv ⟨n, hn⟩
  obtain ⟨b, rfl⟩ := okWide_string ht hv
  obtain ⟨a, ha⟩ := opens_string ht enc w spare held n _ _ hn
  exact ⟨a, one_cell rfl ha⟩
theorem opensV_slice {e : TypeId} {x : α → T} (ht : P.underlying t = some (.slice e)) (ho : Opens P t fun a => [x a]) : OpensV P t fun a => .t (x a) := by
  rintro H enc w spare held val d p hv ⟨n, hn⟩
  obtain ⟨A, l, c, rfl⟩ := okWide_slice ht hv
  obtain ⟨a, ha⟩ := ho enc w spare held n _ _ hn
  exact ⟨a, one_cell rfl ha⟩
theorem opensV_struct {fs : Array Field} {c : α → List T} (ht : P.underlying t = some (.struct fs)) (ho : Opens P t c) : OpensV P t fun a => .agg ((c a).map .t) := by
  rintro H enc w spare held val d p hv ⟨n, hn⟩
  obtain ⟨cs, rfl, hs⟩ := okWide_struct ht hv
  obtain ⟨a, ha⟩ := ho enc w spare held n _ _ hn
  have hcs : (Value.agg cs).cells.toList = cs.toList := rfl
  rw [hcs] at ha
  refine ⟨a, ?_⟩
  simp only [RdV]
  refine ⟨cs, rfl, RdVs.ofT ha, ?_⟩
  have : ∀ {xs : List T} {vs : List Value}, RdTs w (allS w) xs vs → vs.all (·.oneCell') = true := by
    intro xs
    induction xs with
    | nil => intro vs h; cases vs with
      | nil => rfl
      | cons _ _ => exact h.elim
    | cons x xs ih => intro vs h; cases vs with
      | nil => exact h.elim
      | cons v vs => simp only [List.all_cons, Bool.and_eq_true]; exact ⟨h.1.one, ih h.2⟩
  exact this ha
/-- all arguments -/
def OpensVs (P : Program) (ts : List TypeId) (vs : α → List V) : Prop :=
  ∀ {H : Type} (enc : TypeId × Value → H) (w : World) (spare : Nat → Bool) (held : Bool) (args : List Value) (ds : List (DataW H)) (p : List MemPlace), (∀ (j : Nat) t v, ts[j]? = some t → args[j]? = some v → Value.okWide P w .any 0 t v) →
    DataW.TrodAll enc P w 0 spare held ts args ds p → ∃ a, RdVs w (bareE (allS w)) (vs a) args
theorem opensVs_nil : OpensVs P [] fun _ : Unit => [] := by
  intro H enc w spare held args ds p hv h
  cases args with
  | nil => exact ⟨(), by simp [RdVs]⟩
  | cons _ _ => cases ds <;> exact h.elim
theorem opensVs_cons {ts : List TypeId} {v : α → V} {vs : β → List V} (h1 : OpensV P t v) (h2 : OpensVs P ts vs) : OpensVs P (t :: ts) fun x : α × β => v x.1 :: vs x.2 := by
  intro H enc w spare held args ds p hv h
  cases args with
  | nil => cases ds <;> exact h.elim
  | cons u us =>
    cases ds with
    | nil => exact h.elim
    | cons d ds =>
      obtain ⟨p1, p2, k1, k2, rfl⟩ := h
      obtain ⟨a, ha⟩ := h1 enc w spare held u d p1 (hv 0 t u rfl rfl) k1
      obtain ⟨b, hb⟩ := h2 enc w spare held us ds p2 (fun j t v ht hv' => hv (j + 1) t v (by simpa using ht) (by simpa using hv')) k2
      exact ⟨(a, b), by simp only [RdVs]; exact ⟨ha, hb⟩⟩
/-- all arguments read al they did -/
def keepsB (P : Program) (ts : List TypeId) : Bool := ts.all fun t => P.readableRec t && decide (t < P.types.size)
theorem trodAll_keep {H : Type} {enc : TypeId × Value → H} (hl : laidOutB P = true) {W W' : World} (hb : Below W.heap.size W W') : ∀ {ts : List TypeId} {vs : List Value} {ds : List (DataW H)} {p : List MemPlace}, keepsB P ts = true →
    DataW.TrodAll enc P W 0 (fun _ => true) true ts vs ds p → DataW.TrodAll enc P W' 0 (fun b => decide (b < W.heap.size)) true ts vs ds p
  | [], [], [], _, _, h => h
  | t :: ts, v :: vs, d :: ds, p, hk, h => by
    obtain ⟨p1, p2, k1, k2, rfl⟩ := h
    simp only [keepsB, List.all_cons, Bool.and_eq_true, decide_eq_true_eq] at hk
    refine ⟨p1, p2, Below.trod hl hk.1.1 hk.1.2 k1 hb ?_, trodAll_keep hl hb (by simpa [keepsB] using hk.2) k2, rfl⟩
    obtain ⟨m, hm⟩ := k1
    exact DataW.trod_lt m _ _ _ hm
  | [], _ :: _, _, _, _, h => h.elim
  | [], [], _ :: _, _, _, h => h.elim
  | _ :: _, [], _, _, _, h => h.elim
  | _ :: _, _ :: _, [], _, _, h => h.elim
end
end Go.Proofs.Ytnbmiejjkkgckaa
/- Proved here: How the arguments of the media statements are read by the abstract machine, for use in the proofs of the given statements; conditions stand in each theorem. -/
set_option linter.unusedSimpArgs false
set_option linter.unusedVariables false
namespace Go.Proofs.Ytnbmiejjkkgckaa
open Go.RowKit
theorem o3 : Opens Try.prog 3 intC := opens_int (k := .i64) Try.underlying3
theorem o31 : Opens Try.prog 31 fun l : List Int => [tints l] := opens_slice (intC 0) Try.underlying31 o3 (by kernel_rfl) (fun _ => rfl) (by decide)
theorem a31 : OpensV Try.prog 31 fun l : List Int => .t (tints l) := opensV_slice Try.underlying31 o31
theorem a23 : OpensV Try.prog 23 fun n : Int => .t (.lit (.int .u64 n)) := opensV_int Try.underlying23
theorem a3 : OpensV Try.prog 3 fun n : Int => vint n := opensV_int Try.underlying3
theorem a4 : OpensV Try.prog 4 fun b : Bool => vbool b := opensV_bool Try.underlying4
theorem a9 : OpensV Try.prog 9 fun s : ByteArray => vstr s := opensV_string Try.underlying9
theorem o9 : Opens Try.prog 9 fun s : ByteArray => [.lit (.string s)] := opens_string Try.underlying9
theorem o23 : Opens Try.prog 23 fun n : Int => [.lit (.int .u64 n)] := opens_int Try.underlying23
theorem o4 : Opens Try.prog 4 fun b : Bool => [.lit (.bool b)] := opens_bool Try.underlying4
theorem o37 : Opens Try.prog 37 FileR.c :=
  Opens.map (fun x : ByteArray × Int × Bool × Unit => ⟨x.1, x.2.1, x.2.2.1⟩) (fun _ => rfl) (opens_struct Try.underlying37 (by kernel_rfl) (opensF_cons o9 (opensF_cons o23 (opensF_cons o4 opensF_nil))))
theorem o39 : Opens Try.prog 39 LinkR.c :=
  Opens.map (fun x : ByteArray × ByteArray × Int × ByteArray × Unit => ⟨x.1, x.2.1, x.2.2.1, x.2.2.2.1⟩) (fun _ => rfl) (opens_struct Try.underlying39 (by kernel_rfl) (opensF_cons o9 (opensF_cons o9 (opensF_cons o23 (opensF_cons o9 opensF_nil)))))
theorem o45 : Opens Try.prog 45 EventR.c :=
  Opens.map (fun x : Int × ByteArray × ByteArray × ByteArray × Int × Unit => ⟨x.1, x.2.1, x.2.2.1, x.2.2.2.1, x.2.2.2.2.1⟩) (fun _ => rfl)
    (opens_struct Try.underlying45 (by kernel_rfl) (opensF_cons o3 (opensF_cons o9 (opensF_cons o9 (opensF_cons o9 (opensF_cons o23 opensF_nil))))))
theorem o27 : Opens Try.prog 27 fun l : List FileR => [tfiles l] := opens_slice (FileR.c default) Try.underlying27 o37 (by kernel_rfl) (fun _ => rfl) (by decide)
theorem o28 : Opens Try.prog 28 fun l : List LinkR => [tlinks l] := opens_slice (LinkR.c default) Try.underlying28 o39 (by kernel_rfl) (fun _ => rfl) (by decide)
def StateR.c (s : StateR) : List T := [tfiles s.files, tlinks s.links]
theorem o30 : Opens Try.prog 30 StateR.c :=
  Opens.map (fun x : List FileR × List LinkR × Unit => ⟨x.1, x.2.1⟩) (fun _ => rfl) (opens_struct Try.underlying30 (by kernel_rfl) (opensF_cons o27 (opensF_cons o28 opensF_nil)))
theorem a30 : OpensV Try.prog 30 fun s : StateR => vstate s := opensV_struct Try.underlying30 o30
theorem a45 : OpensV Try.prog 45 fun e : EventR => vevent e := opensV_struct Try.underlying45 o45
end Go.Proofs.Ytnbmiejjkkgckaa
