/- Proved here: How expressions, a type that holds lists of itself, are read by the abstract machine, for use in the proofs of the given statements; conditions stand in each theorem. -/
import Derived.Test.YtkppmlignfhdeaaZP
import Derived.Test.YtkppmlignfhdeaaY1
set_option linter.unusedSimpArgs false
set_option linter.unusedVariables false
set_option linter.unusedSectionVars false
set_option linter.unusedSimpArgs false
set_option linter.unusedVariables false
set_option linter.unnecessarySimpa false
namespace Go.Proofs.Ytkppmlignfhdeaa
open Go.RowKit
set_option maxRecDepth 4000
open Go.ChangeShapes Go.WideShapes
/-- cells of a type read as the list that 'c' gives, with so much fuel -/
def OpensAt {α : Type} (P : Program) (t : TypeId) (c : α → List T) (n : Nat) : Prop :=
  ∀ (H : Type) (enc : TypeId × Value → H) (w : World) (spare : Nat → Bool) (held : Bool) (cs : List Value) (x : DataW H × List MemPlace), DataW.trod enc P w 0 spare held n t cs = some x → ∃ a, RdTs w (allS w) (c a) cs
section
variable {P : Program} {t : TypeId} {α β : Type}
theorem opens_at {c : α → List T} (h : Opens P t c) (n : Nat) : OpensAt P t c n := fun _ enc w spare held cs x hx => h enc w spare held n cs x hx
theorem at_opens {c : α → List T} (h : ∀ n, OpensAt P t c n) : Opens P t c := fun enc w spare held n cs x hx => h n _ enc w spare held cs x hx
theorem OpensAt.map {n : Nat} {c : α → List T} {c' : β → List T} (g : α → β) (h : ∀ a, c' (g a) = c a) (ho : OpensAt P t c n) : OpensAt P t c' n := by
  intro H enc w spare held cs x hx
  obtain ⟨a, ha⟩ := ho H enc w spare held cs x hx
  exact ⟨g a, by rw [h]; exact ha⟩
theorem opens_slice_at {n : Nat} {e : TypeId} {c : α → List T} {k : Nat} (d : List T) (ht : P.underlying t = some (.slice e)) (he : ∀ m, n = m + 1 → OpensAt P e c m) (hk : P.cellsOf e = k) (hc : ∀ a, (c a).length = k) (hpos : 0 < k) :
    OpensAt P t (fun al : List α => [.list k d (al.map c)]) n := by
  subst hk
  intro H enc w spare held cs x hx
  rcases DataW.trod_slice ht hx with ⟨rfl, _⟩ | ⟨a, len, cap, elems, rest, m, rfl, rfl, rfl, hb, hl, hm, hlen, hel, _, _⟩
  · exact ⟨[], .list _ _ _ none 0 (Nat.zero_le _) (Nat.zero_le _) (fun _ => rfl) (by simp) (by simp) (by simp), trivial⟩
  · obtain ⟨al, h1, h2⟩ := choose_list (Q := fun i x => ∃ cs, w.cells? 0 (a.add (i * P.cellsOf e)) (P.cellsOf e) = some cs ∧ RdTs w (allS w) (c x) cs) len fun i hi => by
      have h3 := hel i hi
      rw [List.getElem?_eq_getElem (by omega)] at h3
      obtain ⟨cs, h4, h5⟩ := Option.bind_eq_some_iff.1 h3
      obtain ⟨y, hy⟩ := he m rfl H enc w spare held cs _ h5
      exact ⟨y, cs, h4, hy⟩
    refine ⟨al, ?_, trivial⟩
    have hlen' : (al.map c).length = len := by simp [h1]
    rw [← hlen']
    have key : ∀ i y, al[i]? = some y → ∃ cs, RdTs w (allS w) (c y) cs ∧ cs.length = P.cellsOf e ∧ a.spot = none ∧ a.block < w.heap.size ∧ ∀ j, j < P.cellsOf e → w.cell? ⟨a.block, a.off + i * P.cellsOf e + j, none⟩ = cs[j]? := by
      intro i y hy
      obtain ⟨cs, h3, h4⟩ := h2 i y hy
      obtain ⟨_, h5, h6⟩ := World.cells?_some h3
      have h0 := h6 0 hpos
      rw [List.getElem?_eq_getElem (by omega)] at h0
      have hlt := cell_lts h0
      have hsp : a.spot = none := by
        have hl0 : 0 < al.length := by have := (List.getElem?_eq_some_iff.1 hy).1; omega
        obtain ⟨cs0, g3, g4⟩ := h2 0 _ (List.getElem?_eq_getElem hl0)
        obtain ⟨_, g5, g6⟩ := World.cells?_some g3
        have g0 := g6 0 hpos
        rw [List.getElem?_eq_getElem (by omega), Nat.zero_mul] at g0
        have e0 : (a.add 0).add 0 = a := by simp [Addr.add]
        rw [e0] at g0
        exact cell_spot g0
      obtain ⟨b, off, sp⟩ := a
      have hsp' : sp = none := hsp
      subst hsp'
      rw [Addr.add_lit, Addr.add_lit] at hlt
      refine ⟨cs, h4, h5, rfl, hlt, fun j hj => ?_⟩
      have := h6 j hj
      rw [Addr.add_lit, Addr.add_lit] at this
      exact this
    refine .list _ _ _ (some a) cap (by omega) (by omega) (fun h => by cases h) ?_ ?_ ?_
    · intro y hy
      obtain ⟨z, _, rfl⟩ := List.mem_map.1 hy
      exact hc z
    · intro i y hy
      rw [List.getElem?_map, Option.map_eq_some_iff] at hy
      obtain ⟨z, hz, rfl⟩ := hy
      obtain ⟨cs, k1, k2, k3, k4, k5⟩ := key i z hz
      obtain ⟨b, off, sp⟩ := a
      have k3' : sp = none := k3
      subst k3'
      refine ⟨b, off, rfl, k4, fun j x hx => ?_⟩
      have hj : j < P.cellsOf e := by rw [← hc z]; exact (List.getElem?_eq_some_iff.1 hx).1
      exact ⟨cs[j]'(by omega), by rw [k5 j hj, List.getElem?_eq_getElem (by omega)]⟩
    · intro i y j x' b off u hy hx' hA hu
      rw [List.getElem?_map, Option.map_eq_some_iff] at hy
      obtain ⟨z, hz, rfl⟩ := hy
      obtain ⟨cs, k1, k2, k3, k4, k5⟩ := key i z hz
      injection hA with hA
      subst hA
      have hj : j < P.cellsOf e := by rw [← hc z]; exact (List.getElem?_eq_some_iff.1 hx').1
      rw [k5 j hj] at hu
      exact rdTs_at k1 hx' hu
def OpensFAt (P : Program) (fs : List Field) (c : α → List T) (n : Nat) : Prop :=
  ∀ (H : Type) (enc : TypeId × Value → H) (w : World) (spare : Nat → Bool) (held : Bool) (cs : List Value), (∀ f ∈ fs, ∃ x, DataW.trod enc P w 0 spare held n f.type ((cs.drop f.offset).take (P.cellsOf f.type)) = some x) →
    ∀ o e, laysF P fs o = some e → ∃ a, RdTs w (allS w) (c a) ((cs.drop o).take (e - o))
theorem opensFAt_nil {n : Nat} : OpensFAt P [] (fun _ : Unit => []) n := by
  intro H enc w spare held cs _ o e h
  simp [laysF] at h
  subst h
  exact ⟨(), by simp [RdTs]⟩
theorem opensFAt_cons {n : Nat} {f : Field} {r : List Field} {c : α → List T} {c' : β → List T} (h1 : OpensAt P f.type c n) (h2 : OpensFAt P r c' n) : OpensFAt P (f :: r) (fun x : α × β => c x.1 ++ c' x.2) n := by
  intro H enc w spare held cs hx o e hl
  unfold laysF at hl
  split at hl
  · rename_i ho
    obtain ⟨x, hx1⟩ := hx f (by simp)
    obtain ⟨a, ha⟩ := h1 H enc w spare held _ _ hx1
    obtain ⟨b, hb⟩ := h2 H enc w spare held cs (fun g hg => hx g (by simp [hg])) _ _ hl
    have hle := laysF_le hl
    refine ⟨(a, b), ?_⟩
    have : (cs.drop o).take (e - o) = (cs.drop f.offset).take (P.cellsOf f.type) ++ (cs.drop (o + P.cellsOf f.type)).take (e - (o + P.cellsOf f.type)) := by
      rw [ho, show e - o = P.cellsOf f.type + (e - (o + P.cellsOf f.type)) by omega, List.take_add, List.drop_drop]
    rw [this]
    exact RdTs.append ha hb
  · cases hl
theorem opens_struct_at {n : Nat} {fs : Array Field} {c : α → List T} (ht : P.underlying t = some (.struct fs)) (hl : laysF P fs.toList 0 = some (P.cellsOf t)) (h : ∀ m, n = m + 1 → OpensFAt P fs.toList c m) : OpensAt P t c n := by
  intro H enc w spare held cs x hx
  obtain ⟨xs, m, rfl, rfl, h1, h2, h3⟩ := DataW.trod_struct ht hx
  obtain ⟨a, ha⟩ := h m rfl H enc w spare held cs (fun f hf => by
    obtain ⟨i, hi, rfl⟩ := List.mem_iff_getElem.1 hf
    have hi' : i < fs.size := by simpa using hi
    have := h3 i fs[i] (by simp [hi'])
    rw [List.getElem?_eq_getElem (by omega)] at this
    exact ⟨_, by simpa using this⟩) 0 _ hl
  refine ⟨a, ?_⟩
  simpa [← h1] using ha
end
abbrev ExprF := { e : ExprR // e.fit }
theorem fits_all : ∀ {l : List ExprR}, (∀ e ∈ l, e.fit) → ExprR.fits l
  | [], _ => by simp only [ExprR.fits]
  | x :: l, h => by
    simp only [ExprR.fits]
    exact ⟨h x (by simp), fits_all fun e he => h e (by simp [he])⟩
def mkExprF (op : I64s) (media : ByteArray) (frame num den param : I64s) (text : ByteArray) (args : List ExprF) : ExprF :=
  ⟨.mk op.1 media frame.1 num.1 den.1 param.1 text (args.map (·.1)), by
    simp only [ExprR.fit]
    exact ⟨op.2, frame.2, num.2, den.2, param.2, fits_all fun e he => by obtain ⟨x, _, rfl⟩ := List.mem_map.1 he; exact x.2⟩⟩
theorem mkExprF_c (op : I64s) (media : ByteArray) (frame num den param : I64s) (text : ByteArray) (args : List ExprF) :
    ExprR.c (mkExprF op media frame num den param text args).1 = [ti op.1, tstr media, ti frame.1, ti num.1, ti den.1, ti param.1, tstr text, .list 8 zE (args.map fun e => ExprR.c e.1)] := by
  simp only [mkExprF, ExprR.c, cs_eq, List.map_map]
  rfl
theorem oExprAt : ∀ (N n : Nat), n < N → OpensAt Try.prog 25 (fun e : ExprF => ExprR.c e.1) n
  | 0, _, h => absurd h (Nat.not_lt_zero _)
  | N + 1, n, h => by
    have hl : ∀ m, n = m + 1 → OpensAt Try.prog 23 (fun al : List ExprF => [.list 8 zE (al.map fun e => ExprR.c e.1)]) m := fun m hm => opens_slice_at (k := 8) zE Try.underlying23 (fun m' hm' => oExprAt N m' (by omega)) (by kernel_rfl) (fun e => ExprR.cl e.1) (by decide)
    exact OpensAt.map (fun x : I64s × ByteArray × I64s × I64s × I64s × I64s × ByteArray × List ExprF × Unit => mkExprF x.1 x.2.1 x.2.2.1 x.2.2.2.1 x.2.2.2.2.1 x.2.2.2.2.2.1 x.2.2.2.2.2.2.1 x.2.2.2.2.2.2.2.1) (by intro x; exact mkExprF_c ..)
      (opens_struct_at Try.underlying25 (by kernel_rfl) fun m hm => opensFAt_cons (opens_at oInt m) (opensFAt_cons (opens_at oStr m) (opensFAt_cons (opens_at oI64 m) (opensFAt_cons (opens_at oI64 m) (opensFAt_cons (opens_at oI64 m) (opensFAt_cons (opens_at oInt m) (opensFAt_cons (opens_at oStr m) (opensFAt_cons (hl m hm) opensFAt_nil))))))))
theorem oExpr : Opens Try.prog 25 fun e : ExprF => ExprR.c e.1 := at_opens fun n => oExprAt _ n (Nat.lt_succ_self _)
theorem aExpr : OpensV Try.prog 25 fun e : ExprF => vexpr e.1 := by
  have h : OpensV Try.prog 25 fun e : ExprF => .agg ((ExprR.c e.1).map .t) := opensV_struct Try.underlying25 oExpr
  intro H enc w spare held val d p hv ht
  obtain ⟨a, ha⟩ := h enc w spare held val d p hv ht
  simp only [ExprR.ct] at ha
  exact ⟨a, ha⟩
theorem oExprs : Opens Try.prog 23 fun l : List ExprF => [.list 8 zE (l.map fun e => ExprR.c e.1)] := opens_slice (k := 8) zE Try.underlying23 oExpr (by kernel_rfl) (fun e => ExprR.cl e.1) (by decide)
abbrev ExprsF := { l : List ExprR // ∀ e ∈ l, e.fit }
theorem oExprL : Opens Try.prog 23 fun l : ExprsF => [texprs l.1] :=
  Opens.map (fun l : List ExprF => (⟨l.map (·.1), fun c hc => by obtain ⟨x, _, rfl⟩ := List.mem_map.1 hc; exact x.2⟩ : ExprsF)) (fun l => by show [T.list 8 _ (List.map ExprR.c (List.map _ l))] = _; rw [List.map_map]; rfl) oExprs
theorem aExprs : OpensV Try.prog 23 fun l : ExprsF => .t (texprs l.1) := opensV_slice Try.underlying23 oExprL
end Go.Proofs.Ytkppmlignfhdeaa
