/- Proved here: Contracts of the two functions Step, for use in the proofs of the given statements; conditions stand in each theorem. -/
import Derived.Test.YtnbmiejjkkgckaaV2
import Derived.Test.YtnbmiejjkkgckaaM9
import Derived.Test.YtnbmiejjkkgckaaReg
import Derived.Deep.DeepCutAuto
namespace Go.Proofs.Ytnbmiejjkkgckaa
open Go.RowKit

structure OutR where
  media : ByteArray
  status : Int
def OutR.cells (o : OutR) : List Value := [.string o.media, .int .i64 o.status]
theorem outK (x : OutR) : x.cells.length = 2 := rfl
theorem out1 (xs : List OutR) : ∀ u ∈ xs.flatMap OutR.cells, u.oneCell' = true := by
  intro u hu
  simp [OutR.cells] at hu
  obtain ⟨a, _, h | h⟩ := hu <;> subst h <;> rfl
theorem Try.info61 : (Try.prog.info? 61).map (fun i => (i.zero, i.size, i.bytes)) = some (some (.agg #[.string ⟨#[]⟩, .int .i64 0]), 2, 24) := by kernel_rfl
def outF (s t : StateR) (l : LinkR) : Option OutR :=
  if status t.files t.links l.media != status s.files s.links l.media then some ⟨l.media, status t.files t.links l.media⟩ else none
def outsTo (s t : StateR) (k : Nat) : List OutR := (t.links.take k).filterMap (outF s t)
def outsS (s t : StateR) : List OutR := t.links.filterMap (outF s t)
theorem outsTo_succ {s t : StateR} {k : Nat} (h : k < t.links.length) : outsTo s t (k + 1) = outsTo s t k ++ (outF s t t.links[k]).toList := by
  unfold outsTo
  rw [List.take_succ_eq_append_getElem h, List.filterMap_append]
  cases hh : outF s t t.links[k] <;> simp [hh]
theorem outsTo_len (s t : StateR) (k : Nat) : (outsTo s t k).length ≤ k := by
  unfold outsTo
  exact Nat.le_trans (List.length_filterMap_le _ _) (List.length_take_le _ _)
def stepS (s : StateR) (e : EventR) : StateR × List OutR × Int :=
  if validSt s.files s.links && validEv e then
    if (performS s e).1 = 0 then ((performS s e).2, outsS s (performS s e).2, 0) else (⟨[], []⟩, [], (performS s e).1)
  else (⟨[], []⟩, [], 1)

/-- a State value whose slices are the call's own -/
structure OwnSt (w : World) (B : Nat) (v : Value) (s : StateR) : Prop where
  ex : ∃ v1 v2, v = .agg #[v1, v2] ∧ w.ownsRow B 37 3 v1 s.files.length (s.files.flatMap FileR.cells) ∧ w.ownsRow B 39 4 v2 s.links.length (s.links.flatMap LinkR.cells)
theorem OwnSt.nil (w : World) (B : Nat) : OwnSt w B (.agg #[.slice none 0 0, .slice none 0 0]) ⟨[], []⟩ :=
  ⟨_, _, rfl, World.ownsRow_nil _ _ _ _, World.ownsRow_nil _ _ _ _⟩
theorem OwnSt.later {w w' : World} {B : Nat} {v : Value} {s : StateR} (h : OwnSt w B v s) (hb : Below w.heap.size w w') : OwnSt w' B v s := by
  obtain ⟨v1, v2, h1, h2, h3⟩ := h.ex
  exact ⟨v1, v2, h1, own_later h2 hb, own_later h3 hb⟩
def StepPost (w : World) (r : StateR × List OutR × Int) (e : Ending) (w' : World) : Prop :=
  ∃ v vo, e = .returned (.tuple #[v, vo, .int .i64 r.2.2]) ∧ OwnSt w' w.heap.size v r.1 ∧ w'.ownsRow w.heap.size 61 2 vo r.2.1.length (r.2.1.flatMap OutR.cells) ∧ Below w.heap.size w w'
theorem zero30 (w : World) : (zeroValue 30).run Try.prog w = .ok (.agg #[.slice none 0 0, .slice none 0 0]) w := by kernel_rfl

set_option maxRecDepth 100000 in
set_option maxHeartbeats 4000000 in
theorem step_bad (A D : Option Addr) (c d : Nat) (s : StateR) (k : Int) (m f p : ByteArray) (q : Int) (w : World) (hnm : s.files.length ≤ maxLen) (hmm : s.links.length ≤ maxLen)
   (hm : m.size ≤ maxLen) (hf : f.size ≤ maxLen) (hp : p.size ≤ maxLen) (hff : ∀ f ∈ s.files, f.fits) (hlf : ∀ l ∈ s.links, l.fits)
   (hF : Sl FileR.cells 3 w A s.files) (hL : Sl LinkR.cells 4 w D s.links) (hb : (validSt s.files s.links && validEv ⟨k, m, f, p, q⟩) = false) :
    Calls Try.prog 18 #[.agg #[.slice A s.files.length c, .slice D s.links.length d], .agg #[.int .i64 k, .string m, .string f, .string p, .int .u64 q]] w (StepPost w (stepS s ⟨k, m, f, p, q⟩)) := by
  have HR := Lib.hid (show stepS s ⟨k, m, f, p, q⟩ = (⟨[], []⟩, [], 1) by unfold stepS; rw [hb]; rfl)
  have HF := Lib.hid hF; have HL := Lib.hid hL; have HFF := Lib.hid hff; have HLF := Lib.hid hlf
  clear hF hL hff hlf
  cases hv : validSt s.files s.links with
  | false =>
    have HV := Lib.hid hv
    clear hv hb
    go_enter Try.func18, Try.ntmps18
    go_wp2_with fail
    refine (valid_prog _ _ _ _ _ _ s.files s.links _ rfl rfl hnm hmm (((HF.out.alloc _).alloc _).alloc _) (((HL.out.alloc _).alloc _).alloc _) HFF.out HLF.out false HV.out).mono ?_
    rintro e w1 ⟨rfl, hb1⟩
    have hbb : Below w.heap.size w w1 := (((later_alloc _ _).alloc (by simp) _).alloc (by simp; omega) _).trans (hb1.mono (by simp; omega))
    have x0 := hb1.cell (p := ⟨w.heap.size + 2, 0, none⟩) (by simp)
    have x1 := hb1.cell (p := ⟨w.heap.size + 2, 1, none⟩) (by simp)
    have y0 := hb1.frozen (p := ⟨w.heap.size + 2, 0, none⟩) (by simp)
    have y1 := hb1.frozen (p := ⟨w.heap.size + 2, 1, none⟩) (by simp)
    simp [go_sem] at x0 x1 y0 y1
    go_wp2
    refine bodyPost_ret (v := .tuple #[.agg #[.slice none 0 0, .slice none 0 0], .slice none 0 0, .int .i64 1]) (by simp [results, Try.results18, go_sem, x0, x1]) rfl ?_
    rw [HR.out]
    exact ⟨_, _, rfl, OwnSt.nil _ _, World.ownsRow_nil _ _ _ _, (hbb.setCell (by simp; omega) _).setCell (by simp; omega) _⟩
  | true =>
    have HV := Lib.hid hv
    have HE := Lib.hid (show validEv ⟨k, m, f, p, q⟩ = false by rw [hv] at hb; simpa using hb)
    clear hv hb
    go_enter Try.func18, Try.ntmps18
    go_wp2_with fail
    refine (valid_prog _ _ _ _ _ _ s.files s.links _ rfl rfl hnm hmm (((HF.out.alloc _).alloc _).alloc _) (((HL.out.alloc _).alloc _).alloc _) HFF.out HLF.out true HV.out).mono ?_
    rintro e w1 ⟨rfl, hb1⟩
    have hbb : Below w.heap.size w w1 := (((later_alloc _ _).alloc (by simp) _).alloc (by simp; omega) _).trans (hb1.mono (by simp; omega))
    have z0 := hb1.cell (p := ⟨w.heap.size + 1, 0, none⟩) (by simp)
    have z1 := hb1.cell (p := ⟨w.heap.size + 1, 1, none⟩) (by simp)
    have z2 := hb1.cell (p := ⟨w.heap.size + 1, 2, none⟩) (by simp)
    have z3 := hb1.cell (p := ⟨w.heap.size + 1, 3, none⟩) (by simp)
    have z4 := hb1.cell (p := ⟨w.heap.size + 1, 4, none⟩) (by simp)
    have x0 := hb1.cell (p := ⟨w.heap.size + 2, 0, none⟩) (by simp)
    have x1 := hb1.cell (p := ⟨w.heap.size + 2, 1, none⟩) (by simp)
    have y0 := hb1.frozen (p := ⟨w.heap.size + 2, 0, none⟩) (by simp)
    have y1 := hb1.frozen (p := ⟨w.heap.size + 2, 1, none⟩) (by simp)
    simp [go_sem] at x0 x1 y0 y1 z0 z1 z2 z3 z4
    go_wp2_with fail
    refine (validEvent_prog _ _ _ _ _ _ hm hf hp false HE.out).mono ?_
    rintro e w2 ⟨rfl, hb2⟩
    have hs2 := cell_lt x0
    have x0' := (hb2.cell (cell_lt x0)).trans x0
    have x1' := (hb2.cell (cell_lt x1)).trans x1
    have y0' := (hb2.frozen (p := ⟨w.heap.size + 2, 0, none⟩) hs2).trans y0
    have y1' := (hb2.frozen (p := ⟨w.heap.size + 2, 1, none⟩) hs2).trans y1
    clear x0 x1 y0 y1 z0 z1 z2 z3 z4
    have hbb2 : Below w.heap.size w w2 := hbb.trans (hb2.mono hbb.size)
    go_wp2
    refine bodyPost_ret (v := .tuple #[.agg #[.slice none 0 0, .slice none 0 0], .slice none 0 0, .int .i64 1]) (by simp [results, Try.results18, go_sem, x0', x1']) rfl ?_
    rw [HR.out]
    exact ⟨_, _, rfl, OwnSt.nil _ _, World.ownsRow_nil _ _ _ _, (hbb2.setCell (by simp; omega) _).setCell (by simp; omega) _⟩
end Go.Proofs.Ytnbmiejjkkgckaa
