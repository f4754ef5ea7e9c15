/- Proved here: Contracts of the two functions Step, for use in the proofs of the given statements; conditions stand in each theorem. -/
import Derived.Test.YtnbmiejjkkgckaaZF
import Derived.Test.YtnbmiejjkkgckaaZD
import Derived.Test.YtnbmiejjkkgckaaZB
import Derived.Deep.DeepCutAuto
set_option linter.unusedSimpArgs false
set_option linter.unusedVariables false
namespace Go.Proofs.Ytnbmiejjkkgckaa
open Go.RowKit

structure OutR where
  media : ByteArray
  status : Int
def OutR.cells (o : OutR) : List Value := [.string o.media, .int .i64 o.status]
theorem outK (x : OutR) : x.cells.length = 2 := rfl
theorem out1 (xs : List OutR) : ∀ u ∈ xs.flatMap OutR.cells, u.oneCell' = true := by
  intro u hu
  simp [OutR.cells] at hu
  obtain ⟨a, _, h | h⟩ := hu <;> subst h <;> rfl
theorem Try.info61 : (Try.prog.info? 61).map (fun i => (i.zero, i.size, i.bytes)) = some (some (.agg #[.string ⟨#[]⟩, .int .i64 0]), 2, 24) := by kernel_rfl
def outF (s t : StateR) (l : LinkR) : Option OutR :=
  if status t.files t.links l.media != status s.files s.links l.media then some ⟨l.media, status t.files t.links l.media⟩ else none
def outsTo (s t : StateR) (k : Nat) : List OutR := (t.links.take k).filterMap (outF s t)
def outsS (s t : StateR) : List OutR := t.links.filterMap (outF s t)
theorem outsTo_succ {s t : StateR} {k : Nat} (h : k < t.links.length) : outsTo s t (k + 1) = outsTo s t k ++ (outF s t t.links[k]).toList := by
  unfold outsTo
  rw [List.take_succ_eq_append_getElem h, List.filterMap_append]
  cases hh : outF s t t.links[k] <;> simp [hh]
theorem outsTo_len (s t : StateR) (k : Nat) : (outsTo s t k).length ≤ k := by
  unfold outsTo
  exact Nat.le_trans (List.length_filterMap_le _ _) (List.length_take_le _ _)
def stepS (s : StateR) (e : EventR) : StateR × List OutR × Int :=
  if validSt s.files s.links && validEv e then
    if (performS s e).1 = 0 then ((performS s e).2, outsS s (performS s e).2, 0) else (⟨[], []⟩, [], (performS s e).1)
  else (⟨[], []⟩, [], 1)

/-- a State value whose slices are the call's own -/
structure OwnSt (w : World) (B : Nat) (v : Value) (s : StateR) : Prop where
  ex : ∃ v1 v2, v = .agg #[v1, v2] ∧ w.ownsRow B 37 3 v1 s.files.length (s.files.flatMap FileR.cells) ∧ w.ownsRow B 39 4 v2 s.links.length (s.links.flatMap LinkR.cells)
theorem OwnSt.nil (w : World) (B : Nat) : OwnSt w B (.agg #[.slice none 0 0, .slice none 0 0]) ⟨[], []⟩ :=
  ⟨_, _, rfl, World.ownsRow_nil _ _ _ _, World.ownsRow_nil _ _ _ _⟩
theorem OwnSt.later {w w' : World} {B : Nat} {v : Value} {s : StateR} (h : OwnSt w B v s) (hb : Below w.heap.size w w') : OwnSt w' B v s := by
  obtain ⟨v1, v2, h1, h2, h3⟩ := h.ex
  exact ⟨v1, v2, h1, own_later h2 hb, own_later h3 hb⟩
def StepPost (w : World) (r : StateR × List OutR × Int) (e : Ending) (w' : World) : Prop :=
  ∃ v vo, e = .returned (.tuple #[v, vo, .int .i64 r.2.2]) ∧ OwnSt w' w.heap.size v r.1 ∧ w'.ownsRow w.heap.size 61 2 vo r.2.1.length (r.2.1.flatMap OutR.cells) ∧ Below w.heap.size w w'
theorem zero30 (w : World) : (zeroValue 30).run Try.prog w = .ok (.agg #[.slice none 0 0, .slice none 0 0]) w := by kernel_rfl

set_option maxRecDepth 100000 in
set_option maxHeartbeats 4000000 in
theorem step_bad (A D : Option Addr) (c d : Nat) (s : StateR) (k : Int) (m f p : ByteArray) (q : Int) (w : World) (hnm : s.files.length ≤ maxLen) (hmm : s.links.length ≤ maxLen)
   (hm : m.size ≤ maxLen) (hf : f.size ≤ maxLen) (hp : p.size ≤ maxLen) (hff : ∀ f ∈ s.files, f.fits) (hlf : ∀ l ∈ s.links, l.fits)
   (hF : Sl FileR.cells 3 w A s.files) (hL : Sl LinkR.cells 4 w D s.links) (hb : (validSt s.files s.links && validEv ⟨k, m, f, p, q⟩) = false) :
    Calls Try.prog 18 #[.agg #[.slice A s.files.length c, .slice D s.links.length d], .agg #[.int .i64 k, .string m, .string f, .string p, .int .u64 q]] w (StepPost w (stepS s ⟨k, m, f, p, q⟩)) := by
  have HR := Lib.hid (show stepS s ⟨k, m, f, p, q⟩ = (⟨[], []⟩, [], 1) by unfold stepS; rw [hb]; rfl)
  have HF := Lib.hid hF; have HL := Lib.hid hL; have HFF := Lib.hid hff; have HLF := Lib.hid hlf
  clear hF hL hff hlf
  cases hv : validSt s.files s.links with
  | false =>
    have HV := Lib.hid hv
    clear hv hb
    go_enter Try.func18, Try.ntmps18
    go_wp2_with fail
    refine (valid_prog _ _ _ _ _ _ s.files s.links _ rfl rfl hnm hmm (((HF.out.alloc _).alloc _).alloc _) (((HL.out.alloc _).alloc _).alloc _) HFF.out HLF.out false HV.out).mono ?_
    rintro e w1 ⟨rfl, hb1⟩
    have hbb : Below w.heap.size w w1 := (((later_alloc _ _).alloc (by simp) _).alloc (by simp; omega) _).trans (hb1.mono (by simp; omega))
    have x0 := hb1.cell (p := ⟨w.heap.size + 2, 0, none⟩) (by simp)
    have x1 := hb1.cell (p := ⟨w.heap.size + 2, 1, none⟩) (by simp)
    have y0 := hb1.frozen (p := ⟨w.heap.size + 2, 0, none⟩) (by simp)
    have y1 := hb1.frozen (p := ⟨w.heap.size + 2, 1, none⟩) (by simp)
    simp [go_sem] at x0 x1 y0 y1
    go_wp2
    refine bodyPost_ret (v := .tuple #[.agg #[.slice none 0 0, .slice none 0 0], .slice none 0 0, .int .i64 1]) (by simp [results, Try.results18, go_sem, x0, x1]) rfl ?_
    rw [HR.out]
    exact ⟨_, _, rfl, OwnSt.nil _ _, World.ownsRow_nil _ _ _ _, (hbb.setCell (by simp; omega) _).setCell (by simp; omega) _⟩
  | true =>
    have HV := Lib.hid hv
    have HE := Lib.hid (show validEv ⟨k, m, f, p, q⟩ = false by rw [hv] at hb; simpa using hb)
    clear hv hb
    go_enter Try.func18, Try.ntmps18
    go_wp2_with fail
    refine (valid_prog _ _ _ _ _ _ s.files s.links _ rfl rfl hnm hmm (((HF.out.alloc _).alloc _).alloc _) (((HL.out.alloc _).alloc _).alloc _) HFF.out HLF.out true HV.out).mono ?_
    rintro e w1 ⟨rfl, hb1⟩
    have hbb : Below w.heap.size w w1 := (((later_alloc _ _).alloc (by simp) _).alloc (by simp; omega) _).trans (hb1.mono (by simp; omega))
    have z0 := hb1.cell (p := ⟨w.heap.size + 1, 0, none⟩) (by simp)
    have z1 := hb1.cell (p := ⟨w.heap.size + 1, 1, none⟩) (by simp)
    have z2 := hb1.cell (p := ⟨w.heap.size + 1, 2, none⟩) (by simp)
    have z3 := hb1.cell (p := ⟨w.heap.size + 1, 3, none⟩) (by simp)
    have z4 := hb1.cell (p := ⟨w.heap.size + 1, 4, none⟩) (by simp)
    have x0 := hb1.cell (p := ⟨w.heap.size + 2, 0, none⟩) (by simp)
    have x1 := hb1.cell (p := ⟨w.heap.size + 2, 1, none⟩) (by simp)
    have y0 := hb1.frozen (p := ⟨w.heap.size + 2, 0, none⟩) (by simp)
    have y1 := hb1.frozen (p := ⟨w.heap.size + 2, 1, none⟩) (by simp)
    simp [go_sem] at x0 x1 y0 y1 z0 z1 z2 z3 z4
    go_wp2_with fail
    refine (validEvent_prog _ _ _ _ _ _ hm hf hp false HE.out).mono ?_
    rintro e w2 ⟨rfl, hb2⟩
    have hs2 := cell_lt x0
    have x0' := (hb2.cell (cell_lt x0)).trans x0
    have x1' := (hb2.cell (cell_lt x1)).trans x1
    have y0' := (hb2.frozen (p := ⟨w.heap.size + 2, 0, none⟩) hs2).trans y0
    have y1' := (hb2.frozen (p := ⟨w.heap.size + 2, 1, none⟩) hs2).trans y1
    clear x0 x1 y0 y1 z0 z1 z2 z3 z4
    have hbb2 : Below w.heap.size w w2 := hbb.trans (hb2.mono hbb.size)
    go_wp2
    refine bodyPost_ret (v := .tuple #[.agg #[.slice none 0 0, .slice none 0 0], .slice none 0 0, .int .i64 1]) (by simp [results, Try.results18, go_sem, x0', x1']) rfl ?_
    rw [HR.out]
    exact ⟨_, _, rfl, OwnSt.nil _ _, World.ownsRow_nil _ _ _ _, (hbb2.setCell (by simp; omega) _).setCell (by simp; omega) _⟩
end Go.Proofs.Ytnbmiejjkkgckaa
/- Proved here: Contracts of the two functions Step, for use in the proofs of the given statements; conditions stand in each theorem. -/
namespace Go.Proofs.Ytnbmiejjkkgckaa
open Go.RowKit

theorem later_any (w : World) {o : Obj} : Below w.heap.size w (w.alloc o) := later_alloc w o
theorem st_made {w : World} {B bs : Nat} {v1 v2 z1 z2 : Value} {s : StateR} (hb : w.heap[bs]? = some (.cells #[z1, z2] 30 (0, 0))) (lo : B ≤ bs)
    (h1 : w.ownsRow B 37 3 v1 s.files.length (s.files.flatMap FileR.cells)) (h2 : w.ownsRow B 39 4 v2 s.links.length (s.links.flatMap LinkR.cells)) :
    StO ((w.setCell ⟨bs, 0, none⟩ v1).setCell ⟨bs, 1, none⟩ v2) B bs v1 v2 s := by
  have e1 : (w.setCell ⟨bs, 0, none⟩ v1).heap[bs]? = some (.cells #[v1, z2] 30 (0, 0)) := by rw [heap_setCell_same w bs 0 _ 30 v1 hb]; rfl
  have e2 : ((w.setCell ⟨bs, 0, none⟩ v1).setCell ⟨bs, 1, none⟩ v2).heap[bs]? = some (.cells #[v1, v2] 30 (0, 0)) := by rw [heap_setCell_same _ bs 1 _ 30 v2 e1]; rfl
  have hst : ∀ {e k n : Nat} {v : Value} {xs : List Value}, w.ownsRow B e k v n xs → e ≠ 30 → ((w.setCell ⟨bs, 0, none⟩ v1).setCell ⟨bs, 1, none⟩ v2).ownsRow B e k v n xs := fun ho hne =>
    ho.kept (row := some bs) ⟨rfl, rfl, rfl, by simp, fun k _ hk => (Below.heap_setCell _ _ _ _ (fun e => hk (by rw [e]))).trans (Below.heap_setCell _ _ _ _ (fun e => hk (by rw [e])))⟩ (.inr (own_blk_ne ho hb hne))
  exact ⟨e2, lo, hst h1 (by decide), hst h2 (by decide)⟩

theorem valid_len {fs : List FileR} {ls : List LinkR} (h : validSt fs ls = true) : fs.length ≤ 32 ∧ ls.length ≤ 16 := by
  simp only [validSt, Bool.and_eq_true, decide_eq_true_eq] at h
  exact ⟨h.1.2, h.2⟩
theorem perf_bounds (s : StateR) (e : EventR) (hf : s.files.length ≤ 32) (hl : s.links.length ≤ 16) : (performS s e).2.files.length ≤ 32 ∧ (performS s e).2.links.length ≤ 16 := by
  unfold performS arriveS leaveS connectS relinkS attachS
  repeat' split
  all_goals (constructor <;> simp <;> omega)

set_option maxRecDepth 100000 in
set_option maxHeartbeats 8000000 in
theorem step_good (A D : Option Addr) (c d : Nat) (s : StateR) (k : Int) (m f p : ByteArray) (q : Int) (w : World) (hnm : s.files.length ≤ 65536) (hmm : s.links.length ≤ 65536)
   (hm : m.size ≤ maxLen) (hf : f.size ≤ maxLen) (hp : p.size ≤ maxLen) (hff : ∀ f ∈ s.files, f.fits) (hlf : ∀ l ∈ s.links, l.fits)
   (hF : Sl FileR.cells 3 w A s.files) (hL : Sl LinkR.cells 4 w D s.links) (hv : validSt s.files s.links = true) (he : validEv ⟨k, m, f, p, q⟩ = true) :
    Calls Try.prog 18 #[.agg #[.slice A s.files.length c, .slice D s.links.length d], .agg #[.int .i64 k, .string m, .string f, .string p, .int .u64 q]] w (StepPost w (stepS s ⟨k, m, f, p, q⟩)) := by
  have HF := Lib.hid hF; have HL := Lib.hid hL; have HFF := Lib.hid hff; have HLF := Lib.hid hlf
  have HV := Lib.hid hv; have HE := Lib.hid he
  clear hF hL hff hlf hv he
  go_enter Try.func18, Try.ntmps18
  go_wp2_with fail
  refine (valid_prog _ _ _ _ _ _ s.files s.links _ rfl rfl (by unfold maxLen; omega) (by unfold maxLen; omega) (((HF.out.alloc _).alloc _).alloc _) (((HL.out.alloc _).alloc _).alloc _) HFF.out HLF.out true HV.out).mono ?_
  rintro e w1 ⟨rfl, hb1⟩
  have hbb : Below w.heap.size w w1 := (((later_alloc _ _).alloc (by simp) _).alloc (by simp; omega) _).trans (hb1.mono (by simp; omega))
  have r0 := hb1.cell (p := ⟨w.heap.size, 0, none⟩) (by simp; omega)
  have r1 := hb1.cell (p := ⟨w.heap.size, 1, none⟩) (by simp; omega)
  have z0 := hb1.cell (p := ⟨w.heap.size + 1, 0, none⟩) (by simp)
  have z1 := hb1.cell (p := ⟨w.heap.size + 1, 1, none⟩) (by simp)
  have z2 := hb1.cell (p := ⟨w.heap.size + 1, 2, none⟩) (by simp)
  have z3 := hb1.cell (p := ⟨w.heap.size + 1, 3, none⟩) (by simp)
  have z4 := hb1.cell (p := ⟨w.heap.size + 1, 4, none⟩) (by simp)
  have x0 := hb1.cell (p := ⟨w.heap.size + 2, 0, none⟩) (by simp)
  have x1 := hb1.cell (p := ⟨w.heap.size + 2, 1, none⟩) (by simp)
  have y0 := hb1.frozen (p := ⟨w.heap.size + 2, 0, none⟩) (by simp)
  have y1 := hb1.frozen (p := ⟨w.heap.size + 2, 1, none⟩) (by simp)
  simp [go_sem] at x0 x1 y0 y1 z0 z1 z2 z3 z4 r0 r1
  go_wp2_with fail
  refine (validEvent_prog _ _ _ _ _ _ hm hf hp true HE.out).mono ?_
  rintro e w2 ⟨rfl, hb2⟩
  have hs2 := cell_lt x0
  have X0 := Lib.hid ((hb2.cell (cell_lt x0)).trans x0)
  have X1 := Lib.hid ((hb2.cell (cell_lt x1)).trans x1)
  have Y0 := Lib.hid ((hb2.frozen (p := ⟨w.heap.size + 2, 0, none⟩) hs2).trans y0)
  have Y1 := Lib.hid ((hb2.frozen (p := ⟨w.heap.size + 2, 1, none⟩) hs2).trans y1)
  have Z0 := Lib.hid ((hb2.cell (cell_lt z0)).trans z0)
  have Z1 := Lib.hid ((hb2.cell (cell_lt z1)).trans z1)
  have Z2 := Lib.hid ((hb2.cell (cell_lt z2)).trans z2)
  have Z3 := Lib.hid ((hb2.cell (cell_lt z3)).trans z3)
  have Z4 := Lib.hid ((hb2.cell (cell_lt z4)).trans z4)
  have R0 := (hb2.cell (cell_lt r0)).trans r0
  have R1 := (hb2.cell (cell_lt r1)).trans r1
  clear x0 x1 y0 y1 z0 z1 z2 z3 z4 r0 r1
  have HBB := Lib.hid (hbb.trans (hb2.mono hbb.size))
  clear hbb hb1 hb2
  obtain ⟨w3, hw3⟩ : ∃ w3, w3 = w2 := ⟨_, rfl⟩
  rw [← hw3] at X0 X1 Y0 Y1 Z0 Z1 Z2 Z3 Z4 R0 R1 HBB ⊢
  clear hw3
  have HF3 := Lib.hid (HF.out.later HBB.out)
  have HL3 := Lib.hid (HL.out.later HBB.out)
  go_upto_region 3 with fail
  go_cut [7] (fun s7 wx => ∃ bs v1 v2, s7 = .pointer (some ⟨bs, 0, none⟩) ∧ StO wx w3.heap.size bs v1 v2 s ∧ Below w3.heap.size w3 wx)
  case first =>
    have g0 := cell_later' (w := w3.drew) R0
    have g1 := cell_later' (w := w3.drew) R1
    refine wp_region_qt [true, true, false, true, true, false, false, false, false] [8] (by kernel_rfl) (by kernel_rfl) (by kernel_rfl) rfl ?_ (by decide)
    dsimp only [pickQ]
    repeat (go_big_quiet_step (fail))
    refine wpQuiet_nil ?_
    clear g0 g1 R0 R1
    have hb4 : Below w3.heap.size w3 w3.drew := (Below.refl _ _).drew
    generalize w3.drew = w4 at *
    refine tail_two (i := 2) (j := 7) (by kernel_rfl) rfl rfl rfl rfl rfl rfl ?_ ?_
    · intro K hK
      go_simp
      refine (cloneF _ _ _ s.files _ rfl hnm (HF3.out.later hb4)).mono ?_
      rintro e u0 ⟨v2, rfl, ho0, hb0⟩
      obtain ⟨A2, c2, rfl, _⟩ := own_form ho0
      have h1_0 := own_mono ho0 (show w3.heap.size ≤ _ from hb4.size)
      have later0 := Below.trans hb4 (Below.mono hb0 hb4.size)
      have size0 := later0.size
      refine hK _ _ hb0 ?_
      clear hK K
      refine tail_two (i := 5) (j := 7) (by kernel_rfl) rfl rfl rfl rfl rfl rfl ?_ ?_
      · intro K hK
        go_simp
        refine (cloneL _ _ _ s.links _ rfl hmm (HL3.out.later later0)).mono ?_
        rintro e u1 ⟨v5, rfl, ho1, hb1⟩
        obtain ⟨A5, c5, rfl, _⟩ := own_form ho1
        have h2_1 := own_mono ho1 (show w3.heap.size ≤ _ from size0)
        have later1 := Below.trans later0 (Below.mono hb1 size0)
        have size1 := later1.size
        have h1_1 := own_later h1_0 hb1
        refine hK _ _ hb1 ?_
        clear hK K
        refine tail_two (i := 6) (j := 7) (by kernel_rfl) rfl rfl rfl rfl rfl rfl ?_ ?_
        · intro K hK
          go_simp
          refine hK _ _ (Below.refl _ _) ?_
          clear hK K
          refine tail_one (i := 7) (by kernel_rfl) rfl rfl rfl ?_
          intro K hK
          go_simp
          refine hK _ _ (later_any _) ?_
          clear hK K
          have hbe3 : Below u1.heap.size u1 ((u1).alloc (.cells #[.slice none 0 0, .slice none 0 0] 30)) := later_alloc _ _
          have hbs_3 : ((u1).alloc (.cells #[.slice none 0 0, .slice none 0 0] 30)).heap[u1.heap.size]? = some (.cells #[.slice none 0 0, .slice none 0 0] 30 (0, 0)) := heap_alloc_new _ _
          have bsl3 : u1.heap.size < ((u1).alloc (.cells #[.slice none 0 0, .slice none 0 0] 30)).heap.size := by simp
          have later3 := Below.trans later1 (Below.mono hbe3 size1)
          have size3 := later3.size
          have h1_3 := own_later h1_1 hbe3
          have h2_3 := own_later h2_1 hbe3
          generalize (u1).alloc (.cells #[.slice none 0 0, .slice none 0 0] 30) = u3 at *
          refine tail_loud (i := 8) (by kernel_rfl) rfl rfl rfl ?_
          intro K hK
          have q0 := cell_of_row u3 u1.heap.size 0 _ _ _ hbs_3
          have q1 := cell_of_row u3 u1.heap.size 1 _ _ _ hbs_3
          have q2 := frozen_of_row u3 u1.heap.size 0 _ _ hbs_3
          have q3 := frozen_of_row u3 u1.heap.size 1 _ _ hbs_3
          simp at q0 q1
          go_simp
          refine hK _ _ ?_
          clear hK K
          refine tail_done (by kernel_rfl) (NoPanic.normal ?_)
          go_wp2_with fail
          go_meet
          exact ⟨u1.heap.size, _, _, rfl, st_made hbs_3 size1 h1_3 h2_3, (Below.mono later3 (Nat.le_refl _)).setCell size1 _ |>.setCell size1 _⟩
        · intro K hK
          go_simp
          refine hK _ _ (later_any _) ?_
          clear hK K
          have hbe2 : Below u1.heap.size u1 ((u1).alloc (.cells #[.slice none 0 0, .slice none 0 0] 30)) := later_alloc _ _
          have hbs_2 : ((u1).alloc (.cells #[.slice none 0 0, .slice none 0 0] 30)).heap[u1.heap.size]? = some (.cells #[.slice none 0 0, .slice none 0 0] 30 (0, 0)) := heap_alloc_new _ _
          have bsl2 : u1.heap.size < ((u1).alloc (.cells #[.slice none 0 0, .slice none 0 0] 30)).heap.size := by simp
          have later2 := Below.trans later1 (Below.mono hbe2 size1)
          have size2 := later2.size
          have h1_2 := own_later h1_1 hbe2
          have h2_2 := own_later h2_1 hbe2
          generalize (u1).alloc (.cells #[.slice none 0 0, .slice none 0 0] 30) = u2 at *
          refine tail_one (i := 6) (by kernel_rfl) rfl rfl rfl ?_
          intro K hK
          go_simp
          refine hK _ _ (Below.refl _ _) ?_
          clear hK K
          refine tail_loud (i := 8) (by kernel_rfl) rfl rfl rfl ?_
          intro K hK
          have q0 := cell_of_row u2 u1.heap.size 0 _ _ _ hbs_2
          have q1 := cell_of_row u2 u1.heap.size 1 _ _ _ hbs_2
          have q2 := frozen_of_row u2 u1.heap.size 0 _ _ hbs_2
          have q3 := frozen_of_row u2 u1.heap.size 1 _ _ hbs_2
          simp at q0 q1
          go_simp
          refine hK _ _ ?_
          clear hK K
          refine tail_done (by kernel_rfl) (NoPanic.normal ?_)
          go_wp2_with fail
          go_meet
          exact ⟨u1.heap.size, _, _, rfl, st_made hbs_2 size1 h1_2 h2_2, (Below.mono later2 (Nat.le_refl _)).setCell size1 _ |>.setCell size1 _⟩
      · intro K hK
        go_simp
        refine hK _ _ (later_any _) ?_
        clear hK K
        have hbe1 : Below u0.heap.size u0 ((u0).alloc (.cells #[.slice none 0 0, .slice none 0 0] 30)) := later_alloc _ _
        have hbs_1 : ((u0).alloc (.cells #[.slice none 0 0, .slice none 0 0] 30)).heap[u0.heap.size]? = some (.cells #[.slice none 0 0, .slice none 0 0] 30 (0, 0)) := heap_alloc_new _ _
        have bsl1 : u0.heap.size < ((u0).alloc (.cells #[.slice none 0 0, .slice none 0 0] 30)).heap.size := by simp
        have later1 := Below.trans later0 (Below.mono hbe1 size0)
        have size1 := later1.size
        have h1_1 := own_later h1_0 hbe1
        generalize (u0).alloc (.cells #[.slice none 0 0, .slice none 0 0] 30) = u1 at *
        refine tail_one (i := 5) (by kernel_rfl) rfl rfl rfl ?_
        intro K hK
        go_simp
        refine (cloneL _ _ _ s.links _ rfl hmm (HL3.out.later later1)).mono ?_
        rintro e u2 ⟨v5, rfl, ho2, hb2⟩
        obtain ⟨A5, c5, rfl, _⟩ := own_form ho2
        have h2_2 := own_mono ho2 (show w3.heap.size ≤ _ from size1)
        have later2 := Below.trans later1 (Below.mono hb2 size1)
        have size2 := later2.size
        have h1_2 := own_later h1_1 hb2
        have hbs_2 := (hb2.block _ (Array.getElem?_eq_some_iff.1 hbs_1).1).trans hbs_1
        refine hK _ _ hb2 ?_
        clear hK K
        refine tail_one (i := 6) (by kernel_rfl) rfl rfl rfl ?_
        intro K hK
        go_simp
        refine hK _ _ (Below.refl _ _) ?_
        clear hK K
        refine tail_loud (i := 8) (by kernel_rfl) rfl rfl rfl ?_
        intro K hK
        have q0 := cell_of_row u2 u0.heap.size 0 _ _ _ hbs_2
        have q1 := cell_of_row u2 u0.heap.size 1 _ _ _ hbs_2
        have q2 := frozen_of_row u2 u0.heap.size 0 _ _ hbs_2
        have q3 := frozen_of_row u2 u0.heap.size 1 _ _ hbs_2
        simp at q0 q1
        go_simp
        refine hK _ _ ?_
        clear hK K
        refine tail_done (by kernel_rfl) (NoPanic.normal ?_)
        go_wp2_with fail
        go_meet
        exact ⟨u0.heap.size, _, _, rfl, st_made hbs_2 size0 h1_2 h2_2, (Below.mono later2 (Nat.le_refl _)).setCell size0 _ |>.setCell size0 _⟩
    · intro K hK
      go_simp
      refine hK _ _ (later_any _) ?_
      clear hK K
      have hbe0 : Below w4.heap.size w4 ((w4).alloc (.cells #[.slice none 0 0, .slice none 0 0] 30)) := later_alloc _ _
      have hbs_0 : ((w4).alloc (.cells #[.slice none 0 0, .slice none 0 0] 30)).heap[w4.heap.size]? = some (.cells #[.slice none 0 0, .slice none 0 0] 30 (0, 0)) := heap_alloc_new _ _
      have bsl0 : w4.heap.size < ((w4).alloc (.cells #[.slice none 0 0, .slice none 0 0] 30)).heap.size := by simp
      have later0 := Below.trans hb4 (Below.mono hbe0 hb4.size)
      have size0 := later0.size
      generalize (w4).alloc (.cells #[.slice none 0 0, .slice none 0 0] 30) = u0 at *
      refine tail_one (i := 2) (by kernel_rfl) rfl rfl rfl ?_
      intro K hK
      go_simp
      refine (cloneF _ _ _ s.files _ rfl hnm (HF3.out.later later0)).mono ?_
      rintro e u1 ⟨v2, rfl, ho1, hb1⟩
      obtain ⟨A2, c2, rfl, _⟩ := own_form ho1
      have h1_1 := own_mono ho1 (show w3.heap.size ≤ _ from size0)
      have later1 := Below.trans later0 (Below.mono hb1 size0)
      have size1 := later1.size
      have hbs_1 := (hb1.block _ (Array.getElem?_eq_some_iff.1 hbs_0).1).trans hbs_0
      refine hK _ _ hb1 ?_
      clear hK K
      refine tail_one (i := 5) (by kernel_rfl) rfl rfl rfl ?_
      intro K hK
      go_simp
      refine (cloneL _ _ _ s.links _ rfl hmm (HL3.out.later later1)).mono ?_
      rintro e u2 ⟨v5, rfl, ho2, hb2⟩
      obtain ⟨A5, c5, rfl, _⟩ := own_form ho2
      have h2_2 := own_mono ho2 (show w3.heap.size ≤ _ from size1)
      have later2 := Below.trans later1 (Below.mono hb2 size1)
      have size2 := later2.size
      have h1_2 := own_later h1_1 hb2
      have hbs_2 := (hb2.block _ (Array.getElem?_eq_some_iff.1 hbs_1).1).trans hbs_1
      refine hK _ _ hb2 ?_
      clear hK K
      refine tail_one (i := 6) (by kernel_rfl) rfl rfl rfl ?_
      intro K hK
      go_simp
      refine hK _ _ (Below.refl _ _) ?_
      clear hK K
      refine tail_loud (i := 8) (by kernel_rfl) rfl rfl rfl ?_
      intro K hK
      have q0 := cell_of_row u2 w4.heap.size 0 _ _ _ hbs_2
      have q1 := cell_of_row u2 w4.heap.size 1 _ _ _ hbs_2
      have q2 := frozen_of_row u2 w4.heap.size 0 _ _ hbs_2
      have q3 := frozen_of_row u2 w4.heap.size 1 _ _ hbs_2
      simp at q0 q1
      go_simp
      refine hK _ _ ?_
      clear hK K
      refine tail_done (by kernel_rfl) (NoPanic.normal ?_)
      go_wp2_with fail
      go_meet
      exact ⟨w4.heap.size, _, _, rfl, st_made hbs_2 hb4.size h1_2 h2_2, (Below.mono later2 (Nat.le_refl _)).setCell hb4.size _ |>.setCell hb4.size _⟩
  case rest =>
    have RR0 := Lib.hid R0; have RR1 := Lib.hid R1
    clear R0 R1
    obtain ⟨bs, v1, v2, rfl, hS, hb4⟩ := hcut
    have HS4 := Lib.hid hS
    have hB4 := hb4.size
    have hsz3 := cell_lt X0.out
    have e0 := (hb4.cell (cell_lt Z0.out)).trans Z0.out
    have e1 := (hb4.cell (cell_lt Z1.out)).trans Z1.out
    have e2 := (hb4.cell (cell_lt Z2.out)).trans Z2.out
    have e3 := (hb4.cell (cell_lt Z3.out)).trans Z3.out
    have e4 := (hb4.cell (cell_lt Z4.out)).trans Z4.out
    clear hS
    go_wp2_with fail
    refine (perform_prog _ w3.heap.size bs v1 v2 s k m f p q HS4.out hnm hmm hB4).mono ?_
    rintro e w5 he
    obtain ⟨rfl, ⟨v1', v2', hS5⟩, hb5⟩ := he
    have hb35 : Below w3.heap.size w3 w5 := hb4.trans hb5
    have HB35 := Lib.hid hb35
    clear e0 e1 e2 e3 e4 hb5 hb4 HS4
    have x0 := (hb35.cell (cell_lt X0.out)).trans X0.out
    have x1 := (hb35.cell (cell_lt X1.out)).trans X1.out
    have y0 := (hb35.frozen (p := ⟨w.heap.size + 2, 0, none⟩) (cell_lt X0.out)).trans Y0.out
    have y1 := (hb35.frozen (p := ⟨w.heap.size + 2, 1, none⟩) (cell_lt X1.out)).trans Y1.out
    have HW5 := Lib.hid (HBB.out.trans (hb35.mono HBB.out.size))
    cases hx : ((performS s ⟨k, m, f, p, q⟩).1 != 0) with
    | true =>
      have HR := Lib.hid (show stepS s ⟨k, m, f, p, q⟩ = (⟨[], []⟩, [], (performS s ⟨k, m, f, p, q⟩).1) by
        have : ¬ (performS s ⟨k, m, f, p, q⟩).1 = 0 := by simpa using hx
        unfold stepS; rw [HV.out, HE.out]; simp [this])
      go_wp2
      refine bodyPost_ret (v := .tuple #[.agg #[.slice none 0 0, .slice none 0 0], .slice none 0 0, .int .i64 (performS s ⟨k, m, f, p, q⟩).1]) (by simp [results, Try.results18, go_sem, x0, x1]) rfl ?_
      rw [HR.out]
      exact ⟨_, _, rfl, OwnSt.nil _ _, World.ownsRow_nil _ _ _ _, (HW5.out.setCell (by simp; omega) _).setCell (by simp; omega) _⟩
    | false =>
      have hz : (performS s ⟨k, m, f, p, q⟩).1 = 0 := by simpa using hx
      obtain ⟨t, ht⟩ : ∃ t, (performS s ⟨k, m, f, p, q⟩).2 = t := ⟨_, rfl⟩
      rw [ht] at hS5
      have HR := Lib.hid (show stepS s ⟨k, m, f, p, q⟩ = (t, outsS s t, 0) by
        unfold stepS; rw [HV.out, HE.out]; simp [hz, ht])
      have HS5 := Lib.hid hS5
      obtain ⟨TF, cF, TL, cL, rfl, rfl⟩ := hS5.forms
      have htb := perf_bounds s ⟨k, m, f, p, q⟩ (valid_len HV.out).1 (valid_len HV.out).2
      rw [ht] at htb
      have htf : t.files.length ≤ 65536 := by omega
      have htl : t.links.length ≤ 65536 := by omega
      have s0 := hS5.c0
      have s1 := hS5.c1
      rw [hz]
      clear hS5 hx hz ht HF3 HL3 Z0 Z1 Z2 Z3 Z4 x0 x1 y0 y1 htb hB4
      have hbs5 := cell_lt s0
      have b0 := (HB35.out.cell (cell_lt RR0.out)).trans RR0.out
      have b1 := (HB35.out.cell (cell_lt RR1.out)).trans RR1.out
      have hw5 := cell_lt b0
      go_wp2
      go_loopw [9, 38] (fun vo i wr => Below w5.heap.size w5 wr ∧ ∃ j : Nat, j ≤ t.links.length ∧ i = .int .i64 j ∧ Hid (wr.ownsRow w5.heap.size 61 2 vo (outsTo s t j).length ((outsTo s t j).flatMap OutR.cells))) (fun _ i _ => t.links.length - (intOf i).toNat)
      case atStart => exact ⟨Below.refl _ _, 0, Nat.zero_le _, rfl, World.ownsRow_nil _ _ _ _⟩
      case round =>
        obtain ⟨hbl, j, hj, rfl, HO⟩ := hrel
        have HW6 := Lib.hid (HW5.out.trans (hbl.mono HW5.out.size))
        have hszr := hbl.size
        have s0' := (hbl.cell (cell_lt s0)).trans s0
        have s1' := (hbl.cell (cell_lt s1)).trans s1
        have b0' := (hbl.cell (cell_lt b0)).trans b0
        have b1' := (hbl.cell (cell_lt b1)).trans b1
        have HSr := Lib.hid (HS5.out.later hbl)
        by_cases hlt : j < t.links.length
        · obtain ⟨b, off, rfl, hc⟩ := HSr.out.sl.2 j t.links[j] (by simp [hlt])
          have l0 := hc 0 _ rfl
          have l1 := hc 1 _ rfl
          have l2 := hc 2 _ rfl
          have l3 := hc 3 _ rfl
          have hbb := cell_lt l0
          simp only [Nat.add_zero] at l0 hbb
          have hwr0 := cell_lt b0'
          have hwrs := cell_lt s0'
          clear hc s0 s1 b0 b1
          have hal := later_alloc wr (.cells #[.string t.links[j].media, .string t.links[j].file, .int .u64 t.links[j].sum, .string t.links[j].proxy] 39)
          have HAL := Lib.hid hal
          have HSa := Lib.hid (HSr.out.later hal)
          have HFa := Lib.hid ((HF.out.later HW6.out).later hal)
          have HLa := Lib.hid ((HL.out.later HW6.out).later hal)
          clear hal
          go_wp2_with fail
          refine (status_prog _ _ _ _ _ _ t.files t.links t.links[j].media _ rfl rfl (by unfold maxLen; omega) (by unfold maxLen; omega) HSa.out.sf.2 HSa.out.sl.2).mono ?_
          rintro e w7 ⟨rfl, hb7⟩
          have a0 := hb7.cell (p := ⟨wr.heap.size, 0, none⟩) (by simp)
          simp [go_sem] at a0
          have HF7 := Lib.hid (HFa.out.later hb7)
          have HL7 := Lib.hid (HLa.out.later hb7)
          have H17 := Lib.hid (HAL.out.trans (hb7.mono HAL.out.size))
          have c0 := (H17.out.cell (cell_lt b0')).trans b0'
          have c1 := (H17.out.cell (cell_lt b1')).trans b1'
          clear hb7
          go_wp2_with fail
          refine (status_prog _ _ _ _ _ _ s.files s.links t.links[j].media _ rfl rfl (by unfold maxLen; omega) (by unfold maxLen; omega) HF7.out HL7.out).mono ?_
          rintro e w8 ⟨rfl, hb8⟩
          have a0' := (hb8.cell (cell_lt a0)).trans a0
          have H18 := Lib.hid (H17.out.trans (hb8.mono H17.out.size))
          have H58 := Lib.hid (hbl.trans (H18.out.mono hbl.size))
          have hwr8 := cell_lt a0'
          clear hb8 a0 c0 c1
          have HO8 := Lib.hid (own_later HO.out H18.out)
          have hs8 := H58.out.size
          cases hne : (status t.files t.links t.links[j].media != status s.files s.links t.links[j].media) with
          | false =>
            have HN := Lib.hid (show outsTo s t (j + 1) = outsTo s t j by rw [outsTo_succ hlt]; simp [outF, hne])
            go_wp2
            go_roundw
            case rel => exact ⟨H58.out, j + 1, by omega, by go_num, by rw [HN.out]; exact HO8.out⟩
            case measure => simp [intOf]; omega
          | true =>
            have HN := Lib.hid (show outsTo s t (j + 1) = outsTo s t j ++ [⟨t.links[j].media, status t.files t.links t.links[j].media⟩] by rw [outsTo_succ hlt]; simp [outF, hne])
            obtain ⟨i0, hi0, hz0, hz1, hz2⟩ := info_parts Try.info61
            have hol := outsTo_len s t j
            go_wp2_with (at_builtin; refine wpList_append_own_at _ rfl (.tmp 52) (.tmp 57) _ rfl w5.heap.size 61 i0 _ 2 24 Try.underlying48 hi0 hz0 hz1 hz2 rfl (by omega) _ _ _ rfl (HO8.out.alloc _) ⟨w8.heap.size, 0, none⟩ 1 1 [.string t.links[j].media, .int .i64 (status t.files t.links t.links[j].media)] rfl rfl (cells_new _ _) (by simp [Value.oneCell']) (by simp only [maxLen]; omega) (by omega) (by simp; omega) ?_
                         intro v' w9 hown hg hnil hat
                         have HO9 := Lib.hid hown
                         have HB9 := Lib.hid ((H58.out.alloc hs8 _).grown hg (by simp; omega) (fun q hq => (HO8.out.lt q hq).1))
                         clear hown hg hnil hat)
            go_roundw
            case rel => exact ⟨HB9.out, j + 1, by omega, by go_num, by rw [HN.out]; simpa [Hid, OutR.cells] using HO9.out⟩
            case measure => simp [intOf]; omega
        · have hje : j = t.links.length := by omega
          have HOe := Lib.hid (show outsTo s t j = outsS s t by rw [hje]; unfold outsTo outsS; rw [List.take_length])
          clear hje s0 s1 b0 b1 b0' b1'
          have x0 := (hbl.cell (Nat.lt_of_lt_of_le (cell_lt X0.out) HB35.out.size)).trans ((HB35.out.cell (cell_lt X0.out)).trans X0.out)
          have x1 := (hbl.cell (Nat.lt_of_lt_of_le (cell_lt X1.out) HB35.out.size)).trans ((HB35.out.cell (cell_lt X1.out)).trans X1.out)
          have y0 := (hbl.frozen (p := ⟨w.heap.size + 2, 0, none⟩) (Nat.lt_of_lt_of_le (cell_lt X0.out) HB35.out.size)).trans ((HB35.out.frozen (cell_lt X0.out)).trans Y0.out)
          have y1 := (hbl.frozen (p := ⟨w.heap.size + 2, 1, none⟩) (Nat.lt_of_lt_of_le (cell_lt X1.out) HB35.out.size)).trans ((HB35.out.frozen (cell_lt X1.out)).trans Y1.out)
          have hwA : w.heap.size ≤ w3.heap.size := HBB.out.size
          have hwB : w.heap.size ≤ w5.heap.size := HW5.out.size
          have hw35 : w3.heap.size ≤ w5.heap.size := HB35.out.size
          go_wp2
          refine bodyPost_ret (v := .tuple #[.agg #[.slice TF t.files.length cF, .slice TL t.links.length cL], u9, .int .i64 0]) (by simp [results, Try.results18, go_sem, x0, x1]) rfl ?_
          rw [HR.out]
          have k1 := ownsRow_setCell_below (ownsRow_setCell_below HSr.out.f (a := ⟨w.heap.size + 2, 0, none⟩) hsz3 (.slice TF t.files.length cF)) (a := ⟨w.heap.size + 2, 1, none⟩) hsz3 (.slice TL t.links.length cL)
          have k2 := ownsRow_setCell_below (ownsRow_setCell_below HSr.out.l (a := ⟨w.heap.size + 2, 0, none⟩) hsz3 (.slice TF t.files.length cF)) (a := ⟨w.heap.size + 2, 1, none⟩) hsz3 (.slice TL t.links.length cL)
          have k3 := ownsRow_setCell_below (ownsRow_setCell_below HO.out (a := ⟨w.heap.size + 2, 0, none⟩) (Nat.lt_of_lt_of_le hsz3 hw35) (.slice TF t.files.length cF)) (a := ⟨w.heap.size + 2, 1, none⟩) (Nat.lt_of_lt_of_le hsz3 hw35) (.slice TL t.links.length cL)
          refine ⟨_, _, rfl, ⟨_, _, rfl, own_mono k1 hwA, own_mono k2 hwA⟩, ?_, (HW6.out.setCell (by simp; omega) _).setCell (by simp; omega) _⟩
          rw [HOe.out] at k3
          exact own_mono k3 hwB
end Go.Proofs.Ytnbmiejjkkgckaa
