/- Proved here: Contracts of the media package functions and of their reference, for use in the proofs of the given statements; conditions stand in each theorem. -/
import Derived.Test.YtnbmiejjkkgckaaM5
import Derived.Test.YtnbmiejjkkgckaaM4
namespace Go.Proofs.Ytnbmiejjkkgckaa
open Go.RowKit

structure StateR where
  files : List FileR
  links : List LinkR

/-- a State variable of the call's own, whose two slices are the call's own -/
structure StO (w : World) (B bs : Nat) (v1 v2 : Value) (s : StateR) : Prop where
  blk : w.heap[bs]? = some (.cells #[v1, v2] 30 (0, 0))
  lo : B ≤ bs
  f : w.ownsRow B 37 3 v1 s.files.length (s.files.flatMap FileR.cells)
  l : w.ownsRow B 39 4 v2 s.links.length (s.links.flatMap LinkR.cells)

theorem StO.later {w w' : World} {B bs : Nat} {v1 v2 : Value} {s : StateR} (h : StO w B bs v1 v2 s) (hb : Below w.heap.size w w') : StO w' B bs v1 v2 s :=
  ⟨(hb.block bs (Array.getElem?_eq_some_iff.1 h.blk).1).trans h.blk, h.lo, own_later h.f hb, own_later h.l hb⟩
theorem StO.c0 {w : World} {B bs : Nat} {v1 v2 : Value} {s : StateR} (h : StO w B bs v1 v2 s) : w.cell? ⟨bs, 0, none⟩ = some v1 := by
  rw [cell_of_row w bs 0 _ _ _ h.blk]; rfl
theorem StO.c1 {w : World} {B bs : Nat} {v1 v2 : Value} {s : StateR} (h : StO w B bs v1 v2 s) : w.cell? ⟨bs, 1, none⟩ = some v2 := by
  rw [cell_of_row w bs 1 _ _ _ h.blk]; rfl
theorem StO.fr {w : World} {B bs : Nat} {v1 v2 : Value} {s : StateR} (h : StO w B bs v1 v2 s) (j : Nat) : w.frozen? ⟨bs, j, none⟩ = false :=
  frozen_of_row w bs j _ _ h.blk
theorem own_ne {w : World} {B g e e' k n c : Nat} {xs : List Value} {cs : Array Value} (h : w.ownsRow B e k (.slice (some ⟨g, 0, none⟩) n c) n xs) {b : Nat} (hb : w.heap[b]? = some (.cells cs e' (0, 0))) (hne : e ≠ e') : g ≠ b := by
  rcases h.2 with ⟨h1, _⟩ | ⟨g', cap, cur, hv, _, hg, _⟩
  · cases h1
  · injection hv with h1 _ _
    injection h1 with h1
    injection h1 with h1
    subst h1
    rintro rfl
    rw [hg] at hb
    injection hb with hb
    injection hb with _ h2
    exact hne h2
theorem own_far {w w' : World} {B g e e' k n c k' n' : Nat} {v : Value} {xs ys : List Value} (h : w.ownsRow B e k (.slice (some ⟨g, 0, none⟩) n c) n xs)
   (h' : w.ownsRow B e' k' v n' ys) (hne : e ≠ e') (hg : w.grownBy w' (some g)) : w'.ownsRow B e' k' v n' ys := by
  refine h'.kept hg ?_
  rcases h'.2 with ⟨h1, _⟩ | ⟨g', cap, cur, hv, _, hg', _⟩
  · exact .inl (by rw [h1]; rfl)
  · refine .inr ?_
    rw [hv]
    intro he
    injection he with he
    exact own_ne h hg' hne he.symm
/-- one cell of a file is written -/
theorem StO.setF {w : World} {B bs g n c : Nat} {v2 : Value} {s : StateR} (h : StO w B bs (.slice (some ⟨g, 0, none⟩) n c) v2 s) {i : Nat} (hi : i < s.files.length) (j : Nat) (hj : j < 3) (y : FileR) (u : Value) (hy : y.cells = (s.files[i].cells).set j u) (q : Nat) (hq : q = i * 3 + j) :
    StO (w.setCell ⟨g, q, none⟩ u) B bs (.slice (some ⟨g, 0, none⟩) n c) v2 ⟨s.files.set i y, s.links⟩ ∧ Below B w (w.setCell ⟨g, q, none⟩ u) := by
  subst hq
  have hn : n = s.files.length := by
    rcases h.f.2 with ⟨h1, _⟩ | ⟨g', cap, cur, hv, _⟩
    · cases h1
    · injection hv
  have hf := h.f
  rw [← hn] at hf
  have hst := hf.stored (i * 3 + j) u
  rw [flat_set fileK _ i hi y j hj u hy] at hst
  have hne := own_ne hf h.blk (by decide)
  have hb : B ≤ g := (own_addr hf (by omega)).elim fun g' hg' => by
    have := hg'.1
    injection this with this
    injection this with this
    rw [this]; exact hg'.2.1
  refine ⟨⟨?_, h.lo, ?_, ?_⟩, (Below.refl _ _).setCell hb u⟩
  · rw [hst.2.block bs (Array.getElem?_eq_some_iff.1 h.blk).1 (by simpa using Ne.symm hne)]
    exact h.blk
  · simpa [← hn] using hst.1
  · exact own_far hf h.l (by decide) hst.2
theorem StO.setL {w : World} {B bs g n c : Nat} {v1 : Value} {s : StateR} (h : StO w B bs v1 (.slice (some ⟨g, 0, none⟩) n c) s) {i : Nat} (hi : i < s.links.length) (j : Nat) (hj : j < 4) (y : LinkR) (u : Value) (hy : y.cells = (s.links[i].cells).set j u) (q : Nat) (hq : q = i * 4 + j) :
    StO (w.setCell ⟨g, q, none⟩ u) B bs v1 (.slice (some ⟨g, 0, none⟩) n c) ⟨s.files, s.links.set i y⟩ ∧ Below B w (w.setCell ⟨g, q, none⟩ u) := by
  subst hq
  have hn : n = s.links.length := by
    rcases h.l.2 with ⟨h1, _⟩ | ⟨g', cap, cur, hv, _⟩
    · cases h1
    · injection hv
  have hf := h.l
  rw [← hn] at hf
  have hst := hf.stored (i * 4 + j) u
  rw [flat_set linkK _ i hi y j hj u hy] at hst
  have hne := own_ne hf h.blk (by decide)
  have hb : B ≤ g := (own_addr hf (by omega)).elim fun g' hg' => by
    have := hg'.1
    injection this with this
    injection this with this
    rw [this]; exact hg'.2.1
  refine ⟨⟨?_, h.lo, ?_, ?_⟩, (Below.refl _ _).setCell hb u⟩
  · rw [hst.2.block bs (Array.getElem?_eq_some_iff.1 h.blk).1 (by simpa using Ne.symm hne)]
    exact h.blk
  · exact own_far hf h.f (by decide) hst.2
  · simpa [← hn] using hst.1

theorem StO.sf {w : World} {B bs n c : Nat} {A : Option Addr} {v2 : Value} {s : StateR} (h : StO w B bs (.slice A n c) v2 s) : n = s.files.length ∧ Sl FileR.cells 3 w A s.files := by
  have hn : n = s.files.length := by
    rcases h.f.2 with ⟨h1, h2⟩ | ⟨g', cap, cur, hv, _⟩
    · injection h1 with _ h1; omega
    · injection hv
  have hf := h.f
  subst hn
  exact ⟨rfl, own_sl fileK hf⟩
theorem StO.sl {w : World} {B bs n c : Nat} {A : Option Addr} {v1 : Value} {s : StateR} (h : StO w B bs v1 (.slice A n c) s) : n = s.links.length ∧ Sl LinkR.cells 4 w A s.links := by
  have hn : n = s.links.length := by
    rcases h.l.2 with ⟨h1, h2⟩ | ⟨g', cap, cur, hv, _⟩
    · injection h1 with _ h1; omega
    · injection hv
  have hf := h.l
  subst hn
  exact ⟨rfl, own_sl linkK hf⟩
theorem StO.forms {w : World} {B bs : Nat} {v1 v2 : Value} {s : StateR} (h : StO w B bs v1 v2 s) : ∃ A c D d, v1 = .slice A s.files.length c ∧ v2 = .slice D s.links.length d := by
  obtain ⟨A, c, h1, _⟩ := own_form h.f
  obtain ⟨D, d, h2, _⟩ := own_form h.l
  exact ⟨A, c, D, d, h1, h2⟩

theorem own_blk_ne {w : World} {B e e' k n : Nat} {v : Value} {xs : List Value} {cs : Array Value} (h : w.ownsRow B e k v n xs) {b : Nat} (hb : w.heap[b]? = some (.cells cs e' (0, 0))) (hne : e ≠ e') : v.ownBlock ≠ some b := by
  rcases h.2 with ⟨h1, _⟩ | ⟨g', cap, cur, hv, _, hg, _⟩
  · rw [h1]; simp [Value.ownBlock]
  · rw [hv]
    intro he
    injection he with he
    subst he
    rw [hg] at hb
    injection hb with hb
    injection hb with _ h2
    exact hne h2
theorem own_own_ne {w : World} {B e e' k n k' n' : Nat} {v v' : Value} {xs ys : List Value} (h : w.ownsRow B e k v n xs) (h' : w.ownsRow B e' k' v' n' ys) (hne : e ≠ e') : v'.ownBlock = none ∨ v'.ownBlock ≠ v.ownBlock := by
  rcases h'.2 with ⟨h1, _⟩ | ⟨g', cap, cur, hv, _, hg, _⟩
  · exact .inl (by rw [h1]; rfl)
  · exact .inr (by rw [hv]; exact (own_blk_ne h hg hne).symm)
/-- an append to the files, before it is stored back -/
theorem StO.appF {w wA w2 : World} {B bs : Nat} {v1 v2 v' : Value} {s : StateR} (h : StO w B bs v1 v2 s) (hA : Below w.heap.size w wA) (hB : B ≤ w.heap.size) (y : FileR)
    (hown : w2.ownsRow B 37 3 v' (s.files.length + 1) (s.files.flatMap FileR.cells ++ y.cells)) (hg : wA.grownBy w2 v1.ownBlock) :
    w2.heap[bs]? = some (.cells #[v1, v2] 30 (0, 0)) ∧ Below B w w2 ∧ StO (w2.setCell ⟨bs, 0, none⟩ v') B bs v' v2 ⟨s.files ++ [y], s.links⟩ ∧ Below B w (w2.setCell ⟨bs, 0, none⟩ v') := by
  have hA' := h.later hA
  have hbs : bs < wA.heap.size := (Array.getElem?_eq_some_iff.1 hA'.blk).1
  have h1 : w2.heap[bs]? = some (.cells #[v1, v2] 30 (0, 0)) := (hg.block bs hbs (own_blk_ne hA'.f hA'.blk (by decide)).symm).trans hA'.blk
  have h2 : Below B w w2 := (hA.mono hB).trans ((Below.refl B wA).grown hg (by have := hA.size; omega) (fun k hk => (hA'.f.lt k hk).1))
  have hl2 := hA'.l.kept hg (own_own_ne hA'.f hA'.l (by decide))
  have hst : ∀ {e k n : Nat} {v : Value} {xs : List Value}, w2.ownsRow B e k v n xs → e ≠ 30 → (w2.setCell ⟨bs, 0, none⟩ v').ownsRow B e k v n xs := fun ho hne =>
    ho.kept (row := some bs) ⟨rfl, rfl, rfl, by simp, fun k _ hk => Below.heap_setCell _ _ _ _ (fun e => hk (by rw [e]))⟩ (.inr (own_blk_ne ho h1 hne))
  refine ⟨h1, h2, ⟨?_, h.lo, ?_, ?_⟩, h2.setCell h.lo _⟩
  · rw [heap_setCell_same w2 bs 0 _ 30 v' h1]; rfl
  · have := hst hown (by decide)
    simpa using this
  · exact hst hl2 (by decide)
theorem StO.appL {w wA w2 : World} {B bs : Nat} {v1 v2 v' : Value} {s : StateR} (h : StO w B bs v1 v2 s) (hA : Below w.heap.size w wA) (hB : B ≤ w.heap.size) (y : LinkR)
    (hown : w2.ownsRow B 39 4 v' (s.links.length + 1) (s.links.flatMap LinkR.cells ++ y.cells)) (hg : wA.grownBy w2 v2.ownBlock) :
    w2.heap[bs]? = some (.cells #[v1, v2] 30 (0, 0)) ∧ Below B w w2 ∧ StO (w2.setCell ⟨bs, 1, none⟩ v') B bs v1 v' ⟨s.files, s.links ++ [y]⟩ ∧ Below B w (w2.setCell ⟨bs, 1, none⟩ v') := by
  have hA' := h.later hA
  have hbs : bs < wA.heap.size := (Array.getElem?_eq_some_iff.1 hA'.blk).1
  have h1 : w2.heap[bs]? = some (.cells #[v1, v2] 30 (0, 0)) := (hg.block bs hbs (own_blk_ne hA'.l hA'.blk (by decide)).symm).trans hA'.blk
  have h2 : Below B w w2 := (hA.mono hB).trans ((Below.refl B wA).grown hg (by have := hA.size; omega) (fun k hk => (hA'.l.lt k hk).1))
  have hf2 := hA'.f.kept hg (own_own_ne hA'.l hA'.f (by decide))
  have hst : ∀ {e k n : Nat} {v : Value} {xs : List Value}, w2.ownsRow B e k v n xs → e ≠ 30 → (w2.setCell ⟨bs, 1, none⟩ v').ownsRow B e k v n xs := fun ho hne =>
    ho.kept (row := some bs) ⟨rfl, rfl, rfl, by simp, fun k _ hk => Below.heap_setCell _ _ _ _ (fun e => hk (by rw [e]))⟩ (.inr (own_blk_ne ho h1 hne))
  refine ⟨h1, h2, ⟨?_, h.lo, ?_, ?_⟩, h2.setCell h.lo _⟩
  · rw [heap_setCell_same w2 bs 1 _ 30 v' h1]; rfl
  · exact hst hf2 (by decide)
  · have := hst hown (by decide)
    simpa using this

def hereB (fs : List FileR) (s : ByteArray) : Bool := decide (0 ≤ fidx fs s) && (fileAt fs (fidx fs s)).present

set_option maxHeartbeats 1000000 in
theorem present_prog (w : World) (B bs : Nat) (v1 v2 : Value) (s : StateR) (nm : ByteArray) (h : StO w B bs v1 v2 s) (hm : s.files.length ≤ 65536) :
    Calls Try.prog 48 #[.pointer (some ⟨bs, 0, none⟩), .string nm] w fun e w' => e = .returned (.tuple #[.int .i64 (fidx s.files nm), .bool (hereB s.files nm)]) ∧ Below w.heap.size w w' := by
  obtain ⟨A, c, D, d, rfl, rfl⟩ := h.forms
  have c0 := h.c0
  have c1 := h.c1
  have hb := cell_lt c0
  have HS := Lib.hid h; clear h
  go_enter Try.func48, Try.ntmps48
  go_wp2_with fail
  refine (file_prog _ _ _ _ s.files nm _ rfl (by unfold maxLen; omega) HS.out.sf.2).mono ?_
  rintro e w1 ⟨rfl, hb1⟩
  have d0 := (hb1.cell (cell_lt c0)).trans c0
  clear c0 c1
  rcases idx_range (fun f : FileR => f.name.toList == nm.toList) s.files with hi | ⟨j, hj, hi⟩
  · have hi' : fidx s.files nm = -1 := hi
    have hh : hereB s.files nm = false := by unfold hereB; rw [hi']; rfl
    have HI := Lib.hid hi'; have HH := Lib.hid hh
    rw [hi']
    clear hi hi' hh
    go_wp2
    go_quiet (fail)
    go_wp2
    go_ret2
    exact ⟨by rw [HI.out, HH.out]; rfl, hb1.drewN _⟩
  · have hi' : fidx s.files nm = (j : Int) := hi
    have hh : hereB s.files nm = s.files[j].present := by unfold hereB fileAt; rw [hi']; simp [hj]
    have HI := Lib.hid hi'; have HH := Lib.hid hh
    rw [hi']
    clear hi hi' hh
    obtain ⟨b, off, rfl, hc⟩ := (HS.out.sf.2.later hb1) j s.files[j] (by simp [hj])
    have f2 := hc 2 _ rfl
    clear hc
    have hj0 : (0:Int) ≤ j := by omega
    go_wp2
    go_quiet (fail)
    go_wp2
    go_ret2
    exact ⟨by rw [HI.out, HH.out]; rfl, hb1.drewN _⟩
end Go.Proofs.Ytnbmiejjkkgckaa
