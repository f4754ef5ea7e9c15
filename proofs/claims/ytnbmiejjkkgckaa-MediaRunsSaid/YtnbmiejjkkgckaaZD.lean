/- Proved here: Contracts of the media package functions and of their reference, for use in the proofs of the given statements; conditions stand in each theorem. -/
import Derived.Test.YtnbmiejjkkgckaaZC
import Derived.Test.YtnbmiejjkkgckaaZB
import Derived.BigRegion
set_option linter.unusedSimpArgs false
set_option linter.unusedVariables false
namespace Go.Proofs.Ytnbmiejjkkgckaa
open Go.RowKit

theorem fileK (x : FileR) : x.cells.length = 3 := rfl
theorem linkK (x : LinkR) : x.cells.length = 4 := rfl
theorem Try.info37 : (Try.prog.info? 37).map (fun i => (i.zero, i.size, i.bytes)) = some (some (.agg #[.string ⟨#[]⟩, .int .u64 0, .bool false]), 3, 32) := by kernel_rfl
theorem Try.info39 : (Try.prog.info? 39).map (fun i => (i.zero, i.size, i.bytes)) = some (some (.agg #[.string ⟨#[]⟩, .string ⟨#[]⟩, .int .u64 0, .string ⟨#[]⟩]), 4, 56) := by kernel_rfl
theorem file1 (xs : List FileR) : ∀ u ∈ xs.flatMap FileR.cells, u.oneCell' = true := by
  intro u hu
  simp [FileR.cells] at hu
  obtain ⟨a, _, h | h | h⟩ := hu <;> subst h <;> rfl
theorem link1 (xs : List LinkR) : ∀ u ∈ xs.flatMap LinkR.cells, u.oneCell' = true := by
  intro u hu
  simp [LinkR.cells] at hu
  obtain ⟨a, _, h | h | h | h⟩ := hu <;> subst h <;> rfl

set_option maxHeartbeats 1000000 in
theorem cloneF (A : Option Addr) (n c : Nat) (xs : List FileR) (w : World) (hn : n = xs.length) (hm : n ≤ 65536) (hS : Sl FileR.cells 3 w A xs) :
    Calls Try.prog 34 #[.slice A n c] w fun e w' => ∃ v, e = .returned v ∧ w'.ownsRow w.heap.size 37 3 v n (xs.flatMap FileR.cells) ∧ Below w.heap.size w w' := by
  obtain ⟨i0, hi0, hz0, hz1, hz2⟩ := info_parts Try.info37
  have hfl : (xs.flatMap FileR.cells).length = n * 3 := by rw [flat_len fileK, hn]
  have HN := Lib.hid hn; clear hn
  have HL := Lib.hid hfl; clear hfl
  have HS := Lib.hid hS; clear hS
  have he := fun (a : Option Addr) (l c : Nat) (w : World) => Lib.run_eql_slice_nil (P := Try.prog) w 27 37 a l c 0 0 Try.underlying27
  cases A with
  | none =>
    have hx : xs = [] := by
      cases xs with
      | nil => rfl
      | cons x r => obtain ⟨b, off, h, _⟩ := HS.out 0 x rfl; cases h
    have hn0 : n = 0 := by rw [HN.out, hx]; rfl
    subst hx; subst hn0
    go_enter Try.func34, Try.ntmps34
    go_wp2
    go_ret
    exact ⟨_, rfl, World.ownsRow_nil _ _ _ _, Below.refl _ _⟩
  | some ad =>
    have hnews := Lib.hid (sl_news fileK HS.out)
    go_enter Try.func34, Try.ntmps34
    go_wp2_with (at_builtin; refine wpList_append_own_at _ rfl (.tmp 5) (.tmp 6) _ rfl w.heap.size 37 i0 _ 3 32 Try.underlying27 hi0 hz0 hz1 hz2 rfl (by omega) (.slice (some ⟨w.heap.size, 0, none⟩) 0 0) 0 [] rfl (World.ownsRow_lit w #[] 0 (Nat.le_refl _) (Nat.zero_le _) rfl) ad n c (xs.flatMap FileR.cells) rfl HL.out (fun j u hu => ((later_alloc w _).cell (cell_lt (hnews.out j u hu))).trans (hnews.out j u hu)) (file1 xs) (by simp only [maxLen]; omega) (by omega) (by simp) ?_; intro v' w1 hown hg _ hat)
    go_ret
    refine ⟨v', rfl, by simpa using hown, (later_alloc w _).grown hg (by simp) (fun q hq => ?_)⟩
    simp [Value.ownBlock] at hq
    omega
set_option maxHeartbeats 1000000 in
theorem cloneL (A : Option Addr) (n c : Nat) (xs : List LinkR) (w : World) (hn : n = xs.length) (hm : n ≤ 65536) (hS : Sl LinkR.cells 4 w A xs) :
    Calls Try.prog 35 #[.slice A n c] w fun e w' => ∃ v, e = .returned v ∧ w'.ownsRow w.heap.size 39 4 v n (xs.flatMap LinkR.cells) ∧ Below w.heap.size w w' := by
  obtain ⟨i0, hi0, hz0, hz1, hz2⟩ := info_parts Try.info39
  have hfl : (xs.flatMap LinkR.cells).length = n * 4 := by rw [flat_len linkK, hn]
  have HN := Lib.hid hn; clear hn
  have HL := Lib.hid hfl; clear hfl
  have HS := Lib.hid hS; clear hS
  have he := fun (a : Option Addr) (l c : Nat) (w : World) => Lib.run_eql_slice_nil (P := Try.prog) w 28 39 a l c 0 0 Try.underlying28
  cases A with
  | none =>
    have hx : xs = [] := by
      cases xs with
      | nil => rfl
      | cons x r => obtain ⟨b, off, h, _⟩ := HS.out 0 x rfl; cases h
    have hn0 : n = 0 := by rw [HN.out, hx]; rfl
    subst hx; subst hn0
    go_enter Try.func35, Try.ntmps35
    go_wp2
    go_ret
    exact ⟨_, rfl, World.ownsRow_nil _ _ _ _, Below.refl _ _⟩
  | some ad =>
    have hnews := Lib.hid (sl_news linkK HS.out)
    go_enter Try.func35, Try.ntmps35
    go_wp2_with (at_builtin; refine wpList_append_own_at _ rfl (.tmp 5) (.tmp 6) _ rfl w.heap.size 39 i0 _ 4 56 Try.underlying28 hi0 hz0 hz1 hz2 rfl (by omega) (.slice (some ⟨w.heap.size, 0, none⟩) 0 0) 0 [] rfl (World.ownsRow_lit w #[] 0 (Nat.le_refl _) (Nat.zero_le _) rfl) ad n c (xs.flatMap LinkR.cells) rfl HL.out (fun j u hu => ((later_alloc w _).cell (cell_lt (hnews.out j u hu))).trans (hnews.out j u hu)) (link1 xs) (by simp only [maxLen]; omega) (by omega) (by simp) ?_; intro v' w1 hown hg _ hat)
    go_ret
    refine ⟨v', rfl, by simpa using hown, (later_alloc w _).grown hg (by simp) (fun q hq => ?_)⟩
    simp [Value.ownBlock] at hq
    omega
end Go.Proofs.Ytnbmiejjkkgckaa
/- Proved here: Contracts of the media package functions and of their reference, for use in the proofs of the given statements; conditions stand in each theorem. -/
namespace Go.Proofs.Ytnbmiejjkkgckaa
open Go.RowKit

structure StateR where
  files : List FileR
  links : List LinkR

/-- a State variable of the call's own, whose two slices are the call's own -/
structure StO (w : World) (B bs : Nat) (v1 v2 : Value) (s : StateR) : Prop where
  blk : w.heap[bs]? = some (.cells #[v1, v2] 30 (0, 0))
  lo : B ≤ bs
  f : w.ownsRow B 37 3 v1 s.files.length (s.files.flatMap FileR.cells)
  l : w.ownsRow B 39 4 v2 s.links.length (s.links.flatMap LinkR.cells)

theorem StO.later {w w' : World} {B bs : Nat} {v1 v2 : Value} {s : StateR} (h : StO w B bs v1 v2 s) (hb : Below w.heap.size w w') : StO w' B bs v1 v2 s :=
  ⟨(hb.block bs (Array.getElem?_eq_some_iff.1 h.blk).1).trans h.blk, h.lo, own_later h.f hb, own_later h.l hb⟩
theorem StO.c0 {w : World} {B bs : Nat} {v1 v2 : Value} {s : StateR} (h : StO w B bs v1 v2 s) : w.cell? ⟨bs, 0, none⟩ = some v1 := by
  rw [cell_of_row w bs 0 _ _ _ h.blk]; rfl
theorem StO.c1 {w : World} {B bs : Nat} {v1 v2 : Value} {s : StateR} (h : StO w B bs v1 v2 s) : w.cell? ⟨bs, 1, none⟩ = some v2 := by
  rw [cell_of_row w bs 1 _ _ _ h.blk]; rfl
theorem StO.fr {w : World} {B bs : Nat} {v1 v2 : Value} {s : StateR} (h : StO w B bs v1 v2 s) (j : Nat) : w.frozen? ⟨bs, j, none⟩ = false :=
  frozen_of_row w bs j _ _ h.blk
theorem own_ne {w : World} {B g e e' k n c : Nat} {xs : List Value} {cs : Array Value} (h : w.ownsRow B e k (.slice (some ⟨g, 0, none⟩) n c) n xs) {b : Nat} (hb : w.heap[b]? = some (.cells cs e' (0, 0))) (hne : e ≠ e') : g ≠ b := by
  rcases h.2 with ⟨h1, _⟩ | ⟨g', cap, cur, hv, _, hg, _⟩
  · cases h1
  · injection hv with h1 _ _
    injection h1 with h1
    injection h1 with h1
    subst h1
    rintro rfl
    rw [hg] at hb
    injection hb with hb
    injection hb with _ h2
    exact hne h2
theorem own_far {w w' : World} {B g e e' k n c k' n' : Nat} {v : Value} {xs ys : List Value} (h : w.ownsRow B e k (.slice (some ⟨g, 0, none⟩) n c) n xs)
   (h' : w.ownsRow B e' k' v n' ys) (hne : e ≠ e') (hg : w.grownBy w' (some g)) : w'.ownsRow B e' k' v n' ys := by
  refine h'.kept hg ?_
  rcases h'.2 with ⟨h1, _⟩ | ⟨g', cap, cur, hv, _, hg', _⟩
  · exact .inl (by rw [h1]; rfl)
  · refine .inr ?_
    rw [hv]
    intro he
    injection he with he
    exact own_ne h hg' hne he.symm
/-- one cell of a file is written -/
theorem StO.setF {w : World} {B bs g n c : Nat} {v2 : Value} {s : StateR} (h : StO w B bs (.slice (some ⟨g, 0, none⟩) n c) v2 s) {i : Nat} (hi : i < s.files.length) (j : Nat) (hj : j < 3) (y : FileR) (u : Value) (hy : y.cells = (s.files[i].cells).set j u) (q : Nat) (hq : q = i * 3 + j) :
    StO (w.setCell ⟨g, q, none⟩ u) B bs (.slice (some ⟨g, 0, none⟩) n c) v2 ⟨s.files.set i y, s.links⟩ ∧ Below B w (w.setCell ⟨g, q, none⟩ u) := by
  subst hq
  have hn : n = s.files.length := by
    rcases h.f.2 with ⟨h1, _⟩ | ⟨g', cap, cur, hv, _⟩
    · cases h1
    · injection hv
  have hf := h.f
  rw [← hn] at hf
  have hst := hf.stored (i * 3 + j) u
  rw [flat_set fileK _ i hi y j hj u hy] at hst
  have hne := own_ne hf h.blk (by decide)
  have hb : B ≤ g := (own_addr hf (by omega)).elim fun g' hg' => by
    have := hg'.1
    injection this with this
    injection this with this
    rw [this]; exact hg'.2.1
  refine ⟨⟨?_, h.lo, ?_, ?_⟩, (Below.refl _ _).setCell hb u⟩
  · rw [hst.2.block bs (Array.getElem?_eq_some_iff.1 h.blk).1 (by simpa using Ne.symm hne)]
    exact h.blk
  · simpa [← hn] using hst.1
  · exact own_far hf h.l (by decide) hst.2
theorem StO.setL {w : World} {B bs g n c : Nat} {v1 : Value} {s : StateR} (h : StO w B bs v1 (.slice (some ⟨g, 0, none⟩) n c) s) {i : Nat} (hi : i < s.links.length) (j : Nat) (hj : j < 4) (y : LinkR) (u : Value) (hy : y.cells = (s.links[i].cells).set j u) (q : Nat) (hq : q = i * 4 + j) :
    StO (w.setCell ⟨g, q, none⟩ u) B bs v1 (.slice (some ⟨g, 0, none⟩) n c) ⟨s.files, s.links.set i y⟩ ∧ Below B w (w.setCell ⟨g, q, none⟩ u) := by
  subst hq
  have hn : n = s.links.length := by
    rcases h.l.2 with ⟨h1, _⟩ | ⟨g', cap, cur, hv, _⟩
    · cases h1
    · injection hv
  have hf := h.l
  rw [← hn] at hf
  have hst := hf.stored (i * 4 + j) u
  rw [flat_set linkK _ i hi y j hj u hy] at hst
  have hne := own_ne hf h.blk (by decide)
  have hb : B ≤ g := (own_addr hf (by omega)).elim fun g' hg' => by
    have := hg'.1
    injection this with this
    injection this with this
    rw [this]; exact hg'.2.1
  refine ⟨⟨?_, h.lo, ?_, ?_⟩, (Below.refl _ _).setCell hb u⟩
  · rw [hst.2.block bs (Array.getElem?_eq_some_iff.1 h.blk).1 (by simpa using Ne.symm hne)]
    exact h.blk
  · exact own_far hf h.f (by decide) hst.2
  · simpa [← hn] using hst.1

theorem StO.sf {w : World} {B bs n c : Nat} {A : Option Addr} {v2 : Value} {s : StateR} (h : StO w B bs (.slice A n c) v2 s) : n = s.files.length ∧ Sl FileR.cells 3 w A s.files := by
  have hn : n = s.files.length := by
    rcases h.f.2 with ⟨h1, h2⟩ | ⟨g', cap, cur, hv, _⟩
    · injection h1 with _ h1; omega
    · injection hv
  have hf := h.f
  subst hn
  exact ⟨rfl, own_sl fileK hf⟩
theorem StO.sl {w : World} {B bs n c : Nat} {A : Option Addr} {v1 : Value} {s : StateR} (h : StO w B bs v1 (.slice A n c) s) : n = s.links.length ∧ Sl LinkR.cells 4 w A s.links := by
  have hn : n = s.links.length := by
    rcases h.l.2 with ⟨h1, h2⟩ | ⟨g', cap, cur, hv, _⟩
    · injection h1 with _ h1; omega
    · injection hv
  have hf := h.l
  subst hn
  exact ⟨rfl, own_sl linkK hf⟩
theorem StO.forms {w : World} {B bs : Nat} {v1 v2 : Value} {s : StateR} (h : StO w B bs v1 v2 s) : ∃ A c D d, v1 = .slice A s.files.length c ∧ v2 = .slice D s.links.length d := by
  obtain ⟨A, c, h1, _⟩ := own_form h.f
  obtain ⟨D, d, h2, _⟩ := own_form h.l
  exact ⟨A, c, D, d, h1, h2⟩

theorem own_blk_ne {w : World} {B e e' k n : Nat} {v : Value} {xs : List Value} {cs : Array Value} (h : w.ownsRow B e k v n xs) {b : Nat} (hb : w.heap[b]? = some (.cells cs e' (0, 0))) (hne : e ≠ e') : v.ownBlock ≠ some b := by
  rcases h.2 with ⟨h1, _⟩ | ⟨g', cap, cur, hv, _, hg, _⟩
  · rw [h1]; simp [Value.ownBlock]
  · rw [hv]
    intro he
    injection he with he
    subst he
    rw [hg] at hb
    injection hb with hb
    injection hb with _ h2
    exact hne h2
theorem own_own_ne {w : World} {B e e' k n k' n' : Nat} {v v' : Value} {xs ys : List Value} (h : w.ownsRow B e k v n xs) (h' : w.ownsRow B e' k' v' n' ys) (hne : e ≠ e') : v'.ownBlock = none ∨ v'.ownBlock ≠ v.ownBlock := by
  rcases h'.2 with ⟨h1, _⟩ | ⟨g', cap, cur, hv, _, hg, _⟩
  · exact .inl (by rw [h1]; rfl)
  · exact .inr (by rw [hv]; exact (own_blk_ne h hg hne).symm)
/-- an append to the files, before it is stored back -/
theorem StO.appF {w wA w2 : World} {B bs : Nat} {v1 v2 v' : Value} {s : StateR} (h : StO w B bs v1 v2 s) (hA : Below w.heap.size w wA) (hB : B ≤ w.heap.size) (y : FileR)
    (hown : w2.ownsRow B 37 3 v' (s.files.length + 1) (s.files.flatMap FileR.cells ++ y.cells)) (hg : wA.grownBy w2 v1.ownBlock) :
    w2.heap[bs]? = some (.cells #[v1, v2] 30 (0, 0)) ∧ Below B w w2 ∧ StO (w2.setCell ⟨bs, 0, none⟩ v') B bs v' v2 ⟨s.files ++ [y], s.links⟩ ∧ Below B w (w2.setCell ⟨bs, 0, none⟩ v') := by
  have hA' := h.later hA
  have hbs : bs < wA.heap.size := (Array.getElem?_eq_some_iff.1 hA'.blk).1
  have h1 : w2.heap[bs]? = some (.cells #[v1, v2] 30 (0, 0)) := (hg.block bs hbs (own_blk_ne hA'.f hA'.blk (by decide)).symm).trans hA'.blk
  have h2 : Below B w w2 := (hA.mono hB).trans ((Below.refl B wA).grown hg (by have := hA.size; omega) (fun k hk => (hA'.f.lt k hk).1))
  have hl2 := hA'.l.kept hg (own_own_ne hA'.f hA'.l (by decide))
  have hst : ∀ {e k n : Nat} {v : Value} {xs : List Value}, w2.ownsRow B e k v n xs → e ≠ 30 → (w2.setCell ⟨bs, 0, none⟩ v').ownsRow B e k v n xs := fun ho hne =>
    ho.kept (row := some bs) ⟨rfl, rfl, rfl, by simp, fun k _ hk => Below.heap_setCell _ _ _ _ (fun e => hk (by rw [e]))⟩ (.inr (own_blk_ne ho h1 hne))
  refine ⟨h1, h2, ⟨?_, h.lo, ?_, ?_⟩, h2.setCell h.lo _⟩
  · rw [heap_setCell_same w2 bs 0 _ 30 v' h1]; rfl
  · have := hst hown (by decide)
    simpa using this
  · exact hst hl2 (by decide)
theorem StO.appL {w wA w2 : World} {B bs : Nat} {v1 v2 v' : Value} {s : StateR} (h : StO w B bs v1 v2 s) (hA : Below w.heap.size w wA) (hB : B ≤ w.heap.size) (y : LinkR)
    (hown : w2.ownsRow B 39 4 v' (s.links.length + 1) (s.links.flatMap LinkR.cells ++ y.cells)) (hg : wA.grownBy w2 v2.ownBlock) :
    w2.heap[bs]? = some (.cells #[v1, v2] 30 (0, 0)) ∧ Below B w w2 ∧ StO (w2.setCell ⟨bs, 1, none⟩ v') B bs v1 v' ⟨s.files, s.links ++ [y]⟩ ∧ Below B w (w2.setCell ⟨bs, 1, none⟩ v') := by
  have hA' := h.later hA
  have hbs : bs < wA.heap.size := (Array.getElem?_eq_some_iff.1 hA'.blk).1
  have h1 : w2.heap[bs]? = some (.cells #[v1, v2] 30 (0, 0)) := (hg.block bs hbs (own_blk_ne hA'.l hA'.blk (by decide)).symm).trans hA'.blk
  have h2 : Below B w w2 := (hA.mono hB).trans ((Below.refl B wA).grown hg (by have := hA.size; omega) (fun k hk => (hA'.l.lt k hk).1))
  have hf2 := hA'.f.kept hg (own_own_ne hA'.l hA'.f (by decide))
  have hst : ∀ {e k n : Nat} {v : Value} {xs : List Value}, w2.ownsRow B e k v n xs → e ≠ 30 → (w2.setCell ⟨bs, 1, none⟩ v').ownsRow B e k v n xs := fun ho hne =>
    ho.kept (row := some bs) ⟨rfl, rfl, rfl, by simp, fun k _ hk => Below.heap_setCell _ _ _ _ (fun e => hk (by rw [e]))⟩ (.inr (own_blk_ne ho h1 hne))
  refine ⟨h1, h2, ⟨?_, h.lo, ?_, ?_⟩, h2.setCell h.lo _⟩
  · rw [heap_setCell_same w2 bs 1 _ 30 v' h1]; rfl
  · exact hst hf2 (by decide)
  · have := hst hown (by decide)
    simpa using this

def hereB (fs : List FileR) (s : ByteArray) : Bool := decide (0 ≤ fidx fs s) && (fileAt fs (fidx fs s)).present

set_option maxHeartbeats 1000000 in
theorem present_prog (w : World) (B bs : Nat) (v1 v2 : Value) (s : StateR) (nm : ByteArray) (h : StO w B bs v1 v2 s) (hm : s.files.length ≤ 65536) :
    Calls Try.prog 48 #[.pointer (some ⟨bs, 0, none⟩), .string nm] w fun e w' => e = .returned (.tuple #[.int .i64 (fidx s.files nm), .bool (hereB s.files nm)]) ∧ Below w.heap.size w w' := by
  obtain ⟨A, c, D, d, rfl, rfl⟩ := h.forms
  have c0 := h.c0
  have c1 := h.c1
  have hb := cell_lt c0
  have HS := Lib.hid h; clear h
  go_enter Try.func48, Try.ntmps48
  go_wp2_with fail
  refine (file_prog _ _ _ _ s.files nm _ rfl (by unfold maxLen; omega) HS.out.sf.2).mono ?_
  rintro e w1 ⟨rfl, hb1⟩
  have d0 := (hb1.cell (cell_lt c0)).trans c0
  clear c0 c1
  rcases idx_range (fun f : FileR => f.name.toList == nm.toList) s.files with hi | ⟨j, hj, hi⟩
  · have hi' : fidx s.files nm = -1 := hi
    have hh : hereB s.files nm = false := by unfold hereB; rw [hi']; rfl
    have HI := Lib.hid hi'; have HH := Lib.hid hh
    rw [hi']
    clear hi hi' hh
    go_wp2
    go_quiet (fail)
    go_wp2
    go_ret2
    exact ⟨by rw [HI.out, HH.out]; rfl, hb1.drewN _⟩
  · have hi' : fidx s.files nm = (j : Int) := hi
    have hh : hereB s.files nm = s.files[j].present := by unfold hereB fileAt; rw [hi']; simp [hj]
    have HI := Lib.hid hi'; have HH := Lib.hid hh
    rw [hi']
    clear hi hi' hh
    obtain ⟨b, off, rfl, hc⟩ := (HS.out.sf.2.later hb1) j s.files[j] (by simp [hj])
    have f2 := hc 2 _ rfl
    clear hc
    have hj0 : (0:Int) ≤ j := by omega
    go_wp2
    go_quiet (fail)
    go_wp2
    go_ret2
    exact ⟨by rw [HI.out, HH.out]; rfl, hb1.drewN _⟩
end Go.Proofs.Ytnbmiejjkkgckaa
/- Proved here: Contracts of the media package functions and of their reference, for use in the proofs of the given statements; conditions stand in each theorem. -/
namespace Go.Proofs.Ytnbmiejjkkgckaa
open Go.RowKit

def arriveS (s : StateR) (nm : ByteArray) (sum : Int) : Int × StateR :=
  if 0 ≤ fidx s.files nm then (0, ⟨s.files.set (fidx s.files nm).toNat ⟨nm, sum, true⟩, s.links⟩)
  else if 32 ≤ s.files.length then (18, s)
  else (0, ⟨s.files ++ [⟨nm, sum, true⟩], s.links⟩)

def StPost (w : World) (B bs : Nat) (r : Int × StateR) (e : Ending) (w' : World) : Prop :=
  e = .returned (.int .i64 r.1) ∧ (∃ v1 v2, StO w' B bs v1 v2 r.2) ∧ Below B w w'

set_option maxHeartbeats 1000000 in
theorem arrive_prog (w : World) (B bs : Nat) (v1 v2 : Value) (s : StateR) (nm : ByteArray) (sum : Int) (h : StO w B bs v1 v2 s) (hm : s.files.length ≤ 65536) (hB : B ≤ w.heap.size) :
    Calls Try.prog 43 #[.pointer (some ⟨bs, 0, none⟩), .string nm, .int .u64 sum] w (StPost w B bs (arriveS s nm sum)) := by
  obtain ⟨A, c, D, d, rfl, rfl⟩ := h.forms
  have c0 := h.c0
  have c1 := h.c1
  have hb := cell_lt c0
  have HS := Lib.hid h; clear h
  go_enter Try.func43, Try.ntmps43
  go_wp2_with fail
  refine (file_prog _ _ _ _ s.files nm _ rfl (by unfold maxLen; omega) (HS.out.sf.2.alloc _)).mono ?_
  rintro e w1 ⟨rfl, hb1⟩
  have hbb : Below w.heap.size w w1 := (later_alloc _ _).trans (hb1.mono (by simp))
  have HS1 := Lib.hid (HS.out.later hbb)
  have f0 := (hb1.cell (p := ⟨w.heap.size, 0, none⟩) (by simp))
  have f1 := (hb1.cell (p := ⟨w.heap.size, 1, none⟩) (by simp))
  have f2 := (hb1.cell (p := ⟨w.heap.size, 2, none⟩) (by simp))
  simp [go_sem] at f0 f1 f2
  have d0 := (hbb.cell (cell_lt c0)).trans c0
  have hsz : w.heap.size < w1.heap.size := by have := hb1.size; simp at this; omega
  have hbs := cell_lt d0
  clear c0 c1 HS
  rcases idx_range (fun f : FileR => f.name.toList == nm.toList) s.files with hi | ⟨j, hj, hi⟩
  · have hi' : fidx s.files nm = -1 := hi
    have HI := Lib.hid hi'
    rw [hi']
    clear hi hi'
    by_cases h32 : 32 ≤ s.files.length
    · have HR := Lib.hid (show arriveS s nm sum = (18, s) by unfold arriveS; rw [HI.out]; simp [h32])
      go_wp2
      go_ret
      rw [HR.out]
      exact ⟨rfl, ⟨_, _, HS1.out⟩, hbb.mono hB⟩
    · have HR := Lib.hid (show arriveS s nm sum = (0, ⟨s.files ++ [⟨nm, sum, true⟩], s.links⟩) by unfold arriveS; rw [HI.out]; simp [h32])
      obtain ⟨i0, hi0, hz0, hz1, hz2⟩ := info_parts Try.info37
      go_wp2
      go_region_law (refine step_append_own_at rfl (.tmp 36) (.tmp 38) _ rfl B 37 i0 _ 3 32 Try.underlying27 hi0 hz0 hz1 hz2 rfl (by omega) _ _ _ rfl (HS1.out.f.alloc _) ⟨w1.heap.size, 0, none⟩ 1 1 [.string nm, .int .u64 sum, .bool true] rfl rfl (cells_new _ _) (by simp [Value.oneCell']) (by simp only [maxLen]; omega) (by omega) (by simp; omega) ?_
                     intro v' w2 hown hg hnil hat
                     obtain ⟨A', c', rfl, _⟩ := own_form hown
                     have HAP := Lib.hid (HS1.out.appF (later_alloc _ _).drew (by omega) ⟨nm, sum, true⟩ hown hg)
                     have q0 := (cell_of_row w2 bs 0 _ _ _ HAP.out.1)
                     have q1 := (frozen_of_row w2 bs 0 _ _ HAP.out.1)
                     clear hown hg hnil hat)
      all_goals
        go_wp2
        go_ret
        rw [HR.out]
        exact ⟨rfl, ⟨_, _, HAP.out.2.2.1⟩, (hbb.mono hB).trans HAP.out.2.2.2⟩
  · have hi' : fidx s.files nm = (j : Int) := hi
    have HR := Lib.hid (show arriveS s nm sum = (0, ⟨s.files.set j ⟨nm, sum, true⟩, s.links⟩) by unfold arriveS; rw [hi']; simp)
    rw [hi']
    clear hi hi'
    obtain ⟨g, rfl, hg1, hg2⟩ := own_addr HS1.out.f (by omega)
    have e0 := HS1.out.sf.2 j s.files[j] (by simp [hj])
    obtain ⟨b, off, hA, hc⟩ := e0
    injection hA with hA
    injection hA with hA1 hA2
    subst hA1 hA2
    have g0 := hc 0 _ rfl
    have g1 := hc 1 _ rfl
    have g2 := hc 2 _ rfl
    simp only [Nat.add_zero, Nat.zero_add] at g0 g1 g2
    have fz := fun q => HS1.out.f.frozenAt q
    clear hc
    go_wp2
    go_region
    all_goals
      go_wp2
      go_ret
      rw [HR.out]
      have s1 := HS1.out.setF hj 0 (by omega) ⟨nm, s.files[j].sum, s.files[j].present⟩ (.string nm) rfl (j * 3) rfl
      have s2 := s1.1.setF (i := j) (by simpa using hj) 1 (by omega) ⟨nm, sum, s.files[j].present⟩ (.int .u64 sum) (by simp [FileR.cells]) (j * 3 + 1) rfl
      have s3 := s2.1.setF (i := j) (by simpa using hj) 2 (by omega) ⟨nm, sum, true⟩ (.bool true) (by simp [FileR.cells]) (j * 3 + 2) rfl
      have s4 := s3.1
      simp only [List.set_set] at s4
      exact ⟨rfl, ⟨_, _, s4.later ((Below.refl _ _).drew)⟩, ((((hbb.mono hB).trans s1.2).trans s2.2).trans s3.2).drew⟩

def leaveS (s : StateR) (nm : ByteArray) : Int × StateR :=
  if hereB s.files nm then (0, ⟨s.files.set (fidx s.files nm).toNat { fileAt s.files (fidx s.files nm) with present := false }, s.links⟩) else (7, s)

set_option maxHeartbeats 1000000 in
theorem leave_prog (w : World) (B bs : Nat) (v1 v2 : Value) (s : StateR) (nm : ByteArray) (h : StO w B bs v1 v2 s) (hm : s.files.length ≤ 65536) (hB : B ≤ w.heap.size) :
    Calls Try.prog 44 #[.pointer (some ⟨bs, 0, none⟩), .string nm] w (StPost w B bs (leaveS s nm)) := by
  have HS := Lib.hid h; clear h
  go_enter Try.func44, Try.ntmps44
  go_wp2_with fail
  refine (present_prog _ B bs v1 v2 s nm HS.out hm).mono ?_
  rintro e w1 ⟨rfl, hb1⟩
  have HS1 := Lib.hid (HS.out.later hb1)
  obtain ⟨A, c, D, d, rfl, rfl⟩ := HS.out.forms
  have d0 := HS1.out.c0
  have hbs := cell_lt d0
  cases hh : hereB s.files nm with
  | false =>
    have HR := Lib.hid (show leaveS s nm = (7, s) by unfold leaveS; rw [hh]; rfl)
    clear hh
    go_wp2
    go_ret
    rw [HR.out]
    exact ⟨rfl, ⟨_, _, HS1.out⟩, hb1.mono hB⟩
  | true =>
    rcases idx_range (fun f : FileR => f.name.toList == nm.toList) s.files with hi | ⟨j, hj, hi⟩
    · have hi' : fidx s.files nm = -1 := hi
      unfold hereB at hh; rw [hi'] at hh; simp at hh
    · have hi' : fidx s.files nm = (j : Int) := hi
      have HR := Lib.hid (show leaveS s nm = (0, ⟨s.files.set j { s.files[j] with present := false }, s.links⟩) by unfold leaveS; rw [hh, hi']; simp [fileAt, hj])
      rw [hi']
      clear hi hi' hh
      obtain ⟨g, rfl, hg1, hg2⟩ := own_addr HS1.out.f (by omega)
      have e0 := HS1.out.sf.2 j s.files[j] (by simp [hj])
      obtain ⟨b, off, hA, hc⟩ := e0
      injection hA with hA
      injection hA with hA1 hA2
      subst hA1 hA2
      have g2 := hc 2 _ rfl
      simp only [Nat.zero_add] at g2
      have fz := fun q => HS1.out.f.frozenAt q
      clear hc
      go_wp2
      go_ret
      rw [HR.out]
      have s1 := HS1.out.setF hj 2 (by omega) { s.files[j] with present := false } (.bool false) rfl (j * 3 + 2) rfl
      exact ⟨rfl, ⟨_, _, s1.1⟩, (hb1.mono hB).trans s1.2⟩
end Go.Proofs.Ytnbmiejjkkgckaa
/- Proved here: Contracts of the media package functions and of their reference, for use in the proofs of the given statements; conditions stand in each theorem. -/
namespace Go.Proofs.Ytnbmiejjkkgckaa
open Go.RowKit

def connectS (s : StateR) (md nm : ByteArray) : Int × StateR :=
  if 0 ≤ lidx s.links md then (8, s)
  else if hereB s.files nm then
    if 16 ≤ s.links.length then (18, s)
    else (0, ⟨s.files, s.links ++ [⟨md, nm, (fileAt s.files (fidx s.files nm)).sum, ⟨#[]⟩⟩]⟩)
  else (7, s)
def relinkS (s : StateR) (md nm : ByteArray) : Int × StateR :=
  if lidx s.links md < 0 || !hereB s.files nm then (7, s)
  else (0, ⟨s.files, s.links.set (lidx s.links md).toNat { s.links.getD (lidx s.links md).toNat default with file := nm, sum := (fileAt s.files (fidx s.files nm)).sum }⟩)
def attachS (s : StateR) (md px : ByteArray) : Int × StateR :=
  if px.toList == md.toList then (1, s)
  else if lidx s.links md < 0 || (!emp px && decide (lidx s.links px < 0)) then (7, s)
  else (0, ⟨s.files, s.links.set (lidx s.links md).toNat { s.links.getD (lidx s.links md).toNat default with proxy := px }⟩)
theorem here_idx {fs : List FileR} {nm : ByteArray} (h : hereB fs nm = true) : ∃ j : Nat, ∃ _ : j < fs.length, fidx fs nm = j := by
  rcases idx_range (fun f : FileR => f.name.toList == nm.toList) fs with hi | ⟨j, hj, hi⟩
  · have hi' : fidx fs nm = -1 := hi
    unfold hereB at h; rw [hi'] at h; simp at h
  · exact ⟨j, hj, hi⟩
theorem lidx_cases (ls : List LinkR) (md : ByteArray) : lidx ls md = -1 ∨ ∃ j : Nat, ∃ _ : j < ls.length, lidx ls md = j := by
  rcases idx_range (fun f : LinkR => f.media.toList == md.toList) ls with hi | ⟨j, hj, hi⟩
  · exact .inl hi
  · exact .inr ⟨j, hj, hi⟩

set_option maxHeartbeats 2000000 in
theorem connect_prog (w : World) (B bs : Nat) (v1 v2 : Value) (s : StateR) (md nm : ByteArray) (h : StO w B bs v1 v2 s) (hm : s.files.length ≤ 65536) (hml : s.links.length ≤ 65536) (hB : B ≤ w.heap.size) :
    Calls Try.prog 45 #[.pointer (some ⟨bs, 0, none⟩), .string md, .string nm] w (StPost w B bs (connectS s md nm)) := by
  obtain ⟨A, c, D, d, rfl, rfl⟩ := h.forms
  have c0 := h.c0
  have c1 := h.c1
  have HS := Lib.hid h; clear h
  go_enter Try.func45, Try.ntmps45
  go_wp2_with fail
  refine (link_prog _ _ _ _ s.links md _ rfl (by unfold maxLen; omega) HS.out.sl.2).mono ?_
  rintro e w1 ⟨rfl, hb1⟩
  have HS1 := Lib.hid (HS.out.later hb1)
  clear c0 c1
  rcases lidx_cases s.links md with hi | ⟨k, hk, hi⟩
  · have HI := Lib.hid hi
    rw [hi]
    clear hi
    go_wp2_with fail
    refine (present_prog _ B bs _ _ s nm HS1.out hm).mono ?_
    rintro e w2 ⟨rfl, hb2⟩
    have hbb : Below w.heap.size w w2 := hb1.trans (hb2.mono hb1.size)
    have HS2 := Lib.hid (HS1.out.later hb2)
    have d0 := HS2.out.c0
    have d1 := HS2.out.c1
    have hbs := cell_lt d0
    have fr := HS2.out.fr 1
    cases hh : hereB s.files nm with
    | false =>
      have HR := Lib.hid (show connectS s md nm = (7, s) by unfold connectS; rw [HI.out, hh]; simp)
      clear hh
      go_wp2
      go_ret
      rw [HR.out]
      exact ⟨rfl, ⟨_, _, HS2.out⟩, hbb.mono hB⟩
    | true =>
      by_cases h16 : 16 ≤ s.links.length
      · have HR := Lib.hid (show connectS s md nm = (18, s) by unfold connectS; rw [HI.out, hh]; simp [h16])
        clear hh
        go_wp2
        go_ret
        rw [HR.out]
        exact ⟨rfl, ⟨_, _, HS2.out⟩, hbb.mono hB⟩
      · obtain ⟨j, hj, hf⟩ := here_idx hh
        have HR := Lib.hid (show connectS s md nm = (0, ⟨s.files, s.links ++ [⟨md, nm, s.files[j].sum, ⟨#[]⟩⟩]⟩) by unfold connectS; rw [HI.out, hh, hf]; simp [h16, fileAt, hj])
        rw [hf]
        clear hh hf
        obtain ⟨b, off, rfl, hc⟩ := HS2.out.sf.2 j s.files[j] (by simp [hj])
        have g1 := hc 1 _ rfl
        have hgb := cell_lt g1
        clear hc
        have hsz := hbb.size
        obtain ⟨i0, hi0, hz0, hz1, hz2⟩ := info_parts Try.info39
        go_wp2
        go_region_law (refine step_append_own_at rfl (.tmp 33) (.tmp 45) _ rfl B 39 i0 _ 4 56 Try.underlying28 hi0 hz0 hz1 hz2 rfl (by omega) _ _ _ rfl (HS2.out.l.alloc _) ⟨w2.heap.size, 0, none⟩ 1 1 [.string md, .string nm, .int .u64 s.files[j].sum, .string ⟨#[]⟩] rfl rfl (cells_new _ _) (by simp [Value.oneCell']) (by simp only [maxLen]; omega) (by omega) (by simp; omega) ?_
                       intro v' w3 hown hg hnil hat
                       obtain ⟨A', c', rfl, _⟩ := own_form hown
                       have HAP := Lib.hid (HS2.out.appL (later_alloc _ _).drew (by omega) ⟨md, nm, s.files[j].sum, ⟨#[]⟩⟩ hown hg)
                       have q0 := (cell_of_row w3 bs 1 _ _ _ HAP.out.1)
                       have q1 := (frozen_of_row w3 bs 1 _ _ HAP.out.1)
                       clear hown hg hnil hat)
        all_goals
          go_wp2
          go_ret
          rw [HR.out]
          exact ⟨rfl, ⟨_, _, HAP.out.2.2.1⟩, (hbb.mono hB).trans HAP.out.2.2.2⟩
  · have HR := Lib.hid (show connectS s md nm = (8, s) by unfold connectS; rw [hi]; simp)
    rw [hi]
    have hk0 : (0:Int) ≤ k := by omega
    clear hi
    go_wp2
    go_ret
    rw [HR.out]
    exact ⟨rfl, ⟨_, _, HS1.out⟩, hb1.mono hB⟩

set_option maxHeartbeats 2000000 in
theorem relink_prog (w : World) (B bs : Nat) (v1 v2 : Value) (s : StateR) (md nm : ByteArray) (h : StO w B bs v1 v2 s) (hm : s.files.length ≤ 65536) (hml : s.links.length ≤ 65536) (hB : B ≤ w.heap.size) :
    Calls Try.prog 46 #[.pointer (some ⟨bs, 0, none⟩), .string md, .string nm] w (StPost w B bs (relinkS s md nm)) := by
  obtain ⟨A, c, D, d, rfl, rfl⟩ := h.forms
  have c0 := h.c0
  have c1 := h.c1
  have HS := Lib.hid h; clear h
  go_enter Try.func46, Try.ntmps46
  go_wp2_with fail
  refine (link_prog _ _ _ _ s.links md _ rfl (by unfold maxLen; omega) HS.out.sl.2).mono ?_
  rintro e w1 ⟨rfl, hb1⟩
  have HS1 := Lib.hid (HS.out.later hb1)
  clear c0 c1
  go_wp2_with fail
  refine (present_prog _ B bs _ _ s nm HS1.out hm).mono ?_
  rintro e w2 ⟨rfl, hb2⟩
  have hbb : Below w.heap.size w w2 := hb1.trans (hb2.mono hb1.size)
  have HS2 := Lib.hid (HS1.out.later hb2)
  have d0 := HS2.out.c0
  have d1 := HS2.out.c1
  have hbs := cell_lt d0
  rcases lidx_cases s.links md with hi | ⟨k, hk, hi⟩
  · have HR := Lib.hid (show relinkS s md nm = (7, s) by unfold relinkS; rw [hi]; simp)
    rw [hi]
    clear hi
    go_wp2
    go_ret
    rw [HR.out]
    exact ⟨rfl, ⟨_, _, HS2.out⟩, hbb.mono hB⟩
  cases hh : hereB s.files nm with
  | false =>
    have HR := Lib.hid (show relinkS s md nm = (7, s) by unfold relinkS; rw [hh]; simp)
    rw [hi]
    clear hh hi
    go_wp2
    go_ret
    rw [HR.out]
    exact ⟨rfl, ⟨_, _, HS2.out⟩, hbb.mono hB⟩
  | true =>
    obtain ⟨j, hj, hf⟩ := here_idx hh
    have HR := Lib.hid (show relinkS s md nm = (0, ⟨s.files, s.links.set k { s.links[k] with file := nm, sum := s.files[j].sum }⟩) by
      unfold relinkS; rw [hi, hh, hf]
      have : ¬ ((k : Int) < 0) := by omega
      simp [fileAt, hj, hk, this])
    rw [hi, hf]
    clear hh hi hf
    obtain ⟨b, off, rfl, hc⟩ := HS2.out.sf.2 j s.files[j] (by simp [hj])
    have g1 := hc 1 _ rfl
    have hgb := cell_lt g1
    clear hc
    obtain ⟨g, rfl, hg1, hg2⟩ := own_addr HS2.out.l (by omega)
    obtain ⟨b', off', hA, hc⟩ := HS2.out.sl.2 k s.links[k] (by simp [hk])
    injection hA with hA
    injection hA with hA1 hA2
    subst hA1 hA2
    have l1 := hc 1 _ rfl
    have l2 := hc 2 _ rfl
    simp only [Nat.zero_add] at l1 l2
    have fz := fun q => HS2.out.l.frozenAt q
    have hbg : b ≠ g := by
      obtain ⟨b2, h1, h2, h3⟩ := own_addr HS2.out.f (by omega)
      injection h1 with h1
      injection h1 with h1 _
      have h4 := HS2.out.f
      rw [h1]
      rcases HS2.out.l.2 with ⟨h5, _⟩ | ⟨g', cap, cur, hv, _, hg', _⟩
      · cases h5
      · injection hv with h6
        injection h6 with h6
        injection h6 with h6
        subst h6
        rcases h4.2 with ⟨h7, _⟩ | ⟨g4, cap4, cur4, hv4, _, hg4, _⟩
        · cases h7
        · injection hv4 with h8
          injection h8 with h8
          injection h8 with h8 h9
          subst h8 h9
          rw [← h1]
          exact own_ne h4 hg' (by decide)
    have hne1 : (⟨b, off + j * 3 + 1, none⟩ : Addr) ≠ ⟨g, k * 4 + 1, none⟩ := by intro h; injection h with h; exact hbg h
    clear hc hbg
    have hk0 : (0:Int) ≤ k := by omega
    go_wp2
    go_region
    all_goals
      go_wp2
      go_ret
      rw [HR.out]
      have s1 := HS2.out.setL hk 1 (by omega) { s.links[k] with file := nm } (.string nm) rfl (k * 4 + 1) rfl
      have s2 := s1.1.setL (i := k) (by simpa using hk) 2 (by omega) { s.links[k] with file := nm, sum := s.files[j].sum } (.int .u64 s.files[j].sum) (by simp [LinkR.cells]) (k * 4 + 2) rfl
      have s4 := s2.1
      simp only [List.set_set] at s4
      exact ⟨rfl, ⟨_, _, s4.later ((Below.refl _ _).drew)⟩, (((hbb.mono hB).trans s1.2).trans s2.2).drew⟩
end Go.Proofs.Ytnbmiejjkkgckaa
/- Proved here: Contracts of the media package functions and of their reference, for use in the proofs of the given statements; conditions stand in each theorem. -/
namespace Go.Proofs.Ytnbmiejjkkgckaa
open Go.RowKit

set_option maxHeartbeats 2000000 in
theorem attach_prog (w : World) (B bs : Nat) (v1 v2 : Value) (s : StateR) (md px : ByteArray) (h : StO w B bs v1 v2 s) (hm : s.files.length ≤ 65536) (hml : s.links.length ≤ 65536) (hB : B ≤ w.heap.size) :
    Calls Try.prog 47 #[.pointer (some ⟨bs, 0, none⟩), .string md, .string px] w (StPost w B bs (attachS s md px)) := by
  obtain ⟨A, c, D, d, rfl, rfl⟩ := h.forms
  have c0 := h.c0
  have c1 := h.c1
  have HS := Lib.hid h; clear h
  cases heq : (px.toList == md.toList) with
  | true =>
    have HR := Lib.hid (show attachS s md px = (1, s) by unfold attachS; rw [heq]; rfl)
    go_enter Try.func47, Try.ntmps47
    go_wp2_with fail
    go_ret
    rw [HR.out]
    exact ⟨rfl, ⟨_, _, HS.out⟩, Below.refl _ _⟩
  | false =>
  go_enter Try.func47, Try.ntmps47
  go_wp2_with fail
  refine (link_prog _ _ _ _ s.links md _ rfl (by unfold maxLen; omega) HS.out.sl.2).mono ?_
  rintro e w1 ⟨rfl, hb1⟩
  have HS1 := Lib.hid (HS.out.later hb1)
  have d0 := HS1.out.c0
  have d1 := HS1.out.c1
  clear c0 c1
  rcases lidx_cases s.links md with hi | ⟨k, hk, hi⟩
  · have HR := Lib.hid (show attachS s md px = (7, s) by unfold attachS; rw [heq, hi]; simp)
    rw [hi]
    clear hi heq
    go_wp2
    go_ret
    rw [HR.out]
    exact ⟨rfl, ⟨_, _, HS1.out⟩, hb1.mono hB⟩
  have HI := Lib.hid hi
  rw [hi]
  clear hi
  have HE := Lib.hid heq
  clear heq
  have hkn : ¬ ((k : Int) < 0) := by omega
  cases hp : emp px with
  | true =>
    have hp' : px.toList = [] := by simpa [emp] using hp
    have HR := Lib.hid (show attachS s md px = (0, ⟨s.files, s.links.set k { s.links[k] with proxy := px }⟩) by
      unfold attachS; rw [HE.out, HI.out, hp]; simp [hk, hkn])
    clear hp
    obtain ⟨g, rfl, hg1, hg2⟩ := own_addr HS1.out.l (by omega)
    obtain ⟨b', off', hA, hc⟩ := HS1.out.sl.2 k s.links[k] (by simp [hk])
    injection hA with hA
    injection hA with hA1 hA2
    subst hA1 hA2
    have l3 := hc 3 _ rfl
    simp only [Nat.zero_add] at l3
    have fz := fun q => HS1.out.l.frozenAt q
    clear hc hkn
    go_wp2
    go_ret
    rw [HR.out]
    have s1 := HS1.out.setL hk 3 (by omega) { s.links[k] with proxy := px } (.string px) rfl (k * 4 + 3) rfl
    exact ⟨rfl, ⟨_, _, s1.1⟩, (hb1.mono hB).trans s1.2⟩
  | false =>
    have hp' : px.toList.isEmpty = false := hp
    have hpn : ¬ px.toList = [] := by simpa [emp] using hp
    go_wp2_with fail
    refine (link_prog _ _ _ _ s.links px _ rfl (by unfold maxLen; omega) HS1.out.sl.2).mono ?_
    rintro e w2 ⟨rfl, hb2⟩
    have hbb : Below w.heap.size w w2 := hb1.trans (hb2.mono hb1.size)
    have HS2 := Lib.hid (HS1.out.later hb2)
    clear d0 d1
    have d0 := HS2.out.c0
    have d1 := HS2.out.c1
    rcases lidx_cases s.links px with hi | ⟨k2, hk2, hi⟩
    · have HR := Lib.hid (show attachS s md px = (7, s) by unfold attachS; rw [HE.out, HI.out, hp, hi]; simp)
      rw [hi]
      clear hi hp
      go_wp2
      go_ret
      rw [HR.out]
      exact ⟨rfl, ⟨_, _, HS2.out⟩, hbb.mono hB⟩
    · have HR := Lib.hid (show attachS s md px = (0, ⟨s.files, s.links.set k { s.links[k] with proxy := px }⟩) by
        unfold attachS; rw [HE.out, HI.out, hp, hi]
        have : ¬ ((k2 : Int) < 0) := by omega
        simp [hk, hkn, this])
      rw [hi]
      clear hi hp
      obtain ⟨g, rfl, hg1, hg2⟩ := own_addr HS2.out.l (by omega)
      obtain ⟨b', off', hA, hc⟩ := HS2.out.sl.2 k s.links[k] (by simp [hk])
      injection hA with hA
      injection hA with hA1 hA2
      subst hA1 hA2
      have l3 := hc 3 _ rfl
      simp only [Nat.zero_add] at l3
      have fz := fun q => HS2.out.l.frozenAt q
      clear hc hkn
      have hk0 : (0:Int) ≤ k := by omega
      have hk20 : (0:Int) ≤ k2 := by omega
      go_wp2
      go_ret
      rw [HR.out]
      have s1 := HS2.out.setL hk 3 (by omega) { s.links[k] with proxy := px } (.string px) rfl (k * 4 + 3) rfl
      exact ⟨rfl, ⟨_, _, s1.1⟩, (hbb.mono hB).trans s1.2⟩

def performS (s : StateR) (e : EventR) : Int × StateR :=
  if e.kind = 1 then arriveS s e.file e.sum
  else if e.kind = 2 then leaveS s e.file
  else if e.kind = 3 then connectS s e.media e.file
  else if e.kind = 4 then relinkS s e.media e.file
  else attachS s e.media e.proxy

set_option maxHeartbeats 2000000 in
theorem perform_prog (w : World) (B bs : Nat) (v1 v2 : Value) (s : StateR) (k : Int) (m f p : ByteArray) (q : Int) (h : StO w B bs v1 v2 s) (hm : s.files.length ≤ 65536) (hml : s.links.length ≤ 65536) (hB : B ≤ w.heap.size) :
    Calls Try.prog 36 #[.pointer (some ⟨bs, 0, none⟩), .agg #[.int .i64 k, .string m, .string f, .string p, .int .u64 q]] w (StPost w B bs (performS s ⟨k, m, f, p, q⟩)) := by
  have hal := later_alloc w (.cells #[.int .i64 k, .string m, .string f, .string p, .int .u64 q] 45)
  have HS := Lib.hid (h.later hal)
  have hB' : B ≤ (w.alloc (.cells #[.int .i64 k, .string m, .string f, .string p, .int .u64 q] 45)).heap.size := by simp; omega
  have post : ∀ (r : Int × StateR) (e : Ending) (w' : World), StPost (w.alloc (.cells #[.int .i64 k, .string m, .string f, .string p, .int .u64 q] 45)) B bs r e w' → ∃ v, e = .returned v ∧ (∀ r', r = r' → StPost w B bs r' (.returned v) w') := by
    rintro r e w' ⟨rfl, h2, h3⟩
    exact ⟨_, rfl, fun r' hr => by subst hr; exact ⟨rfl, h2, (hal.mono hB).trans h3⟩⟩
  have HP := Lib.hid post
  clear post hal h
  by_cases k1 : k = 1
  · subst k1
    have HR := Lib.hid (show performS s ⟨1, m, f, p, q⟩ = arriveS s f q by simp [performS])
    go_enter Try.func36, Try.ntmps36
    go_wp2_with fail
    refine (arrive_prog _ B bs v1 v2 s f q HS.out hm hB').mono ?_
    rintro e w' he
    obtain ⟨v, rfl, hv⟩ := HP.out _ _ _ he
    go_wp2_with fail
    go_ret
    exact hv _ HR.out.symm
  by_cases k2 : k = 2
  · subst k2
    have HR := Lib.hid (show performS s ⟨2, m, f, p, q⟩ = leaveS s f by simp [performS])
    go_enter Try.func36, Try.ntmps36
    go_wp2_with fail
    refine (leave_prog _ B bs v1 v2 s f HS.out hm hB').mono ?_
    rintro e w' he
    obtain ⟨v, rfl, hv⟩ := HP.out _ _ _ he
    go_wp2_with fail
    go_ret
    exact hv _ HR.out.symm
  by_cases k3 : k = 3
  · subst k3
    have HR := Lib.hid (show performS s ⟨3, m, f, p, q⟩ = connectS s m f by simp [performS])
    go_enter Try.func36, Try.ntmps36
    go_wp2_with fail
    refine (connect_prog _ B bs v1 v2 s m f HS.out hm hml hB').mono ?_
    rintro e w' he
    obtain ⟨v, rfl, hv⟩ := HP.out _ _ _ he
    go_wp2_with fail
    go_ret
    exact hv _ HR.out.symm
  by_cases k4 : k = 4
  · subst k4
    have HR := Lib.hid (show performS s ⟨4, m, f, p, q⟩ = relinkS s m f by simp [performS])
    go_enter Try.func36, Try.ntmps36
    go_wp2_with fail
    refine (relink_prog _ B bs v1 v2 s m f HS.out hm hml hB').mono ?_
    rintro e w' he
    obtain ⟨v, rfl, hv⟩ := HP.out _ _ _ he
    go_wp2_with fail
    go_ret
    exact hv _ HR.out.symm
  have HR := Lib.hid (show performS s ⟨k, m, f, p, q⟩ = attachS s m p by simp [performS, k1, k2, k3, k4])
  go_enter Try.func36, Try.ntmps36
  go_wp2_with fail
  refine (attach_prog _ B bs v1 v2 s m p HS.out hm hml hB').mono ?_
  rintro e w' he
  obtain ⟨v, rfl, hv⟩ := HP.out _ _ _ he
  go_wp2_with fail
  go_ret
  exact hv _ HR.out.symm
end Go.Proofs.Ytnbmiejjkkgckaa
/- Proved here: Contracts of the media package functions and of their reference, for use in the proofs of the given statements; conditions stand in each theorem. -/
namespace Go.Proofs.Ytnbmiejjkkgckaa
open Go.RowKit

theorem eq_of_toList {a b : ByteArray} (h : (a.toList == b.toList) = true) : a = b := by
  have h1 : a.toList = b.toList := by simpa using h
  rw [ByteArray.toList_eq, ByteArray.toList_eq] at h1
  cases a; cases b
  simp at h1
  simp [h1]
theorem idxFrom_hit {α : Type} (p : α → Bool) : ∀ (l : List α) (k j : Nat) (hj : j < l.length), idxFrom p l k = (k + j : Nat) → p l[j] = true
  | x :: r, k, j, hj, h => by
    unfold idxFrom at h
    by_cases hx : p x = true
    · rw [if_pos hx] at h
      have : j = 0 := by omega
      subst this
      exact hx
    · rw [if_neg hx] at h
      cases j with
      | zero =>
        rcases idxFrom_range p r (k + 1) with h1 | h1 <;> omega
      | succ j => exact idxFrom_hit p r (k + 1) j (by simpa using hj) (by rw [h]; congr 1; omega)
theorem fidx_name {fs : List FileR} {nm : ByteArray} {j : Nat} (hj : j < fs.length) (h : fidx fs nm = j) : fs[j].name = nm :=
  eq_of_toList (idxFrom_hit _ fs 0 j hj (by unfold fidx idx at h; rw [h]; simp))
theorem lidx_name {fs : List LinkR} {nm : ByteArray} {j : Nat} (hj : j < fs.length) (h : lidx fs nm = j) : fs[j].media = nm :=
  eq_of_toList (idxFrom_hit _ fs 0 j hj (by unfold lidx idx at h; rw [h]; simp))
theorem fidx_cases (ls : List FileR) (md : ByteArray) : fidx ls md = -1 ∨ ∃ j : Nat, ∃ _ : j < ls.length, fidx ls md = j := by
  rcases idx_range (fun f : FileR => f.name.toList == md.toList) ls with hi | ⟨j, hj, hi⟩
  · exact .inl hi
  · exact .inr ⟨j, hj, hi⟩

set_option maxRecDepth 100000 in
set_option maxHeartbeats 4000000 in
theorem change_1 (w : World) (B bs : Nat) (v1 v2 : Value) (s : StateR) (m f p : ByteArray) (q : Int) (h : StO w B bs v1 v2 s) (hm : s.files.length ≤ 32) (hml : s.links.length ≤ 16) (hB : B ≤ w.heap.size) :
    Calls Try.prog 38 #[.pointer (some ⟨bs, 0, none⟩), .agg #[.int .i64 1, .string m, .string f, .string p, .int .u64 q]] w (StPost w B bs (performS s ⟨1, m, f, p, q⟩)) := by
  obtain ⟨A, c, D, d, rfl, rfl⟩ := h.forms
  obtain ⟨w0, hw0⟩ : ∃ w0, w0 = w.alloc (.cells #[.int .i64 1, .string m, .string f, .string p, .int .u64 q] 45) := ⟨_, rfl⟩
  have hal : Below w.heap.size w w0 := by rw [hw0]; exact later_alloc _ _
  have HS := Lib.hid (h.later hal); clear h
  have b0 : w0.cell? ⟨w.heap.size, 0, none⟩ = some (.int .i64 1) := by rw [hw0]; simp [go_sem]
  have b1 : w0.cell? ⟨w.heap.size, 1, none⟩ = some (.string m) := by rw [hw0]; simp [go_sem]
  have b2 : w0.cell? ⟨w.heap.size, 2, none⟩ = some (.string f) := by rw [hw0]; simp [go_sem]
  have b3 : w0.cell? ⟨w.heap.size, 3, none⟩ = some (.string p) := by rw [hw0]; simp [go_sem]
  have b4 : w0.cell? ⟨w.heap.size, 4, none⟩ = some (.int .u64 q) := by rw [hw0]; simp [go_sem]
  have HW := Lib.hid hw0
  clear hw0
  go_enter Try.func38, Try.ntmps38
  go_wp2_with fail
  rw [← HW.out]
  clear HW
  have x0 := cell_later' HS.out.c0
  have x1 := cell_later' HS.out.c1
  have y1 := cell_later' b1
  have y2 := cell_later' b2
  refine wp_region_later (by kernel_rfl) (by kernel_rfl) ?_
  repeat (go_big_quiet_step (first
    | (go_at_call 29; refine calls_later (link_ref _ _ _ _ s.links m _ rfl (by unfold maxLen; omega) (HS.out.sl.2.later (Later.h _))))
    | (go_at_call 28; refine calls_later (file_ref _ _ _ _ s.files f _ rfl (by unfold maxLen; omega) (HS.out.sf.2.later (Later.h _))))))
  refine wpQuiet_nil ?_
  intro w2 hw'
  have hb2 := later_out hw'
  clear hw' x0 x1 y1 y2
  have hbb : Below w.heap.size w w2 := hal.trans (hb2.mono hal.size)
  have HS2 := Lib.hid (HS.out.later hb2)
  have d0 := HS2.out.c0
  have d1 := HS2.out.c1
  have hbs := cell_lt d0
  have fr := HS2.out.fr
  have e0 := (hb2.cell (cell_lt b0)).trans b0
  have e1 := (hb2.cell (cell_lt b1)).trans b1
  have e2 := (hb2.cell (cell_lt b2)).trans b2
  have e3 := (hb2.cell (cell_lt b3)).trans b3
  have e4 := (hb2.cell (cell_lt b4)).trans b4
  have hsz := hbb.size
  have hbx := cell_lt e0
  clear b0 b1 b2 b3 b4 HS
  rcases fidx_cases s.files f with hi | ⟨j, hj, hi⟩
  · have HI := Lib.hid hi
    rw [hi]
    clear hi
    by_cases h32 : 32 ≤ s.files.length
    · have HR := Lib.hid (show performS s ⟨1, m, f, p, q⟩ = (18, s) by unfold performS arriveS; simp only [if_pos]; rw [HI.out]; simp [h32])
      have heq : ((s.files.length : Int) == 32) = true := by simp; omega
      go_wp2
      go_ret
      rw [HR.out]
      exact ⟨rfl, ⟨_, _, HS2.out⟩, hbb.mono hB⟩
    · have HR := Lib.hid (show performS s ⟨1, m, f, p, q⟩ = (0, ⟨s.files ++ [⟨f, q, true⟩], s.links⟩) by unfold performS arriveS; simp only [if_pos]; rw [HI.out]; simp [h32])
      have heq : ((s.files.length : Int) == 32) = false := by simp; omega
      obtain ⟨i0, hi0, hz0, hz1, hz2⟩ := info_parts Try.info37
      go_wp2
      go_region_law (refine step_append_own_at rfl (.tmp 64) (.tmp 70) _ rfl B 37 i0 _ 3 32 Try.underlying27 hi0 hz0 hz1 hz2 rfl (by omega) _ _ _ rfl (HS2.out.f.alloc _) ⟨w2.heap.size, 0, none⟩ 1 1 [.string f, .int .u64 q, .bool true] rfl rfl (cells_new _ _) (by simp [Value.oneCell']) (by simp only [maxLen]; omega) (by omega) (by simp; omega) ?_
                     intro v' w3 hown hg hnil hat
                     obtain ⟨A', c', rfl, _⟩ := own_form hown
                     have HAP := Lib.hid (HS2.out.appF (later_alloc _ _).drew (by omega) ⟨f, q, true⟩ hown hg)
                     have q0 := (cell_of_row w3 bs 0 _ _ _ HAP.out.1)
                     have q1 := (frozen_of_row w3 bs 0 _ _ HAP.out.1)
                     clear hown hg hnil hat)
      all_goals
        go_wp2
        go_ret
        rw [HR.out]
        exact ⟨rfl, ⟨_, _, HAP.out.2.2.1⟩, (hbb.mono hB).trans HAP.out.2.2.2⟩
  · have hn := fidx_name hj hi
    have HR := Lib.hid (show performS s ⟨1, m, f, p, q⟩ = (0, ⟨s.files.set j { s.files[j] with sum := q, present := true }, s.links⟩) by unfold performS arriveS; simp only [if_pos]; rw [hi]; simp [← hn])
    have hj0 : (0:Int) ≤ j := by omega
    rw [hi]
    clear hi hn
    obtain ⟨g, rfl, hg1, hg2⟩ := own_addr HS2.out.f (by omega)
    obtain ⟨b, off, hA, hc⟩ := HS2.out.sf.2 j s.files[j] (by simp [hj])
    injection hA with hA
    injection hA with hA1 hA2
    subst hA1 hA2
    have g0 := hc 0 _ rfl
    have g1 := hc 1 _ rfl
    have g2 := hc 2 _ rfl
    simp only [Nat.add_zero, Nat.zero_add] at g0 g1 g2
    have fz := fun q => HS2.out.f.frozenAt q
    clear hc
    go_wp2
    all_goals
      go_region
      all_goals
        go_wp2
        go_ret
        rw [HR.out]
        have s1 := HS2.out.setF hj 1 (by omega) { s.files[j] with sum := q } (.int .u64 q) rfl (j * 3 + 1) rfl
        have s2 := s1.1.setF (i := j) (by simpa using hj) 2 (by omega) { s.files[j] with sum := q, present := true } (.bool true) (by simp [FileR.cells]) (j * 3 + 2) rfl
        have s4 := s2.1
        simp only [List.set_set] at s4
        exact ⟨rfl, ⟨_, _, s4.later ((Below.refl _ _).drew)⟩, (((hbb.mono hB).trans s1.2).trans s2.2).drew⟩
end Go.Proofs.Ytnbmiejjkkgckaa
/- Proved here: Contracts of the media package functions and of their reference, for use in the proofs of the given statements; conditions stand in each theorem. -/
namespace Go.Proofs.Ytnbmiejjkkgckaa
open Go.RowKit

theorem here_none {fs : List FileR} {nm : ByteArray} (h : fidx fs nm = -1) : hereB fs nm = false := by unfold hereB; rw [h]; rfl
theorem here_some {fs : List FileR} {nm : ByteArray} {j : Nat} (hj : j < fs.length) (h : fidx fs nm = j) : hereB fs nm = fs[j].present := by
  unfold hereB; rw [h]; simp [fileAt, hj]
theorem own_own {w : World} {B e e' k n k' n' c c' g g' : Nat} {xs ys : List Value} (h : w.ownsRow B e k (.slice (some ⟨g, 0, none⟩) n c) n xs) (h' : w.ownsRow B e' k' (.slice (some ⟨g', 0, none⟩) n' c') n' ys) (hne : e ≠ e') : g ≠ g' := by
  rcases own_own_ne h h' hne with h1 | h1
  · simp [Value.ownBlock] at h1
  · intro e; subst e; exact h1 rfl
set_option maxRecDepth 100000 in
set_option maxHeartbeats 4000000 in
theorem change_2 (w : World) (B bs : Nat) (v1 v2 : Value) (s : StateR) (m f p : ByteArray) (q : Int) (h : StO w B bs v1 v2 s) (hm : s.files.length ≤ 32) (hml : s.links.length ≤ 16) (hB : B ≤ w.heap.size) :
    Calls Try.prog 38 #[.pointer (some ⟨bs, 0, none⟩), .agg #[.int .i64 2, .string m, .string f, .string p, .int .u64 q]] w (StPost w B bs (performS s ⟨2, m, f, p, q⟩)) := by
  obtain ⟨A, c, D, d, rfl, rfl⟩ := h.forms
  obtain ⟨w0, hw0⟩ : ∃ w0, w0 = w.alloc (.cells #[.int .i64 2, .string m, .string f, .string p, .int .u64 q] 45) := ⟨_, rfl⟩
  have hal : Below w.heap.size w w0 := by rw [hw0]; exact later_alloc _ _
  have HS := Lib.hid (h.later hal); clear h
  have b0 : w0.cell? ⟨w.heap.size, 0, none⟩ = some (.int .i64 2) := by rw [hw0]; simp [go_sem]
  have b1 : w0.cell? ⟨w.heap.size, 1, none⟩ = some (.string m) := by rw [hw0]; simp [go_sem]
  have b2 : w0.cell? ⟨w.heap.size, 2, none⟩ = some (.string f) := by rw [hw0]; simp [go_sem]
  have b3 : w0.cell? ⟨w.heap.size, 3, none⟩ = some (.string p) := by rw [hw0]; simp [go_sem]
  have b4 : w0.cell? ⟨w.heap.size, 4, none⟩ = some (.int .u64 q) := by rw [hw0]; simp [go_sem]
  have HW := Lib.hid hw0
  clear hw0
  go_enter Try.func38, Try.ntmps38
  go_wp2_with fail
  rw [← HW.out]
  clear HW
  have x0 := cell_later' HS.out.c0
  have x1 := cell_later' HS.out.c1
  have y1 := cell_later' b1
  have y2 := cell_later' b2
  refine wp_region_later (by kernel_rfl) (by kernel_rfl) ?_
  repeat (go_big_quiet_step (first
    | (go_at_call 29; refine calls_later (link_ref _ _ _ _ s.links m _ rfl (by unfold maxLen; omega) (HS.out.sl.2.later (Later.h _))))
    | (go_at_call 28; refine calls_later (file_ref _ _ _ _ s.files f _ rfl (by unfold maxLen; omega) (HS.out.sf.2.later (Later.h _))))))
  refine wpQuiet_nil ?_
  intro w2 hw'
  have hb2 := later_out hw'
  clear hw' x0 x1 y1 y2
  have hbb : Below w.heap.size w w2 := hal.trans (hb2.mono hal.size)
  have HS2 := Lib.hid (HS.out.later hb2)
  have d0 := HS2.out.c0
  have d1 := HS2.out.c1
  have hbs := cell_lt d0
  have fr := HS2.out.fr
  have e0 := (hb2.cell (cell_lt b0)).trans b0
  have e1 := (hb2.cell (cell_lt b1)).trans b1
  have e2 := (hb2.cell (cell_lt b2)).trans b2
  have e3 := (hb2.cell (cell_lt b3)).trans b3
  have e4 := (hb2.cell (cell_lt b4)).trans b4
  have hsz := hbb.size
  have hbx := cell_lt e0
  clear b0 b1 b2 b3 b4 HS
  rcases fidx_cases s.files f with hi | ⟨j, hj, hi⟩
  · have HR := Lib.hid (show performS s ⟨2, m, f, p, q⟩ = (7, s) by simp [performS, leaveS, here_none hi])
    rw [hi]
    clear hi
    go_wp2
    go_ret
    rw [HR.out]
    exact ⟨rfl, ⟨_, _, HS2.out⟩, hbb.mono hB⟩
  · have hh := here_some hj hi
    have HI := Lib.hid hi
    rw [hi]
    clear hi
    have hj0 : (0:Int) ≤ j := by omega
    obtain ⟨g, rfl, hg1, hg2⟩ := own_addr HS2.out.f (by omega)
    obtain ⟨b, off, hA, hc⟩ := HS2.out.sf.2 j s.files[j] (by simp [hj])
    injection hA with hA
    injection hA with hA1 hA2
    subst hA1 hA2
    have g1 := hc 1 _ rfl
    have g2 := hc 2 _ rfl
    simp only [Nat.zero_add] at g1 g2
    have fz := fun q => HS2.out.f.frozenAt q
    have hgb := cell_lt g1
    clear hc
    cases hp : s.files[j].present with
    | false =>
      rw [hp] at g2 hh
      have HR := Lib.hid (show performS s ⟨2, m, f, p, q⟩ = (7, s) by simp [performS, leaveS, hh])
      clear hp hh
      go_wp2
      go_ret
      rw [HR.out]
      exact ⟨rfl, ⟨_, _, HS2.out⟩, hbb.mono hB⟩
    | true =>
      rw [hp] at g2 hh
      have HR := Lib.hid (show performS s ⟨2, m, f, p, q⟩ = (0, ⟨s.files.set j { s.files[j] with present := false }, s.links⟩) by simp [performS, leaveS, hh, HI.out, fileAt, hj])
      clear hp hh
      go_wp2
      all_goals
        go_ret
        rw [HR.out]
        have s1 := HS2.out.setF hj 2 (by omega) { s.files[j] with present := false } (.bool false) rfl (j * 3 + 2) rfl
        exact ⟨rfl, ⟨_, _, s1.1⟩, (hbb.mono hB).trans s1.2⟩
end Go.Proofs.Ytnbmiejjkkgckaa
/- Proved here: Contracts of the media package functions and of their reference, for use in the proofs of the given statements; conditions stand in each theorem. -/
namespace Go.Proofs.Ytnbmiejjkkgckaa
open Go.RowKit

set_option maxRecDepth 100000 in
set_option maxHeartbeats 4000000 in
theorem change_4 (w : World) (B bs : Nat) (v1 v2 : Value) (s : StateR) (m f p : ByteArray) (q : Int) (h : StO w B bs v1 v2 s) (hm : s.files.length ≤ 32) (hml : s.links.length ≤ 16) (hB : B ≤ w.heap.size) :
    Calls Try.prog 38 #[.pointer (some ⟨bs, 0, none⟩), .agg #[.int .i64 4, .string m, .string f, .string p, .int .u64 q]] w (StPost w B bs (performS s ⟨4, m, f, p, q⟩)) := by
  obtain ⟨A, c, D, d, rfl, rfl⟩ := h.forms
  obtain ⟨w0, hw0⟩ : ∃ w0, w0 = w.alloc (.cells #[.int .i64 4, .string m, .string f, .string p, .int .u64 q] 45) := ⟨_, rfl⟩
  have hal : Below w.heap.size w w0 := by rw [hw0]; exact later_alloc _ _
  have HS := Lib.hid (h.later hal); clear h
  have b0 : w0.cell? ⟨w.heap.size, 0, none⟩ = some (.int .i64 4) := by rw [hw0]; simp [go_sem]
  have b1 : w0.cell? ⟨w.heap.size, 1, none⟩ = some (.string m) := by rw [hw0]; simp [go_sem]
  have b2 : w0.cell? ⟨w.heap.size, 2, none⟩ = some (.string f) := by rw [hw0]; simp [go_sem]
  have b3 : w0.cell? ⟨w.heap.size, 3, none⟩ = some (.string p) := by rw [hw0]; simp [go_sem]
  have b4 : w0.cell? ⟨w.heap.size, 4, none⟩ = some (.int .u64 q) := by rw [hw0]; simp [go_sem]
  have HW := Lib.hid hw0
  clear hw0
  go_enter Try.func38, Try.ntmps38
  go_wp2_with fail
  rw [← HW.out]
  clear HW
  have x0 := cell_later' HS.out.c0
  have x1 := cell_later' HS.out.c1
  have y1 := cell_later' b1
  have y2 := cell_later' b2
  refine wp_region_later (by kernel_rfl) (by kernel_rfl) ?_
  repeat (go_big_quiet_step (first
    | (go_at_call 29; refine calls_later (link_ref _ _ _ _ s.links m _ rfl (by unfold maxLen; omega) (HS.out.sl.2.later (Later.h _))))
    | (go_at_call 28; refine calls_later (file_ref _ _ _ _ s.files f _ rfl (by unfold maxLen; omega) (HS.out.sf.2.later (Later.h _))))))
  refine wpQuiet_nil ?_
  intro w2 hw'
  have hb2 := later_out hw'
  clear hw' x0 x1 y1 y2
  have hbb : Below w.heap.size w w2 := hal.trans (hb2.mono hal.size)
  have HS2 := Lib.hid (HS.out.later hb2)
  have d0 := HS2.out.c0
  have d1 := HS2.out.c1
  have hbs := cell_lt d0
  have fr := HS2.out.fr
  have e0 := (hb2.cell (cell_lt b0)).trans b0
  have e1 := (hb2.cell (cell_lt b1)).trans b1
  have e2 := (hb2.cell (cell_lt b2)).trans b2
  have e3 := (hb2.cell (cell_lt b3)).trans b3
  have e4 := (hb2.cell (cell_lt b4)).trans b4
  have hsz := hbb.size
  have hbx := cell_lt e0
  clear b0 b1 b2 b3 b4 HS
  rcases lidx_cases s.links m with hl | ⟨k, hk, hl⟩
  · have HR := Lib.hid (show performS s ⟨4, m, f, p, q⟩ = (7, s) by simp [performS, relinkS, hl])
    rw [hl]
    clear hl
    rcases fidx_cases s.files f with hi | ⟨j, hj, hi⟩
    · rw [hi]
      clear hi
      go_wp2
      go_ret
      rw [HR.out]
      exact ⟨rfl, ⟨_, _, HS2.out⟩, hbb.mono hB⟩
    · rw [hi]
      clear hi
      have hj0 : (0:Int) ≤ j := by omega
      obtain ⟨g, rfl, hg1, hg2⟩ := own_addr HS2.out.f (by omega)
      obtain ⟨b, off, hA, hc⟩ := HS2.out.sf.2 j s.files[j] (by simp [hj])
      injection hA with hA
      injection hA with hA1 hA2
      subst hA1 hA2
      have g1 := hc 1 _ rfl
      have g2 := hc 2 _ rfl
      simp only [Nat.zero_add] at g1 g2
      have fz := fun q => HS2.out.f.frozenAt q
      have hgb := cell_lt g1
      clear hc
      cases hp : s.files[j].present with
      | false =>
        rw [hp] at g2
        clear hp
        go_wp2
        go_ret
        rw [HR.out]
        exact ⟨rfl, ⟨_, _, HS2.out⟩, hbb.mono hB⟩
      | true =>
        rw [hp] at g2
        clear hp
        go_wp2
        go_ret
        rw [HR.out]
        exact ⟨rfl, ⟨_, _, HS2.out⟩, hbb.mono hB⟩
  have hk0 : (0:Int) ≤ k := by omega
  have hkn : ¬ ((k : Int) < 0) := by omega
  rcases fidx_cases s.files f with hi | ⟨j, hj, hi⟩
  · have HR := Lib.hid (show performS s ⟨4, m, f, p, q⟩ = (7, s) by simp [performS, relinkS, here_none hi])
    rw [hl, hi]
    clear hl hi hkn
    go_wp2
    go_ret
    rw [HR.out]
    exact ⟨rfl, ⟨_, _, HS2.out⟩, hbb.mono hB⟩
  · have hh := here_some hj hi
    have HI := Lib.hid hi
    have HL := Lib.hid hl
    rw [hl, hi]
    clear hi hl
    have hj0 : (0:Int) ≤ j := by omega
    obtain ⟨g, rfl, hg1, hg2⟩ := own_addr HS2.out.f (by omega)
    obtain ⟨b, off, hA, hc⟩ := HS2.out.sf.2 j s.files[j] (by simp [hj])
    injection hA with hA
    injection hA with hA1 hA2
    subst hA1 hA2
    have g1 := hc 1 _ rfl
    have g2 := hc 2 _ rfl
    simp only [Nat.zero_add] at g1 g2
    have fz := fun q => HS2.out.f.frozenAt q
    have hgb := cell_lt g1
    clear hc
    obtain ⟨g', rfl, hg1', hg2'⟩ := own_addr HS2.out.l (by omega)
    obtain ⟨b', off', hA, hc⟩ := HS2.out.sl.2 k s.links[k] (by simp [hk])
    injection hA with hA
    injection hA with hA1 hA2
    subst hA1 hA2
    have l1 := hc 1 _ rfl
    have l2 := hc 2 _ rfl
    have l3 := hc 3 _ rfl
    simp only [Nat.zero_add] at l1 l2 l3
    have fz' := fun q => HS2.out.l.frozenAt q
    clear hc
    have hgg := own_own HS2.out.f HS2.out.l (by decide)
    cases hp : s.files[j].present with
    | false =>
      rw [hp] at g2 hh
      have HR := Lib.hid (show performS s ⟨4, m, f, p, q⟩ = (7, s) by simp [performS, relinkS, hh])
      clear hp hh hkn hgg
      go_wp2
      go_ret
      rw [HR.out]
      exact ⟨rfl, ⟨_, _, HS2.out⟩, hbb.mono hB⟩
    | true =>
      rw [hp] at g2 hh
      have HR := Lib.hid (show performS s ⟨4, m, f, p, q⟩ = (0, ⟨s.files, s.links.set k { s.links[k] with file := f, sum := s.files[j].sum }⟩) by simp [performS, relinkS, hh, HL.out, HI.out, hkn, fileAt, hj, hk])
      have hne1 : (⟨g, j * 3 + 1, none⟩ : Addr) ≠ ⟨g', k * 4 + 1, none⟩ := by intro h; injection h with h; exact hgg h
      clear hp hh hkn hgg
      go_wp2
      all_goals
        go_region
        all_goals
          go_wp2
          go_ret
          rw [HR.out]
          have s1 := HS2.out.setL hk 1 (by omega) { s.links[k] with file := f } (.string f) rfl (k * 4 + 1) rfl
          have s2 := s1.1.setL (i := k) (by simpa using hk) 2 (by omega) { s.links[k] with file := f, sum := s.files[j].sum } (.int .u64 s.files[j].sum) (by simp [LinkR.cells]) (k * 4 + 2) rfl
          have s4 := s2.1
          simp only [List.set_set] at s4
          exact ⟨rfl, ⟨_, _, s4.later ((Below.refl _ _).drew)⟩, (((hbb.mono hB).trans s1.2).trans s2.2).drew⟩
end Go.Proofs.Ytnbmiejjkkgckaa
