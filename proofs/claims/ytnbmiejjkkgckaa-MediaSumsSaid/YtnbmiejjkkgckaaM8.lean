/- Proved here: Contracts of the media package functions and of their reference, for use in the proofs of the given statements; conditions stand in each theorem. -/
import Derived.Test.YtnbmiejjkkgckaaM7
namespace Go.Proofs.Ytnbmiejjkkgckaa
open Go.RowKit

def connectS (s : StateR) (md nm : ByteArray) : Int × StateR :=
  if 0 ≤ lidx s.links md then (8, s)
  else if hereB s.files nm then
    if 16 ≤ s.links.length then (18, s)
    else (0, ⟨s.files, s.links ++ [⟨md, nm, (fileAt s.files (fidx s.files nm)).sum, ⟨#[]⟩⟩]⟩)
  else (7, s)
def relinkS (s : StateR) (md nm : ByteArray) : Int × StateR :=
  if lidx s.links md < 0 || !hereB s.files nm then (7, s)
  else (0, ⟨s.files, s.links.set (lidx s.links md).toNat { s.links.getD (lidx s.links md).toNat default with file := nm, sum := (fileAt s.files (fidx s.files nm)).sum }⟩)
def attachS (s : StateR) (md px : ByteArray) : Int × StateR :=
  if px.toList == md.toList then (1, s)
  else if lidx s.links md < 0 || (!emp px && decide (lidx s.links px < 0)) then (7, s)
  else (0, ⟨s.files, s.links.set (lidx s.links md).toNat { s.links.getD (lidx s.links md).toNat default with proxy := px }⟩)
theorem here_idx {fs : List FileR} {nm : ByteArray} (h : hereB fs nm = true) : ∃ j : Nat, ∃ _ : j < fs.length, fidx fs nm = j := by
  rcases idx_range (fun f : FileR => f.name.toList == nm.toList) fs with hi | ⟨j, hj, hi⟩
  · have hi' : fidx fs nm = -1 := hi
    unfold hereB at h; rw [hi'] at h; simp at h
  · exact ⟨j, hj, hi⟩
theorem lidx_cases (ls : List LinkR) (md : ByteArray) : lidx ls md = -1 ∨ ∃ j : Nat, ∃ _ : j < ls.length, lidx ls md = j := by
  rcases idx_range (fun f : LinkR => f.media.toList == md.toList) ls with hi | ⟨j, hj, hi⟩
  · exact .inl hi
  · exact .inr ⟨j, hj, hi⟩

set_option maxHeartbeats 2000000 in
theorem connect_prog (w : World) (B bs : Nat) (v1 v2 : Value) (s : StateR) (md nm : ByteArray) (h : StO w B bs v1 v2 s) (hm : s.files.length ≤ 65536) (hml : s.links.length ≤ 65536) (hB : B ≤ w.heap.size) :
    Calls Try.prog 45 #[.pointer (some ⟨bs, 0, none⟩), .string md, .string nm] w (StPost w B bs (connectS s md nm)) := by
  obtain ⟨A, c, D, d, rfl, rfl⟩ := h.forms
  have c0 := h.c0
  have c1 := h.c1
  have HS := Lib.hid h; clear h
  go_enter Try.func45, Try.ntmps45
  go_wp2_with fail
  refine (link_prog _ _ _ _ s.links md _ rfl (by unfold maxLen; omega) HS.out.sl.2).mono ?_
  rintro e w1 ⟨rfl, hb1⟩
  have HS1 := Lib.hid (HS.out.later hb1)
  clear c0 c1
  rcases lidx_cases s.links md with hi | ⟨k, hk, hi⟩
  · have HI := Lib.hid hi
    rw [hi]
    clear hi
    go_wp2_with fail
    refine (present_prog _ B bs _ _ s nm HS1.out hm).mono ?_
    rintro e w2 ⟨rfl, hb2⟩
    have hbb : Below w.heap.size w w2 := hb1.trans (hb2.mono hb1.size)
    have HS2 := Lib.hid (HS1.out.later hb2)
    have d0 := HS2.out.c0
    have d1 := HS2.out.c1
    have hbs := cell_lt d0
    have fr := HS2.out.fr 1
    cases hh : hereB s.files nm with
    | false =>
      have HR := Lib.hid (show connectS s md nm = (7, s) by unfold connectS; rw [HI.out, hh]; simp)
      clear hh
      go_wp2
      go_ret
      rw [HR.out]
      exact ⟨rfl, ⟨_, _, HS2.out⟩, hbb.mono hB⟩
    | true =>
      by_cases h16 : 16 ≤ s.links.length
      · have HR := Lib.hid (show connectS s md nm = (18, s) by unfold connectS; rw [HI.out, hh]; simp [h16])
        clear hh
        go_wp2
        go_ret
        rw [HR.out]
        exact ⟨rfl, ⟨_, _, HS2.out⟩, hbb.mono hB⟩
      · obtain ⟨j, hj, hf⟩ := here_idx hh
        have HR := Lib.hid (show connectS s md nm = (0, ⟨s.files, s.links ++ [⟨md, nm, s.files[j].sum, ⟨#[]⟩⟩]⟩) by unfold connectS; rw [HI.out, hh, hf]; simp [h16, fileAt, hj])
        rw [hf]
        clear hh hf
        obtain ⟨b, off, rfl, hc⟩ := HS2.out.sf.2 j s.files[j] (by simp [hj])
        have g1 := hc 1 _ rfl
        have hgb := cell_lt g1
        clear hc
        have hsz := hbb.size
        obtain ⟨i0, hi0, hz0, hz1, hz2⟩ := info_parts Try.info39
        go_wp2
        go_region_law (refine step_append_own_at rfl (.tmp 33) (.tmp 45) _ rfl B 39 i0 _ 4 56 Try.underlying28 hi0 hz0 hz1 hz2 rfl (by omega) _ _ _ rfl (HS2.out.l.alloc _) ⟨w2.heap.size, 0, none⟩ 1 1 [.string md, .string nm, .int .u64 s.files[j].sum, .string ⟨#[]⟩] rfl rfl (cells_new _ _) (by simp [Value.oneCell']) (by simp only [maxLen]; omega) (by omega) (by simp; omega) ?_
                       intro v' w3 hown hg hnil hat
                       obtain ⟨A', c', rfl, _⟩ := own_form hown
                       have HAP := Lib.hid (HS2.out.appL (later_alloc _ _).drew (by omega) ⟨md, nm, s.files[j].sum, ⟨#[]⟩⟩ hown hg)
                       have q0 := (cell_of_row w3 bs 1 _ _ _ HAP.out.1)
                       have q1 := (frozen_of_row w3 bs 1 _ _ HAP.out.1)
                       clear hown hg hnil hat)
        all_goals
          go_wp2
          go_ret
          rw [HR.out]
          exact ⟨rfl, ⟨_, _, HAP.out.2.2.1⟩, (hbb.mono hB).trans HAP.out.2.2.2⟩
  · have HR := Lib.hid (show connectS s md nm = (8, s) by unfold connectS; rw [hi]; simp)
    rw [hi]
    have hk0 : (0:Int) ≤ k := by omega
    clear hi
    go_wp2
    go_ret
    rw [HR.out]
    exact ⟨rfl, ⟨_, _, HS1.out⟩, hb1.mono hB⟩

set_option maxHeartbeats 2000000 in
theorem relink_prog (w : World) (B bs : Nat) (v1 v2 : Value) (s : StateR) (md nm : ByteArray) (h : StO w B bs v1 v2 s) (hm : s.files.length ≤ 65536) (hml : s.links.length ≤ 65536) (hB : B ≤ w.heap.size) :
    Calls Try.prog 46 #[.pointer (some ⟨bs, 0, none⟩), .string md, .string nm] w (StPost w B bs (relinkS s md nm)) := by
  obtain ⟨A, c, D, d, rfl, rfl⟩ := h.forms
  have c0 := h.c0
  have c1 := h.c1
  have HS := Lib.hid h; clear h
  go_enter Try.func46, Try.ntmps46
  go_wp2_with fail
  refine (link_prog _ _ _ _ s.links md _ rfl (by unfold maxLen; omega) HS.out.sl.2).mono ?_
  rintro e w1 ⟨rfl, hb1⟩
  have HS1 := Lib.hid (HS.out.later hb1)
  clear c0 c1
  go_wp2_with fail
  refine (present_prog _ B bs _ _ s nm HS1.out hm).mono ?_
  rintro e w2 ⟨rfl, hb2⟩
  have hbb : Below w.heap.size w w2 := hb1.trans (hb2.mono hb1.size)
  have HS2 := Lib.hid (HS1.out.later hb2)
  have d0 := HS2.out.c0
  have d1 := HS2.out.c1
  have hbs := cell_lt d0
  rcases lidx_cases s.links md with hi | ⟨k, hk, hi⟩
  · have HR := Lib.hid (show relinkS s md nm = (7, s) by unfold relinkS; rw [hi]; simp)
    rw [hi]
    clear hi
    go_wp2
    go_ret
    rw [HR.out]
    exact ⟨rfl, ⟨_, _, HS2.out⟩, hbb.mono hB⟩
  cases hh : hereB s.files nm with
  | false =>
    have HR := Lib.hid (show relinkS s md nm = (7, s) by unfold relinkS; rw [hh]; simp)
    rw [hi]
    clear hh hi
    go_wp2
    go_ret
    rw [HR.out]
    exact ⟨rfl, ⟨_, _, HS2.out⟩, hbb.mono hB⟩
  | true =>
    obtain ⟨j, hj, hf⟩ := here_idx hh
    have HR := Lib.hid (show relinkS s md nm = (0, ⟨s.files, s.links.set k { s.links[k] with file := nm, sum := s.files[j].sum }⟩) by
      unfold relinkS; rw [hi, hh, hf]
      have : ¬ ((k : Int) < 0) := by omega
      simp [fileAt, hj, hk, this])
    rw [hi, hf]
    clear hh hi hf
    obtain ⟨b, off, rfl, hc⟩ := HS2.out.sf.2 j s.files[j] (by simp [hj])
    have g1 := hc 1 _ rfl
    have hgb := cell_lt g1
    clear hc
    obtain ⟨g, rfl, hg1, hg2⟩ := own_addr HS2.out.l (by omega)
    obtain ⟨b', off', hA, hc⟩ := HS2.out.sl.2 k s.links[k] (by simp [hk])
    injection hA with hA
    injection hA with hA1 hA2
    subst hA1 hA2
    have l1 := hc 1 _ rfl
    have l2 := hc 2 _ rfl
    simp only [Nat.zero_add] at l1 l2
    have fz := fun q => HS2.out.l.frozenAt q
    have hbg : b ≠ g := by
      obtain ⟨b2, h1, h2, h3⟩ := own_addr HS2.out.f (by omega)
      injection h1 with h1
      injection h1 with h1 _
      have h4 := HS2.out.f
      rw [h1]
      rcases HS2.out.l.2 with ⟨h5, _⟩ | ⟨g', cap, cur, hv, _, hg', _⟩
      · cases h5
      · injection hv with h6
        injection h6 with h6
        injection h6 with h6
        subst h6
        rcases h4.2 with ⟨h7, _⟩ | ⟨g4, cap4, cur4, hv4, _, hg4, _⟩
        · cases h7
        · injection hv4 with h8
          injection h8 with h8
          injection h8 with h8 h9
          subst h8 h9
          rw [← h1]
          exact own_ne h4 hg' (by decide)
    have hne1 : (⟨b, off + j * 3 + 1, none⟩ : Addr) ≠ ⟨g, k * 4 + 1, none⟩ := by intro h; injection h with h; exact hbg h
    clear hc hbg
    have hk0 : (0:Int) ≤ k := by omega
    go_wp2
    go_region
    all_goals
      go_wp2
      go_ret
      rw [HR.out]
      have s1 := HS2.out.setL hk 1 (by omega) { s.links[k] with file := nm } (.string nm) rfl (k * 4 + 1) rfl
      have s2 := s1.1.setL (i := k) (by simpa using hk) 2 (by omega) { s.links[k] with file := nm, sum := s.files[j].sum } (.int .u64 s.files[j].sum) (by simp [LinkR.cells]) (k * 4 + 2) rfl
      have s4 := s2.1
      simp only [List.set_set] at s4
      exact ⟨rfl, ⟨_, _, s4.later ((Below.refl _ _).drew)⟩, (((hbb.mono hB).trans s1.2).trans s2.2).drew⟩
end Go.Proofs.Ytnbmiejjkkgckaa
