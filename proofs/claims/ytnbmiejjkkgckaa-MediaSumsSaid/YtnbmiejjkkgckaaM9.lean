/- Proved here: Contracts of the media package functions and of their reference, for use in the proofs of the given statements; conditions stand in each theorem. -/
import Derived.Test.YtnbmiejjkkgckaaM8
namespace Go.Proofs.Ytnbmiejjkkgckaa
open Go.RowKit

set_option maxHeartbeats 2000000 in
theorem attach_prog (w : World) (B bs : Nat) (v1 v2 : Value) (s : StateR) (md px : ByteArray) (h : StO w B bs v1 v2 s) (hm : s.files.length ≤ 65536) (hml : s.links.length ≤ 65536) (hB : B ≤ w.heap.size) :
    Calls Try.prog 47 #[.pointer (some ⟨bs, 0, none⟩), .string md, .string px] w (StPost w B bs (attachS s md px)) := by
  obtain ⟨A, c, D, d, rfl, rfl⟩ := h.forms
  have c0 := h.c0
  have c1 := h.c1
  have HS := Lib.hid h; clear h
  cases heq : (px.toList == md.toList) with
  | true =>
    have HR := Lib.hid (show attachS s md px = (1, s) by unfold attachS; rw [heq]; rfl)
    go_enter Try.func47, Try.ntmps47
    go_wp2_with fail
    go_ret
    rw [HR.out]
    exact ⟨rfl, ⟨_, _, HS.out⟩, Below.refl _ _⟩
  | false =>
  go_enter Try.func47, Try.ntmps47
  go_wp2_with fail
  refine (link_prog _ _ _ _ s.links md _ rfl (by unfold maxLen; omega) HS.out.sl.2).mono ?_
  rintro e w1 ⟨rfl, hb1⟩
  have HS1 := Lib.hid (HS.out.later hb1)
  have d0 := HS1.out.c0
  have d1 := HS1.out.c1
  clear c0 c1
  rcases lidx_cases s.links md with hi | ⟨k, hk, hi⟩
  · have HR := Lib.hid (show attachS s md px = (7, s) by unfold attachS; rw [heq, hi]; simp)
    rw [hi]
    clear hi heq
    go_wp2
    go_ret
    rw [HR.out]
    exact ⟨rfl, ⟨_, _, HS1.out⟩, hb1.mono hB⟩
  have HI := Lib.hid hi
  rw [hi]
  clear hi
  have HE := Lib.hid heq
  clear heq
  have hkn : ¬ ((k : Int) < 0) := by omega
  cases hp : emp px with
  | true =>
    have hp' : px.toList = [] := by simpa [emp] using hp
    have HR := Lib.hid (show attachS s md px = (0, ⟨s.files, s.links.set k { s.links[k] with proxy := px }⟩) by
      unfold attachS; rw [HE.out, HI.out, hp]; simp [hk, hkn])
    clear hp
    obtain ⟨g, rfl, hg1, hg2⟩ := own_addr HS1.out.l (by omega)
    obtain ⟨b', off', hA, hc⟩ := HS1.out.sl.2 k s.links[k] (by simp [hk])
    injection hA with hA
    injection hA with hA1 hA2
    subst hA1 hA2
    have l3 := hc 3 _ rfl
    simp only [Nat.zero_add] at l3
    have fz := fun q => HS1.out.l.frozenAt q
    clear hc hkn
    go_wp2
    go_ret
    rw [HR.out]
    have s1 := HS1.out.setL hk 3 (by omega) { s.links[k] with proxy := px } (.string px) rfl (k * 4 + 3) rfl
    exact ⟨rfl, ⟨_, _, s1.1⟩, (hb1.mono hB).trans s1.2⟩
  | false =>
    have hp' : px.toList.isEmpty = false := hp
    have hpn : ¬ px.toList = [] := by simpa [emp] using hp
    go_wp2_with fail
    refine (link_prog _ _ _ _ s.links px _ rfl (by unfold maxLen; omega) HS1.out.sl.2).mono ?_
    rintro e w2 ⟨rfl, hb2⟩
    have hbb : Below w.heap.size w w2 := hb1.trans (hb2.mono hb1.size)
    have HS2 := Lib.hid (HS1.out.later hb2)
    clear d0 d1
    have d0 := HS2.out.c0
    have d1 := HS2.out.c1
    rcases lidx_cases s.links px with hi | ⟨k2, hk2, hi⟩
    · have HR := Lib.hid (show attachS s md px = (7, s) by unfold attachS; rw [HE.out, HI.out, hp, hi]; simp)
      rw [hi]
      clear hi hp
      go_wp2
      go_ret
      rw [HR.out]
      exact ⟨rfl, ⟨_, _, HS2.out⟩, hbb.mono hB⟩
    · have HR := Lib.hid (show attachS s md px = (0, ⟨s.files, s.links.set k { s.links[k] with proxy := px }⟩) by
        unfold attachS; rw [HE.out, HI.out, hp, hi]
        have : ¬ ((k2 : Int) < 0) := by omega
        simp [hk, hkn, this])
      rw [hi]
      clear hi hp
      obtain ⟨g, rfl, hg1, hg2⟩ := own_addr HS2.out.l (by omega)
      obtain ⟨b', off', hA, hc⟩ := HS2.out.sl.2 k s.links[k] (by simp [hk])
      injection hA with hA
      injection hA with hA1 hA2
      subst hA1 hA2
      have l3 := hc 3 _ rfl
      simp only [Nat.zero_add] at l3
      have fz := fun q => HS2.out.l.frozenAt q
      clear hc hkn
      have hk0 : (0:Int) ≤ k := by omega
      have hk20 : (0:Int) ≤ k2 := by omega
      go_wp2
      go_ret
      rw [HR.out]
      have s1 := HS2.out.setL hk 3 (by omega) { s.links[k] with proxy := px } (.string px) rfl (k * 4 + 3) rfl
      exact ⟨rfl, ⟨_, _, s1.1⟩, (hbb.mono hB).trans s1.2⟩

def performS (s : StateR) (e : EventR) : Int × StateR :=
  if e.kind = 1 then arriveS s e.file e.sum
  else if e.kind = 2 then leaveS s e.file
  else if e.kind = 3 then connectS s e.media e.file
  else if e.kind = 4 then relinkS s e.media e.file
  else attachS s e.media e.proxy

set_option maxHeartbeats 2000000 in
theorem perform_prog (w : World) (B bs : Nat) (v1 v2 : Value) (s : StateR) (k : Int) (m f p : ByteArray) (q : Int) (h : StO w B bs v1 v2 s) (hm : s.files.length ≤ 65536) (hml : s.links.length ≤ 65536) (hB : B ≤ w.heap.size) :
    Calls Try.prog 36 #[.pointer (some ⟨bs, 0, none⟩), .agg #[.int .i64 k, .string m, .string f, .string p, .int .u64 q]] w (StPost w B bs (performS s ⟨k, m, f, p, q⟩)) := by
  have hal := later_alloc w (.cells #[.int .i64 k, .string m, .string f, .string p, .int .u64 q] 45)
  have HS := Lib.hid (h.later hal)
  have hB' : B ≤ (w.alloc (.cells #[.int .i64 k, .string m, .string f, .string p, .int .u64 q] 45)).heap.size := by simp; omega
  have post : ∀ (r : Int × StateR) (e : Ending) (w' : World), StPost (w.alloc (.cells #[.int .i64 k, .string m, .string f, .string p, .int .u64 q] 45)) B bs r e w' → ∃ v, e = .returned v ∧ (∀ r', r = r' → StPost w B bs r' (.returned v) w') := by
    rintro r e w' ⟨rfl, h2, h3⟩
    exact ⟨_, rfl, fun r' hr => by subst hr; exact ⟨rfl, h2, (hal.mono hB).trans h3⟩⟩
  have HP := Lib.hid post
  clear post hal h
  by_cases k1 : k = 1
  · subst k1
    have HR := Lib.hid (show performS s ⟨1, m, f, p, q⟩ = arriveS s f q by simp [performS])
    go_enter Try.func36, Try.ntmps36
    go_wp2_with fail
    refine (arrive_prog _ B bs v1 v2 s f q HS.out hm hB').mono ?_
    rintro e w' he
    obtain ⟨v, rfl, hv⟩ := HP.out _ _ _ he
    go_wp2_with fail
    go_ret
    exact hv _ HR.out.symm
  by_cases k2 : k = 2
  · subst k2
    have HR := Lib.hid (show performS s ⟨2, m, f, p, q⟩ = leaveS s f by simp [performS])
    go_enter Try.func36, Try.ntmps36
    go_wp2_with fail
    refine (leave_prog _ B bs v1 v2 s f HS.out hm hB').mono ?_
    rintro e w' he
    obtain ⟨v, rfl, hv⟩ := HP.out _ _ _ he
    go_wp2_with fail
    go_ret
    exact hv _ HR.out.symm
  by_cases k3 : k = 3
  · subst k3
    have HR := Lib.hid (show performS s ⟨3, m, f, p, q⟩ = connectS s m f by simp [performS])
    go_enter Try.func36, Try.ntmps36
    go_wp2_with fail
    refine (connect_prog _ B bs v1 v2 s m f HS.out hm hml hB').mono ?_
    rintro e w' he
    obtain ⟨v, rfl, hv⟩ := HP.out _ _ _ he
    go_wp2_with fail
    go_ret
    exact hv _ HR.out.symm
  by_cases k4 : k = 4
  · subst k4
    have HR := Lib.hid (show performS s ⟨4, m, f, p, q⟩ = relinkS s m f by simp [performS])
    go_enter Try.func36, Try.ntmps36
    go_wp2_with fail
    refine (relink_prog _ B bs v1 v2 s m f HS.out hm hml hB').mono ?_
    rintro e w' he
    obtain ⟨v, rfl, hv⟩ := HP.out _ _ _ he
    go_wp2_with fail
    go_ret
    exact hv _ HR.out.symm
  have HR := Lib.hid (show performS s ⟨k, m, f, p, q⟩ = attachS s m p by simp [performS, k1, k2, k3, k4])
  go_enter Try.func36, Try.ntmps36
  go_wp2_with fail
  refine (attach_prog _ B bs v1 v2 s m p HS.out hm hml hB').mono ?_
  rintro e w' he
  obtain ⟨v, rfl, hv⟩ := HP.out _ _ _ he
  go_wp2_with fail
  go_ret
  exact hv _ HR.out.symm
end Go.Proofs.Ytnbmiejjkkgckaa
