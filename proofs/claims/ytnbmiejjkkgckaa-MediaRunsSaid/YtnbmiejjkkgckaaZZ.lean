/- Proved here: Plain facts on lists that are searched by a key, and on the states of media, for use in the proofs of the given statements; conditions stand in each theorem. -/
import Derived.Test.YtnbmiejjkkgckaaZY
set_option linter.unusedSimpArgs false
set_option linter.unusedVariables false
set_option linter.unusedSimpArgs false
set_option linter.unusedVariables false
namespace Go.Proofs.Ytnbmiejjkkgckaa
open Go.RowKit

/-! a list searched by key -/
def keyP {α : Type} (key : α → ByteArray) (n : ByteArray) : α → Bool := fun x => decide (key x = n)
theorem idxFrom_congr {α : Type} {p q : α → Bool} (h : ∀ x, p x = q x) (l : List α) (k : Nat) : idxFrom p l k = idxFrom q l k := by rw [funext h]
theorem fidx_key (fs : List FileR) (n : ByteArray) : fidx fs n = idxFrom (keyP FileR.name n) fs 0 := by
  unfold fidx idx keyP
  exact idxFrom_congr (fun x => beq_bytesL _ _) _ _
theorem lidx_key (ls : List LinkR) (n : ByteArray) : lidx ls n = idxFrom (keyP LinkR.media n) ls 0 := by
  unfold lidx idx keyP
  exact idxFrom_congr (fun x => beq_bytesL _ _) _ _
section
variable {α : Type} {key : α → ByteArray}
def look (key : α → ByteArray) (xs : List α) (n : ByteArray) : Option α := xs.find? (keyP key n)
theorem look_cons (x : α) (xs : List α) (n : ByteArray) : look key (x :: xs) n = if key x = n then some x else look key xs n := by
  unfold look keyP
  rw [List.find?_cons]
  by_cases h : key x = n <;> simp [h]
theorem look_neg : ∀ {xs : List α} {k : Nat} {n : ByteArray}, idxFrom (keyP key n) xs k < 0 ↔ look key xs n = none
  | [], k, n => by simp [idxFrom, look]
  | x :: r, k, n => by
    rw [look_cons]
    unfold idxFrom
    by_cases h : key x = n
    · simp [keyP, h]
    · simp only [keyP, h, decide_false, Bool.false_eq_true, if_false]
      exact look_neg
theorem look_at [Inhabited α] : ∀ {xs : List α} {k : Nat} {n : ByteArray}, ¬ idxFrom (keyP key n) xs k < 0 → look key xs n = some (xs.getD ((idxFrom (keyP key n) xs k).toNat - k) default) ∧ (k : Int) ≤ idxFrom (keyP key n) xs k
  | [], k, n, h => by simp [idxFrom] at h
  | x :: r, k, n, h => by
    rw [look_cons]
    unfold idxFrom at h ⊢
    by_cases h1 : key x = n
    · simp [keyP, h1]
    · simp only [keyP, h1, decide_false, Bool.false_eq_true, if_false] at h ⊢
      obtain ⟨e1, e2⟩ := look_at (k := k + 1) h
      refine ⟨?_, by omega⟩
      rw [e1]
      have : (idxFrom (keyP key n) r (k + 1)).toNat - k = (idxFrom (keyP key n) r (k + 1)).toNat - (k + 1) + 1 := by omega
      change _ = some ((x :: r).getD ((idxFrom (keyP key n) r (k + 1)).toNat - k) default)
      rw [this, List.getD_cons_succ]
theorem look_set [Inhabited α] (y : α) : ∀ {xs : List α} {k : Nat} {m : ByteArray}, key y = m → ¬ idxFrom (keyP key m) xs k < 0 → ∀ n, look key (xs.set ((idxFrom (keyP key m) xs k).toNat - k) y) n = if m = n then some y else look key xs n
  | [], k, m, _, h => by simp [idxFrom] at h
  | x :: r, k, m, hy, h => by
    intro n
    by_cases h1 : key x = m
    · have e : (idxFrom (keyP key m) (x :: r) k).toNat - k = 0 := by simp [idxFrom, keyP, h1]
      rw [e, List.set_cons_zero, look_cons, look_cons, hy, h1]
      split <;> rfl
    · have e0 : idxFrom (keyP key m) (x :: r) k = idxFrom (keyP key m) r (k + 1) := by simp [idxFrom, keyP, h1]
      rw [e0] at h ⊢
      have e2 := (look_at h).2
      have : (idxFrom (keyP key m) r (k + 1)).toNat - k = (idxFrom (keyP key m) r (k + 1)).toNat - (k + 1) + 1 := by omega
      rw [this, List.set_cons_succ, look_cons, look_cons, look_set y hy h]
      by_cases h2 : key x = n
      · subst h2
        rw [if_pos rfl, if_pos rfl, if_neg (fun h => h1 h.symm)]
      · simp [h2]
theorem look_snoc (y : α) {m : ByteArray} (hy : key y = m) {xs : List α} (h : look key xs m = none) (n : ByteArray) : look key (xs ++ [y]) n = if m = n then some y else look key xs n := by
  unfold look at *
  rw [List.find?_append]
  by_cases h1 : m = n
  · subst h1
    simp [h, keyP, hy]
  · have : keyP key n y = false := by simp [keyP, hy, h1]
    simp [this, h1]
theorem look_key {xs : List α} {n : ByteArray} {x : α} (h : look key xs n = some x) : key x = n ∧ x ∈ xs := by
  unfold look at h
  exact ⟨by simpa [keyP] using List.find?_some h, List.mem_of_find?_eq_some h⟩
theorem look_mem {xs : List α} (hn : (xs.map key).Nodup) {x : α} (hx : x ∈ xs) : look key xs (key x) = some x := by
  induction xs with
  | nil => cases hx
  | cons y r ih =>
    rw [look_cons]
    rw [List.map_cons, List.nodup_cons] at hn
    rcases List.mem_cons.1 hx with rfl | hx
    · simp
    · rw [if_neg, ih hn.2 hx]
      intro e
      exact hn.1 (e ▸ List.mem_map.2 ⟨x, hx, rfl⟩)
theorem look_none {xs : List α} {n : ByteArray} (h : look key xs n = none) : ∀ x ∈ xs, key x ≠ n := by
  intro x hx e
  have := List.find?_eq_none.1 h x hx
  simp [keyP, e] at this
theorem nodup_idx [Inhabited α] {xs : List α} : (xs.map key).Nodup ↔ ∀ k, k < xs.length → idxFrom (keyP key (key (xs.getD k default))) xs 0 = (k : Int) := by
  constructor
  · intro hn k hk
    have hx : xs.getD k default = xs[k] := by simp [List.getD_eq_getElem?_getD, hk]
    rw [hx]
    have h1 := look_mem hn (List.getElem_mem hk)
    by_cases h0 : idxFrom (keyP key (key xs[k])) xs 0 < 0
    · rw [look_neg] at h0; rw [h0] at h1; cases h1
    · have h2 := look_at h0
      rcases idxFrom_range (keyP key (key xs[k])) xs 0 with h3 | h3
      · rw [h3] at h0; omega
      · have hj : (idxFrom (keyP key (key xs[k])) xs 0).toNat < xs.length := by omega
        have h5 := idxFrom_hit (keyP key (key xs[k])) xs 0 _ hj (by omega)
        simp only [keyP, decide_eq_true_eq] at h5
        have h6 : (idxFrom (keyP key (key xs[k])) xs 0).toNat = k := by
          have := (List.getElem_inj (xs := xs.map key) (i := (idxFrom (keyP key (key xs[k])) xs 0).toNat) (j := k) (h₀ := by simpa using hj) (h₁ := by simpa using hk) hn).1
          apply this
          simpa [keyP] using h5
        omega
  · intro h
    rw [List.nodup_iff_pairwise_ne, List.pairwise_iff_getElem]
    intro i j hi hj hij e
    rw [List.length_map] at hi hj
    rw [List.getElem_map, List.getElem_map] at e
    have hx : ∀ (k : Nat) (hk : k < xs.length), xs.getD k default = xs[k] := fun k hk => by simp [List.getD_eq_getElem?_getD, hk]
    have h1 := h i hi
    have h2 := h j hj
    rw [hx i hi] at h1
    rw [hx j hj, ← e, h1] at h2
    omega
theorem set_keys [Inhabited α] {xs : List α} {m : ByteArray} {y : α} (hy : key y = m) (h : ¬ idxFrom (keyP key m) xs 0 < 0) : (xs.set (idxFrom (keyP key m) xs 0).toNat y).map key = xs.map key := by
  rw [List.map_set]
  obtain ⟨e1, _⟩ := look_at h
  obtain ⟨e2, _⟩ := look_key e1
  rcases idxFrom_range (keyP key m) xs 0 with h3 | h3
  · rw [h3] at h; omega
  · have hj : (idxFrom (keyP key m) xs 0).toNat < xs.length := by omega
    have : xs.getD ((idxFrom (keyP key m) xs 0).toNat - 0) default = xs[(idxFrom (keyP key m) xs 0).toNat] := by simp [List.getD_eq_getElem?_getD, hj]
    rw [this] at e2
    rw [hy]
    have e3 : m = (xs.map key)[(idxFrom (keyP key m) xs 0).toNat]'(by simpa using hj) := by rw [List.getElem_map]; exact e2.symm
    conv => lhs; arg 3; rw [e3]
    exact List.set_getElem_self _
end

/-! states -/
abbrev fileL (fs : List FileR) (n : ByteArray) : Option FileR := look FileR.name fs n
abbrev linkL (ls : List LinkR) (n : ByteArray) : Option LinkR := look LinkR.media ls n
def statL (f : Option FileR) (sum : Int) : Int :=
  match f with
  | none => 3
  | some f => if !f.present then 3 else if f.sum != sum then 2 else 1
def statusL (fs : List FileR) (l : Option LinkR) : Int :=
  match l with
  | none => 0
  | some l => statL (fileL fs l.file) l.sum
theorem fidx_neg {fs : List FileR} {n : ByteArray} : fidx fs n < 0 ↔ fileL fs n = none := by rw [fidx_key]; exact look_neg
theorem lidx_neg {fs : List LinkR} {n : ByteArray} : lidx fs n < 0 ↔ linkL fs n = none := by rw [lidx_key]; exact look_neg
theorem fileL_at {fs : List FileR} {n : ByteArray} (h : ¬ fidx fs n < 0) : fileL fs n = some (fileAt fs (fidx fs n)) := by
  rw [fidx_key] at h ⊢
  exact (look_at h).1
theorem linkL_at {fs : List LinkR} {n : ByteArray} (h : ¬ lidx fs n < 0) : linkL fs n = some (fs.getD (lidx fs n).toNat default) := by
  rw [lidx_key] at h ⊢
  exact (look_at h).1
theorem status_look (fs : List FileR) (ls : List LinkR) (n : ByteArray) : status fs ls n = statusL fs (linkL ls n) := by
  unfold status
  split
  · rename_i h
    rw [lidx_neg.1 h]; rfl
  · rename_i h
    rw [linkL_at h]
    unfold statusL statusOf statL
    simp only
    by_cases h1 : fidx fs (ls.getD (lidx ls n).toNat default).file < 0
    · rw [fidx_neg.1 h1, decide_eq_true h1]; rfl
    · rw [fileL_at h1, decide_eq_false h1]; rfl
theorem hereB_look (fs : List FileR) (n : ByteArray) : hereB fs n = match fileL fs n with | none => false | some f => f.present := by
  unfold hereB
  by_cases h1 : fidx fs n < 0
  · rw [fidx_neg.1 h1]; simp [h1]; omega
  · rw [fileL_at h1]; simp; omega

/-- a state that is valid -/
structure Ok (s : StateR) : Prop where
  nf : s.files.length ≤ 32
  nl : s.links.length ≤ 16
  fk : (s.files.map FileR.name).Nodup
  lk : (s.links.map LinkR.media).Nodup
  fn : ∀ f ∈ s.files, validNm f.name = true
  ln : ∀ l ∈ s.links, validNm l.media = true ∧ validNm l.file = true ∧ (emp l.proxy = true ∨ (validNm l.proxy = true ∧ l.proxy ≠ l.media))
theorem ok_iff (s : StateR) : validSt s.files s.links = true ↔ Ok s := by
  unfold validSt allR
  simp only [Bool.and_eq_true, decide_eq_true_eq, List.all_eq_true, List.mem_range]
  constructor
  · rintro ⟨⟨⟨h1, h2⟩, h3⟩, h4⟩
    refine ⟨h3, h4, nodup_idx.2 fun k hk => ?_, nodup_idx.2 fun k hk => ?_, fun f hf => ?_, fun l hl => ?_⟩
    · have := h1 k hk
      simp only [okF, Bool.and_eq_true, beq_iff_eq] at this
      rw [← fidx_key]; exact this.2
    · have := h2 k hk
      simp only [okL, Bool.and_eq_true, beq_iff_eq] at this
      rw [← lidx_key]; exact this.1.2
    · obtain ⟨k, hk, rfl⟩ := List.mem_iff_getElem.1 hf
      have := h1 k hk
      rw [okF_at hk] at this
      simp only [Bool.and_eq_true] at this
      exact this.1
    · obtain ⟨k, hk, rfl⟩ := List.mem_iff_getElem.1 hl
      have := h2 k hk
      rw [okL_at hk, beq_bytesL] at this
      simp only [Bool.and_eq_true, Bool.or_eq_true, Bool.not_eq_true', decide_eq_false_iff_not] at this
      exact ⟨this.1.1.1, this.1.1.2, this.2⟩
  · rintro ⟨h3, h4, h5, h6, h7, h8⟩
    refine ⟨⟨⟨fun k hk => ?_, fun k hk => ?_⟩, h3⟩, h4⟩
    · have e := nodup_idx.1 h5 k hk
      rw [← fidx_key] at e
      simp only [okF, Bool.and_eq_true, beq_iff_eq]
      refine ⟨?_, e⟩
      have hx : s.files.getD k default = s.files[k] := by simp [List.getD_eq_getElem?_getD, hk]
      rw [hx]; exact h7 _ (List.getElem_mem hk)
    · have e := nodup_idx.1 h6 k hk
      rw [← lidx_key] at e
      have hx : s.links.getD k default = s.links[k] := by simp [List.getD_eq_getElem?_getD, hk]
      rw [hx] at e
      have := h8 _ (List.getElem_mem hk)
      rw [okL_at hk, beq_bytesL]
      simp only [Bool.and_eq_true, Bool.or_eq_true, Bool.not_eq_true', decide_eq_false_iff_not, beq_iff_eq]
      exact ⟨⟨⟨this.1, this.2.1⟩, e⟩, this.2.2⟩
end Go.Proofs.Ytnbmiejjkkgckaa
/- Proved here: Plain facts on the steps and runs of media, for use in the proofs of the given statements; conditions stand in each theorem. -/
set_option linter.unusedSimpArgs false
set_option linter.unusedVariables false
namespace Go.Proofs.Ytnbmiejjkkgckaa
open Go.RowKit

theorem emp_iff (s : ByteArray) : emp s = decide (s = ⟨#[]⟩) := by
  unfold emp
  have : (ByteArray.toList ⟨#[]⟩) = [] := by rw [ByteArray.toList_eq]
  by_cases h : s = ⟨#[]⟩
  · subst h; simp [this]
  · rw [decide_eq_false h, Bool.eq_false_iff]
    intro hc
    have hc' : s.toList = [] := by simpa using hc
    have h2 := beq_bytesL s ⟨#[]⟩
    rw [hc', this, decide_eq_false h] at h2
    cases h2
theorem mem_set_or {α : Type} {l : List α} {i : Nat} {a x : α} (h : x ∈ l.set i a) : x ∈ l ∨ x = a := by
  rcases List.mem_or_eq_of_mem_set h with h | h
  · exact .inl h
  · exact .inr h

/-! what the five kinds do -/
theorem arrive_eff {s : StateR} {nm : ByteArray} {sum : Int} (hs : Ok s) (hn : validNm nm = true) (h0 : (arriveS s nm sum).1 = 0) :
    Ok (arriveS s nm sum).2 ∧ (arriveS s nm sum).2.links = s.links ∧ (arriveS s nm sum).2.files.length ≤ s.files.length + 1 ∧ ∀ n, fileL (arriveS s nm sum).2.files n = if nm = n then some ⟨nm, sum, true⟩ else fileL s.files n := by
  unfold arriveS at h0 ⊢
  by_cases h : 0 ≤ fidx s.files nm
  · simp only [if_pos h]
    rw [fidx_key] at h ⊢
    have h' : ¬ idxFrom (keyP FileR.name nm) s.files 0 < 0 := by omega
    refine ⟨⟨?_, hs.nl, ?_, hs.lk, ?_, hs.ln⟩, trivial, by simp, fun n => ?_⟩
    · simpa using hs.nf
    · show ((s.files.set _ _).map FileR.name).Nodup
      rw [set_keys (key := FileR.name) (m := nm) rfl h']; exact hs.fk
    · intro f hf
      rcases mem_set_or hf with hf | rfl
      · exact hs.fn f hf
      · exact hn
    · exact look_set (key := FileR.name) ⟨nm, sum, true⟩ (m := nm) rfl (k := 0) h' n
  · simp only [if_neg h] at h0 ⊢
    by_cases h1 : 32 ≤ s.files.length
    · simp [if_pos h1] at h0
    · simp only [if_neg h1]
      have hno : fileL s.files nm = none := fidx_neg.1 (by omega)
      refine ⟨⟨?_, hs.nl, ?_, hs.lk, ?_, hs.ln⟩, trivial, by simp, fun n => ?_⟩
      · simp; omega
      · simp only [List.map_append, List.map_cons, List.map_nil]
        rw [List.nodup_append]
        refine ⟨hs.fk, by simp, ?_⟩
        intro a ha b hb
        simp at hb; subst hb
        obtain ⟨f, hf, rfl⟩ := List.mem_map.1 ha
        exact look_none hno f hf
      · intro f hf
        rcases List.mem_append.1 hf with hf | hf
        · exact hs.fn f hf
        · simp at hf; subst hf; exact hn
      · exact look_snoc (key := FileR.name) ⟨nm, sum, true⟩ rfl hno n
theorem arrive_zero {s : StateR} {nm : ByteArray} {sum : Int} (h : fileL s.files nm ≠ none ∨ s.files.length < 32) : (arriveS s nm sum).1 = 0 := by
  unfold arriveS
  by_cases h1 : 0 ≤ fidx s.files nm
  · simp [if_pos h1]
  · have hno : fileL s.files nm = none := fidx_neg.1 (by omega)
    have h2 : ¬ 32 ≤ s.files.length := by rcases h with h | h; exact absurd hno h; omega
    simp [if_neg h1, if_neg h2]
theorem leave_eff {s : StateR} {nm : ByteArray} (hs : Ok s) (h0 : (leaveS s nm).1 = 0) :
    Ok (leaveS s nm).2 ∧ (leaveS s nm).2.links = s.links ∧ (leaveS s nm).2.files.length ≤ s.files.length + 1 ∧ ∃ f, fileL s.files nm = some f ∧ f.present = true ∧ ∀ n, fileL (leaveS s nm).2.files n = if nm = n then some { f with present := false } else fileL s.files n := by
  unfold leaveS at h0 ⊢
  cases hb : hereB s.files nm with
  | false => simp [hb] at h0
  | true =>
    simp only [if_true]
    rw [hereB_look] at hb
    by_cases hi : fidx s.files nm < 0
    · rw [fidx_neg.1 hi] at hb; cases hb
    have ha := fileL_at hi
    rw [ha] at hb
    simp only at hb
    obtain ⟨hk, hm⟩ := look_key ha
    refine ⟨⟨?_, hs.nl, ?_, hs.lk, ?_, hs.ln⟩, trivial, by simp, _, ha, hb, fun n => ?_⟩
    · simpa using hs.nf
    · show ((s.files.set _ _).map FileR.name).Nodup
      rw [fidx_key] at hi hk ⊢
      rw [set_keys (key := FileR.name) ?_ hi]
      · exact hs.fk
      · exact hk
    · intro f hf
      rcases mem_set_or hf with hf | rfl
      · exact hs.fn f hf
      · show validNm (fileAt s.files (fidx s.files nm)).name = true
        exact hs.fn _ hm
    · rw [fidx_key] at hi hk ⊢
      refine look_set (key := FileR.name) _ ?_ (k := 0) hi n
      exact hk
theorem leave_zero {s : StateR} {nm : ByteArray} {f : FileR} (h : fileL s.files nm = some f) (hp : f.present = true) : (leaveS s nm).1 = 0 := by
  unfold leaveS
  rw [hereB_look, h]
  simp [hp]
theorem leave_not {s : StateR} {nm : ByteArray} (h : ∀ f, fileL s.files nm = some f → f.present = false) : (leaveS s nm).1 ≠ 0 := by
  unfold leaveS
  rw [hereB_look]
  cases hh : fileL s.files nm with
  | none => simp
  | some f => simp [h f hh]
theorem connect_eff {s : StateR} {md nm : ByteArray} (hs : Ok s) (hm : validNm md = true) (hn : validNm nm = true) (h0 : (connectS s md nm).1 = 0) :
    Ok (connectS s md nm).2 ∧ (connectS s md nm).2.files = s.files ∧ (connectS s md nm).2.links.length ≤ s.links.length + 1 ∧ linkL s.links md = none ∧ ∃ f, fileL s.files nm = some f ∧ f.present = true ∧
      ∀ n, linkL (connectS s md nm).2.links n = if md = n then some ⟨md, nm, f.sum, ⟨#[]⟩⟩ else linkL s.links n := by
  unfold connectS at h0 ⊢
  by_cases h : 0 ≤ lidx s.links md
  · simp [if_pos h] at h0
  simp only [if_neg h] at h0 ⊢
  cases hb : hereB s.files nm with
  | false => simp [hb] at h0
  | true =>
    simp only [hb, if_true] at h0 ⊢
    by_cases h1 : 16 ≤ s.links.length
    · simp [if_pos h1] at h0
    simp only [if_neg h1]
    have hno : linkL s.links md = none := lidx_neg.1 (by omega)
    rw [hereB_look] at hb
    by_cases hi : fidx s.files nm < 0
    · rw [fidx_neg.1 hi] at hb; cases hb
    have ha := fileL_at hi
    rw [ha] at hb
    refine ⟨⟨hs.nf, ?_, hs.fk, ?_, hs.fn, ?_⟩, trivial, by simp, hno, _, ha, hb, fun n => ?_⟩
    · simp; omega
    · simp only [List.map_append, List.map_cons, List.map_nil]
      rw [List.nodup_append]
      refine ⟨hs.lk, by simp, ?_⟩
      intro a ha b hb
      simp at hb; subst hb
      obtain ⟨f, hf, rfl⟩ := List.mem_map.1 ha
      exact look_none hno f hf
    · intro l hl
      rcases List.mem_append.1 hl with hl | hl
      · exact hs.ln l hl
      · simp at hl; subst hl
        exact ⟨hm, hn, .inl (by rw [emp_iff]; rfl)⟩
    · exact look_snoc (key := LinkR.media) _ rfl hno n
theorem connect_zero {s : StateR} {md nm : ByteArray} {f : FileR} (h : linkL s.links md = none) (hf : fileL s.files nm = some f) (hp : f.present = true) (hl : s.links.length < 16) : (connectS s md nm).1 = 0 := by
  unfold connectS
  have h1 : ¬ 0 ≤ lidx s.links md := by have := lidx_neg.2 h; omega
  rw [if_neg h1, hereB_look, hf]
  simp [hp, show ¬ 16 ≤ s.links.length by omega]
theorem relink_eff {s : StateR} {md nm : ByteArray} (hs : Ok s) (hm : validNm md = true) (hn : validNm nm = true) (h0 : (relinkS s md nm).1 = 0) :
    Ok (relinkS s md nm).2 ∧ (relinkS s md nm).2.files = s.files ∧ (relinkS s md nm).2.links.length ≤ s.links.length + 1 ∧ ∃ l f, linkL s.links md = some l ∧ fileL s.files nm = some f ∧ f.present = true ∧
      ∀ n, linkL (relinkS s md nm).2.links n = if md = n then some { l with file := nm, sum := f.sum } else linkL s.links n := by
  unfold relinkS at h0 ⊢
  by_cases h : lidx s.links md < 0
  · simp [h] at h0
  cases hb : hereB s.files nm with
  | false => simp [hb] at h0
  | true =>
    simp only [hb, h, decide_false, Bool.not_true, Bool.or_self, Bool.false_eq_true, if_false] at h0 ⊢
    rw [hereB_look] at hb
    by_cases hi : fidx s.files nm < 0
    · rw [fidx_neg.1 hi] at hb; cases hb
    have ha := fileL_at hi
    rw [ha] at hb
    have hl := linkL_at h
    obtain ⟨hk, hmem⟩ := look_key hl
    refine ⟨⟨hs.nf, ?_, hs.fk, ?_, hs.fn, ?_⟩, trivial, by simp, _, _, hl, ha, hb, fun n => ?_⟩
    · simpa using hs.nl
    · show ((s.links.set _ _).map LinkR.media).Nodup
      rw [lidx_key] at h hk ⊢
      rw [set_keys (key := LinkR.media) ?_ h]
      · exact hs.lk
      · exact hk
    · intro l hl
      rcases mem_set_or hl with hl | rfl
      · exact hs.ln l hl
      · have := hs.ln _ hmem
        exact ⟨this.1, hn, this.2.2⟩
    · rw [lidx_key] at h hk ⊢
      refine look_set (key := LinkR.media) _ ?_ (k := 0) h n
      exact hk
theorem relink_zero {s : StateR} {md nm : ByteArray} {f : FileR} (h : linkL s.links md ≠ none) (hf : fileL s.files nm = some f) (hp : f.present = true) : (relinkS s md nm).1 = 0 := by
  unfold relinkS
  have h1 : ¬ lidx s.links md < 0 := fun h2 => h (lidx_neg.1 h2)
  rw [hereB_look, hf]
  simp [hp, h1]
theorem attach_eff {s : StateR} {md px : ByteArray} (hs : Ok s) (hp : validPx px = true) (h0 : (attachS s md px).1 = 0) :
    Ok (attachS s md px).2 ∧ (attachS s md px).2.files = s.files ∧ (attachS s md px).2.links.length ≤ s.links.length + 1 ∧ ∃ l, linkL s.links md = some l ∧
      ∀ n, linkL (attachS s md px).2.links n = if md = n then some { l with proxy := px } else linkL s.links n := by
  unfold attachS at h0 ⊢
  rw [beq_bytesL] at h0 ⊢
  by_cases he : px = md
  · simp [he] at h0
  simp only [he, decide_false, Bool.false_eq_true, if_false] at h0 ⊢
  by_cases h : lidx s.links md < 0
  · simp [h] at h0
  cases hb : (!emp px && decide (lidx s.links px < 0)) with
  | true => simp [hb] at h0
  | false =>
    simp only [h, hb, decide_false, Bool.or_self, Bool.false_eq_true, if_false] at h0 ⊢
    have hl := linkL_at h
    obtain ⟨hk, hmem⟩ := look_key hl
    refine ⟨⟨hs.nf, ?_, hs.fk, ?_, hs.fn, ?_⟩, trivial, by simp, _, hl, fun n => ?_⟩
    · simpa using hs.nl
    · show ((s.links.set _ _).map LinkR.media).Nodup
      rw [lidx_key] at h hk ⊢
      rw [set_keys (key := LinkR.media) ?_ h]
      · exact hs.lk
      · exact hk
    · intro l hl
      rcases mem_set_or hl with hl | rfl
      · exact hs.ln l hl
      · have := hs.ln _ hmem
        refine ⟨this.1, this.2.1, ?_⟩
        unfold validPx at hp
        rw [Bool.or_eq_true] at hp
        rcases hp with hp | hp
        · exact .inl hp
        · exact .inr ⟨hp, fun e => he (e.trans hk)⟩
    · rw [lidx_key] at h hk ⊢
      refine look_set (key := LinkR.media) _ ?_ (k := 0) h n
      exact hk

/-! a step -/
structure StepOk (s : StateR) (e : EventR) (t : StateR) : Prop where
  ok : Ok t
  nf : t.files.length ≤ s.files.length + 1
  nl : t.links.length ≤ s.links.length + 1
  keep : ∀ n, linkL s.links n ≠ none → linkL t.links n ≠ none
  new : ∀ n, linkL t.links n ≠ none → linkL s.links n ≠ none ∨ e.media = n
theorem perform_ok {s : StateR} {e : EventR} (hs : Ok s) (he : validEv e = true) (h0 : (performS s e).1 = 0) : StepOk s e (performS s e).2 := by
  unfold performS at h0 ⊢
  unfold validEv at he
  by_cases h1 : e.kind = 1
  · simp only [if_pos h1] at h0 he ⊢
    simp only [Bool.and_eq_true] at he
    obtain ⟨q1, q2, q3, q4⟩ := arrive_eff hs he.1.1 h0
    exact ⟨q1, q3, by rw [q2]; omega, fun n h => by rw [q2]; exact h, fun n h => by rw [q2] at h; exact .inl h⟩
  simp only [if_neg h1] at h0 he ⊢
  by_cases h2 : e.kind = 2
  · simp only [if_pos h2] at h0 he ⊢
    obtain ⟨q1, q2, q3, q4⟩ := leave_eff hs h0
    exact ⟨q1, q3, by rw [q2]; omega, fun n h => by rw [q2]; exact h, fun n h => by rw [q2] at h; exact .inl h⟩
  simp only [if_neg h2] at h0 he ⊢
  by_cases h3 : e.kind = 3
  · simp only [if_pos h3] at h0 ⊢
    rw [if_pos (.inl h3)] at he
    simp only [Bool.and_eq_true] at he
    obtain ⟨q1, q2, q3, q4, f, q5, q6, q7⟩ := connect_eff hs he.1.1.1 he.1.1.2 h0
    refine ⟨q1, by rw [q2]; omega, q3, fun n h => ?_, fun n h => ?_⟩
    · rw [q7]; split
      · simp
      · exact h
    · by_cases hm : e.media = n
      · exact .inr hm
      · rw [q7, if_neg hm] at h; exact .inl h
  simp only [if_neg h3] at h0 ⊢
  by_cases h4 : e.kind = 4
  · simp only [if_pos h4] at h0 ⊢
    rw [if_pos (.inr h4)] at he
    simp only [Bool.and_eq_true] at he
    obtain ⟨q1, q2, q3, l, f, q4, q5, q6, q7⟩ := relink_eff hs he.1.1.1 he.1.1.2 h0
    refine ⟨q1, by rw [q2]; omega, q3, fun n h => ?_, fun n h => ?_⟩
    · rw [q7]; split
      · simp
      · exact h
    · by_cases hm : e.media = n
      · exact .inr hm
      · rw [q7, if_neg hm] at h; exact .inl h
  simp only [if_neg h4] at h0 ⊢
  rw [if_neg (by rintro (h | h) <;> contradiction)] at he
  by_cases h5 : e.kind = 5
  · rw [if_pos h5] at he
    simp only [Bool.and_eq_true] at he
    obtain ⟨q1, q2, q3, l, q4, q7⟩ := attach_eff hs he.1.1.2 h0
    refine ⟨q1, by rw [q2]; omega, q3, fun n h => ?_, fun n h => ?_⟩
    · rw [q7]; split
      · simp
      · exact h
    · by_cases hm : e.media = n
      · exact .inr hm
      · rw [q7, if_neg hm] at h; exact .inl h
  · rw [if_neg h5] at he; cases he
theorem step_eq {s : StateR} {e : EventR} (hs : Ok s) (he : validEv e = true) (h0 : (performS s e).1 = 0) : stepS s e = ((performS s e).2, outsS s (performS s e).2, 0) := by
  unfold stepS
  rw [(ok_iff s).2 hs, he, if_pos h0]; rfl
theorem step_inv {s : StateR} {e : EventR} (hs : Ok s) (h : (stepS s e).2.2 = 0) : validEv e = true ∧ (performS s e).1 = 0 := by
  unfold stepS at h
  rw [(ok_iff s).2 hs] at h
  cases he : validEv e with
  | false => simp [he] at h
  | true =>
    refine ⟨rfl, ?_⟩
    by_cases h0 : (performS s e).1 = 0
    · exact h0
    · simp [he, h0] at h
theorem step_ok {s : StateR} {e : EventR} (hs : Ok s) (h : (stepS s e).2.2 = 0) : StepOk s e (stepS s e).1 ∧ (stepS s e).2.1 = outsS s (stepS s e).1 := by
  obtain ⟨he, h0⟩ := step_inv hs h
  rw [step_eq hs he h0]
  exact ⟨perform_ok hs he h0, rfl⟩

/-! a run -/
theorem ok_nil : Ok ⟨[], []⟩ := ⟨by simp, by simp, by simp, by simp, by simp, by simp⟩
theorem run_eq {s : StateR} (hs : Ok s) (es : List EventR) : runS s es = es.foldl runStep (s, [], []) := by
  unfold runS runFrom
  rw [(ok_iff s).2 hs]; rfl
/-- what holds of every accumulator -/
theorem runStep_ind {Q : StateR × List OutR × List Int → Prop} (h0 : ∀ acc e, Ok acc.1 → Q acc → Q (runStep acc e)) : ∀ (es : List EventR) (acc : StateR × List OutR × List Int), Ok acc.1 → Q acc → Ok (es.foldl runStep acc).1 ∧ Q (es.foldl runStep acc)
  | [], acc, h1, h2 => ⟨h1, h2⟩
  | e :: r, acc, h1, h2 => by
    refine runStep_ind h0 r (runStep acc e) ?_ (h0 acc e h1 h2)
    unfold runStep
    split
    · rename_i h; exact (step_ok h1 h).1.ok
    · exact h1
theorem run_ok {s : StateR} (hs : Ok s) (es : List EventR) : Ok (runS s es).1 := by
  rw [run_eq hs]
  exact (runStep_ind (Q := fun _ => True) (fun _ _ _ _ => trivial) es _ hs trivial).1
theorem run_size : ∀ (es : List EventR) (acc : StateR × List OutR × List Int), Ok acc.1 → (es.foldl runStep acc).1.files.length ≤ acc.1.files.length + es.length ∧ (es.foldl runStep acc).1.links.length ≤ acc.1.links.length + es.length
  | [], acc, _ => ⟨Nat.le_refl _, Nat.le_refl _⟩
  | e :: r, acc, h1 => by
    have key : Ok (runStep acc e).1 ∧ (runStep acc e).1.files.length ≤ acc.1.files.length + 1 ∧ (runStep acc e).1.links.length ≤ acc.1.links.length + 1 := by
      unfold runStep
      split
      · rename_i h
        have := (step_ok h1 h).1
        exact ⟨this.ok, this.nf, this.nl⟩
      · exact ⟨h1, Nat.le_succ _, Nat.le_succ _⟩
    have := run_size r (runStep acc e) key.1
    simp only [List.foldl_cons, List.length_cons]
    omega
theorem run_new {n : ByteArray} : ∀ (es : List EventR) (acc : StateR × List OutR × List Int), Ok acc.1 → linkL acc.1.links n = none → (∀ e ∈ es, e.media ≠ n) → linkL (es.foldl runStep acc).1.links n = none
  | [], acc, _, h, _ => h
  | e :: r, acc, h1, h, hn => by
    have key : Ok (runStep acc e).1 ∧ linkL (runStep acc e).1.links n = none := by
      unfold runStep
      split
      · rename_i h0
        have := (step_ok h1 h0).1
        refine ⟨this.ok, ?_⟩
        apply Classical.byContradiction
        intro hc
        rcases this.new n hc with h2 | h2
        · exact h2 h
        · exact hn e (by simp) h2
      · exact ⟨h1, h⟩
    exact run_new r _ key.1 key.2 fun x hx => hn x (by simp [hx])

/-! the reports are followed -/
def follow (n : ByteArray) : Int → List OutR → Option Int
  | st, [] => some st
  | st, o :: r => if o.media = n then (if o.status = st then none else follow n o.status r) else follow n st r
theorem follow_append (n : ByteArray) : ∀ (a b : List OutR) (st : Int), follow n st (a ++ b) = (follow n st a).bind fun st => follow n st b
  | [], b, st => rfl
  | o :: r, b, st => by
    simp only [List.cons_append, follow]
    split
    · split
      · rfl
      · exact follow_append n r b _
    · exact follow_append n r b st
theorem follow_none {s t : StateR} {n : ByteArray} {st : Int} : ∀ (ls : List LinkR), (∀ l ∈ ls, l.media ≠ n) → follow n st (ls.filterMap (outF s t)) = some st
  | [], _ => rfl
  | l :: r, h => by
    rw [List.filterMap_cons]
    have ih := follow_none (s := s) (t := t) (n := n) (st := st) r fun x hx => h x (by simp [hx])
    unfold outF
    split
    · exact ih
    · rename_i hh
      split at hh
      · injection hh with hh
        subst hh
        rw [follow, if_neg (h l (by simp))]; exact ih
      · cases hh
theorem follow_step {s t : StateR} {n : ByteArray} : ∀ (ls : List LinkR), (ls.map LinkR.media).Nodup → (∃ l ∈ ls, l.media = n) → follow n (status s.files s.links n) (ls.filterMap (outF s t)) = some (status t.files t.links n)
  | [], _, ⟨_, h, _⟩ => by cases h
  | l :: r, hd, hx => by
    rw [List.map_cons, List.nodup_cons] at hd
    rw [List.filterMap_cons]
    by_cases hl : l.media = n
    · have hr : ∀ x ∈ r, x.media ≠ n := fun x hx e => hd.1 (by rw [hl, ← e]; exact List.mem_map.2 ⟨x, hx, rfl⟩)
      unfold outF
      rw [hl]
      by_cases hc : status t.files t.links n = status s.files s.links n
      · simp only [hc, bne_self_eq_false, Bool.false_eq_true, if_false]
        exact follow_none r hr
      · have hb : (status t.files t.links n != status s.files s.links n) = true := bne_iff_ne.2 hc
        simp only [hb, if_true, follow, if_neg hc]
        exact follow_none r hr
    · obtain ⟨x, hx, hxn⟩ := hx
      have hx' : ∃ l ∈ r, l.media = n := by
        rcases List.mem_cons.1 hx with rfl | hx
        · exact absurd hxn hl
        · exact ⟨x, hx, hxn⟩
      have ih := follow_step (s := s) (t := t) (n := n) r hd.2 hx'
      unfold outF
      split
      · exact ih
      · rename_i hh
        split at hh
        · injection hh with hh
          subst hh
          rw [follow, if_neg hl]; exact ih
        · cases hh
theorem step_follow {s : StateR} {e : EventR} (hs : Ok s) (h : (stepS s e).2.2 = 0) (n : ByteArray) : follow n (status s.files s.links n) (stepS s e).2.1 = some (status (stepS s e).1.files (stepS s e).1.links n) := by
  obtain ⟨h1, h2⟩ := step_ok hs h
  rw [h2]
  unfold outsS
  cases hl : linkL (stepS s e).1.links n with
  | none =>
    rw [follow_none _ (look_none hl), status_look, status_look, hl]
    cases hl2 : linkL s.links n with
    | none => rfl
    | some l => exact absurd hl (h1.keep n (by rw [hl2]; simp))
  | some l =>
    obtain ⟨k1, k2⟩ := look_key hl
    exact follow_step _ h1.ok.lk ⟨l, k2, k1⟩
theorem run_follow {s : StateR} (hs : Ok s) (es : List EventR) (n : ByteArray) : follow n (status s.files s.links n) (runS s es).2.1 = some (status (runS s es).1.files (runS s es).1.links n) := by
  rw [run_eq hs]
  refine (runStep_ind (Q := fun acc => follow n (status s.files s.links n) acc.2.1 = some (status acc.1.files acc.1.links n)) ?_ es _ hs rfl).2
  intro acc e h1 h2
  unfold runStep
  split
  · rename_i h
    simp only
    rw [follow_append, h2]
    exact step_follow h1 h n
  · exact h2
end Go.Proofs.Ytnbmiejjkkgckaa
/- Proved here: The plain laws of the statements on media that come back, that are reported and that are exchanged, for use in the proofs of the given statements; conditions stand in each theorem. -/
set_option linter.unusedSimpArgs false
set_option linter.unusedVariables false
namespace Go.Proofs.Ytnbmiejjkkgckaa
open Go.RowKit

theorem step_arrive {s : StateR} {nm : ByteArray} {sum : Int} (hs : Ok s) (hn : validNm nm = true) (hl : fileL s.files nm ≠ none ∨ s.files.length < 32) :
    ∃ t o, stepS s ⟨1, ⟨#[]⟩, nm, ⟨#[]⟩, sum⟩ = (t, o, 0) ∧ Ok t ∧ t.links = s.links ∧ t.files.length ≤ s.files.length + 1 ∧ ∀ n, fileL t.files n = if nm = n then some ⟨nm, sum, true⟩ else fileL s.files n := by
  have h0 := arrive_zero (sum := sum) hl
  obtain ⟨q1, q2, q3, q4⟩ := arrive_eff hs hn h0
  refine ⟨_, _, step_eq (e := ⟨1, ⟨#[]⟩, nm, ⟨#[]⟩, sum⟩) hs ?_ h0, q1, q2, q3, q4⟩
  unfold validEv
  simp [hn, emp_iff]
theorem step_leave {s : StateR} {nm : ByteArray} {f : FileR} (hs : Ok s) (hn : validNm nm = true) (hl : fileL s.files nm = some f) (hp : f.present = true) :
    ∃ t o, stepS s ⟨2, ⟨#[]⟩, nm, ⟨#[]⟩, 0⟩ = (t, o, 0) ∧ Ok t ∧ t.links = s.links ∧ t.files.length ≤ s.files.length + 1 ∧ ∀ n, fileL t.files n = if nm = n then some { f with present := false } else fileL s.files n := by
  have h0 := leave_zero hl hp
  obtain ⟨q1, q2, q3, f', q4, q5, q6⟩ := leave_eff hs h0
  rw [hl] at q4; injection q4 with q4; subst q4
  refine ⟨_, _, step_eq (e := ⟨2, ⟨#[]⟩, nm, ⟨#[]⟩, 0⟩) hs ?_ h0, q1, q2, q3, q6⟩
  unfold validEv
  simp [hn, emp_iff]
theorem step_connect {s : StateR} {md nm : ByteArray} {f : FileR} (hs : Ok s) (hm : validNm md = true) (hn : validNm nm = true) (h : linkL s.links md = none) (hf : fileL s.files nm = some f) (hp : f.present = true) (hl : s.links.length < 16) :
    ∃ t o, stepS s ⟨3, md, nm, ⟨#[]⟩, 0⟩ = (t, o, 0) ∧ Ok t ∧ t.files = s.files ∧ t.links.length ≤ s.links.length + 1 ∧ ∀ n, linkL t.links n = if md = n then some ⟨md, nm, f.sum, ⟨#[]⟩⟩ else linkL s.links n := by
  have h0 := connect_zero h hf hp hl
  obtain ⟨q1, q2, q3, _, f', q4, q5, q6⟩ := connect_eff hs hm hn h0
  rw [hf] at q4; injection q4 with q4; subst q4
  refine ⟨_, _, step_eq (e := ⟨3, md, nm, ⟨#[]⟩, 0⟩) hs ?_ h0, q1, q2, q3, q6⟩
  unfold validEv
  simp [hn, hm, emp_iff]
theorem step_relink {s : StateR} {md nm : ByteArray} {f : FileR} {l : LinkR} (hs : Ok s) (hm : validNm md = true) (hn : validNm nm = true) (h : linkL s.links md = some l) (hf : fileL s.files nm = some f) (hp : f.present = true) :
    ∃ t o, stepS s ⟨4, md, nm, ⟨#[]⟩, 0⟩ = (t, o, 0) ∧ Ok t ∧ t.files = s.files ∧ ∀ n, linkL t.links n = if md = n then some { l with file := nm, sum := f.sum } else linkL s.links n := by
  have h0 := relink_zero (md := md) (by rw [h]; simp) hf hp
  obtain ⟨q1, q2, q3, l', f', q4, q5, q6, q7⟩ := relink_eff hs hm hn h0
  rw [hf] at q5; injection q5 with q5; subst q5
  rw [h] at q4; injection q4 with q4; subst q4
  refine ⟨_, _, step_eq (e := ⟨4, md, nm, ⟨#[]⟩, 0⟩) hs ?_ h0, q1, q2, q7⟩
  unfold validEv
  simp [hn, hm, emp_iff]
theorem run_step {s t u : StateR} {o p : List OutR} {e f : EventR} (hs : Ok s) (h1 : stepS s e = (t, o, 0)) (h2 : stepS t f = (u, p, 0)) : runS s [e, f] = (u, o ++ p, [0, 0]) := by
  rw [run_eq hs]
  simp only [List.foldl_cons, List.foldl_nil, runStep, h1, h2, if_true, List.nil_append, List.singleton_append, List.cons_append]

def bOwn : ByteArray := ⟨#[111, 119, 110]⟩
def bMine : ByteArray := ⟨#[109, 105, 110, 101]⟩
theorem own_ok : validNm bOwn = true := of_decide_eq_true (by kernel_rfl)
theorem mine_ok : validNm bMine = true := of_decide_eq_true (by kernel_rfl)
theorem returns_plain {s : StateR} (hs : Ok s) (hf : s.files.length < 32) (hl : s.links.length < 16) (hm : linkL s.links bMine = none) (sum other : Int) :
    ∃ a b c d r : StateR, ∃ oA oB oC oD oR : List OutR, runS s [⟨1, ⟨#[]⟩, bOwn, ⟨#[]⟩, sum⟩, ⟨3, bMine, bOwn, ⟨#[]⟩, 0⟩] = (a, oA, [0, 0]) ∧
      stepS a ⟨2, ⟨#[]⟩, bOwn, ⟨#[]⟩, 0⟩ = (b, oB, 0) ∧ stepS b ⟨1, ⟨#[]⟩, bOwn, ⟨#[]⟩, sum⟩ = (c, oC, 0) ∧ stepS b ⟨1, ⟨#[]⟩, bOwn, ⟨#[]⟩, other⟩ = (d, oD, 0) ∧ stepS d ⟨4, bMine, bOwn, ⟨#[]⟩, 0⟩ = (r, oR, 0) ∧
      status a.files a.links bMine = 1 ∧ status b.files b.links bMine = 3 ∧ status c.files c.links bMine = 1 ∧ status d.files d.links bMine = (if other = sum then 1 else 2) ∧ status r.files r.links bMine = 1 := by
  obtain ⟨a1, o1, e1, k1, l1, n1, f1⟩ := step_arrive (sum := sum) hs own_ok (.inr hf)
  have g1 := f1 bOwn
  rw [if_pos rfl] at g1
  obtain ⟨a, o2, e2, k2, l2, n2, f2⟩ := step_connect k1 mine_ok own_ok (by rw [l1]; exact hm) g1 rfl (by rw [l1]; exact hl)
  have m2 := f2 bMine
  rw [if_pos rfl] at m2
  have g2 := g1
  rw [← l2] at g2
  obtain ⟨b, oB, e3, k3, l3, n3, f3⟩ := step_leave k2 own_ok g2 rfl
  have g3 := f3 bOwn
  rw [if_pos rfl] at g3
  have m3 := m2
  rw [← l3] at m3
  obtain ⟨c, oC, e4, k4, l4, n4, f4⟩ := step_arrive (sum := sum) k3 own_ok (.inl (by rw [g3]; simp))
  obtain ⟨d, oD, e5, k5, l5, n5, f5⟩ := step_arrive (sum := other) k3 own_ok (.inl (by rw [g3]; simp))
  have g4 := f4 bOwn
  have g5 := f5 bOwn
  rw [if_pos rfl] at g4 g5
  have m4 := m3
  rw [← l4] at m4
  have m5 := m3
  rw [← l5] at m5
  obtain ⟨r, oR, e6, k6, l6, f6⟩ := step_relink k5 mine_ok own_ok m5 g5 rfl
  have m6 := f6 bMine
  rw [if_pos rfl] at m6
  have g6 := g5
  rw [← l6] at g6
  refine ⟨a, b, c, d, r, _, oB, oC, oD, oR, run_step hs e1 e2, e3, e4, e5, e6, ?_, ?_, ?_, ?_, ?_⟩
  · simp [status_look, m2, statusL, statL, g2]
  · simp [status_look, m3, statusL, statL, g3]
  · simp [status_look, m4, statusL, statL, g4]
  · simp [status_look, m5, statusL, statL, g5]
  · simp [status_look, m6, statusL, statL, g6]

/-! what the events may be -/
theorem pickB_mem {l : List ByteArray} {n : Int} (h1 : 0 ≤ n) (h2 : n < l.length) : pickB l n ∈ l := by
  unfold pickB
  rw [List.getD_eq_getElem?_getD, List.getElem?_eq_getElem (by omega : n.toNat < l.length)]
  exact List.getElem_mem _
theorem ev1_media (L : List Int) (k : Nat) : (ev1 L k).1.media ∈ [bNil, bM0, bM1, bM2, bSpare] := by
  have hm : pickB [bM0, bM1, bM2, bSpare] (tapeN L (k + 2) 4) ∈ [bM0, bM1, bM2, bSpare] := by
    have h := tapeN_lt (L := L) (k := k + 2) (n := 4) (by omega)
    exact pickB_mem h.1 h.2
  unfold ev1
  simp only
  split
  · simp
  · split
    · simp
    · split
      · exact List.mem_cons_of_mem _ hm
      · exact List.mem_cons_of_mem _ hm
theorem evGo_media (L : List Int) : ∀ (c k : Nat), ∀ e ∈ (evGo L c k).1, e.media ∈ [bNil, bM0, bM1, bM2, bSpare]
  | 0, k, e, h => by cases h
  | c + 1, k, e, h => by
    rcases List.mem_cons.1 h with rfl | h
    · exact ev1_media L k
    · exact evGo_media L c _ e h
theorem evs_media (L : List Int) (k : Nat) (n : Int) : ∀ e ∈ (evs17 L k n).1, e.media ≠ bMine := by
  intro e he hc
  have := evGo_media L _ _ e he
  rw [hc] at this
  revert this
  simp only [List.mem_cons, List.not_mem_nil, or_false]
  decide
/-- a made state -/
theorem made_plain (L : List Int) {n : Int} (h1 : 0 ≤ n) (h2 : n ≤ 15) : Ok (runS ⟨[], []⟩ (evs17 L 0 n).1).1 ∧ (runS ⟨[], []⟩ (evs17 L 0 n).1).1.files.length ≤ n.toNat ∧ (runS ⟨[], []⟩ (evs17 L 0 n).1).1.links.length ≤ n.toNat ∧
    linkL (runS ⟨[], []⟩ (evs17 L 0 n).1).1.links bMine = none := by
  refine ⟨run_ok ok_nil _, ?_⟩
  rw [run_eq ok_nil]
  have hs := run_size (evs17 L 0 n).1 (⟨[], []⟩, [], []) ok_nil
  have hl := evs_len L 0 (n := n) h1
  simp only [List.length_nil] at hs
  exact ⟨by omega, by omega, run_new _ _ ok_nil rfl (evs_media L 0 n)⟩

/-! exchanged events -/
def effF (nm : ByteArray) (leave : Bool) (sum : Int) (o : Option FileR) : Option FileR :=
  if leave then o.map fun f => { f with present := false } else some ⟨nm, sum, true⟩
def evF (nm : ByteArray) (leave : Bool) (sum : Int) : EventR := if leave then ⟨2, ⟨#[]⟩, nm, ⟨#[]⟩, 0⟩ else ⟨1, ⟨#[]⟩, nm, ⟨#[]⟩, sum⟩
theorem runStep_F {acc : StateR × List OutR × List Int} (hs : Ok acc.1) {nm : ByteArray} (hn : validNm nm = true) (leave : Bool) (sum : Int) (hl : acc.1.files.length < 32) :
    Ok (runStep acc (evF nm leave sum)).1 ∧ (runStep acc (evF nm leave sum)).1.links = acc.1.links ∧ (runStep acc (evF nm leave sum)).1.files.length ≤ acc.1.files.length + 1 ∧
      ∀ n, fileL (runStep acc (evF nm leave sum)).1.files n = if nm = n then effF nm leave sum (fileL acc.1.files nm) else fileL acc.1.files n := by
  cases leave with
  | false =>
    obtain ⟨t, o, e, k, l, m, f⟩ := step_arrive (sum := sum) hs hn (.inr hl)
    unfold runStep evF
    simp only [Bool.false_eq_true, if_false, e, if_true]
    exact ⟨k, l, m, f⟩
  | true =>
    by_cases h0 : (leaveS acc.1 nm).1 = 0
    · obtain ⟨q1, q2, q3, f', q4, q5, q6⟩ := leave_eff hs h0
      obtain ⟨t, o, e, k, l, m, f⟩ := step_leave hs hn q4 q5
      unfold runStep evF
      simp only [if_true, e]
      refine ⟨k, l, m, fun n => ?_⟩
      rw [f, q4]; rfl
    · have hv : (stepS acc.1 ⟨2, ⟨#[]⟩, nm, ⟨#[]⟩, 0⟩).2.2 ≠ 0 := fun hc => h0 (step_inv hs hc).2
      unfold runStep evF
      simp only [if_true, if_neg hv]
      refine ⟨hs, trivial, Nat.le_succ _, fun n => ?_⟩
      by_cases he : nm = n
      · subst he
        rw [if_pos rfl]
        unfold effF
        rw [if_pos rfl]
        cases hf : fileL acc.1.files nm with
        | none => rfl
        | some f =>
          have hp : f.present = false := by
            cases hp : f.present with
            | false => rfl
            | true => exact absurd (leave_zero hf hp) h0
          obtain ⟨a, b, c⟩ := f
          simp only at hp
          subst hp; rfl
      · rw [if_neg he]
theorem files_plain {s : StateR} (hs : Ok s) (hl : s.files.length < 30) {a b : ByteArray} (ha : validNm a = true) (hb : validNm b = true) (hab : a ≠ b) (l1 l2 : Bool) (s1 s2 : Int) (n : ByteArray) :
    status (runS s [evF a l1 s1, evF b l2 s2]).1.files (runS s [evF a l1 s1, evF b l2 s2]).1.links n = status (runS s [evF b l2 s2, evF a l1 s1]).1.files (runS s [evF b l2 s2, evF a l1 s1]).1.links n := by
  rw [run_eq hs, run_eq hs]
  simp only [List.foldl_cons, List.foldl_nil]
  obtain ⟨a1, a2, a3, a4⟩ := runStep_F (acc := (s, [], [])) hs ha l1 s1 (by simp only; omega)
  obtain ⟨b1, b2, b3, b4⟩ := runStep_F a1 hb l2 s2 (by simp only at a3; omega)
  obtain ⟨c1, c2, c3, c4⟩ := runStep_F (acc := (s, [], [])) hs hb l2 s2 (by simp only; omega)
  obtain ⟨d1, d2, d3, d4⟩ := runStep_F c1 ha l1 s1 (by simp only at c3; omega)
  have key : ∀ m, fileL (runStep (runStep (s, [], []) (evF a l1 s1)) (evF b l2 s2)).1.files m = fileL (runStep (runStep (s, [], []) (evF b l2 s2)) (evF a l1 s1)).1.files m := by
    intro m
    rw [b4, d4, a4, a4, c4, c4, if_neg hab, if_neg (Ne.symm hab)]
    by_cases h1 : a = m
    · subst h1
      rw [if_neg (Ne.symm hab), if_pos rfl, if_pos rfl]
    · by_cases h2 : b = m
      · subst h2
        rw [if_pos rfl, if_neg h1, if_pos rfl]
      · simp only [if_neg h1, if_neg h2]
  rw [status_look, status_look, b2, a2, d2, c2]
  unfold statusL
  split
  · rfl
  · rw [key]
end Go.Proofs.Ytnbmiejjkkgckaa
