/- Proved here: Contracts of functions of the media package, by the abstract machine, for use in the proofs of the given statements; conditions stand in each theorem. -/
import Derived.Test.YtnbmiejjkkgckaaZQ
import Derived.Test.YtnbmiejjkkgckaaZU
import Derived.Test.YtnbmiejjkkgckaaZC
import Derived.Test.YtnbmiejjkkgckaaZJ
import Derived.Test.YtnbmiejjkkgckaaZI
import Derived.Laws.StructEq
set_option linter.unusedSimpArgs false
set_option linter.unusedVariables false
set_option linter.unusedSimpArgs false
set_option linter.unusedVariables false
namespace Go.Proofs.Ytnbmiejjkkgckaa
open Go.RowKit
abbrev tstr (s : ByteArray) : T := .lit (.string s)
def FileR.c (f : FileR) : List T := [tstr f.name, .lit (.int .u64 f.sum), .lit (.bool f.present)]
def LinkR.c (l : LinkR) : List T := [tstr l.media, tstr l.file, .lit (.int .u64 l.sum), tstr l.proxy]
@[go_sem] abbrev tfiles (fs : List FileR) : T := .list 3 (FileR.c default) (fs.map FileR.c)
@[go_sem] abbrev tlinks (fs : List LinkR) : T := .list 4 (LinkR.c default) (fs.map LinkR.c)
@[go_sem] theorem FileR.ct (f : FileR) : (FileR.c f).map V.t = [vstr f.name, .t (.lit (.int .u64 f.sum)), vbool f.present] := rfl
@[go_sem] theorem LinkR.ct (l : LinkR) : (LinkR.c l).map V.t = [vstr l.media, vstr l.file, .t (.lit (.int .u64 l.sum)), vstr l.proxy] := rfl
@[go_sem] theorem FileR.cl (f : FileR) : (FileR.c f).length = 3 := rfl
@[go_sem] theorem LinkR.cl (l : LinkR) : (LinkR.c l).length = 4 := rfl
theorem getD_of_lt {α : Type} [Inhabited α] {xs : List α} {k : Nat} (h : k < xs.length) : xs.getD k default = xs[k] := by simp [List.getD_eq_getElem?_getD, h]

theorem file28 (fs : List FileR) (x : T) (name : ByteArray) : CPure Try.prog 28 [.agg [.t (tfiles fs), .t x], vstr name] (vint (fidx fs name)) := by
  refine cpure_of Try.xen28 Try.func28 rfl Try.ntmps28 (by rw [Try.results28]) (awp_facts fun hf => aw_ok _ ?_)
  simp only [go_sem, factsT] at hf
  obtain ⟨⟨⟨hl, _⟩, _⟩, _⟩ := hf
  simp only [go_sem]
  refine awp_loop_f (fun (k : Nat) σ => setS 5 (vint k) σ) (fun k => k ≤ fs.length ∧ idxFrom (fun f => f.name.toList == name.toList) (fs.drop k) k = fidx fs name) (fun k => fs.length - k) 0 (weak_of [(0, some 0)] ?_) ?_ ?_
  · simp only [go_sem]; simp
  · exact ⟨Nat.zero_le _, rfl⟩
  · rintro k ⟨hk, hi⟩
    refine aw_ok _ ?_
    simp only [go_sem, awS]
    refine ⟨fun hlt => ⟨?_, fun he => ?_, fun he => ⟨k + 1, weak_of [(0, some 0)] ?_, ⟨?_, ?_⟩, ?_⟩⟩, fun hge => ?_⟩
    all_goals simp only [decide_eq_true_eq, decide_eq_false_iff_not, Int.ofNat_lt] at *
    · omega
    · rw [getD_of_lt hlt] at he
      rw [← hi, ← idx_hit (p := fun f => f.name.toList == name.toList) hlt he]
    · simp only [go_sem]; simp [wrap_of hlt hl]
    · omega
    · rw [getD_of_lt hlt] at he
      rw [← hi, idx_step (p := fun f => f.name.toList == name.toList) hlt he]
    · omega
    · rw [← hi, ← idx_end (p := fun f => f.name.toList == name.toList) hge]
end Go.Proofs.Ytnbmiejjkkgckaa
/- Proved here: Contracts of functions of the media package, elder ones in the abstract machine's form, for use in the proofs of the given statements; conditions stand in each theorem. -/
set_option linter.unusedSimpArgs false
set_option linter.unusedVariables false
namespace Go.Proofs.Ytnbmiejjkkgckaa
open Go.RowKit

def OutR.c (o : OutR) : List T := [tstr o.media, .lit (.int .i64 o.status)]
instance : Inhabited OutR := ⟨⟨⟨#[]⟩, 0⟩⟩
@[go_sem] abbrev touts (os : List OutR) : T := .list 2 (OutR.c default) (os.map OutR.c)
@[go_sem] theorem OutR.ct (o : OutR) : (OutR.c o).map V.t = [vstr o.media, vint o.status] := rfl
def EventR.c (e : EventR) : List T := [.lit (.int .i64 e.kind), tstr e.media, tstr e.file, tstr e.proxy, .lit (.int .u64 e.sum)]
@[go_sem] abbrev tevents (es : List EventR) : T := .list 5 (EventR.c default) (es.map EventR.c)
@[go_sem] theorem EventR.ct (e : EventR) : (EventR.c e).map V.t = [vint e.kind, vstr e.media, vstr e.file, vstr e.proxy, .t (.lit (.int .u64 e.sum))] := rfl
@[go_sem] abbrev vevent (e : EventR) : V := .agg [vint e.kind, vstr e.media, vstr e.file, vstr e.proxy, .t (.lit (.int .u64 e.sum))]
def intC (n : Int) : List T := [.lit (.int .i64 n)]
@[go_sem] abbrev tints (l : List Int) : T := .list 1 (intC 0) (l.map intC)
@[go_sem] theorem intC_ct (n : Int) : (intC n).map V.t = [vint n] := rfl
@[go_sem] abbrev vstate (s : StateR) : V := .agg [.t (tfiles s.files), .t (tlinks s.links)]

@[go_sem] theorem OutR.cl (o : OutR) : (OutR.c o).length = 2 := rfl
@[go_sem] theorem EventR.cl (o : EventR) : (EventR.c o).length = 5 := rfl
@[go_sem] theorem intC_cl (n : Int) : (intC n).length = 1 := rfl
theorem lits_rd {w : World} {S : Nat → Prop} : ∀ (l : List Value), (∀ v ∈ l, v.oneCell' = true ∧ FitV v) → RdTs w S (l.map .lit) l
  | [], _ => trivial
  | v :: l, h => ⟨.lit v (h v (by simp)).1 (h v (by simp)).2, lits_rd l fun u hu => h u (by simp [hu])⟩
theorem flatten_lits {α : Type} {f : α → List T} {g : α → List Value} (hfg : ∀ x, f x = (g x).map .lit) : ∀ xs : List α, (xs.map f).flatten = (xs.flatMap g).map .lit
  | [] => rfl
  | x :: r => by
    rw [List.map_cons, List.flatten_cons, List.flatMap_cons, List.map_append, flatten_lits hfg r, hfg]
theorem rdT_own {α : Type} {w : World} {S : Nat → Prop} {B e k : Nat} {d : List T} {f : α → List T} {g : α → List Value} {xs : List α} {v : Value} (hfg : ∀ x, f x = (g x).map .lit) (hk : ∀ x, (g x).length = k)
    (h : w.ownsRow B e k v xs.length (xs.flatMap g)) (hfit : ∀ x ∈ xs, ∀ u ∈ g x, u.oneCell' = true ∧ FitV u) (hS : ∀ b, B ≤ b → b < w.heap.size → S b) : RdT w S (.list k d (xs.map f)) v := by
  have h0 : w.ownsRow 0 e k v (xs.map f).length (xs.flatMap g) := by rw [List.length_map]; exact own_mono h (Nat.zero_le _)
  have e1 := flatten_lits hfg xs
  have q1 : RdTs w S (xs.map f).flatten (xs.flatMap g) := by
    rw [e1]
    refine lits_rd _ fun u hu => ?_
    obtain ⟨x, hx, hu⟩ := List.mem_flatMap.1 hu
    exact hfit x hx u hu
  refine rdT_row (S := S) h0 q1 (fun y hy => ?_) (fun _ h => h) fun b hb => ?_
  · obtain ⟨x, _, rfl⟩ := List.mem_map.1 hy
    rw [hfg, List.length_map, hk]
  · obtain ⟨o1, _⟩ := ownBlock_eq h
    have := h.lt b (o1.trans hb)
    exact hS b this.1 this.2

/-! arguments -/
theorem facts_files : ∀ {fs : List FileR}, factsTss (fs.map FileR.c) → ∀ f ∈ fs, f.fits := by
  intro fs h f hf
  have := factsTss_mem h (FileR.c f) (List.mem_map.2 ⟨f, hf, rfl⟩)
  simp only [FileR.c, factsTs, factsT, FitV] at this
  exact this.1
theorem facts_links : ∀ {ls : List LinkR}, factsTss (ls.map LinkR.c) → ∀ l ∈ ls, l.fits := by
  intro fs h f hf
  have := factsTss_mem h (LinkR.c f) (List.mem_map.2 ⟨f, hf, rfl⟩)
  simp only [LinkR.c, factsTs, factsT, FitV] at this
  exact ⟨this.1, this.2.1, this.2.2.2.1⟩
theorem facts_events : ∀ {es : List EventR}, factsTss (es.map EventR.c) → ∀ e ∈ es, e.fits := by
  intro fs h f hf
  have := factsTss_mem h (EventR.c f) (List.mem_map.2 ⟨f, hf, rfl⟩)
  simp only [EventR.c, factsTs, factsT, FitV] at this
  exact ⟨this.2.1, this.2.2.1, this.2.2.2.1⟩

structure StArg (w : World) (s : StateR) (v : Value) : Prop where
  ex : ∃ A n c D m d, v = .agg #[.slice A n c, .slice D m d] ∧ n = s.files.length ∧ m = s.links.length ∧ Sl FileR.cells 3 w A s.files ∧ Sl LinkR.cells 4 w D s.links
  nf : s.files.length ≤ maxLen
  nl : s.links.length ≤ maxLen
  ff : ∀ f ∈ s.files, f.fits
  fl : ∀ l ∈ s.links, l.fits
theorem stArg {w : World} {E : Env} {s : StateR} {v : Value} (h : RdV w E (vstate s) v) : StArg w s v := by
  have hf := RdV.facts _ h
  simp only [go_sem, factsT, List.length_map] at hf
  obtain ⟨⟨hf1, hf2⟩, hf3, hf4⟩ := hf
  refine ⟨?_, hf1, hf3, facts_files hf2, facts_links hf4⟩
  simp only [vstate, RdV] at h
  obtain ⟨vs, rfl, h1, _⟩ := h
  obtain ⟨l⟩ := vs
  cases l with
  | nil => simp only [RdVs] at h1
  | cons v1 l =>
    cases l with
    | nil => simp only [RdVs] at h1; exact h1.2.elim
    | cons v2 l =>
      cases l with
      | cons _ _ => simp only [RdVs] at h1; exact h1.2.2.elim
      | nil =>
        simp only [RdVs, RdV, and_true] at h1
        obtain ⟨A, c, e1, _⟩ := rdT_slice h1.1
        obtain ⟨D, d, e2, _⟩ := rdT_slice h1.2
        subst e1 e2
        exact ⟨A, _, c, D, _, d, rfl, List.length_map _, List.length_map _, sl_of_rdT (g := FileR.cells) (fun _ => rfl) h1.1, sl_of_rdT (g := LinkR.cells) (fun _ => rfl) h1.2⟩
theorem evArg {w : World} {E : Env} {e : EventR} {v : Value} (h : RdV w E (vevent e) v) : v = .agg #[.int .i64 e.kind, .string e.media, .string e.file, .string e.proxy, .int .u64 e.sum] ∧ e.fits := by
  have hf := RdV.facts _ h
  simp only [go_sem, factsT, FitV] at hf
  simp only [vevent, RdV] at h
  obtain ⟨⟨l⟩, rfl, h1, _⟩ := h
  rcases l with _ | ⟨v1, _ | ⟨v2, _ | ⟨v3, _ | ⟨v4, _ | ⟨v5, _ | ⟨v6, l⟩⟩⟩⟩⟩⟩ <;> simp only [RdVs, and_false, and_true] at h1
  obtain ⟨a1, a2, a3, a4, a5⟩ := h1
  rw [(rdV_lit_inv a1).1, (rdV_lit_inv a2).1, (rdV_lit_inv a3).1, (rdV_lit_inv a4).1, (rdV_lit_inv a5).1]
  exact ⟨rfl, hf.1, hf.2.1, hf.2.2⟩
theorem strArg {w : World} {E : Env} {s : ByteArray} {v : Value} (h : RdV w E (vstr s) v) : v = .string s := (rdV_lit_inv h).1

/-! results -/
theorem fits_file {f : FileR} (h : f.fits) : ∀ u ∈ f.cells, u.oneCell' = true ∧ FitV u := by
  intro u hu
  simp only [FileR.cells, List.mem_cons, List.not_mem_nil, or_false] at hu
  rcases hu with rfl | rfl | rfl <;> refine ⟨rfl, ?_⟩ <;> first | exact h | trivial
theorem fits_link {l : LinkR} (h : l.fits) : ∀ u ∈ l.cells, u.oneCell' = true ∧ FitV u := by
  intro u hu
  simp only [LinkR.cells, List.mem_cons, List.not_mem_nil, or_false] at hu
  rcases hu with rfl | rfl | rfl | rfl <;> refine ⟨rfl, ?_⟩ <;> first | exact h.1 | exact h.2.1 | exact h.2.2 | trivial
theorem rdV_own_st {w : World} {B : Nat} {S : Nat → Prop} {v : Value} {s : StateR} (h : OwnSt w B v s) (hf : ∀ f ∈ s.files, f.fits) (hl : ∀ l ∈ s.links, l.fits) (hS : ∀ b, B ≤ b → b < w.heap.size → S b) : RdV w (bareE S) (vstate s) v := by
  obtain ⟨v1, v2, rfl, h1, h2⟩ := h.ex
  simp only [vstate, RdV]
  refine ⟨_, rfl, ?_, ?_⟩
  · simp only [RdVs, RdV]
    exact ⟨rdT_own (fun _ => rfl) (fun _ => rfl) h1 (fun f hf' => fits_file (hf f hf')) hS, rdT_own (fun _ => rfl) (fun _ => rfl) h2 (fun l hl' => fits_link (hl l hl')) hS, trivial⟩
  · simp [(ownBlock_eq h1).2, (ownBlock_eq h2).2]
def OutR.fits (o : OutR) : Prop := o.media.size ≤ maxLen
theorem fits_out {o : OutR} (h : o.fits) : ∀ u ∈ o.cells, u.oneCell' = true ∧ FitV u := by
  intro u hu
  simp only [OutR.cells, List.mem_cons, List.not_mem_nil, or_false] at hu
  rcases hu with rfl | rfl <;> refine ⟨rfl, ?_⟩ <;> first | exact h | trivial
theorem outs_fit {s t : StateR} (h : ∀ l ∈ t.links, l.fits) : ∀ o ∈ outsS s t, o.fits := by
  intro o ho
  unfold outsS at ho
  obtain ⟨l, hl, hlo⟩ := List.mem_filterMap.1 ho
  unfold outF at hlo
  split at hlo
  · injection hlo with hlo; subst hlo; exact (h l hl).1
  · cases hlo
theorem perf_fits {s : StateR} {e : EventR} (hv : validSt s.files s.links = true) (hf : ∀ f ∈ s.files, f.fits) (hl : ∀ l ∈ s.links, l.fits) (he : e.fits) : Fit (performS s e).2 := perf_fit s e (valid_fit hv hf hl) he
theorem step_res_fits {s : StateR} {e : EventR} (hf : ∀ f ∈ s.files, f.fits) (hl : ∀ l ∈ s.links, l.fits) (he : e.fits) : (∀ f ∈ (stepS s e).1.files, f.fits) ∧ (∀ l ∈ (stepS s e).1.links, l.fits) ∧ ∀ o ∈ (stepS s e).2.1, o.fits := by
  unfold stepS
  split
  · rename_i hv
    rw [Bool.and_eq_true] at hv
    have hp := perf_fits (e := e) hv.1 hf hl he
    split
    · exact ⟨hp.ff, hp.fl, outs_fit hp.fl⟩
    · exact ⟨fun f hf => (by cases hf), fun f hf => (by cases hf), fun f hf => (by cases hf)⟩
  · exact ⟨fun f hf => (by cases hf), fun f hf => (by cases hf), fun f hf => (by cases hf)⟩

def newS (S : Nat → Prop) (w w' : World) (b : Nat) : Prop := S b ∨ (w.heap.size ≤ b ∧ b < w'.heap.size)

theorem cpure_scal {f : FuncId} {args : List V} {v : Value} (he : Try.prog.enters f = true) (h1 : v.oneCell' = true) (h2 : FitV v)
    (h : ∀ (w : World) (S : Nat → Prop) (vs : List Value), RdVs w (bareE S) args vs → Calls Try.prog f vs.toArray w fun e w' => e = .returned v ∧ Below w.heap.size w w') : CPure Try.prog f args (.t (.lit v)) := by
  refine ⟨he, fun w S vs hS hargs => (h w S vs hargs).mono ?_⟩
  rintro e w' ⟨rfl, hb⟩
  exact ⟨v, S, rfl, fun _ h => h, fun _ h => .inl h, fun b hb' => Nat.lt_of_lt_of_le (hS b hb') hb.size, by simp only [RdV]; exact .lit v h1 h2, hb⟩

theorem one_arg {w : World} {E : Env} {x : V} {vs : List Value} (h : RdVs w E [x] vs) : ∃ v, vs = [v] ∧ RdV w E x v := by
  rcases vs with _ | ⟨v, _ | ⟨u, l⟩⟩ <;> simp only [RdVs, and_false, and_true] at h
  exact ⟨v, rfl, h⟩
theorem two_args {w : World} {E : Env} {x y : V} {vs : List Value} (h : RdVs w E [x, y] vs) : ∃ v u, vs = [v, u] ∧ RdV w E x v ∧ RdV w E y u := by
  rcases vs with _ | ⟨v, _ | ⟨u, _ | ⟨t, l⟩⟩⟩ <;> simp only [RdVs, and_false, and_true] at h
  exact ⟨v, u, rfl, h⟩

theorem status15 (s : StateR) (n : ByteArray) : CPure Try.prog 15 [vstate s, vstr n] (vint (status s.files s.links n)) :=
  cpure_scal Try.xen15 rfl trivial fun w S vs h => by
    obtain ⟨v, u, rfl, h1, h2⟩ := two_args h
    have ha := stArg h1
    obtain ⟨A, n', c, D, m, d, rfl, rfl, rfl, hF, hL⟩ := ha.ex
    rw [strArg h2]
    exact status_prog A D _ c _ d s.files s.links n w rfl rfl ha.nf ha.nl hF hL
theorem status16 (s : StateR) (n : ByteArray) : CPure Try.prog 16 [vstate s, vstr n] (vint (status s.files s.links n)) :=
  cpure_scal Try.xen16 rfl trivial fun w S vs h => by
    obtain ⟨v, u, rfl, h1, h2⟩ := two_args h
    have ha := stArg h1
    obtain ⟨A, n', c, D, m, d, rfl, rfl, rfl, hF, hL⟩ := ha.ex
    rw [strArg h2]
    exact status_ref A D _ c _ d s.files s.links n w rfl rfl ha.nf ha.nl hF hL
theorem valid13 (s : StateR) : CPure Try.prog 13 [vstate s] (vbool (validSt s.files s.links)) :=
  cpure_scal Try.xen13 rfl trivial fun w S vs h => by
    obtain ⟨v, rfl, h1⟩ := one_arg h
    have ha := stArg h1
    obtain ⟨A, n', c, D, m, d, rfl, rfl, rfl, hF, hL⟩ := ha.ex
    exact valid_prog A D _ c _ d s.files s.links w rfl rfl ha.nf ha.nl hF hL ha.ff ha.fl _ rfl
theorem valid14 (s : StateR) : CPure Try.prog 14 [vstate s] (vbool (validSt s.files s.links)) :=
  cpure_scal Try.xen14 rfl trivial fun w S vs h => by
    obtain ⟨v, rfl, h1⟩ := one_arg h
    have ha := stArg h1
    obtain ⟨A, n', c, D, m, d, rfl, rfl, rfl, hF, hL⟩ := ha.ex
    exact valid_ref A D _ c _ d s.files s.links w rfl rfl ha.nf ha.nl hF hL ha.ff ha.fl _ rfl
theorem awake11 : CPure Try.prog 11 [] (vbool true) :=
  cpure_scal Try.xen11 rfl trivial fun w S vs h => by
    cases vs with
    | nil => exact awake_prog w
    | cons _ _ => simp only [RdVs] at h

@[go_sem] abbrev vstep (r : StateR × List OutR × Int) : V := .tup [vstate r.1, .t (touts r.2.1), vint r.2.2]
theorem step_conv {f : FuncId} {s : StateR} {e : EventR} (he : Try.prog.enters f = true) (h : ∀ (A D : Option Addr) (c d : Nat) (w : World), s.files.length ≤ maxLen → s.links.length ≤ maxLen → (∀ f ∈ s.files, f.fits) → (∀ l ∈ s.links, l.fits) → e.fits →
      Sl FileR.cells 3 w A s.files → Sl LinkR.cells 4 w D s.links →
      Calls Try.prog f #[.agg #[.slice A s.files.length c, .slice D s.links.length d], .agg #[.int .i64 e.kind, .string e.media, .string e.file, .string e.proxy, .int .u64 e.sum]] w (StepPost w (stepS s e))) :
    CPure Try.prog f [vstate s, vevent e] (vstep (stepS s e)) := by
  refine ⟨he, fun w S vs hS hargs => ?_⟩
  obtain ⟨v, u, rfl, h1, h2⟩ := two_args hargs
  have ha := stArg h1
  obtain ⟨A, n', c, D, m, d, rfl, rfl, rfl, hF, hL⟩ := ha.ex
  obtain ⟨rfl, hef⟩ := evArg h2
  refine (h A D c d w ha.nf ha.nl ha.ff ha.fl hef hF hL).mono ?_
  rintro e' w' ⟨v, vo, rfl, h3, h4, hb⟩
  obtain ⟨q1, q2, q3⟩ := step_res_fits (e := e) ha.ff ha.fl hef
  refine ⟨_, newS S w w', rfl, fun b hb' => .inl hb', fun b hb' => hb'.imp id (·.1), fun b hb' => hb'.elim (fun h => Nat.lt_of_lt_of_le (hS b h) hb.size) (·.2), ?_, hb⟩
  have hN : ∀ b, w.heap.size ≤ b → b < w'.heap.size → newS S w w' b := fun b h1 h2 => .inr ⟨h1, h2⟩
  simp only [vstep, RdV]
  refine ⟨_, rfl, ?_⟩
  simp only [RdVs]
  refine ⟨rdV_own_st h3 q1 q2 hN, ?_, ?_, trivial⟩
  · simp only [RdV]; exact rdT_own (fun _ => rfl) (fun _ => rfl) h4 (fun o ho => fits_out (q3 o ho)) hN
  · exact rdV_lit rfl rfl
theorem step18 (s : StateR) (e : EventR) : CPure Try.prog 18 [vstate s, vevent e] (vstep (stepS s e)) :=
  step_conv Try.xen18 fun A D c d w hnf hnl hff hfl hef hF hL => by
    obtain ⟨k, m, f, p, q⟩ := e
    cases hb : (validSt s.files s.links && validEv ⟨k, m, f, p, q⟩) with
    | true =>
      rw [Bool.and_eq_true] at hb
      have := valid_len hb.1
      exact step_good A D c d s k m f p q w (by omega) (by omega) hef.1 hef.2.1 hef.2.2 hff hfl hF hL hb.1 hb.2
    | false => exact step_bad A D c d s k m f p q w hnf hnl hef.1 hef.2.1 hef.2.2 hff hfl hF hL hb
theorem step19 (s : StateR) (e : EventR) : CPure Try.prog 19 [vstate s, vevent e] (vstep (stepS s e)) :=
  step_conv Try.xen19 fun A D c d w hnf hnl hff hfl hef hF hL => by
    obtain ⟨k, m, f, p, q⟩ := e
    cases hb : (validSt s.files s.links && validEv ⟨k, m, f, p, q⟩) with
    | true =>
      rw [Bool.and_eq_true] at hb
      have := valid_len hb.1
      exact step_ref_good A D c d s k m f p q w (by omega) (by omega) hef.1 hef.2.1 hef.2.2 hff hfl hF hL hb.1 hb.2
    | false => exact step_ref_bad A D c d s k m f p q w hnf hnl hef.1 hef.2.1 hef.2.2 hff hfl hF hL hb
end Go.Proofs.Ytnbmiejjkkgckaa
/- Proved here: Contracts of the functions that compare, of the media package's reference, for use in the proofs of the given statements; conditions stand in each theorem. -/
set_option linter.unusedSimpArgs false
set_option linter.unusedVariables false
namespace Go.Proofs.Ytnbmiejjkkgckaa
open Go.RowKit
theorem two_cells {w : World} {E : Env} {a b : V} {vs : Array Value} (h : RdVs w E [a, b] vs.toList) : ∃ x y, vs = #[x, y] ∧ RdV w E a x ∧ RdV w E b y := by
  obtain ⟨l⟩ := vs
  rcases l with _ | ⟨x, _ | ⟨y, _ | ⟨z, l⟩⟩⟩ <;> simp only [RdVs, and_false, and_true] at h
  exact ⟨x, y, rfl, h⟩
theorem three_cells {w : World} {E : Env} {a b c : V} {vs : Array Value} (h : RdVs w E [a, b, c] vs.toList) : ∃ x y z, vs = #[x, y, z] ∧ RdV w E a x ∧ RdV w E b y ∧ RdV w E c z := by
  obtain ⟨l⟩ := vs
  rcases l with _ | ⟨x, _ | ⟨y, _ | ⟨z, _ | ⟨u, l⟩⟩⟩⟩ <;> simp only [RdVs, and_false, and_true] at h
  exact ⟨x, y, z, rfl, h⟩
theorem four_cells {w : World} {E : Env} {a b c d : V} {vs : Array Value} (h : RdVs w E [a, b, c, d] vs.toList) : ∃ x y z u, vs = #[x, y, z, u] ∧ RdV w E a x ∧ RdV w E b y ∧ RdV w E c z ∧ RdV w E d u := by
  obtain ⟨l⟩ := vs
  rcases l with _ | ⟨x, _ | ⟨y, _ | ⟨z, _ | ⟨u, _ | ⟨t, l⟩⟩⟩⟩⟩ <;> simp only [RdVs, and_false, and_true] at h
  exact ⟨x, y, z, u, rfl, h⟩
theorem eq37 (n : ByteArray) (s : Int) (p : Bool) : EqV Try.prog 37 [vstr n, .t (.lit (.int .u64 s)), vbool p] [vstr n, .t (.lit (.int .u64 s)), vbool p] true := by
  intro w E vs us h1 h2
  obtain ⟨x, y, z, rfl, h1, h2', h3⟩ := three_cells h1
  obtain ⟨x', y', z', rfl, k1, k2, k3⟩ := three_cells h2
  rw [(rdV_lit_inv h1).1, (rdV_lit_inv h2').1, (rdV_lit_inv h3).1, (rdV_lit_inv k1).1, (rdV_lit_inv k2).1, (rdV_lit_inv k3).1]
  constructor
  · unfold Op.equal
    simp [go_sem, Op.maxDepth]
  · intro p q
    unfold eqGuard
    simp [Try.eqGuardType37]
theorem eq39 (m f : ByteArray) (s : Int) (p : ByteArray) : EqV Try.prog 39 [vstr m, vstr f, .t (.lit (.int .u64 s)), vstr p] [vstr m, vstr f, .t (.lit (.int .u64 s)), vstr p] true := by
  intro w E vs us h1 h2
  obtain ⟨x, y, z, u, rfl, h1, h2', h3, h4⟩ := four_cells h1
  obtain ⟨x', y', z', u', rfl, k1, k2, k3, k4⟩ := four_cells h2
  rw [(rdV_lit_inv h1).1, (rdV_lit_inv h2').1, (rdV_lit_inv h3).1, (rdV_lit_inv h4).1, (rdV_lit_inv k1).1, (rdV_lit_inv k2).1, (rdV_lit_inv k3).1, (rdV_lit_inv k4).1]
  constructor
  · unfold Op.equal
    simp [go_sem, Op.maxDepth]
  · intro p q
    unfold eqGuard
    simp [Try.eqGuardType39]
theorem eq61 (m : ByteArray) (s : Int) : EqV Try.prog 61 [vstr m, vint s] [vstr m, vint s] true := by
  intro w E vs us h1 h2
  obtain ⟨x, y, rfl, h1, h2'⟩ := two_cells h1
  obtain ⟨x', y', rfl, k1, k2⟩ := two_cells h2
  rw [(rdV_lit_inv h1).1, (rdV_lit_inv h2').1, (rdV_lit_inv k1).1, (rdV_lit_inv k2).1]
  constructor
  · unfold Op.equal
    simp [go_sem, Op.maxDepth]
  · intro p q
    unfold eqGuard
    simp [Try.eqGuardType61]

theorem outs21 (os : List OutR) : CPure Try.prog 21 [.t (touts os), .t (touts os)] (vbool true) := by
  refine cpure_of Try.xen21 Try.func21 rfl Try.ntmps21 (by rw [Try.results21]) (awp_facts fun hf => aw_ok _ ?_)
  simp only [go_sem, ne_eq, not_true_eq_false, or_false, false_or, or_self, Nat.reduceGT, Nat.reducePow, Nat.reduceLT, ↓reduceIte, Nat.reduceAdd, Nat.reduceMul, Nat.reduceSub, Nat.reduceMod, Nat.reduceLeDiff, Nat.reduceEqDiff, Nat.reduceBEq, reduceCtorEq, imp_self, implies_true, beq_self_eq_true, bne_self_eq_false, Bool.not_false, Bool.not_true, beq_true, beq_false, Bool.or_self, Bool.false_or, Bool.or_false, Bool.true_or, Bool.false_and, Bool.and_false, factsT] at hf
  have hl : os.length ≤ maxLen := by first | exact hf.1 | exact hf.1.1
  simp only [go_sem, ne_eq, not_true_eq_false, or_false, false_or, or_self, Nat.reduceGT, Nat.reducePow, Nat.reduceLT, ↓reduceIte, Nat.reduceAdd, Nat.reduceMul, Nat.reduceSub, Nat.reduceMod, Nat.reduceLeDiff, Nat.reduceEqDiff, Nat.reduceBEq, reduceCtorEq, imp_self, implies_true, beq_self_eq_true, bne_self_eq_false, Bool.not_false, Bool.not_true, beq_true, beq_false, Bool.or_self, Bool.false_or, Bool.or_false, Bool.true_or, Bool.false_and, Bool.and_false, bne_self_eq_false]
  refine awp_loop_f (fun (k : Nat) σ => setS 5 (vint k) σ) (fun k => k ≤ os.length) (fun k => os.length - k) 0 (weak_of [] ?_) (Nat.zero_le _) ?_
  · simp only [go_sem, ne_eq, not_true_eq_false, or_false, false_or, or_self, Nat.reduceGT, Nat.reducePow, Nat.reduceLT, ↓reduceIte, Nat.reduceAdd, Nat.reduceMul, Nat.reduceSub, Nat.reduceMod, Nat.reduceLeDiff, Nat.reduceEqDiff, Nat.reduceBEq, reduceCtorEq, imp_self, implies_true, beq_self_eq_true, bne_self_eq_false, Bool.not_false, Bool.not_true, beq_true, beq_false, Bool.or_self, Bool.false_or, Bool.or_false, Bool.true_or, Bool.false_and, Bool.and_false]; simp
  · intro k hk
    refine aw_ok _ ?_
    simp only [go_sem, ne_eq, not_true_eq_false, or_false, false_or, or_self, Nat.reduceGT, Nat.reducePow, Nat.reduceLT, ↓reduceIte, Nat.reduceAdd, Nat.reduceMul, Nat.reduceSub, Nat.reduceMod, Nat.reduceLeDiff, Nat.reduceEqDiff, Nat.reduceBEq, reduceCtorEq, imp_self, implies_true, beq_self_eq_true, bne_self_eq_false, Bool.not_false, Bool.not_true, beq_true, beq_false, Bool.or_self, Bool.false_or, Bool.or_false, Bool.true_or, Bool.false_and, Bool.and_false]
    refine ⟨fun hlt => ?_, fun hge => ?_⟩
    all_goals simp only [decide_eq_true_eq, decide_eq_false_iff_not, Int.ofNat_lt] at *
    · unfold awS
      simp only [go_sem, ne_eq, not_true_eq_false, or_false, false_or, or_self, Nat.reduceGT, Nat.reducePow, Nat.reduceLT, ↓reduceIte, Nat.reduceAdd, Nat.reduceMul, Nat.reduceSub, Nat.reduceMod, Nat.reduceLeDiff, Nat.reduceEqDiff, Nat.reduceBEq, reduceCtorEq, imp_self, implies_true, beq_self_eq_true, bne_self_eq_false, Bool.not_false, Bool.not_true, beq_true, beq_false, Bool.or_self, Bool.false_or, Bool.or_false, Bool.true_or, Bool.false_and, Bool.and_false]
      refine drawR_of [0, 1, 2, 3, 4, 5, 6, 7, 8] .done rfl (by kernel_rfl) (by kernel_rfl) (by decide) ?_
      simp only [go_sem, ne_eq, not_true_eq_false, or_false, false_or, or_self, Nat.reduceGT, Nat.reducePow, Nat.reduceLT, ↓reduceIte, Nat.reduceAdd, Nat.reduceMul, Nat.reduceSub, Nat.reduceMod, Nat.reduceLeDiff, Nat.reduceEqDiff, Nat.reduceBEq, reduceCtorEq, imp_self, implies_true, beq_self_eq_true, bne_self_eq_false, Bool.not_false, Bool.not_true, beq_true, beq_false, Bool.or_self, Bool.false_or, Bool.or_false, Bool.true_or, Bool.false_and, Bool.and_false]
      refine ⟨⟨by omega, by omega⟩, ⟨by omega, by omega⟩, true, eq61 _ _, fun h => (by simp at h), fun _ => ?_⟩
      unfold awS
      simp only [go_sem, ne_eq, not_true_eq_false, or_false, false_or, or_self, Nat.reduceGT, Nat.reducePow, Nat.reduceLT, ↓reduceIte, Nat.reduceAdd, Nat.reduceMul, Nat.reduceSub, Nat.reduceMod, Nat.reduceLeDiff, Nat.reduceEqDiff, Nat.reduceBEq, reduceCtorEq, imp_self, implies_true, beq_self_eq_true, bne_self_eq_false, Bool.not_false, Bool.not_true, beq_true, beq_false, Bool.or_self, Bool.false_or, Bool.or_false, Bool.true_or, Bool.false_and, Bool.and_false]
      refine ⟨k + 1, weak_of [] ?_, hlt, by omega⟩
      simp only [go_sem, ne_eq, not_true_eq_false, or_false, false_or, or_self, Nat.reduceGT, Nat.reducePow, Nat.reduceLT, ↓reduceIte, Nat.reduceAdd, Nat.reduceMul, Nat.reduceSub, Nat.reduceMod, Nat.reduceLeDiff, Nat.reduceEqDiff, Nat.reduceBEq, reduceCtorEq, imp_self, implies_true, beq_self_eq_true, bne_self_eq_false, Bool.not_false, Bool.not_true, beq_true, beq_false, Bool.or_self, Bool.false_or, Bool.or_false, Bool.true_or, Bool.false_and, Bool.and_false]
      simp [wrap_of hlt hl]
    · unfold awS
      simp only [go_sem, ne_eq, not_true_eq_false, or_false, false_or, or_self, Nat.reduceGT, Nat.reducePow, Nat.reduceLT, ↓reduceIte, Nat.reduceAdd, Nat.reduceMul, Nat.reduceSub, Nat.reduceMod, Nat.reduceLeDiff, Nat.reduceEqDiff, Nat.reduceBEq, reduceCtorEq, imp_self, implies_true, beq_self_eq_true, bne_self_eq_false, Bool.not_false, Bool.not_true, beq_true, beq_false, Bool.or_self, Bool.false_or, Bool.or_false, Bool.true_or, Bool.false_and, Bool.and_false]

theorem errnos24 (l : List Int) : CPure Try.prog 24 [.t (tints l), .t (tints l)] (vbool true) := by
  refine cpure_of Try.xen24 Try.func24 rfl Try.ntmps24 (by rw [Try.results24]) (awp_facts fun hf => aw_ok _ ?_)
  simp only [go_sem, ne_eq, not_true_eq_false, or_false, false_or, or_self, Nat.reduceGT, Nat.reducePow, Nat.reduceLT, ↓reduceIte, Nat.reduceAdd, Nat.reduceMul, Nat.reduceSub, Nat.reduceMod, Nat.reduceLeDiff, Nat.reduceEqDiff, Nat.reduceBEq, reduceCtorEq, imp_self, implies_true, beq_self_eq_true, bne_self_eq_false, Bool.not_false, Bool.not_true, beq_true, beq_false, Bool.or_self, Bool.false_or, Bool.or_false, Bool.true_or, Bool.false_and, Bool.and_false, factsT] at hf
  have hl : l.length ≤ maxLen := by first | exact hf.1 | exact hf.1.1
  simp only [go_sem, ne_eq, not_true_eq_false, or_false, false_or, or_self, Nat.reduceGT, Nat.reducePow, Nat.reduceLT, ↓reduceIte, Nat.reduceAdd, Nat.reduceMul, Nat.reduceSub, Nat.reduceMod, Nat.reduceLeDiff, Nat.reduceEqDiff, Nat.reduceBEq, reduceCtorEq, imp_self, implies_true, beq_self_eq_true, bne_self_eq_false, Bool.not_false, Bool.not_true, beq_true, beq_false, Bool.or_self, Bool.false_or, Bool.or_false, Bool.true_or, Bool.false_and, Bool.and_false]
  refine awp_loop_f (fun (k : Nat) σ => setS 13 (vint k) σ) (fun k => k ≤ l.length) (fun k => l.length - k) 0 (weak_of [] ?_) (Nat.zero_le _) ?_
  · simp only [go_sem, ne_eq, not_true_eq_false, or_false, false_or, or_self, Nat.reduceGT, Nat.reducePow, Nat.reduceLT, ↓reduceIte, Nat.reduceAdd, Nat.reduceMul, Nat.reduceSub, Nat.reduceMod, Nat.reduceLeDiff, Nat.reduceEqDiff, Nat.reduceBEq, reduceCtorEq, imp_self, implies_true, beq_self_eq_true, bne_self_eq_false, Bool.not_false, Bool.not_true, beq_true, beq_false, Bool.or_self, Bool.false_or, Bool.or_false, Bool.true_or, Bool.false_and, Bool.and_false]
    simp
  · intro k hk
    refine aw_ok _ ?_
    simp only [go_sem, ne_eq, not_true_eq_false, or_false, false_or, or_self, Nat.reduceGT, Nat.reducePow, Nat.reduceLT, ↓reduceIte, Nat.reduceAdd, Nat.reduceMul, Nat.reduceSub, Nat.reduceMod, Nat.reduceLeDiff, Nat.reduceEqDiff, Nat.reduceBEq, reduceCtorEq, imp_self, implies_true, beq_self_eq_true, bne_self_eq_false, Bool.not_false, Bool.not_true, beq_true, beq_false, Bool.or_self, Bool.false_or, Bool.or_false, Bool.true_or, Bool.false_and, Bool.and_false]
    refine ⟨fun hlt => ?_, fun hge => ?_⟩
    all_goals simp only [decide_eq_true_eq, decide_eq_false_iff_not, Int.ofNat_lt] at *
    · unfold awS
      simp only [go_sem, ne_eq, not_true_eq_false, or_false, false_or, or_self, Nat.reduceGT, Nat.reducePow, Nat.reduceLT, ↓reduceIte, Nat.reduceAdd, Nat.reduceMul, Nat.reduceSub, Nat.reduceMod, Nat.reduceLeDiff, Nat.reduceEqDiff, Nat.reduceBEq, reduceCtorEq, imp_self, implies_true, beq_self_eq_true, bne_self_eq_false, Bool.not_false, Bool.not_true, beq_true, beq_false, Bool.or_self, Bool.false_or, Bool.or_false, Bool.true_or, Bool.false_and, Bool.and_false]
      refine drawR_of [0, 1, 2, 3, 4, 5, 6, 7, 8] .done rfl (by kernel_rfl) (by kernel_rfl) (by decide) ?_
      simp only [go_sem, ne_eq, not_true_eq_false, or_false, false_or, or_self, Nat.reduceGT, Nat.reducePow, Nat.reduceLT, ↓reduceIte, Nat.reduceAdd, Nat.reduceMul, Nat.reduceSub, Nat.reduceMod, Nat.reduceLeDiff, Nat.reduceEqDiff, Nat.reduceBEq, reduceCtorEq, imp_self, implies_true, beq_self_eq_true, bne_self_eq_false, Bool.not_false, Bool.not_true, beq_true, beq_false, Bool.or_self, Bool.false_or, Bool.or_false, Bool.true_or, Bool.false_and, Bool.and_false]
      refine ⟨⟨by omega, by omega⟩, ⟨by omega, by omega⟩, k + 1, weak_of [] ?_, hlt, by omega⟩
      simp only [go_sem, ne_eq, not_true_eq_false, or_false, false_or, or_self, Nat.reduceGT, Nat.reducePow, Nat.reduceLT, ↓reduceIte, Nat.reduceAdd, Nat.reduceMul, Nat.reduceSub, Nat.reduceMod, Nat.reduceLeDiff, Nat.reduceEqDiff, Nat.reduceBEq, reduceCtorEq, imp_self, implies_true, beq_self_eq_true, bne_self_eq_false, Bool.not_false, Bool.not_true, beq_true, beq_false, Bool.or_self, Bool.false_or, Bool.or_false, Bool.true_or, Bool.false_and, Bool.and_false]
      simp [wrap_of hlt hl]
    · unfold awS
      simp only [go_sem, ne_eq, not_true_eq_false, or_false, false_or, or_self, Nat.reduceGT, Nat.reducePow, Nat.reduceLT, ↓reduceIte, Nat.reduceAdd, Nat.reduceMul, Nat.reduceSub, Nat.reduceMod, Nat.reduceLeDiff, Nat.reduceEqDiff, Nat.reduceBEq, reduceCtorEq, imp_self, implies_true, beq_self_eq_true, bne_self_eq_false, Bool.not_false, Bool.not_true, beq_true, beq_false, Bool.or_self, Bool.false_or, Bool.or_false, Bool.true_or, Bool.false_and, Bool.and_false]
theorem same20 (s : StateR) : CPure Try.prog 20 [vstate s, vstate s] (vbool true) := by
  refine cpure_of Try.xen20 Try.func20 rfl Try.ntmps20 (by rw [Try.results20]) (awp_facts fun hf => aw_ok _ ?_)
  simp only [go_sem, ne_eq, not_true_eq_false, or_false, false_or, or_self, Nat.reduceGT, Nat.reducePow, Nat.reduceLT, ↓reduceIte, Nat.reduceAdd, Nat.reduceMul, Nat.reduceSub, Nat.reduceMod, Nat.reduceLeDiff, Nat.reduceEqDiff, Nat.reduceBEq, reduceCtorEq, imp_self, implies_true, beq_self_eq_true, bne_self_eq_false, Bool.not_false, Bool.not_true, beq_true, beq_false, Bool.or_self, Bool.false_or, Bool.or_false, Bool.true_or, Bool.false_and, Bool.and_false, factsT] at hf
  obtain ⟨⟨hl, _⟩, hm, _⟩ := hf
  simp only [go_sem, ne_eq, not_true_eq_false, or_false, false_or, or_self, Nat.reduceGT, Nat.reducePow, Nat.reduceLT, ↓reduceIte, Nat.reduceAdd, Nat.reduceMul, Nat.reduceSub, Nat.reduceMod, Nat.reduceLeDiff, Nat.reduceEqDiff, Nat.reduceBEq, reduceCtorEq, imp_self, implies_true, beq_self_eq_true, bne_self_eq_false, Bool.not_false, Bool.not_true, beq_true, beq_false, Bool.or_self, Bool.false_or, Bool.or_false, Bool.true_or, Bool.false_and, Bool.and_false]
  refine awp_loop_f (fun (k : Nat) σ => setS 5 (vint k) σ) (fun k => k ≤ s.files.length) (fun k => s.files.length - k) 0 (weak_of [(1, some 1), (0, some 0)] ?_) (Nat.zero_le _) ?_
  · simp only [go_sem, ne_eq, not_true_eq_false, or_false, false_or, or_self, Nat.reduceGT, Nat.reducePow, Nat.reduceLT, ↓reduceIte, Nat.reduceAdd, Nat.reduceMul, Nat.reduceSub, Nat.reduceMod, Nat.reduceLeDiff, Nat.reduceEqDiff, Nat.reduceBEq, reduceCtorEq, imp_self, implies_true, beq_self_eq_true, bne_self_eq_false, Bool.not_false, Bool.not_true, beq_true, beq_false, Bool.or_self, Bool.false_or, Bool.or_false, Bool.true_or, Bool.false_and, Bool.and_false]
    simp
  · intro k hk
    refine aw_ok _ ?_
    simp only [go_sem, ne_eq, not_true_eq_false, or_false, false_or, or_self, Nat.reduceGT, Nat.reducePow, Nat.reduceLT, ↓reduceIte, Nat.reduceAdd, Nat.reduceMul, Nat.reduceSub, Nat.reduceMod, Nat.reduceLeDiff, Nat.reduceEqDiff, Nat.reduceBEq, reduceCtorEq, imp_self, implies_true, beq_self_eq_true, bne_self_eq_false, Bool.not_false, Bool.not_true, beq_true, beq_false, Bool.or_self, Bool.false_or, Bool.or_false, Bool.true_or, Bool.false_and, Bool.and_false]
    refine ⟨fun hlt => ?_, fun hge => ?_⟩
    all_goals simp only [decide_eq_true_eq, decide_eq_false_iff_not, Int.ofNat_lt] at *
    · unfold awS
      simp only [go_sem, ne_eq, not_true_eq_false, or_false, false_or, or_self, Nat.reduceGT, Nat.reducePow, Nat.reduceLT, ↓reduceIte, Nat.reduceAdd, Nat.reduceMul, Nat.reduceSub, Nat.reduceMod, Nat.reduceLeDiff, Nat.reduceEqDiff, Nat.reduceBEq, reduceCtorEq, imp_self, implies_true, beq_self_eq_true, bne_self_eq_false, Bool.not_false, Bool.not_true, beq_true, beq_false, Bool.or_self, Bool.false_or, Bool.or_false, Bool.true_or, Bool.false_and, Bool.and_false]
      refine drawR_of [0, 1, 2, 3, 4, 5, 6, 7, 8, 9, 10] .done rfl (by kernel_rfl) (by kernel_rfl) (by decide) ?_
      simp only [go_sem, ne_eq, not_true_eq_false, or_false, false_or, or_self, Nat.reduceGT, Nat.reducePow, Nat.reduceLT, ↓reduceIte, Nat.reduceAdd, Nat.reduceMul, Nat.reduceSub, Nat.reduceMod, Nat.reduceLeDiff, Nat.reduceEqDiff, Nat.reduceBEq, reduceCtorEq, imp_self, implies_true, beq_self_eq_true, bne_self_eq_false, Bool.not_false, Bool.not_true, beq_true, beq_false, Bool.or_self, Bool.false_or, Bool.or_false, Bool.true_or, Bool.false_and, Bool.and_false]
      refine ⟨⟨by omega, by omega⟩, ⟨by omega, by omega⟩, true, eq37 _ _ _, fun h => (by simp at h), fun _ => ?_⟩
      unfold awS
      simp only [go_sem, ne_eq, not_true_eq_false, or_false, false_or, or_self, Nat.reduceGT, Nat.reducePow, Nat.reduceLT, ↓reduceIte, Nat.reduceAdd, Nat.reduceMul, Nat.reduceSub, Nat.reduceMod, Nat.reduceLeDiff, Nat.reduceEqDiff, Nat.reduceBEq, reduceCtorEq, imp_self, implies_true, beq_self_eq_true, bne_self_eq_false, Bool.not_false, Bool.not_true, beq_true, beq_false, Bool.or_self, Bool.false_or, Bool.or_false, Bool.true_or, Bool.false_and, Bool.and_false]
      refine ⟨k + 1, weak_of [(1, some 1), (0, some 0)] ?_, hlt, by omega⟩
      simp only [go_sem, ne_eq, not_true_eq_false, or_false, false_or, or_self, Nat.reduceGT, Nat.reducePow, Nat.reduceLT, ↓reduceIte, Nat.reduceAdd, Nat.reduceMul, Nat.reduceSub, Nat.reduceMod, Nat.reduceLeDiff, Nat.reduceEqDiff, Nat.reduceBEq, reduceCtorEq, imp_self, implies_true, beq_self_eq_true, bne_self_eq_false, Bool.not_false, Bool.not_true, beq_true, beq_false, Bool.or_self, Bool.false_or, Bool.or_false, Bool.true_or, Bool.false_and, Bool.and_false]
      simp [wrap_of hlt hl]
    · unfold awS
      simp only [go_sem, ne_eq, not_true_eq_false, or_false, false_or, or_self, Nat.reduceGT, Nat.reducePow, Nat.reduceLT, ↓reduceIte, Nat.reduceAdd, Nat.reduceMul, Nat.reduceSub, Nat.reduceMod, Nat.reduceLeDiff, Nat.reduceEqDiff, Nat.reduceBEq, reduceCtorEq, imp_self, implies_true, beq_self_eq_true, bne_self_eq_false, Bool.not_false, Bool.not_true, beq_true, beq_false, Bool.or_self, Bool.false_or, Bool.or_false, Bool.true_or, Bool.false_and, Bool.and_false]
      refine awp_loop_f (fun (k : Nat) σ => setS 6 (vint k) σ) (fun k => k ≤ s.links.length) (fun k => s.links.length - k) 0 (weak_of [(1, some 1), (0, some 0)] ?_) (Nat.zero_le _) ?_
      · simp only [go_sem, ne_eq, not_true_eq_false, or_false, false_or, or_self, Nat.reduceGT, Nat.reducePow, Nat.reduceLT, ↓reduceIte, Nat.reduceAdd, Nat.reduceMul, Nat.reduceSub, Nat.reduceMod, Nat.reduceLeDiff, Nat.reduceEqDiff, Nat.reduceBEq, reduceCtorEq, imp_self, implies_true, beq_self_eq_true, bne_self_eq_false, Bool.not_false, Bool.not_true, beq_true, beq_false, Bool.or_self, Bool.false_or, Bool.or_false, Bool.true_or, Bool.false_and, Bool.and_false]
        simp
      · intro q hq
        refine aw_ok _ ?_
        simp only [go_sem, ne_eq, not_true_eq_false, or_false, false_or, or_self, Nat.reduceGT, Nat.reducePow, Nat.reduceLT, ↓reduceIte, Nat.reduceAdd, Nat.reduceMul, Nat.reduceSub, Nat.reduceMod, Nat.reduceLeDiff, Nat.reduceEqDiff, Nat.reduceBEq, reduceCtorEq, imp_self, implies_true, beq_self_eq_true, bne_self_eq_false, Bool.not_false, Bool.not_true, beq_true, beq_false, Bool.or_self, Bool.false_or, Bool.or_false, Bool.true_or, Bool.false_and, Bool.and_false]
        refine ⟨fun hlt => ?_, fun hge => ?_⟩
        all_goals simp only [decide_eq_true_eq, decide_eq_false_iff_not, Int.ofNat_lt] at *
        · unfold awS
          simp only [go_sem, ne_eq, not_true_eq_false, or_false, false_or, or_self, Nat.reduceGT, Nat.reducePow, Nat.reduceLT, ↓reduceIte, Nat.reduceAdd, Nat.reduceMul, Nat.reduceSub, Nat.reduceMod, Nat.reduceLeDiff, Nat.reduceEqDiff, Nat.reduceBEq, reduceCtorEq, imp_self, implies_true, beq_self_eq_true, bne_self_eq_false, Bool.not_false, Bool.not_true, beq_true, beq_false, Bool.or_self, Bool.false_or, Bool.or_false, Bool.true_or, Bool.false_and, Bool.and_false]
          refine drawR_of [0, 1, 2, 3, 4, 5, 6, 7, 8, 9, 10] .done rfl (by kernel_rfl) (by kernel_rfl) (by decide) ?_
          simp only [go_sem, ne_eq, not_true_eq_false, or_false, false_or, or_self, Nat.reduceGT, Nat.reducePow, Nat.reduceLT, ↓reduceIte, Nat.reduceAdd, Nat.reduceMul, Nat.reduceSub, Nat.reduceMod, Nat.reduceLeDiff, Nat.reduceEqDiff, Nat.reduceBEq, reduceCtorEq, imp_self, implies_true, beq_self_eq_true, bne_self_eq_false, Bool.not_false, Bool.not_true, beq_true, beq_false, Bool.or_self, Bool.false_or, Bool.or_false, Bool.true_or, Bool.false_and, Bool.and_false]
          refine ⟨⟨by omega, by omega⟩, ⟨by omega, by omega⟩, true, eq39 _ _ _ _, fun h => (by simp at h), fun _ => ?_⟩
          unfold awS
          simp only [go_sem, ne_eq, not_true_eq_false, or_false, false_or, or_self, Nat.reduceGT, Nat.reducePow, Nat.reduceLT, ↓reduceIte, Nat.reduceAdd, Nat.reduceMul, Nat.reduceSub, Nat.reduceMod, Nat.reduceLeDiff, Nat.reduceEqDiff, Nat.reduceBEq, reduceCtorEq, imp_self, implies_true, beq_self_eq_true, bne_self_eq_false, Bool.not_false, Bool.not_true, beq_true, beq_false, Bool.or_self, Bool.false_or, Bool.or_false, Bool.true_or, Bool.false_and, Bool.and_false]
          refine ⟨q + 1, weak_of [(1, some 1), (0, some 0)] ?_, hlt, by omega⟩
          simp only [go_sem, ne_eq, not_true_eq_false, or_false, false_or, or_self, Nat.reduceGT, Nat.reducePow, Nat.reduceLT, ↓reduceIte, Nat.reduceAdd, Nat.reduceMul, Nat.reduceSub, Nat.reduceMod, Nat.reduceLeDiff, Nat.reduceEqDiff, Nat.reduceBEq, reduceCtorEq, imp_self, implies_true, beq_self_eq_true, bne_self_eq_false, Bool.not_false, Bool.not_true, beq_true, beq_false, Bool.or_self, Bool.false_or, Bool.or_false, Bool.true_or, Bool.false_and, Bool.and_false]
          simp [wrap_of hlt hm]
        · unfold awS
          simp only [go_sem, ne_eq, not_true_eq_false, or_false, false_or, or_self, Nat.reduceGT, Nat.reducePow, Nat.reduceLT, ↓reduceIte, Nat.reduceAdd, Nat.reduceMul, Nat.reduceSub, Nat.reduceMod, Nat.reduceLeDiff, Nat.reduceEqDiff, Nat.reduceBEq, reduceCtorEq, imp_self, implies_true, beq_self_eq_true, bne_self_eq_false, Bool.not_false, Bool.not_true, beq_true, beq_false, Bool.or_self, Bool.false_or, Bool.or_false, Bool.true_or, Bool.false_and, Bool.and_false]
end Go.Proofs.Ytnbmiejjkkgckaa
