/- Proved here: Contracts of the two functions Step, for use in the proofs of the given statements; conditions stand in each theorem. -/
import Derived.Test.YtnbmiejjkkgckaaZH
import Derived.Test.YtnbmiejjkkgckaaZG
import Derived.Test.YtnbmiejjkkgckaaZB
set_option linter.unusedSimpArgs false
set_option linter.unusedVariables false
namespace Go.Proofs.Ytnbmiejjkkgckaa
open Go.RowKit

set_option maxRecDepth 100000 in
set_option maxHeartbeats 4000000 in
theorem step_ref_bad (A D : Option Addr) (c d : Nat) (s : StateR) (k : Int) (m f p : ByteArray) (q : Int) (w : World) (hnm : s.files.length ≤ maxLen) (hmm : s.links.length ≤ maxLen)
   (hm : m.size ≤ maxLen) (hf : f.size ≤ maxLen) (hp : p.size ≤ maxLen) (hff : ∀ f ∈ s.files, f.fits) (hlf : ∀ l ∈ s.links, l.fits)
   (hF : Sl FileR.cells 3 w A s.files) (hL : Sl LinkR.cells 4 w D s.links) (hb : (validSt s.files s.links && validEv ⟨k, m, f, p, q⟩) = false) :
    Calls Try.prog 19 #[.agg #[.slice A s.files.length c, .slice D s.links.length d], .agg #[.int .i64 k, .string m, .string f, .string p, .int .u64 q]] w (StepPost w (stepS s ⟨k, m, f, p, q⟩)) := by
  have HR := Lib.hid (show stepS s ⟨k, m, f, p, q⟩ = (⟨[], []⟩, [], 1) by unfold stepS; rw [hb]; rfl)
  have HF := Lib.hid hF; have HL := Lib.hid hL; have HFF := Lib.hid hff; have HLF := Lib.hid hlf
  clear hF hL hff hlf
  cases hv : validSt s.files s.links with
  | false =>
    have HV := Lib.hid hv
    clear hv hb
    go_enter Try.func19, Try.ntmps19
    go_wp2_with fail
    refine (valid_ref _ _ _ _ _ _ s.files s.links _ rfl rfl hnm hmm (((HF.out.alloc _).alloc _).alloc _) (((HL.out.alloc _).alloc _).alloc _) HFF.out HLF.out false HV.out).mono ?_
    rintro e w1 ⟨rfl, hb1⟩
    have hbb : Below w.heap.size w w1 := (((later_alloc _ _).alloc (by simp) _).alloc (by simp; omega) _).trans (hb1.mono (by simp; omega))
    have x0 := hb1.cell (p := ⟨w.heap.size + 2, 0, none⟩) (by simp)
    have x1 := hb1.cell (p := ⟨w.heap.size + 2, 1, none⟩) (by simp)
    have y0 := hb1.frozen (p := ⟨w.heap.size + 2, 0, none⟩) (by simp)
    have y1 := hb1.frozen (p := ⟨w.heap.size + 2, 1, none⟩) (by simp)
    simp [go_sem] at x0 x1 y0 y1
    go_wp2
    refine bodyPost_ret (v := .tuple #[.agg #[.slice none 0 0, .slice none 0 0], .slice none 0 0, .int .i64 1]) (by simp [results, Try.results19, go_sem, x0, x1]) rfl ?_
    rw [HR.out]
    exact ⟨_, _, rfl, OwnSt.nil _ _, World.ownsRow_nil _ _ _ _, (hbb.setCell (by simp; omega) _).setCell (by simp; omega) _⟩
  | true =>
    have HV := Lib.hid hv
    have HE := Lib.hid (show validEv ⟨k, m, f, p, q⟩ = false by rw [hv] at hb; simpa using hb)
    clear hv hb
    go_enter Try.func19, Try.ntmps19
    go_wp2_with fail
    refine (valid_ref _ _ _ _ _ _ s.files s.links _ rfl rfl hnm hmm (((HF.out.alloc _).alloc _).alloc _) (((HL.out.alloc _).alloc _).alloc _) HFF.out HLF.out true HV.out).mono ?_
    rintro e w1 ⟨rfl, hb1⟩
    have hbb : Below w.heap.size w w1 := (((later_alloc _ _).alloc (by simp) _).alloc (by simp; omega) _).trans (hb1.mono (by simp; omega))
    have z0 := hb1.cell (p := ⟨w.heap.size + 1, 0, none⟩) (by simp)
    have z1 := hb1.cell (p := ⟨w.heap.size + 1, 1, none⟩) (by simp)
    have z2 := hb1.cell (p := ⟨w.heap.size + 1, 2, none⟩) (by simp)
    have z3 := hb1.cell (p := ⟨w.heap.size + 1, 3, none⟩) (by simp)
    have z4 := hb1.cell (p := ⟨w.heap.size + 1, 4, none⟩) (by simp)
    have x0 := hb1.cell (p := ⟨w.heap.size + 2, 0, none⟩) (by simp)
    have x1 := hb1.cell (p := ⟨w.heap.size + 2, 1, none⟩) (by simp)
    have y0 := hb1.frozen (p := ⟨w.heap.size + 2, 0, none⟩) (by simp)
    have y1 := hb1.frozen (p := ⟨w.heap.size + 2, 1, none⟩) (by simp)
    simp [go_sem] at x0 x1 y0 y1 z0 z1 z2 z3 z4
    go_wp2_with fail
    refine (event_ref _ _ _ _ _ _ hm hf hp false HE.out).mono ?_
    rintro e w2 ⟨rfl, hb2⟩
    have hs2 := cell_lt x0
    have x0' := (hb2.cell (cell_lt x0)).trans x0
    have x1' := (hb2.cell (cell_lt x1)).trans x1
    have y0' := (hb2.frozen (p := ⟨w.heap.size + 2, 0, none⟩) hs2).trans y0
    have y1' := (hb2.frozen (p := ⟨w.heap.size + 2, 1, none⟩) hs2).trans y1
    clear x0 x1 y0 y1 z0 z1 z2 z3 z4
    have hbb2 : Below w.heap.size w w2 := hbb.trans (hb2.mono hbb.size)
    go_wp2
    refine bodyPost_ret (v := .tuple #[.agg #[.slice none 0 0, .slice none 0 0], .slice none 0 0, .int .i64 1]) (by simp [results, Try.results19, go_sem, x0', x1']) rfl ?_
    rw [HR.out]
    exact ⟨_, _, rfl, OwnSt.nil _ _, World.ownsRow_nil _ _ _ _, (hbb2.setCell (by simp; omega) _).setCell (by simp; omega) _⟩
end Go.Proofs.Ytnbmiejjkkgckaa
/- Proved here: Contracts of the two functions Run, for use in the proofs of the given statements; conditions stand in each theorem. -/
namespace Go.Proofs.Ytnbmiejjkkgckaa
open Go.RowKit

def runStep (acc : StateR × List OutR × List Int) (e : EventR) : StateR × List OutR × List Int :=
  if (stepS acc.1 e).2.2 = 0 then ((stepS acc.1 e).1, acc.2.1 ++ (stepS acc.1 e).2.1, acc.2.2 ++ [0]) else (acc.1, acc.2.1, acc.2.2 ++ [(stepS acc.1 e).2.2])
def runFrom (s : StateR) (l : List EventR) : StateR × List OutR × List Int := l.foldl runStep (s, [], [])
def runS (s : StateR) (l : List EventR) : StateR × List OutR × List Int :=
  if validSt s.files s.links then runFrom s l else (⟨[], []⟩, [], List.replicate l.length 1)
theorem runFrom_snoc {s : StateR} {l : List EventR} {k : Nat} (h : k < l.length) : runFrom s (l.take (k + 1)) = runStep (runFrom s (l.take k)) l[k] := by
  unfold runFrom
  rw [List.take_succ_eq_append_getElem h, List.foldl_append]; rfl
def EventR.fits (e : EventR) : Prop := e.media.size ≤ maxLen ∧ e.file.size ≤ maxLen ∧ e.proxy.size ≤ maxLen
structure Fit (s : StateR) : Prop where
  nf : s.files.length ≤ 32
  nl : s.links.length ≤ 16
  ff : ∀ f ∈ s.files, f.fits
  fl : ∀ l ∈ s.links, l.fits
theorem empty_fits : (⟨#[]⟩ : ByteArray).size ≤ maxLen := Nat.zero_le _
theorem getD_fits {fs : List FileR} (h : ∀ f ∈ fs, f.fits) (i : Nat) : (fs.getD i default).fits := by
  rw [List.getD_eq_getElem?_getD]
  cases hh : fs[i]? with
  | none => exact empty_fits
  | some x => exact h x (List.mem_of_getElem? hh)
theorem getD_fitsL {fs : List LinkR} (h : ∀ f ∈ fs, f.fits) (i : Nat) : (fs.getD i default).fits := by
  rw [List.getD_eq_getElem?_getD]
  cases hh : fs[i]? with
  | none => exact ⟨empty_fits, empty_fits, empty_fits⟩
  | some x => exact h x (List.mem_of_getElem? hh)
theorem perf_fit (s : StateR) (e : EventR) (h : Fit s) (he : e.fits) : Fit (performS s e).2 := by
  have hb := perf_bounds s e h.nf h.nl
  refine ⟨hb.1, hb.2, ?_, ?_⟩
  · unfold performS arriveS leaveS connectS relinkS attachS
    repeat' split
    all_goals (intro f hf; first | exact h.ff f hf | skip)
    · rcases List.mem_or_eq_of_mem_set hf with h1 | rfl
      · exact h.ff f h1
      · exact he.2.1
    · rcases List.mem_append.1 hf with h1 | h1
      · exact h.ff f h1
      · simp at h1; subst h1; exact he.2.1
    · rcases List.mem_or_eq_of_mem_set hf with h1 | rfl
      · exact h.ff f h1
      · exact getD_fits h.ff _
  · unfold performS arriveS leaveS connectS relinkS attachS
    repeat' split
    all_goals (intro f hf; first | exact h.fl f hf | skip)
    · rcases List.mem_append.1 hf with h1 | h1
      · exact h.fl f h1
      · simp at h1; subst h1; exact ⟨he.1, he.2.1, empty_fits⟩
    · rcases List.mem_or_eq_of_mem_set hf with h1 | rfl
      · exact h.fl f h1
      · exact ⟨(getD_fitsL h.fl _).1, he.2.1, (getD_fitsL h.fl _).2.2⟩
    · rcases List.mem_or_eq_of_mem_set hf with h1 | rfl
      · exact h.fl f h1
      · exact ⟨(getD_fitsL h.fl _).1, (getD_fitsL h.fl _).2.1, he.2.2⟩
theorem step_fit (s : StateR) (e : EventR) (h : Fit s) (he : e.fits) : Fit (stepS s e).1 := by
  unfold stepS
  have h0 : Fit ⟨[], []⟩ := ⟨by simp, by simp, fun f hf => by simp at hf, fun f hf => by simp at hf⟩
  repeat' split
  · exact perf_fit s e h he
  · exact h0
  · exact h0
theorem step_outs (s : StateR) (e : EventR) (h : Fit s) : (stepS s e).2.1.length ≤ 16 := by
  unfold stepS
  repeat' split
  · exact Nat.le_trans (List.length_filterMap_le _ _) (perf_bounds s e h.nf h.nl).2
  · simp
  · simp
theorem valid_fit {s : StateR} (h : validSt s.files s.links = true) (hff : ∀ f ∈ s.files, f.fits) (hfl : ∀ l ∈ s.links, l.fits) : Fit s := ⟨(valid_len h).1, (valid_len h).2, hff, hfl⟩
theorem runStep_fit {acc : StateR × List OutR × List Int} {e : EventR} (h : Fit acc.1) (he : e.fits) : Fit (runStep acc e).1 := by
  unfold runStep
  split
  · exact step_fit _ _ h he
  · exact h
def pad (es : List Int) (n : Nat) : List Int := es ++ List.replicate (n - es.length) 0
theorem pad_set {es : List Int} {n : Nat} (h : es.length < n) (c : Int) : (pad es n).set es.length c = pad (es ++ [c]) n := by
  unfold pad
  have e1 : n - es.length = (n - (es.length + 1)) + 1 := by omega
  rw [List.set_append_right _ _ (Nat.le_refl _), Nat.sub_self, e1, List.replicate_succ, List.set_cons_zero]
  simp
theorem pad_zero {es : List Int} {n : Nat} (h : es.length < n) : pad (es ++ [0]) n = pad es n := by
  unfold pad
  have e1 : n - es.length = (n - (es.length + 1)) + 1 := by omega
  rw [e1, List.replicate_succ]
  simp
theorem pad_full {es : List Int} {n : Nat} (h : es.length = n) : pad es n = es := by
  unfold pad; rw [h]; simp
theorem pad_len {es : List Int} {n : Nat} (h : es.length ≤ n) : (pad es n).length = n := by
  unfold pad; simp; omega
def ints (es : List Int) : List Value := es.map (Value.int .i64)
theorem runStep_len (acc : StateR × List OutR × List Int) (e : EventR) : (runStep acc e).2.2.length = acc.2.2.length + 1 := by
  unfold runStep; split <;> simp
theorem runFrom_len (s : StateR) (l : List EventR) : ∀ k, k ≤ l.length → (runFrom s (l.take k)).2.2.length = k
  | 0, _ => rfl
  | k + 1, h => by rw [runFrom_snoc (by omega), runStep_len, runFrom_len s l k (by omega)]
theorem own_setBlk {w : World} {B e e' k n : Nat} {v : Value} {xs : List Value} {cs : Array Value} (h : w.ownsRow B e k v n xs) {b : Nat} (hb : w.heap[b]? = some (.cells cs e' (0, 0))) (hne : e ≠ e') (j : Nat) (u : Value) :
    (w.setCell ⟨b, j, none⟩ u).ownsRow B e k v n xs :=
  h.kept (row := some b) ⟨rfl, rfl, rfl, by simp, fun k _ hk => Below.heap_setCell _ _ _ _ (fun e => hk (by rw [e]))⟩ (.inr (own_blk_ne h hb hne))
def RunPost (w : World) (r : StateR × List OutR × List Int) (e : Ending) (w' : World) : Prop :=
  ∃ v vo ve, e = .returned (.tuple #[v, vo, ve]) ∧ OwnSt w' w.heap.size v r.1 ∧ w'.ownsRow w.heap.size 61 2 vo r.2.1.length (r.2.1.flatMap OutR.cells) ∧ w'.ownsRow w.heap.size 49 1 ve r.2.2.length (ints r.2.2) ∧ Below w.heap.size w w'
theorem Try.info49 : (Try.prog.info? 49).map (fun i => (i.zero, i.size, i.bytes)) = some (some (.int .i64 0), 1, 8) := by kernel_rfl
end Go.Proofs.Ytnbmiejjkkgckaa
/- Proved here: Contracts of the two functions Run, for use in the proofs of the given statements; conditions stand in each theorem. -/
namespace Go.Proofs.Ytnbmiejjkkgckaa
open Go.RowKit

/-- a call as one of the operations behind, in a region that draws its order -/
theorem wp_enter {P : Program} {o : Oper} {a : Act} {w : World} {K : Act → World → Prop} {Q : Exit → Act → World → Prop} (f : FuncId) (args : Array Operand) (tys : Array TypeId) (fn : Func)
    (hf : P.funcs[f]? = some fn) (hname : (fn.name == "runtime.NumGoroutine") = false) (hbody : fn.body.isSome = true)
    (ho : o.op = .call { callee := .value (.func f), args := args, argTypes := tys }) (vs : Array Value) (hv : args.map a.eval = vs)
    (h : Calls P f vs w fun e w' => ∃ v, e = .returned v ∧ K (a.put o.dst v) w') : o.wp P a w K Q := by
  have e1 : (execOp a.eval o).run P w = .ok (.enter f vs) w := by
    unfold execOp
    simp only [ho]
    have hb : fn.body ≠ none := fun e => by rw [e] at hbody; cases hbody
    have hn : fn.name ≠ "runtime.NumGoroutine" := by simpa using hname
    simp [invoke, resolve, Deferred.ofValue, callFunc, hv, Act.eval, hf, hb, hn]
  unfold Oper.wp
  rw [e1]
  refine Calls.mono h ?_
  rintro e w' ⟨v, rfl, hk⟩
  exact hk
theorem own_news {w : World} {base e k n : Nat} {v : Value} {xs : List Value} (h : w.ownsRow base e k v n xs) (hn : 0 < n) : ∃ ad c, v = .slice (some ad) n c ∧ ∀ j u, xs[j]? = some u → w.cell? (ad.add j) = some u := by
  obtain ⟨g, cap, hv, hb, hl⟩ := h.form hn
  subst hv
  refine ⟨_, _, rfl, fun j u hu => ?_⟩
  have hj : j < n * k := by rw [← h.1]; exact (List.getElem?_eq_some_iff.1 hu).1
  rw [Addr.add_lit, Nat.zero_add]
  exact (h.cellAt j hj).trans hu
theorem own_setNe {w : World} {B e k n : Nat} {v : Value} {xs : List Value} (h : w.ownsRow B e k v n xs) {a : Addr} (hne : v.ownBlock ≠ some a.block) (u : Value) : (w.setCell a u).ownsRow B e k v n xs :=
  h.kept (row := some a.block) ⟨rfl, rfl, rfl, by simp, fun k _ hk => Below.heap_setCell _ _ _ _ (fun e => hk (by rw [e]))⟩ (.inr hne)
/-- append of one row that the call has built to another -/
theorem wp_append_row {P : Program} {o : Oper} {a : Act} {w : World} {K : Act → World → Prop} {Q : Exit → Act → World → Prop} (s x : Operand) (t : TypeId)
    (ho : o.op = .call { callee := .builtin .append, args := #[s, x], argTypes := #[t, t] })
    (base : Nat) (e : TypeId) (i : TypeInfo) (z : Value) (size bytes : Nat) (ht : P.underlying t = some (.slice e)) (hi : P.info? e = some i) (hz : i.zero = some z)
    (hsize : i.size = size) (hby : i.bytes = bytes) (hzs : z.cells.size = size) (hsz : 0 < size)
    (v : Value) (n : Nat) (xs : List Value) (hs : a.eval s = v) (hown : w.ownsRow base e size v n xs)
    (base' : Nat) (v2 : Value) (m : Nat) (news : List Value) (hx : a.eval x = v2) (hown2 : w.ownsRow base' e size v2 m news) (h1 : ∀ u ∈ news, u.oneCell' = true)
    (h63 : n + m ≤ maxLen) (hbytes : (n + m) * bytes ≤ 140737488355328) (hbase : base ≤ w.heap.size)
    (h : ∀ v' w', w'.ownsRow base e size v' (n + m) (xs ++ news) → w.grownBy w' v.ownBlock → K (a.put o.dst v') w') : o.wp P a w K Q := by
  have hrun : ∃ v' w', (Builtin.append_ #[t, t] o.type #[v, v2]).run P w = .ok v' w' ∧ w'.ownsRow base e size v' (n + m) (xs ++ news) ∧ w.grownBy w' v.ownBlock := by
    rcases hown2.2 with ⟨hn1, hn2⟩ | ⟨g, cap, cur, hv, hb, hg, hlen, hm4, hm5, hm6⟩
    · subst hn1
      subst hn2
      have hnil : news = [] := List.eq_nil_of_length_eq_zero (by simpa using hown2.1)
      subst hnil
      exact ⟨v, w, run_append_owned_none (P := P) w base t o.type e i size ht hi v n xs hown, by simpa using hown, World.grownBy.refl w _⟩
    · subst hv
      have hc : ∀ j u, news[j]? = some u → w.cell? ((⟨g, 0, none⟩ : Addr).add j) = some u := fun j u hu => by
        have hj : j < m * size := by rw [← hown2.1]; exact (List.getElem?_eq_some_iff.1 hu).1
        rw [Addr.add_lit, Nat.zero_add]
        exact (hown2.cellAt j hj).trans hu
      obtain ⟨v', w', hrun, h2, h3, _, _⟩ := run_append_own_at (P := P) w base t o.type e i z size bytes ht hi hz hsize hby hzs hsz v n xs hown ⟨g, 0, none⟩ m cap news hown2.1 hc h1 h63 hbytes hbase
      exact ⟨v', w', hrun, h2, h3⟩
  obtain ⟨v', w', hr, h2, h3⟩ := hrun
  unfold Oper.wp execOp
  simp only [ho, resolve, invoke, builtin, Sem.run_bind, Sem.run_pure, Result.andThen_ok, List.map_toArray, List.map_cons, List.map_nil, hs, hx, hr]
  exact h v' w' h2 h3
theorem wpList_append_row {P : Program} {ops : Array Oper} {rest : List Oper} {o : Oper} {a : Act} {w : World} {Q : Exit → Act → World → Prop} (hgd : o.guard = none) (s x : Operand) (t : TypeId)
    (ho : o.op = .call { callee := .builtin .append, args := #[s, x], argTypes := #[t, t] })
    (base : Nat) (e : TypeId) (i : TypeInfo) (z : Value) (size bytes : Nat) (ht : P.underlying t = some (.slice e)) (hi : P.info? e = some i) (hz : i.zero = some z)
    (hsize : i.size = size) (hby : i.bytes = bytes) (hzs : z.cells.size = size) (hsz : 0 < size)
    (v : Value) (n : Nat) (xs : List Value) (hs : a.eval s = v) (hown : w.ownsRow base e size v n xs)
    (base' : Nat) (v2 : Value) (m : Nat) (news : List Value) (hx : a.eval x = v2) (hown2 : w.ownsRow base' e size v2 m news) (h1 : ∀ u ∈ news, u.oneCell' = true)
    (h63 : n + m ≤ maxLen) (hbytes : (n + m) * bytes ≤ 140737488355328) (hbase : base ≤ w.heap.size)
    (h : ∀ v' w', w'.ownsRow base e size v' (n + m) (xs ++ news) → w.grownBy w' v.ownBlock → wpList P ops Q rest (a.put o.dst v') w') : wpList P ops Q (o :: rest) a w :=
  wpList_plain hgd fun _ hK => wp_append_row s x t ho base e i z size bytes ht hi hz hsize hby hzs hsz v n xs hs hown base' v2 m news hx hown2 h1 h63 hbytes hbase fun v' w' h2 h3 => hK _ _ (h v' w' h2 h3)

set_option maxRecDepth 100000 in
set_option maxHeartbeats 4000000 in
theorem run_bad (A D E : Option Addr) (c d ec : Nat) (s : StateR) (evs : List EventR) (n : Nat) (hn : n = evs.length) (w : World) (hnm : s.files.length ≤ maxLen) (hmm : s.links.length ≤ maxLen) (hen : n ≤ 65536)
   (hff : ∀ f ∈ s.files, f.fits) (hlf : ∀ l ∈ s.links, l.fits)
   (hF : Sl FileR.cells 3 w A s.files) (hL : Sl LinkR.cells 4 w D s.links) (hv : validSt s.files s.links = false) :
    Calls Try.prog 22 #[.agg #[.slice A s.files.length c, .slice D s.links.length d], .slice E n ec] w (RunPost w (runS s evs)) := by
  have HR := Lib.hid (show runS s evs = (⟨[], []⟩, [], List.replicate n 1) by unfold runS; rw [hv, hn]; rfl)
  have HF := Lib.hid hF; have HL := Lib.hid hL; have HFF := Lib.hid hff; have HLF := Lib.hid hlf; have HV := Lib.hid hv
  clear hF hL hff hlf hv hn
  obtain ⟨i0, hi0, hz0, hz1, hz2⟩ := info_parts Try.info49
  go_enter Try.func22, Try.ntmps22
  go_wp2_with (refine wpList_make_full _ rfl _ _ _ rfl w.heap.size 49 i0 _ 1 Try.underlying54 hi0 hz0 hz1 .i64 .i64 _ _ n rfl rfl rfl rfl (by rw [hz2]; omega) (by unfold maxLen; omega) (by simp; omega) ?_
               intro w1 h1 hg1
               have HO := Lib.hid h1
               have hb1 := Below.grown (Below.refl _ _) hg1 (Nat.le_refl _) (fun q hq => by cases hq)
               have HB := Lib.hid (((later_alloc w _).alloc (by simp) _).trans (hb1.mono (by simp; omega)))
               have r0 := hb1.cell (p := ⟨w.heap.size, 0, none⟩) (by simp; omega)
               have r1 := hb1.cell (p := ⟨w.heap.size, 1, none⟩) (by simp; omega)
               have x0 := hb1.cell (p := ⟨w.heap.size + 1, 0, none⟩) (by simp)
               have x1 := hb1.cell (p := ⟨w.heap.size + 1, 1, none⟩) (by simp)
               have y0 := hb1.frozen (p := ⟨w.heap.size + 1, 0, none⟩) (by simp)
               have y1 := hb1.frozen (p := ⟨w.heap.size + 1, 1, none⟩) (by simp)
               simp [go_sem] at r0 r1 x0 x1 y0 y1
               clear h1 hg1 hb1)
  refine (valid_prog _ _ _ _ _ _ s.files s.links _ rfl rfl hnm hmm (HF.out.later HB.out) (HL.out.later HB.out) HFF.out HLF.out false HV.out).mono ?_
  rintro e w2 ⟨rfl, hb2⟩
  have HO2 := Lib.hid (own_later HO.out hb2)
  have HB2 := Lib.hid (HB.out.trans (hb2.mono HB.out.size))
  have X0 := Lib.hid ((hb2.cell (cell_lt x0)).trans x0)
  have X1 := Lib.hid ((hb2.cell (cell_lt x1)).trans x1)
  have Y0 := Lib.hid ((hb2.frozen (p := ⟨w.heap.size + 1, 0, none⟩) (cell_lt x0)).trans y0)
  have Y1 := Lib.hid ((hb2.frozen (p := ⟨w.heap.size + 1, 1, none⟩) (cell_lt x1)).trans y1)
  clear hb2 r0 r1 x0 x1 y0 y1
  go_wp2
  obtain ⟨g, hg⟩ : ∃ g, g = w.heap.size + 1 + 1 := ⟨_, rfl⟩
  have HOg := Lib.hid (show w2.ownsRow w.heap.size 49 1 (.slice (some ⟨g, 0, none⟩) n n) n (ints ((List.replicate 0 (1 : Int)) ++ List.replicate (n - 0) 0)) by
    rw [hg]; have := HO2.out; simpa [ints, toList_madeCells_one, show (Value.int IntKind.i64 0).cells = #[.int .i64 0] from rfl] using this)
  clear HO2 HO
  subst hg
  go_loopw [23] (fun i wr => ∃ k : Nat, k ≤ n ∧ i = .int .i64 k ∧ Below (w.heap.size + 2) w2 wr ∧ Hid (wr.ownsRow w.heap.size 49 1 (.slice (some ⟨w.heap.size + 1 + 1, 0, none⟩) n n) n (ints (List.replicate k (1 : Int) ++ List.replicate (n - k) 0)))) (fun i _ => n - (intOf i).toNat)
  case atStart => exact ⟨0, Nat.zero_le _, rfl, Below.refl _ _, HOg.out⟩
  case round =>
    obtain ⟨k, hk, rfl, hbr, HOk⟩ := hrel
    have HBr := Lib.hid hbr
    by_cases hlt : k < n
    · have hfz := HOk.out.frozenAt k
      have hce := HOk.out.cellAt k (by omega)
      have hlk : (ints (List.replicate k (1 : Int) ++ List.replicate (n - k) 0))[k]? = some (.int .i64 0) := by
        have e1 : n - k = (n - (k + 1)) + 1 := by omega
        rw [e1, List.replicate_succ]
        simp [ints]
      rw [hlk] at hce
      have hst := (HOk.out.stored k (.int .i64 1)).1
      have hset : (ints (List.replicate k (1 : Int) ++ List.replicate (n - k) 0)).set k (.int .i64 1) = ints (List.replicate (k + 1) (1 : Int) ++ List.replicate (n - (k + 1)) 0) := by
        have e1 : n - k = (n - (k + 1)) + 1 := by omega
        rw [e1, List.replicate_succ]
        unfold ints
        rw [List.map_append, List.set_append_right _ _ (by simp)]
        simp [List.replicate_succ']
      rw [hset] at hst
      have HST := Lib.hid hst
      clear hset hst hlk
      have hgl := Lib.hid (show w.heap.size + 2 ≤ w.heap.size + 1 + 1 by omega)
      have hwl := cell_lt hce
      go_wp2
      go_roundw
      case rel => exact ⟨k + 1, by omega, by go_num, HBr.out.setCell hgl.out _, HST.out⟩
      case measure => simp [intOf]; omega
    · have hke : k = n := by omega
      subst hke
      have HOE := Lib.hid (show wr.ownsRow w.heap.size 49 1 (.slice (some ⟨w.heap.size + 1 + 1, 0, none⟩) k k) k (ints (List.replicate k (1 : Int))) by simpa using HOk.out)
      have hsz := HB2.out.size
      have hlx := cell_lt X0.out
      have x0 := (HBr.out.cell (p := ⟨w.heap.size + 1, 0, none⟩) (by simp)).trans X0.out
      have x1 := (HBr.out.cell (p := ⟨w.heap.size + 1, 1, none⟩) (by simp)).trans X1.out
      have y0 := (HBr.out.frozen (p := ⟨w.heap.size + 1, 0, none⟩) (by simp)).trans Y0.out
      have y1 := (HBr.out.frozen (p := ⟨w.heap.size + 1, 1, none⟩) (by simp)).trans Y1.out
      have HBL := Lib.hid (HB2.out.trans (HBr.out.mono (by omega)))
      go_wp2
      refine bodyPost_ret (v := .tuple #[.agg #[.slice none 0 0, .slice none 0 0], .slice none 0 0, .slice (some ⟨w.heap.size + 1 + 1, 0, none⟩) k k]) (by simp [results, Try.results22, go_sem, x0, x1]) rfl ?_
      rw [HR.out]
      exact ⟨_, _, _, rfl, OwnSt.nil _ _, World.ownsRow_nil _ _ _ _, by simpa using own_setNe (own_setNe HOE.out (a := ⟨w.heap.size + 1, 0, none⟩) (by simp [Value.ownBlock]) _) (a := ⟨w.heap.size + 1, 1, none⟩) (by simp [Value.ownBlock]) _, (HBL.out.setCell (by simp) _).setCell (by simp) _⟩
end Go.Proofs.Ytnbmiejjkkgckaa
