/- Proved here: Calls on the abstract machine that write to a variable behind a pointer, for use in the proofs of the given statements; conditions stand in each theorem. -/
import Derived.Test.YtnbmiejjkkgckaaZQ
set_option linter.unusedSimpArgs false
set_option linter.unusedVariables false
set_option linter.unusedSimpArgs false
set_option linter.unusedVariables false
namespace Go.Proofs.Ytnbmiejjkkgckaa
open Go.RowKit

def retI (P : Program) (rs : List ResultVar) (K : V → St → Prop) (e : Exit) (σ : St) : Prop :=
  match e with
  | .ret | .normal => match resVs P σ rs with
    | some xs => NopDs P σ.df ∧ K (tupV xs) σ
    | none => False
  | _ => False
theorem retI_inv {P : Program} {rs : List ResultVar} {K : V → St → Prop} {e : Exit} {σ : St} (h : retI P rs K e σ) : (e = .ret ∨ e = .normal) ∧ ∃ xs, resVs P σ rs = some xs ∧ NopDs P σ.df ∧ K (tupV xs) σ := by
  cases e with
  | normal => simp only [retI] at h; split at h <;> first | exact ⟨.inr rfl, _, by assumption, h⟩ | exact h.elim
  | ret => simp only [retI] at h; split at h <;> first | exact ⟨.inl rfl, _, by assumption, h⟩ | exact h.elim
  | exit _ => exact h.elim
  | goto _ => exact h.elim
  | panic _ => exact h.elim
  | outgrown => exact h.elim

/-- a function's text, from its entry to its end -/
theorem calls_of_awp {P : Program} {f : FuncId} {fn : Func} {c : Code} {args : List V} {n n0 nx : Nat} {rs : List ResultVar} {h0 : Heap} {K : V → St → Prop} {R : Ending → World → Prop} (hf : P.funcs[f]? = some fn) (hb : fn.body = some c) (hn : fn.ntmps = n)
    (hrs : fn.results.toList = rs) (h : AWP P n0 c (retI P rs K) (entry P n args h0 nx)) {E : Env} {w : World} {vs : List Value} (hr : Rel w E h0) (hbd : ∀ i, E.U i → i < nx) (hU : ∀ i, E.U i → i < n0) (hargs : RdVs w E args vs)
    (hR : ∀ v x σ' E' a' w', RelF E' σ' a' w' → Ext E w E' w' → RdV w' E' x v → K x σ' → R (.returned v) w') : Calls P f vs.toArray w R := by
  refine calls_of_wp_defers hf hb ?_
  have hlen := RdVs.len hargs
  have hrel : RelF E (entry P n args h0 nx) { tmps := vs.toArray ++ Array.replicate (fn.ntmps - vs.toArray.size) undef, defers := [] } w := by
    refine ⟨hr, hbd, ?_, trivial⟩
    have e1 : (vs.toArray ++ Array.replicate (fn.ntmps - vs.toArray.size) undef).toList = vs ++ List.replicate (n - args.length) undef := by
      rw [hn, hlen]; simp
    show RdVs w E (args ++ List.replicate (n - args.length) .dead) _
    rw [e1]
    exact RdVs.append hargs (rdVs_dead _)
  refine wp_mono (h E _ w hrel E w hU (Ext.refl _ _)) ?_
  rintro e a' w' ⟨σ', E', h1, h2, h3⟩
  obtain ⟨he, xs, hxs, hnop, hK⟩ := retI_inv h3
  obtain ⟨v, hv, hrv⟩ := run_results (fn := fn) h1 (by rw [hrs]; exact hxs)
  rcases he with rfl | rfl
  · exact leaves_nops _ _ h1.defers hnop ⟨v, hv, hR v _ σ' E' a' w' h1 h2 hrv hK⟩
  · exact leaves_nops _ _ h1.defers hnop ⟨v, hv, hR v _ σ' E' a' w' h1 h2 hrv hK⟩

/-- the call, walked in the caller's own state -/
theorem icall_of {P : Program} {σ : St} {d : Option Tmp} {f : FuncId} {fn : Func} {c : Code} {xs : List V} {n : Nat} {rs : List ResultVar} {K : St → Prop} (he : P.enters f = true) (hf : P.funcs[f]? = some fn) (hb : fn.body = some c) (hn : fn.ntmps = n) (hrs : fn.results.toList = rs)
    (h : AWP P σ.nx c (retI P rs fun x σ' => K (({ σ with h := σ'.h, nx := σ'.nx } : St).put d x)) (entry P n xs σ.h σ.nx)) : ICall P σ d f xs K :=
  ⟨he, fun E w vs hr hbd hargs => calls_of_awp hf hb hn hrs h hr hbd hbd hargs fun v x σ' E' a' w' h1 h2 h3 hK => ⟨v, x, σ'.h, σ'.nx, E', rfl, h1.rel, h1.bound, h2, h3, hK⟩⟩

/-! a pointer to a variable as the first argument -/
def CBox (P : Program) (f : FuncId) (cs args : List V) (r : V) (cs' : List V) : Prop :=
  P.enters f = true ∧ ∀ (w : World) (S : Nat → Prop) (b : Nat) (ty : TypeId) (cells : Array Value) (vs : List Value), (∀ x, S x → x < w.heap.size) → ¬ S b → w.heap[b]? = some (.cells cells ty (0, 0)) → RdVs w (bareE S) cs cells.toList →
    cells.toList.all (·.oneCell') = true → RdVs w (bareE S) args vs → Calls P f (.pointer (some ⟨b, 0, none⟩) :: vs).toArray w fun e w' => ∃ v S' ty' cells', e = .returned v ∧ (∀ x, S x → S' x) ∧ (∀ x, S' x → S x ∨ w.heap.size ≤ x) ∧
      (∀ x, S' x → x < w'.heap.size) ∧ RdV w' (bareE S') r v ∧ w'.heap[b]? = some (.cells cells' ty' (0, 0)) ∧ RdVs w' (bareE S') cs' cells'.toList ∧ cells'.toList.all (·.oneCell') = true ∧ w.grownBy w' (some b) ∧ ¬ S' b
def boxK1 (b : Option Blk) (h : Heap) (cs' : List V) : Prop :=
  match b with
  | some (.box cs) => V.lends h cs = cs' ∧ V.pures cs' = true
  | _ => False
def boxK (r : V) (cs' : List V) (x : V) (σ : St) : Prop := x.lend σ.h = r ∧ r.pure = true ∧ boxK1 (σ.h.look 0) σ.h cs'
theorem cbox_of {P : Program} {f : FuncId} {fn : Func} {c : Code} {cs args cs' : List V} {r : V} {n : Nat} {rs : List ResultVar} (he : P.enters f = true) (hf : P.funcs[f]? = some fn) (hb : fn.body = some c) (hn : fn.ntmps = n) (hrs : fn.results.toList = rs)
    (h : AWP P 1 c (retI P rs (boxK r cs')) (entry P n (.own 0 :: args) [(0, .box cs)] 1)) : CBox P f cs args r cs' := by
  refine ⟨he, fun w S b ty cells vs hS hSb hh hcs hones hargs => ?_⟩
  let E0 : Env := ⟨S, fun i => if i = 0 then some (.pointer (some ⟨b, 0, none⟩)) else none, fun i => i = 0, fun x => x < w.heap.size ∧ x ≠ b, fun _ => none⟩
  have hbl : b < w.heap.size := (Array.getElem?_eq_some_iff.1 hh).1
  have hrel : Rel w E0 [(0, .box cs)] := by
    refine ⟨fun i blk hl => ?_, fun i hv hB => ?_, fun i hv hF => (by cases hF), fun i hv b' hB hbk => ?_, fun i j hi hj b' hBi hBj _ _ => ?_, hS, fun x hx => hx.1⟩
    · simp only [Heap.look] at hl
      split at hl
      · rename_i h0
        injection hl with hl
        subst hl
        exact ⟨.pointer (some ⟨b, 0, none⟩), by simp [E0, h0, Env.at], b, cells, ty, rfl, hh, RdVs.unbare (E := E0) cs hcs, hones⟩
      · cases hl
    · simp only [E0] at hB
      split at hB
      · rename_i h0; exact ⟨h0, .box cs, by simp [Heap.look, h0]⟩
      · cases hB
    · simp only [E0] at hB
      split at hB
      · injection hB with hB
        subst hB
        simp only [blockOf, Option.some.injEq] at hbk
        subst hbk
        exact ⟨hbl, hSb, fun hd => hd.2 rfl⟩
      · cases hB
    · simp only [E0] at hBi hBj
      split at hBi
      · split at hBj
        · rename_i h1 h2; rw [h1, h2]
        · cases hBj
      · cases hBi
  refine calls_of_awp hf hb hn hrs h hrel (fun i hi => by have : i = 0 := hi; omega) (fun i hi => by have : i = 0 := hi; omega) (vs := .pointer (some ⟨b, 0, none⟩) :: vs) ?_ ?_
  · simp only [RdVs, RdV]
    exact ⟨⟨rfl, rfl, fun hv hB => by simp [E0, Env.Is] at hB; exact hB⟩, RdVs.unbare (E := E0) args hargs⟩
  · intro v x σ' E' a' w' h1 h2 h3 hK
    obtain ⟨k1, k2, k3⟩ := hK
    unfold boxK1 at k3
    split at k3
    · rename_i cs2 hl
      obtain ⟨k4, k5⟩ := k3
      obtain ⟨b', cells', ty', hB, hh', hcs', hones'⟩ := box_at h1.rel hl
      have hbb : b' = b := by
        have := h2.B 0 rfl _ hB
        simp [E0] at this
        exact this.symm
      subst hbb
      refine ⟨v, lentS E' σ'.h, ty', cells', rfl, fun x hx => .inl (h2.S x hx), fun x hx => ?_, fun x hx => ?_, ?_, hh', ?_, hones', ⟨h2.os, h2.tape, h2.output, h2.size, fun k hk hne => h2.keep k (.inr ⟨hk, fun e => hne (by rw [e])⟩)⟩, fun hsb => ?_⟩
      · rcases hx with hx | ⟨i, hv', _, _, _, _, hB', _, hbk⟩
        · rcases h2.S' x hx with q | q
          · exact .inl q
          · by_cases hxb : x = b'
            · subst hxb; exact ((h1.rel.own 0 _ x hB rfl).2.1 hx).elim
            · exact .inr (Nat.le_of_not_lt fun hlt => q ⟨hlt, hxb⟩)
        · have q := (h1.rel.own i hv' x hB' hbk).2.2
          by_cases hxb : x = b'
          · subst hxb
            have hi0 := h1.rel.apart i 0 hv' _ x hB' hB hbk rfl
            subst hi0
            rw [hB] at hB'
            rename_i hlk
            rw [hl] at hlk
            cases hlk
          · exact .inr (Nat.le_of_not_lt fun hlt => q ((h2.D x).2 ⟨hlt, hxb⟩))
      · rcases hx with hx | ⟨i, hv', _, _, _, _, hB', _, hbk⟩
        · exact h1.rel.slt x hx
        · exact (h1.rel.own i hv' x hB' hbk).1
      · have := RdV.lend h1.rel x (by rw [k1]; exact k2) h3
        rw [k1] at this
        exact this
      · have := RdVs.lend h1.rel cs2 (by rw [k4]; exact k5) hcs'
        rw [k4] at this
        exact this
      · rcases hsb with hx | ⟨i, hv', _, _, _, _, hB', hlk, hbk⟩
        · exact (h1.rel.own 0 _ b' hB rfl).2.1 hx
        · have hi0 := h1.rel.apart i 0 hv' _ b' hB' hB hbk rfl
          subst hi0
          rw [hl] at hlk
          cases hlk
    · exact k3.elim

theorem cbox_use {P : Program} {h : Heap} {f : FuncId} {i : Nat} {cs args cs' : List V} {r : V} (hc : CBox P f cs args r cs') (hl : h.look i = some (.box cs)) (hp : V.pures cs = true) (ha : V.pures args = true) {E : Env} {w : World} {vs : List Value}
    (hr : Rel w E h) (hargs : RdVs w E (.own i :: args) vs) : Calls P f vs.toArray w fun e w' => ∃ v E', e = .returned v ∧ Rel w' E' (h.set i (.box cs')) ∧ Ext E w E' w' ∧ RdV w' E' r v ∧ ∀ q, E'.U q → E.U q := by
  cases vs with
  | nil => simp only [RdVs] at hargs
  | cons v0 vs =>
    simp only [RdVs, RdV] at hargs
    obtain ⟨⟨_, hUi, hv0⟩, hargs⟩ := hargs
    obtain ⟨b, cells, ty, hB, hh, hcs, hones⟩ := box_at hr hl
    rw [hv0 _ (.inl hB)]
    obtain ⟨ob1, ob2, ob3⟩ := hr.own i _ b hB rfl
    refine (hc.2 w E.S b ty cells vs hr.slt ob2 hh (RdVs.bare cs hp hcs) hones (RdVs.bare args ha hargs)).mono ?_
    rintro e w' ⟨v, S', ty', cells', rfl, s1, s2, s3, hrv, hh', hcs', hones', hg, hSb⟩
    let E' : Env := { E with S := S' }
    have hE : Ext E w E' w' := by
      refine ⟨hg.os, hg.tape, hg.output, hg.size, fun k hk => hg.block k (hk.elim (hr.slt k) (hr.dlt k)) fun e => ?_, s1, fun k hk => (s2 k hk).imp id fun hlt hd => ?_, fun _ => .rfl, fun _ h => h, fun _ _ _ h => h, fun _ _ _ h => h⟩
      · injection e with e
        subst e
        exact hk.elim ob2 ob3
      · have := hr.dlt k hd; omega
    refine ⟨v, E', rfl, ⟨fun j blk hlj => ?_, fun j hv hBj => ?_, hr.domF, fun j hv b' hBj hbk => ?_, hr.apart, s3, fun k hk => Nat.lt_of_lt_of_le (hr.dlt k hk) hg.size⟩, hE, RdV.unbare (E := E') r hrv, fun _ h => h⟩
    · rw [Heap.look_set _ _ _ hl] at hlj
      split at hlj
      · rename_i hji
        subst hji
        injection hlj with hlj
        subst hlj
        exact ⟨_, hB, b, cells', ty', rfl, hh', RdVs.unbare (E := E') cs' hcs', hones'⟩
      · rename_i hji
        obtain ⟨hv, hBj, hrel⟩ := hr.has j blk hlj
        cases hmj : blk.mine with
        | true =>
          have hBj' : E.B j = some hv := by rw [← at_mine hmj]; exact hBj
          refine ⟨hv, hBj, hrel.keep hE fun b' hb' => hg.block b' (hr.own j hv b' hBj' hb').1 fun e => ?_⟩
          injection e with e
          subst e
          exact hji (hr.apart j i hv _ b' hBj' hB hb' rfl)
        | false =>
          cases blk <;> first | exact ⟨hv, hBj, hE.rdT hrel⟩ | simp [Blk.mine] at hmj
    · obtain ⟨q1, q2⟩ := hr.dom j hv hBj
      refine ⟨q1, ?_⟩
      rw [Heap.look_set _ _ _ hl]
      split
      · exact ⟨_, rfl⟩
      · exact q2
    · obtain ⟨o1, o2, o3⟩ := hr.own j hv b' hBj hbk
      refine ⟨Nat.lt_of_lt_of_le o1 hg.size, fun hs => ?_, o3⟩
      rcases s2 b' hs with h | h
      · exact o2 h
      · omega
theorem icall_box {P : Program} {σ : St} {d : Option Tmp} {f : FuncId} {i : Nat} {cs args cs' : List V} {r : V} {K : St → Prop} (hc : CBox P f cs args r cs') (hl : σ.h.look i = some (.box cs)) (hp : V.pures cs = true) (ha : V.pures args = true)
    (hK : K (({ σ with h := σ.h.set i (.box cs') } : St).put d r)) : ICall P σ d f (.own i :: args) K :=
  ⟨hc.1, fun E w vs hr hbd hargs => (cbox_use hc hl hp ha hr hargs).mono fun e w' ⟨v, E', he, h1, h2, h3, h4⟩ => ⟨v, r, _, σ.nx, E', he, h1, fun q hq => hbd q (h4 q hq), h2, h3, hK⟩⟩
attribute [go_sem] retI boxK boxK1
end Go.Proofs.Ytnbmiejjkkgckaa
/- Proved here: The contract of a function that takes and gives blocks of the caller's own, on the abstract machine, for use in the proofs of the given statements; conditions stand in each theorem. -/
set_option linter.unusedSimpArgs false
set_option linter.unusedVariables false
set_option linter.unusedSectionVars false
namespace Go.Proofs.Ytnbmiejjkkgckaa
open Go.RowKit

/-! other numbers for the blocks -/
mutual
def V.ren (f : Nat → Nat) : V → V
  | .own i => .own (f i)
  | .ptr i o => .ptr (f i) o
  | .rptr i k n j => .rptr (f i) k n j
  | .agg cs => .agg (V.rens f cs)
  | .tup cs => .tup (V.rens f cs)
  | .clo g cs => .clo g (V.rens f cs)
  | .cond g x => .cond g (V.ren f x)
  | .t x => .t x
  | .elem k d xs i j => .elem k d xs i j
  | .dead => .dead
def V.rens (f : Nat → Nat) : List V → List V
  | [] => []
  | x :: xs => V.ren f x :: V.rens f xs
end
def V.renE (f : Nat → Nat) : List (Value × V) → List (Value × V)
  | [] => []
  | (k, x) :: r => (k, V.ren f x) :: V.renE f r
def V.renR (f : Nat → Nat) : List (List V) → List (List V)
  | [] => []
  | x :: r => V.rens f x :: V.renR f r
def Blk.ren (f : Nat → Nat) : Blk → Blk
  | .box cs => .box (V.rens f cs)
  | .row e k d xs => .row e k d (V.renR f xs)
  | .map es => .map (V.renE f es)
  | .shr t => .shr t
theorem rens_len (f : Nat → Nat) : ∀ xs : List V, (V.rens f xs).length = xs.length
  | [] => rfl
  | x :: xs => by simp only [V.rens, List.length_cons, rens_len f xs]
theorem renR_len (f : Nat → Nat) : ∀ xs : List (List V), (V.renR f xs).length = xs.length
  | [] => rfl
  | x :: xs => by simp only [V.renR, List.length_cons, renR_len f xs]
theorem rens_append (f : Nat → Nat) : ∀ xs ys : List V, V.rens f (xs ++ ys) = V.rens f xs ++ V.rens f ys
  | [], ys => rfl
  | x :: xs, ys => by simp only [V.rens, List.cons_append, rens_append f xs]
theorem renR_flatten (f : Nat → Nat) : ∀ xs : List (List V), (V.renR f xs).flatten = V.rens f xs.flatten
  | [] => rfl
  | x :: xs => by simp only [V.renR, List.flatten_cons, rens_append, renR_flatten f xs]
theorem renR_all (f : Nat → Nat) (k : Nat) : ∀ xs : List (List V), (∀ x ∈ V.renR f xs, x.length = k) ↔ (∀ x ∈ xs, x.length = k)
  | [] => by simp [V.renR]
  | x :: xs => by simp only [V.renR, List.mem_cons, forall_eq_or_imp, rens_len, renR_all f k xs]
@[go_sem] theorem rens_t (f : Nat → Nat) : ∀ l : List T, V.rens f (l.map .t) = l.map .t
  | [] => rfl
  | x :: r => by simp only [List.map_cons, V.rens, V.ren, rens_t f r]
@[go_sem] theorem renR_t (f : Nat → Nat) : ∀ l : List (List T), V.renR f (tRows l) = tRows l
  | [] => rfl
  | x :: r => by
    have := renR_t f r
    unfold tRows at this ⊢
    simp only [List.map_cons, V.renR, rens_t, this]

section
variable {w : World} {E E' : Env} {f : Nat → Nat} (hS : ∀ b, E.S b → E'.S b) (hU : ∀ j, E.U j → E'.U (f j)) (hI : ∀ j hv, E.U j → E'.Is (f j) hv → E.Is j hv)
include hS hU hI
mutual
theorem ren_out : ∀ (x : V) {v : Value}, RdV w E x v → RdV w E' (V.ren f x) v
  | .t x, v, h => by simp only [V.ren, RdV] at h ⊢; exact h.mono hS fun _ _ => rfl
  | .agg cs, v, h => by
    simp only [V.ren, RdV] at h ⊢
    obtain ⟨vs, h1, h2, h3⟩ := h
    exact ⟨vs, h1, ren_outs cs h2, h3⟩
  | .tup cs, v, h => by
    simp only [V.ren, RdV] at h ⊢
    obtain ⟨vs, h1, h2⟩ := h
    exact ⟨vs, h1, ren_outs cs h2⟩
  | .clo g cs, v, h => by
    simp only [V.ren, RdV] at h ⊢
    obtain ⟨vs, h1, h2⟩ := h
    exact ⟨vs, h1, ren_outs cs h2⟩
  | .own i, v, h => by
    simp only [V.ren, RdV] at h ⊢
    exact ⟨h.1, hU i h.2.1, fun hv hb => h.2.2 hv (hI i hv h.2.1 hb)⟩
  | .ptr i o, v, h => by
    simp only [V.ren, RdV] at h ⊢
    exact ⟨h.1, hU i h.2.1, fun hv hb => h.2.2 hv (hI i hv h.2.1 hb)⟩
  | .rptr i k n j, v, h => by
    simp only [V.ren, RdV] at h ⊢
    exact ⟨h.1, hU i h.2.1, fun hv hb => h.2.2 hv (hI i hv h.2.1 hb)⟩
  | .elem k d xs i j, v, h => by
    simp only [V.ren, RdV] at h ⊢
    obtain ⟨b, off, c, h1, h2⟩ := h
    exact ⟨b, off, c, h1.mono hS fun _ _ => rfl, h2⟩
  | .cond g x, v, h => by
    simp only [V.ren, RdV] at h ⊢
    exact ⟨fun hg => ren_out x (h.1 hg), h.2⟩
  | .dead, v, h => by simp only [V.ren, RdV]
theorem ren_outs : ∀ (xs : List V) {vs : List Value}, RdVs w E xs vs → RdVs w E' (V.rens f xs) vs
  | [], [], h => by simp only [V.rens, RdVs]
  | x :: xs, v :: vs, h => by
    simp only [V.rens, RdVs] at h ⊢
    exact ⟨ren_out x h.1, ren_outs xs h.2⟩
  | [], _ :: _, h => by simp only [RdVs] at h
  | _ :: _, [], h => by simp only [RdVs] at h
end
theorem ren_outE : ∀ (xs : List (Value × V)) {es : List MapEntry}, RdEs w E xs es → RdEs w E' (V.renE f xs) es
  | [], [], h => trivial
  | (k, x) :: xs, e :: es, h => ⟨h.1, ren_out hS hU hI x h.2.1, ren_outE xs h.2.2⟩
  | [], _ :: _, h => h.elim
  | _ :: _, [], h => h.elim
theorem ren_outB : ∀ (b : Blk) {hv : Value}, BlkRel w E b hv → BlkRel w E' (b.ren f) hv
  | .box cs, hv, h => by
    obtain ⟨b, vs, ty, h1, h2, h3, h4⟩ := h
    exact ⟨b, vs, ty, h1, h2, ren_outs hS hU hI cs h3, h4⟩
  | .row e k d xs, hv, h => by
    obtain ⟨cells, h1, h2, h3, h4⟩ := h
    exact ⟨cells, by rw [renR_len]; exact h1, by rw [renR_flatten]; exact ren_outs hS hU hI _ h2, (renR_all f k xs).2 h3, h4⟩
  | .map es, hv, h => by
    obtain ⟨r, entries, clock, h1, h2, h3, h4⟩ := h
    exact ⟨r, entries, clock, h1, h2, ren_outE hS hU hI es h3, h4⟩
  | .shr t, hv, h => RdT.mono hS (fun _ _ => rfl) h
end
def lowL (m : Nat) (l : List Nat) : Bool := l.all fun q => decide (q < m)
theorem lowL_append {m : Nat} {a b : List Nat} : lowL m (a ++ b) = (lowL m a && lowL m b) := by simp [lowL]
section
variable {w : World} {E E' : Env} {f : Nat → Nat} {m : Nat} (hS : ∀ b, E.S b → E'.S b) (hU : ∀ j, j < m → E'.U j) (hI : ∀ j hv, j < m → E'.Is j hv → E.Is (f j) hv)
include hS hU hI
mutual
theorem ren_in : ∀ (x : V) {v : Value}, lowL m x.ment = true → RdV w E (V.ren f x) v → RdV w E' x v
  | .t x, v, _, h => by simp only [V.ren, RdV] at h ⊢; exact h.mono hS fun _ _ => rfl
  | .agg cs, v, hl, h => by
    simp only [V.ren, V.ment, RdV] at h hl ⊢
    obtain ⟨vs, h1, h2, h3⟩ := h
    exact ⟨vs, h1, ren_ins cs hl h2, h3⟩
  | .tup cs, v, hl, h => by
    simp only [V.ren, V.ment, RdV] at h hl ⊢
    obtain ⟨vs, h1, h2⟩ := h
    exact ⟨vs, h1, ren_ins cs hl h2⟩
  | .clo g cs, v, hl, h => by
    simp only [V.ren, V.ment, RdV] at h hl ⊢
    obtain ⟨vs, h1, h2⟩ := h
    exact ⟨vs, h1, ren_ins cs hl h2⟩
  | .own i, v, hl, h => by
    have hi : i < m := by simpa [lowL, V.ment] using hl
    simp only [V.ren, RdV] at h ⊢
    exact ⟨h.1, hU i hi, fun hv hb => h.2.2 hv (hI i hv hi hb)⟩
  | .ptr i o, v, hl, h => by
    have hi : i < m := by simpa [lowL, V.ment] using hl
    simp only [V.ren, RdV] at h ⊢
    exact ⟨h.1, hU i hi, fun hv hb => h.2.2 hv (hI i hv hi hb)⟩
  | .rptr i k n j, v, hl, h => by
    have hi : i < m := by simpa [lowL, V.ment] using hl
    simp only [V.ren, RdV] at h ⊢
    exact ⟨h.1, hU i hi, fun hv hb => h.2.2 hv (hI i hv hi hb)⟩
  | .elem k d xs i j, v, _, h => by
    simp only [V.ren, RdV] at h ⊢
    obtain ⟨b, off, c, h1, h2⟩ := h
    exact ⟨b, off, c, h1.mono hS fun _ _ => rfl, h2⟩
  | .cond g x, v, hl, h => by
    simp only [V.ren, V.ment, RdV] at h hl ⊢
    exact ⟨fun hg => ren_in x hl (h.1 hg), h.2⟩
  | .dead, v, _, h => by simp only [RdV]
theorem ren_ins : ∀ (xs : List V) {vs : List Value}, lowL m (V.ments xs) = true → RdVs w E (V.rens f xs) vs → RdVs w E' xs vs
  | [], [], _, h => by simp only [RdVs]
  | x :: xs, v :: vs, hl, h => by
    simp only [V.ments, lowL_append, Bool.and_eq_true] at hl
    simp only [V.rens, RdVs] at h ⊢
    exact ⟨ren_in x hl.1 h.1, ren_ins xs hl.2 h.2⟩
  | [], _ :: _, _, h => by simp only [V.rens, RdVs] at h
  | _ :: _, [], _, h => by simp only [V.rens, RdVs] at h
end
def mentE : List (Value × V) → List Nat
  | [] => []
  | (_, x) :: r => x.ment ++ mentE r
theorem ren_inE : ∀ (xs : List (Value × V)) {es : List MapEntry}, lowL m (mentE xs) = true → RdEs w E (V.renE f xs) es → RdEs w E' xs es
  | [], [], _, h => trivial
  | (k, x) :: xs, e :: es, hl, h => by
    simp only [mentE, lowL_append, Bool.and_eq_true] at hl
    exact ⟨h.1, ren_in hS hU hI x hl.1 h.2.1, ren_inE xs hl.2 h.2.2⟩
  | [], _ :: _, _, h => h.elim
  | _ :: _, [], _, h => h.elim
def mentR : List (List V) → List Nat
  | [] => []
  | x :: r => V.ments x ++ mentR r
omit hS hU hI in
theorem ments_append : ∀ (xs ys : List V), V.ments (xs ++ ys) = V.ments xs ++ V.ments ys
  | [], ys => rfl
  | x :: xs, ys => by simp only [V.ments, List.cons_append, ments_append xs, List.append_assoc]
omit hS hU hI in
theorem mentR_flatten : ∀ xs : List (List V), V.ments xs.flatten = mentR xs
  | [] => rfl
  | x :: xs => by simp only [mentR, List.flatten_cons, ments_append, mentR_flatten xs]
def Blk.ment : Blk → List Nat
  | .box cs => V.ments cs
  | .row _ _ _ xs => mentR xs
  | .map es => mentE es
  | .shr _ => []
theorem ren_inB : ∀ (b : Blk) {hv : Value}, lowL m b.ment = true → BlkRel w E (b.ren f) hv → BlkRel w E' b hv
  | .box cs, hv, hl, h => by
    obtain ⟨b, vs, ty, h1, h2, h3, h4⟩ := h
    exact ⟨b, vs, ty, h1, h2, ren_ins hS hU hI cs hl h3, h4⟩
  | .row e k d xs, hv, hl, h => by
    obtain ⟨cells, h1, h2, h3, h4⟩ := h
    rw [renR_len] at h1
    rw [renR_flatten] at h2
    exact ⟨cells, h1, ren_ins hS hU hI _ (by rw [mentR_flatten]; exact hl) h2, (renR_all f k xs).1 h3, h4⟩
  | .map es, hv, hl, h => by
    obtain ⟨r, entries, clock, h1, h2, h3, h4⟩ := h
    exact ⟨r, entries, clock, h1, h2, ren_inE hS hU hI es hl h3, h4⟩
  | .shr t, hv, hl, h => RdT.mono hS (fun _ _ => rfl) h
end
theorem mentR_t : ∀ l : List (List T), mentR (tRows l) = []
  | [] => rfl
  | x :: r => by
    have h1 : ∀ l : List T, V.ments (l.map .t) = [] := fun l => by induction l with
      | nil => rfl
      | cons a l ih => simp only [List.map_cons, V.ments, V.ment, ih, List.append_nil]
    have := mentR_t r
    unfold tRows at this ⊢
    simp only [List.map_cons, mentR, h1, this, List.append_nil]
attribute [go_sem] mentR_t
end Go.Proofs.Ytnbmiejjkkgckaa
/- Proved here: The contract of a function that takes and gives blocks of the caller's own, and its use, on the abstract machine, for use in the proofs of the given statements; conditions stand in each theorem. -/
set_option linter.unusedSimpArgs false
set_option linter.unusedVariables false
namespace Go.Proofs.Ytnbmiejjkkgckaa
open Go.RowKit

/-- from blocks h (numbers below m) and arguments to blocks h' (numbers below n') and the result -/
def CIO (P : Program) (f : FuncId) (m : Nat) (h : Heap) (args : List V) (r : V) (h' : Heap) (n' : Nat) : Prop :=
  P.enters f = true ∧ ∀ (E : Env) (w : World) (vs : List Value), Rel w E h → (∀ i, E.U i → i < m) → RdVs w E args vs →
    Calls P f vs.toArray w fun e w' => ∃ v E', e = .returned v ∧ Rel w' E' h' ∧ (∀ i, E'.U i → i < n') ∧ Ext E w E' w' ∧ RdV w' E' r v
def ioK (m : Nat) (r : V) (h' : Heap) (n' : Nat) (x : V) (σ : St) : Prop := Weak m { fr := [x], h := σ.h, nx := σ.nx } { fr := [r], h := h', nx := n' }
theorem cio_of {P : Program} {f : FuncId} {fn : Func} {c : Code} {args : List V} {r : V} {m n n' : Nat} {h h' : Heap} {rs : List ResultVar} (he : P.enters f = true) (hf : P.funcs[f]? = some fn) (hb : fn.body = some c) (hn : fn.ntmps = n) (hrs : fn.results.toList = rs)
    (hw : AWP P m c (retI P rs (ioK m r h' n')) (entry P n args h m)) : CIO P f m h args r h' n' := by
  refine ⟨he, fun E w vs hr hbd hargs => calls_of_awp hf hb hn hrs hw hr hbd hbd hargs ?_⟩
  intro v x σ' E' a' w' h1 h2 h3 hK
  have h4 : RelF E' { fr := [x], h := σ'.h, nx := σ'.nx } { tmps := #[v], defers := [] } w' := ⟨h1.rel, h1.bound, by
    show RdVs w' E' [x] [v]
    simp only [RdVs, and_true]; exact h3, trivial⟩
  obtain ⟨E'', k1, k2⟩ := hK E' _ w' h4 E w hbd h2
  have k3 : RdVs w' E'' [r] [v] := k1.fr
  simp only [RdVs, and_true] at k3
  exact ⟨v, E'', rfl, k1.rel, k1.bound, k2, k3⟩

section
open Classical
/-- the call, in a state of the caller's: number j of the contract is number 'is[j]' of the caller's -/
theorem cio_use {P : Program} {f : FuncId} {m n' : Nat} {h h' H : Heap} {args : List V} {r : V} (hc : CIO P f m h args r h' n') {g : Nat → Nat} (hmn : m ≤ n') (hinj : ∀ i j, i < n' → j < n' → g i = g j → i = j)
    (hlow : ∀ j blk, h.look j = some blk → j < m ∧ lowL m blk.ment = true ∧ H.look (g j) = some (blk.ren g)) (hall : ∀ j, j < m → ∃ blk, h.look j = some blk) (hargs : lowL m (V.ments args) = true)
    {E : Env} {w : World} {vs : List Value} (hr : Rel w E H) (hnew : ∀ j, m ≤ j → j < n' → ¬ E.U (g j)) (hvs : RdVs w E (V.rens g args) vs) :
    Calls P f vs.toArray w fun e w' => ∃ v E', e = .returned v ∧ (∀ H', (∀ j, j < n' → H'.look (g j) = (h'.look j).map (Blk.ren g)) → (∀ i, (∀ j, j < n' → g j ≠ i) → H'.look i = H.look i) → Rel w' E' H') ∧ Ext E w E' w' ∧ RdV w' E' (r.ren g) v ∧
      (∀ q, E'.U q → E.U q ∨ ∃ j, m ≤ j ∧ j < n' ∧ q = g j) := by
  let E1 : Env := { S := E.S, B := fun j => if j < m then E.B (g j) else none, U := fun j => j < m, D := fun b => E.D b ∨ ∃ i hv, (∀ j, j < m → g j ≠ i) ∧ E.B i = some hv ∧ blockOf hv = some b, F := fun j => if j < m then E.F (g j) else none }
  have hI1 : ∀ j hv, j < m → E1.Is j hv → E.Is (g j) hv := fun j hv hj hi => by
    simp only [E1, Env.Is, if_pos hj] at hi ⊢
    exact hi
  have hUg : ∀ j, j < m → E.U (g j) := fun j hj => by
    obtain ⟨blk, hb⟩ := hall j hj
    exact hr.uses (hlow j blk hb).2.2
  have hr1 : Rel w E1 h := by
    refine ⟨fun j blk hl => ?_, fun j hv hB => ?_, fun j hv hF => ?_, fun j hv b hB hbk => ?_, fun i j hi hj b hBi hBj hbi hbj => ?_, hr.slt, fun b hb => ?_⟩
    · obtain ⟨hj, hlo, hH⟩ := hlow j blk hl
      obtain ⟨hv, hat, hrel⟩ := hr.has _ _ hH
      refine ⟨hv, ?_, ren_inB (E := E) (E' := E1) (f := g) (m := m) (fun _ h => h) (fun _ h => h) hI1 blk hlo hrel⟩
      cases blk <;> simp only [Env.at, Blk.ren, E1, if_pos hj] at hat ⊢ <;> exact hat
    · simp only [E1] at hB
      split at hB
      · rename_i hj; exact ⟨hj, hall j hj⟩
      · cases hB
    · simp only [E1] at hF
      split at hF
      · rename_i hj
        refine ⟨hj, ?_⟩
        simp only [E1, if_pos hj]
        exact (hr.domF _ _ hF).2
      · cases hF
    · simp only [E1] at hB
      split at hB
      · rename_i hj
        obtain ⟨o1, o2, o3⟩ := hr.own _ hv b hB hbk
        refine ⟨o1, o2, fun hd => hd.elim o3 ?_⟩
        rintro ⟨i, hv', hne, hBi, hbi⟩
        exact hne j hj (hr.apart _ _ hv hv' b hB hBi hbk hbi)
      · cases hB
    · simp only [E1] at hBi hBj
      split at hBi
      · split at hBj
        · rename_i hi' hj'
          exact hinj i j (by omega) (by omega) (hr.apart _ _ hi hj b hBi hBj hbi hbj)
        · cases hBj
      · cases hBi
    · rcases hb with hb | ⟨i, hv, _, hBi, hbi⟩
      · exact hr.dlt b hb
      · exact (hr.own i hv b hBi hbi).1
  refine (hc.2 E1 w vs hr1 (fun i hi => hi) (ren_ins (E := E) (E' := E1) (f := g) (m := m) (fun _ h => h) (fun _ h => h) hI1 args hargs hvs)).mono ?_
  rintro e w' ⟨v, E2, rfl, hr2, hb2, hx2, hv2⟩
  let E3 : Env := { S := E2.S, B := fun i => if hj : ∃ j, j < n' ∧ g j = i then E2.B (Classical.choose hj) else E.B i, U := fun i => E.U i ∨ ∃ j, m ≤ j ∧ j < n' ∧ i = g j, D := E.D, F := fun i => if hj : ∃ j, j < n' ∧ g j = i then E2.F (Classical.choose hj) else E.F i }
  have hch : ∀ j (hj : j < n') (he : ∃ k, k < n' ∧ g k = g j), Classical.choose he = j := fun j hj he => hinj _ _ (Classical.choose_spec he).1 hj (Classical.choose_spec he).2
  have hB3 : ∀ j, j < n' → E3.B (g j) = E2.B j := fun j hj => by
    have he : ∃ k, k < n' ∧ g k = g j := ⟨j, hj, rfl⟩
    simp only [E3, dif_pos he, hch j hj he]
  have hF3 : ∀ j, j < n' → E3.F (g j) = E2.F j := fun j hj => by
    have he : ∃ k, k < n' ∧ g k = g j := ⟨j, hj, rfl⟩
    simp only [E3, dif_pos he, hch j hj he]
  have hB3' : ∀ i, (∀ j, j < n' → g j ≠ i) → E3.B i = E.B i := fun i hi => by
    simp only [E3, dif_neg (fun (he : ∃ k, k < n' ∧ g k = i) => he.elim fun k hk => hi k hk.1 hk.2)]
  have hF3' : ∀ i, (∀ j, j < n' → g j ≠ i) → E3.F i = E.F i := fun i hi => by
    simp only [E3, dif_neg (fun (he : ∃ k, k < n' ∧ g k = i) => he.elim fun k hk => hi k hk.1 hk.2)]
  have hcase : ∀ i, (∃ j, j < n' ∧ g j = i) ∨ (∀ j, j < n' → g j ≠ i) := fun i => by
    by_cases he : ∃ j, j < n' ∧ g j = i
    · exact .inl he
    · exact .inr fun j hj hg => he ⟨j, hj, hg⟩
  have hU3 : ∀ j, E2.U j → E3.U (g j) := fun j hj => by
    by_cases hjm : j < m
    · exact .inl (hUg j hjm)
    · exact .inr ⟨j, by omega, hb2 j hj, rfl⟩
  have hI3 : ∀ j hv, E2.U j → E3.Is (g j) hv → E2.Is j hv := fun j hv hj hi => by
    simp only [Env.Is, hB3 j (hb2 j hj), hF3 j (hb2 j hj)] at hi
    exact hi
  have hD1 : ∀ b, E.D b → E1.D b := fun b hb => .inl hb
  have hother : ∀ i, (∀ j, j < n' → g j ≠ i) → ∀ hv b, E.B i = some hv → blockOf hv = some b → E1.D b := fun i hi hv b hB hb => .inr ⟨i, hv, fun j hj => hi j (by omega), hB, hb⟩
  have hE : Ext E w E3 w' := by
    refine ⟨hx2.os, hx2.tape, hx2.output, hx2.size, fun b hb => hx2.keep b (hb.imp id (hD1 b)), hx2.S, fun b hb => (hx2.S' b hb).imp id fun hd hd' => hd (hD1 b hd'), fun _ => .rfl, fun i hi => .inl hi, fun i hi hv hB => ?_, fun i hi hv hB => ?_⟩
    · rcases hcase i with ⟨j, hj, rfl⟩ | hno
      · by_cases hjm : j < m
        · rw [hB3 j hj] at hB
          have := hx2.B j hjm hv hB
          simpa only [E1, if_pos hjm] using this
        · exact (hnew j (by omega) hj hi).elim
      · rw [hB3' i hno] at hB; exact hB
    · rcases hcase i with ⟨j, hj, rfl⟩ | hno
      · by_cases hjm : j < m
        · have h5 : E2.Is j hv := by simp only [Env.Is, hB3 j hj, hF3 j hj] at hB; exact hB
          exact hI1 j hv hjm (hx2.W j hjm hv h5)
        · exact (hnew j (by omega) hj hi).elim
      · simp only [Env.Is, hB3' i hno, hF3' i hno] at hB; exact hB
  refine ⟨v, E3, rfl, fun H' hin hout => ⟨fun i blk hl => ?_, fun i hv hB => ?_, fun i hv hF => ?_, fun i hv b hB hbk => ?_, fun i j hi hj b hBi hBj hbi hbj => ?_, hr2.slt, fun b hb => Nat.lt_of_lt_of_le (hr.dlt b hb) hx2.size⟩, hE, ren_out (E := E2) (E' := E3) (f := g) (fun _ h => h) hU3 hI3 r hv2, fun q hq => hq⟩
  · rcases hcase i with ⟨j, hj, rfl⟩ | hno
    · rw [hin j hj] at hl
      obtain ⟨blk', hl', rfl⟩ := Option.map_eq_some_iff.1 hl
      obtain ⟨hv, hat, hrel⟩ := hr2.has j blk' hl'
      refine ⟨hv, ?_, ren_outB (E := E2) (E' := E3) (f := g) (fun _ h => h) hU3 hI3 blk' hrel⟩
      cases blk' <;> simp only [Env.at, Blk.ren, hB3 j hj, hF3 j hj] at hat ⊢ <;> exact hat
    · rw [hout i hno] at hl
      obtain ⟨hv, hat, hrel⟩ := hr.has i blk hl
      refine ⟨hv, by cases blk <;> simp only [Env.at, hB3' i hno, hF3' i hno] at hat ⊢ <;> exact hat, ?_⟩
      cases hmine : blk.mine with
      | true =>
        have hB : E.B i = some hv := by rw [← at_mine hmine]; exact hat
        exact hrel.keep hE fun b hb => hx2.keep b (.inr (hother i hno hv b hB hb))
      | false => cases blk <;> first | exact hE.rdT hrel | simp [Blk.mine] at hmine
  · rcases hcase i with ⟨j, hj, rfl⟩ | hno
    · rw [hB3 j hj] at hB
      obtain ⟨q1, blk, q2⟩ := hr2.dom j hv hB
      exact ⟨hU3 j q1, _, by rw [hin j hj, q2]; rfl⟩
    · rw [hB3' i hno] at hB
      obtain ⟨q1, q2⟩ := hr.dom i hv hB
      exact ⟨.inl q1, by rw [hout i hno]; exact q2⟩
  · rcases hcase i with ⟨j, hj, rfl⟩ | hno
    · rw [hF3 j hj] at hF
      obtain ⟨q1, q2⟩ := hr2.domF j hv hF
      exact ⟨hU3 j q1, by rw [hB3 j hj]; exact q2⟩
    · rw [hF3' i hno] at hF
      obtain ⟨q1, q2⟩ := hr.domF i hv hF
      exact ⟨.inl q1, by rw [hB3' i hno]; exact q2⟩
  · rcases hcase i with ⟨j, hj, rfl⟩ | hno
    · rw [hB3 j hj] at hB
      obtain ⟨q1, q2, q3⟩ := hr2.own j hv b hB hbk
      exact ⟨q1, q2, fun hd => q3 ((hx2.D b).2 (hD1 b hd))⟩
    · rw [hB3' i hno] at hB
      obtain ⟨q1, q2, q3⟩ := hr.own i hv b hB hbk
      exact ⟨Nat.lt_of_lt_of_le q1 hx2.size, fun hs => (hx2.S' b hs).elim q2 fun hd => hd (hother i hno hv b hB hbk), q3⟩
  · rcases hcase i with ⟨p, hp, rfl⟩ | hno
    · rw [hB3 p hp] at hBi
      rcases hcase j with ⟨q, hq, rfl⟩ | hno2
      · rw [hB3 q hq] at hBj
        rw [hr2.apart p q hi hj b hBi hBj hbi hbj]
      · rw [hB3' j hno2] at hBj
        exact ((hr2.own p hi b hBi hbi).2.2 ((hx2.D b).2 (hother j hno2 hj b hBj hbj))).elim
    · rw [hB3' i hno] at hBi
      rcases hcase j with ⟨q, hq, rfl⟩ | hno2
      · rw [hB3 q hq] at hBj
        exact ((hr2.own q hj b hBj hbj).2.2 ((hx2.D b).2 (hother i hno hi b hBi hbi))).elim
      · rw [hB3' j hno2] at hBj
        exact hr.apart i j hi hj b hBi hBj hbi hbj
end
mutual
theorem pure_ren (g : Nat → Nat) : ∀ x : V, x.pure = true → V.ren g x = x ∧ x.ment = []
  | .t x, _ => ⟨rfl, rfl⟩
  | .elem .., _ => ⟨rfl, rfl⟩
  | .dead, _ => ⟨rfl, rfl⟩
  | .agg cs, h => by
    obtain ⟨h1, h2⟩ := pures_ren g cs (by simpa only [V.pure] using h)
    simp only [V.ren, V.ment, h1, h2, and_self]
  | .tup cs, h => by
    obtain ⟨h1, h2⟩ := pures_ren g cs (by simpa only [V.pure] using h)
    simp only [V.ren, V.ment, h1, h2, and_self]
  | .clo f cs, h => by
    obtain ⟨h1, h2⟩ := pures_ren g cs (by simpa only [V.pure] using h)
    simp only [V.ren, V.ment, h1, h2, and_self]
  | .cond b x, h => by
    obtain ⟨h1, h2⟩ := pure_ren g x (by simpa only [V.pure] using h)
    simp only [V.ren, V.ment, h1, h2, and_self]
  | .own _, h => by simp [V.pure] at h
  | .ptr .., h => by simp [V.pure] at h
  | .rptr .., h => by simp [V.pure] at h
theorem pures_ren (g : Nat → Nat) : ∀ xs : List V, V.pures xs = true → V.rens g xs = xs ∧ V.ments xs = []
  | [], _ => ⟨rfl, rfl⟩
  | x :: xs, h => by
    simp only [V.pures, Bool.and_eq_true] at h
    obtain ⟨h1, h2⟩ := pure_ren g x h.1
    obtain ⟨h3, h4⟩ := pures_ren g xs h.2
    simp only [V.rens, V.ments, h1, h2, h3, h4, List.append_nil, and_self]
end
def num2 (t m : Nat) (j : Nat) : Nat :=
  match j with
  | 0 => t
  | _ => m
/-- the call writes to one's own variable, and yields a new block -/
theorem cio_box {P : Program} {H : Heap} {f : FuncId} {t m : Nat} {cs args cs' : List V} {r : V} {nb : Blk} (hc : CIO P f 1 [(0, .box cs)] (.own 0 :: args) r [(1, nb), (0, .box cs')] 2) (hl : H.look t = some (.box cs)) (hp : V.pures cs = true) (ha : V.pures args = true)
    (hp' : V.pures cs' = true) {E : Env} {w : World} {vs : List Value} (hr : Rel w E H) (hm : ¬ E.U m) (hvs : RdVs w E (.own t :: args) vs) :
    Calls P f vs.toArray w fun e w' => ∃ v E', e = .returned v ∧ Rel w' E' ((m, nb.ren (num2 t m)) :: H.set t (.box cs')) ∧ Ext E w E' w' ∧ RdV w' E' (r.ren (num2 t m)) v ∧ ∀ q, E'.U q → E.U q ∨ q = m := by
  have hUt : E.U t := hr.uses hl
  have htm : t ≠ m := fun e => hm (e ▸ hUt)
  obtain ⟨a1, a2⟩ := pures_ren (num2 t m) args ha
  obtain ⟨c1, c2⟩ := pures_ren (num2 t m) cs hp
  obtain ⟨d1, d2⟩ := pures_ren (num2 t m) cs' hp'
  refine (cio_use hc (g := num2 t m) (H := H) (by omega) (fun i j hi hj he => ?_) (fun j blk hb => ?_) (fun j hj => ?_) ?_ hr (fun j h1 h2 hU => ?_) ?_).mono ?_
  · have : i = 0 ∨ i = 1 := by omega
    have : j = 0 ∨ j = 1 := by omega
    rcases ‹i = 0 ∨ i = 1› with rfl | rfl <;> rcases ‹j = 0 ∨ j = 1› with rfl | rfl <;> simp only [num2] at he <;> first | rfl | exact (htm he).elim | exact (htm he.symm).elim
  · simp only [Heap.look] at hb
    split at hb
    · rename_i h0
      subst h0
      injection hb with hb; subst hb
      exact ⟨by omega, by simp only [Blk.ment, c2]; rfl, by simp only [Blk.ren, c1]; exact hl⟩
    · cases hb
  · have : j = 0 := by omega
    subst this
    exact ⟨_, rfl⟩
  · simp only [V.ments, V.ment, a2]; rfl
  · have : j = 1 := by omega
    subst this
    exact hm hU
  · simp only [V.rens, V.ren, a1]; exact hvs
  · rintro e w' ⟨v, E', rfl, h1, h2, h3, h4⟩
    refine ⟨v, E', rfl, h1 _ (fun j hj => ?_) (fun i hi => ?_), h2, h3, fun q hq => (h4 q hq).imp id ?_⟩
    · have : j = 0 ∨ j = 1 := by omega
      rcases this with rfl | rfl
      · show Heap.look _ t = _
        simp only [Heap.look, if_neg htm]
        rw [Heap.look_set _ _ _ hl, if_pos rfl]
        simp [Blk.ren, d1]
      · show Heap.look _ m = _
        simp [Heap.look]
    · have h5 := hi 0 (by omega)
      have h6 := hi 1 (by omega)
      simp only [num2] at h5 h6
      simp only [Heap.look]
      rw [if_neg (fun e => h6 e.symm), Heap.look_set _ _ _ hl, if_neg (fun e => h5 e.symm)]
    · rintro ⟨j, j1, j2, rfl⟩
      have : j = 1 := by omega
      subst this; rfl
attribute [go_sem] num2 V.ren V.rens V.renE V.renR Blk.ren
end Go.Proofs.Ytnbmiejjkkgckaa
/- Proved here: Regions that draw their order and make blocks, on the abstract machine: the effects of the operations, for use in the proofs of the given statements; conditions stand in each theorem. -/
set_option linter.unusedSimpArgs false
set_option linter.unusedVariables false
set_option linter.unnecessarySimpa false
namespace Go.Proofs.Ytnbmiejjkkgckaa
open Go.RowKit

/-! what an operation does: a slot, and a block -/
inductive Eff where
  | none
  | new (blk : Blk)
  | upd (t : Nat) (blk : Blk)
  | app (t : Nat) (old : Option Blk) (blk : Blk)
structure Rec where
  d : Option Tmp
  x : V
  e : Eff
def setO (fr : List V) (d : Option Tmp) (x : V) : List V :=
  match d with
  | some t => fr.set t x
  | none => fr
def tch (n0 i : Nat) (e : Eff) (q : Nat) : Option (Option Blk) :=
  match e with
  | .none => none
  | .new blk => if q = n0 + i then some (some blk) else none
  | .upd t blk => if q = t then some (some blk) else none
  | .app t old blk => if q = n0 + i then some (some blk) else if q = t then some old else none
def orB (a : Option (Option Blk)) (b : Option Blk) : Option Blk :=
  match a with
  | some x => x
  | none => b
theorem tch_inv {n0 i q : Nat} {e : Eff} (h : tch n0 i e q ≠ none) : q = n0 + i ∨ ∃ t blk, (e = .upd t blk ∨ ∃ old, e = .app t old blk) ∧ q = t := by
  cases e with
  | none => exact (h rfl).elim
  | new blk =>
    simp only [tch] at h
    by_cases hq : q = n0 + i
    · exact .inl hq
    · rw [if_neg hq] at h; exact (h rfl).elim
  | upd t blk =>
    simp only [tch] at h
    by_cases hq : q = t
    · exact .inr ⟨t, blk, .inl rfl, hq⟩
    · rw [if_neg hq] at h; exact (h rfl).elim
  | app t old blk =>
    simp only [tch] at h
    by_cases hq : q = n0 + i
    · exact .inl hq
    · rw [if_neg hq] at h
      by_cases hq : q = t
      · exact .inr ⟨t, blk, .inr ⟨_, rfl⟩, hq⟩
      · rw [if_neg hq] at h; exact (h rfl).elim

def frX (X : Nat → Bool) : Nat → List Rec → List V → List V
  | _, [], fr => fr
  | i, r :: rs, fr => frX X (i + 1) rs (if X i = true then setO fr r.d r.x else fr)
def lkX (n0 : Nat) (X : Nat → Bool) (q : Nat) : Nat → List Rec → Option Blk → Option Blk
  | _, [], b => b
  | i, r :: rs, b => lkX n0 X q (i + 1) rs (if X i = true then orB (tch n0 i r.e q) b else b)

theorem setO_len {fr : List V} {d : Option Tmp} {x : V} : (setO fr d x).length = fr.length := by cases d <;> simp [setO]
theorem setO_ne {fr : List V} {d : Option Tmp} {x : V} {t : Nat} (h : d ≠ some t) : (setO fr d x).getD t .dead = fr.getD t .dead := by
  cases d with
  | none => rfl
  | some u =>
    have : u ≠ t := fun e => h (by rw [e])
    simp [setO, List.getD_eq_getElem?_getD, List.getElem?_set_ne this]
theorem setO_eq {fr fr' : List V} {x : V} {t : Nat} (h : fr.length = fr'.length) : (setO fr (some t) x).getD t .dead = (setO fr' (some t) x).getD t .dead := by
  simp only [setO, List.getD_eq_getElem?_getD, List.getElem?_set_self']
  by_cases ht : t < fr.length
  · rw [List.getElem?_eq_getElem ht, List.getElem?_eq_getElem (h ▸ ht)]; rfl
  · rw [List.getElem?_eq_none (by omega), List.getElem?_eq_none (by omega)]
theorem setO_comm {fr : List V} {d e : Option Tmp} {x y : V} (h : ∀ t, d = some t → e ≠ some t) : setO (setO fr d x) e y = setO (setO fr e y) d x := by
  cases d with
  | none => rfl
  | some t =>
    cases e with
    | none => rfl
    | some u =>
      have : t ≠ u := fun h' => h t rfl (by rw [h'])
      simp only [setO]
      rw [List.set_comm _ _ this]

theorem frX_len {X : Nat → Bool} : ∀ (rs : List Rec) (i : Nat) (fr : List V), (frX X i rs fr).length = fr.length
  | [], i, fr => rfl
  | r :: rs, i, fr => by
    unfold frX
    rw [frX_len rs (i + 1)]
    split
    · exact setO_len
    · rfl
/-- the slot reads the same, if the writers of the slot are in both sets or in none -/
theorem frX_same {X Y : Nat → Bool} {t : Nat} : ∀ (rs : List Rec) (i : Nat) (fr fr' : List V), (∀ j r, rs[j]? = some r → r.d = some t → X (i + j) = Y (i + j)) → fr.length = fr'.length → fr.getD t .dead = fr'.getD t .dead →
    (frX X i rs fr).getD t .dead = (frX Y i rs fr').getD t .dead
  | [], i, fr, fr', _, _, h => h
  | r :: rs, i, fr, fr', hs, hl, h => by
    unfold frX
    refine frX_same rs (i + 1) _ _ (fun j r' hj hd => ?_) ?_ ?_
    · have := hs (j + 1) r' (by simpa using hj) hd
      rwa [show i + 1 + j = i + (j + 1) by omega]
    · split <;> split <;> simp only [setO_len, hl]
    · by_cases hd : r.d = some t
      · have := hs 0 r (by simp) hd
        rw [Nat.add_zero] at this
        rw [this]
        split
        · rw [hd]; exact setO_eq hl
        · exact h
      · split <;> split <;> simp only [setO_ne hd, h]
theorem frX_out {X : Nat → Bool} : ∀ (rs : List Rec) (i : Nat) (fr : List V), (∀ j, j < rs.length → X (i + j) = false) → frX X i rs fr = fr
  | [], i, fr, _ => rfl
  | r :: rs, i, fr, h => by
    unfold frX
    have h0 := h 0 (by simp)
    rw [Nat.add_zero] at h0
    rw [h0, if_neg (by simp), frX_out rs (i + 1) fr fun j hj => ?_]
    have := h (j + 1) (by simpa using hj)
    rwa [show i + 1 + j = i + (j + 1) by omega]
theorem frX_set {X : Nat → Bool} {d : Option Tmp} {x : V} : ∀ (rs : List Rec) (i : Nat) (fr : List V), (∀ j r, rs[j]? = some r → X (i + j) = true → ∀ t, r.d = some t → d ≠ some t) → frX X i rs (setO fr d x) = setO (frX X i rs fr) d x
  | [], i, fr, _ => rfl
  | r :: rs, i, fr, h => by
    unfold frX
    rw [← frX_set rs (i + 1) _ fun j r' hj hX => h (j + 1) r' (by simpa using hj) (by rwa [show i + (j + 1) = i + 1 + j by omega])]
    by_cases h0 : X i = true
    · rw [if_pos h0, if_pos h0, setO_comm fun t ht e => h 0 r (by simp) (by simpa using h0) t e ht]
    · rw [if_neg h0, if_neg h0]
def addX (X : Nat → Bool) (k : Nat) : Nat → Bool := fun j => X j || j == k
/-- one more -/
theorem frX_add {X : Nat → Bool} {r : Rec} {k : Nat} (hX : X k = false) : ∀ (rs : List Rec) (i : Nat) (fr : List V), i ≤ k → rs[k - i]? = some r → (∀ j r', rs[j]? = some r' → i + j ≠ k → X (i + j) = true → ∀ t, r'.d = some t → r.d ≠ some t) →
    frX (addX X k) i rs fr = setO (frX X i rs fr) r.d r.x
  | [], i, fr, _, hr, _ => by simp at hr
  | r0 :: rs, i, fr, hi, hr, hd => by
    unfold frX
    by_cases hik : i = k
    · subst hik
      rw [Nat.sub_self] at hr
      simp at hr
      subst hr
      have e1 : addX X i i = true := by simp [addX]
      rw [e1, hX, if_pos rfl, if_neg (by simp)]
      have e2 : ∀ (rs : List Rec) (k' : Nat) (fr : List V), i < k' → frX (addX X i) k' rs fr = frX X k' rs fr := by
        intro rs
        induction rs with
        | nil => intros; rfl
        | cons r1 rs ih =>
          intro k' fr hk'
          unfold frX
          have : addX X i k' = X k' := by simp [addX]; omega
          rw [this, ih _ _ (by omega)]
      rw [e2 _ _ _ (by omega)]
      refine frX_set rs (i + 1) fr fun j r' hj hX' t ht => ?_
      exact hd (j + 1) r' (by simpa using hj) (by omega) (by rwa [show i + (j + 1) = i + 1 + j by omega]) t ht
    · have e1 : addX X k i = X i := by simp [addX, hik]
      rw [e1]
      refine frX_add hX rs (i + 1) _ (by omega) ?_ fun j r' hj hne hX' => hd (j + 1) r' (by simpa using hj) (by omega) (by rwa [show i + (j + 1) = i + 1 + j by omega])
      have : k - i = (k - (i + 1)) + 1 := by omega
      rw [this] at hr
      simpa using hr

/-! the same of the blocks -/
theorem lkX_same {n0 q : Nat} {X Y : Nat → Bool} : ∀ (rs : List Rec) (i : Nat) (b : Option Blk), (∀ j r, rs[j]? = some r → tch n0 (i + j) r.e q ≠ none → X (i + j) = Y (i + j)) → lkX n0 X q i rs b = lkX n0 Y q i rs b
  | [], i, b, _ => rfl
  | r :: rs, i, b, hs => by
    unfold lkX
    have e1 : (if X i = true then orB (tch n0 i r.e q) b else b) = (if Y i = true then orB (tch n0 i r.e q) b else b) := by
      cases ht : tch n0 i r.e q with
      | none => simp [orB]
      | some blk =>
        have := hs 0 r (by simp) (by rw [Nat.add_zero, ht]; simp)
        rw [Nat.add_zero] at this
        rw [this]
    rw [e1]
    exact lkX_same rs (i + 1) _ fun j r' hj hd => by
      have := hs (j + 1) r' (by simpa using hj) (by rwa [show i + (j + 1) = i + 1 + j by omega])
      rwa [show i + 1 + j = i + (j + 1) by omega]
theorem lkX_out {n0 q : Nat} {X : Nat → Bool} : ∀ (rs : List Rec) (i : Nat) (b : Option Blk), (∀ j r, rs[j]? = some r → X (i + j) = true → tch n0 (i + j) r.e q = none) → lkX n0 X q i rs b = b
  | [], i, b, _ => rfl
  | r :: rs, i, b, h => by
    unfold lkX
    have e1 : (if X i = true then orB (tch n0 i r.e q) b else b) = b := by
      split
      · rename_i hx
        have := h 0 r (by simp) (by simpa using hx)
        rw [Nat.add_zero] at this
        rw [this]; rfl
      · rfl
    rw [e1]
    exact lkX_out rs (i + 1) b fun j r' hj hX => by
      have := h (j + 1) r' (by simpa using hj) (by rwa [show i + (j + 1) = i + 1 + j by omega])
      rwa [show i + 1 + j = i + (j + 1) by omega]
theorem lkX_add {n0 q : Nat} {X : Nat → Bool} {r : Rec} {k : Nat} (hX : X k = false) : ∀ (rs : List Rec) (i : Nat) (b : Option Blk), i ≤ k → rs[k - i]? = some r →
    (tch n0 k r.e q ≠ none → ∀ j r', rs[j]? = some r' → k < i + j → X (i + j) = true → tch n0 (i + j) r'.e q = none) → lkX n0 (addX X k) q i rs b = orB (tch n0 k r.e q) (lkX n0 X q i rs b)
  | [], i, b, _, hr, _ => by simp at hr
  | r0 :: rs, i, b, hi, hr, hd => by
    unfold lkX
    by_cases hik : i = k
    · subst hik
      rw [Nat.sub_self] at hr
      simp at hr
      subst hr
      have e1 : addX X i i = true := by simp [addX]
      rw [e1, hX, if_pos rfl, if_neg (by simp)]
      have e2 : ∀ (b : Option Blk), lkX n0 (addX X i) q (i + 1) rs b = lkX n0 X q (i + 1) rs b := fun b => by
        refine lkX_same rs (i + 1) b fun j r' hj _ => ?_
        simp [addX]; omega
      rw [e2]
      cases ht : tch n0 i r0.e q with
      | none => rfl
      | some blk =>
        show lkX n0 X q (i + 1) rs blk = blk
        refine lkX_out rs (i + 1) _ fun j r' hj hX' => ?_
        have := hd (by rw [ht]; simp) (j + 1) r' (by simpa using hj) (by omega) (by rwa [show i + (j + 1) = i + 1 + j by omega])
        rwa [show i + 1 + j = i + (j + 1) by omega]
    · have e1 : addX X k i = X i := by simp [addX, hik]
      rw [e1]
      refine lkX_add hX rs (i + 1) _ (by omega) ?_ fun ht j r' hj hlt hX' => by
        have := hd ht (j + 1) r' (by simpa using hj) (by omega) (by rwa [show i + (j + 1) = i + 1 + j by omega])
        rwa [show i + 1 + j = i + (j + 1) by omega]
      have : k - i = (k - (i + 1)) + 1 := by omega
      rw [this] at hr
      simpa using hr
end Go.Proofs.Ytnbmiejjkkgckaa
/- Proved here: Regions that draw their order and make blocks, on the abstract machine: the operations, for use in the proofs of the given statements; conditions stand in each theorem. -/
set_option linter.unusedSimpArgs false
set_option linter.unusedVariables false
set_option linter.unnecessarySimpa false
namespace Go.Proofs.Ytnbmiejjkkgckaa
open Go.RowKit

theorem RelF.like {E : Env} {σ σ' : St} {a : Act} {w : World} (hr : RelF E σ a w) (hf : σ'.fr = σ.fr) (hl : ∀ q, σ'.h.look q = σ.h.look q) (hn : σ'.nx = σ.nx) (hd : σ'.df = σ.df) : RelF E σ' a w := by
  refine ⟨⟨fun i blk h => hr.rel.has i blk (by rw [← hl]; exact h), fun i hv h => ?_, hr.rel.domF, hr.rel.own, hr.rel.apart, hr.rel.slt, hr.rel.dlt⟩, fun i hi => by rw [hn]; exact hr.bound i hi, by rw [hf]; exact hr.fr, by rw [hd]; exact hr.defers⟩
  obtain ⟨h1, blk, h2⟩ := hr.rel.dom i hv h
  exact ⟨h1, blk, by rw [hl]; exact h2⟩

/-- a block is new, with any number that is free -/
theorem RelF.addAt {w w' : World} {E : Env} {σ : St} {a : Act} {hv : Value} {blk : Blk} {m : Nat} (hr : RelF E σ a w) (hnU : ¬ E.U m) (hm : m < σ.nx) (hb : Below w.heap.size w w') (hblk : ∀ E', Ext E w E' w' → BlkRel w' E' blk hv)
    (hnew : ∀ b, blockOf hv = some b → w.heap.size ≤ b ∧ b < w'.heap.size) (hone : hv.oneCell' = true) (hmn : blk.mine = true) :
    RelF (E.add m hv) { σ with h := (m, blk) :: σ.h } a w' ∧ Ext E w (E.add m hv) w' ∧ RdV w' (E.add m hv) (.own m) hv := by
  obtain ⟨k1, k2⟩ := hr.rel.later (S' := E.S) hb (fun _ h => h) (fun b hb => .inl hb) (fun b hb' => Nat.lt_of_lt_of_le (hr.rel.slt b hb') hb.size)
  have hE := k2.add (E0 := E) hnU hv
  have hE' : Ext E w' (E.add m hv) w' := (Ext.refl E w').add (E0 := E) hnU hv
  have hnB : E.B m = none := by
    cases h : E.B m with
    | none => rfl
    | some v => exact (hnU (hr.rel.dom _ _ h).1).elim
  refine ⟨⟨⟨fun i blk' hl => ?_, fun i v hB => ?_, fun i v hF => ?_, fun i v b hB hbk => ?_, fun i j hi hj b hBi hBj hbi hbj => ?_, k1.slt, k1.dlt⟩, fun i hi => ?_, hE.rdVs _ hr.fr, hr.defers⟩, hE, ?_⟩
  · simp only [Heap.look] at hl
    split at hl
    · rename_i hi
      subst hi
      injection hl with hl
      subst hl
      exact ⟨hv, by rw [at_mine hmn]; simp [Env.add], hblk _ hE⟩
    · rename_i hi
      obtain ⟨hv', hB, hrel⟩ := k1.has i blk' hl
      exact ⟨hv', by cases blk' <;> simp [Env.add, Env.at, hi] at hB ⊢ <;> exact hB, hrel.keep hE' fun _ _ => rfl⟩
  · simp only [Env.add] at hB
    simp only [Env.add, Heap.look]
    split at hB
    · rename_i hi
      subst hi
      exact ⟨.inl rfl, blk, by simp⟩
    · rename_i hi
      obtain ⟨q1, q2⟩ := hr.rel.dom i v hB
      exact ⟨.inr q1, by simp [hi]; exact q2⟩
  · obtain ⟨q1, q2⟩ := hr.rel.domF i v hF
    refine ⟨.inr q1, ?_⟩
    simp only [Env.add]
    rw [if_neg (fun h => hnU (show E.U m from by rw [← h]; exact q1))]
    exact q2
  · simp only [Env.add] at hB
    split at hB
    · injection hB with hB
      subst hB
      obtain ⟨q1, q2⟩ := hnew b hbk
      exact ⟨q2, fun hs => by have := hr.rel.slt b hs; omega, fun hd => by have := hr.rel.dlt b hd; omega⟩
    · exact k1.own i v b hB hbk
  · simp only [Env.add] at hBi hBj
    split at hBi
    · rename_i hi'
      split at hBj
      · rename_i hj'; rw [hi', hj']
      · injection hBi with hBi
        subst hBi
        have := (hnew b hbi).1
        have := (hr.rel.own j hj b hBj hbj).1
        omega
    · split at hBj
      · injection hBj with hBj
        subst hBj
        have := (hnew b hbj).1
        have := (hr.rel.own i hi b hBi hbi).1
        omega
      · exact hr.rel.apart i j hi hj b hBi hBj hbi hbj
  · simp only [Env.add] at hi
    rcases hi with rfl | hi
    · exact hm
    · exact hr.bound i hi
  · simp only [RdV]
    refine ⟨hone, .inl rfl, fun hv' hB => ?_⟩
    rcases hB with hB | hB
    · simp [Env.add] at hB; exact hB
    · exact (hnU (hr.rel.domF _ _ hB).1).elim

/-- one operation of a region -/
def OW (P : Program) (ops : List Oper) (o : Oper) (a : Act) (w : World) (next : Act → World → Prop) (Q : Exit → Act → World → Prop) : Prop :=
  if Region.wanted o (yielded ops.toArray a.tmps) = true then o.wp P a w next Q ∨ (o.asks P a w ∧ LetsOut Q) else next (a.put o.dst undef) w
def GuardSame (ops : List Oper) (o : Oper) (σ σ' : St) : Prop := ∀ j w, o.guard = some (j, w) → ∀ t, slotOf ops j = some t → σ'.ev (.tmp t) = σ.ev (.tmp t)
/-- what the operation does, in each state that is alike where the operation looks -/
structure Vld (P : Program) (ops : List Oper) (n0 i : Nat) (o : Oper) (σ : St) (r : Rec) (M : List (Nat × Bool)) : Prop where
  d : r.d = o.dst
  u : ∀ t blk, r.e = .upd t blk ∨ (∃ old, r.e = .app t old blk) → (t, true) ∈ M
  run : ∀ σ', σ'.nx = σ.nx → EvSame σ σ' o.op.operands.toList → HeapOn (M.map (·.1)) σ.h σ'.h → GuardSame ops o σ σ' → ∀ E a w next Q, RelF E σ' a w → n0 + i < σ.nx → ¬ E.U (n0 + i) →
    (∀ a' w' E' σ'', σ''.fr = setO σ'.fr r.d r.x → (∀ q, σ''.h.look q = orB (tch n0 i r.e q) (σ'.h.look q)) → σ''.nx = σ'.nx → σ''.df = σ'.df → RelF E' σ'' a' w' → Ext E w E' w' → (∀ q, E'.U q → E.U q ∨ q = n0 + i) → next a' w') → OW P ops o a w next Q

theorem put_df {σ : St} {d : Option Tmp} {x : V} : (σ.put d x).df = σ.df := by cases d <;> rfl
theorem put_setO {σ : St} {d : Option Tmp} {x : V} : (σ.put d x).fr = setO σ.fr d x := by cases d <;> rfl
theorem ostep_okM {P : Program} {ops : List Oper} {Q : Exit → Act → World → Prop} {σ : St} {o : Oper} {K : St → Prop} (hm : merges P o.op = true) (h : ostep P ops σ o.dst o.op o.guard K) {E : Env} {a : Act} {w : World} (hr : RelF E σ a w) {next : Act → World → Prop}
    (hn : ∀ a' w' E' σ', RelF E' σ' a' w' → Ext E w E' w' → (∀ q, E'.U q → E.U q) → K σ' → next a' w') : OW P ops o a w next Q := by
  unfold OW
  unfold ostep at h
  split at h
  · rename_i hg
    have hw : Region.wanted o (yielded ops.toArray a.tmps) = true := by simp [Region.wanted, hg]
    rw [if_pos hw]
    have h1 : pstep P true σ o.op (kPut K σ o.dst) := by
      revert h hm
      generalize o.op = op
      intro hm h
      cases op with
      | box _ _ => cases hm
      | alloc _ => cases hm
      | store _ _ _ => cases hm
      | insert _ _ _ _ => cases hm
      | makeMap _ _ => cases hm
      | makeSlice _ _ _ => cases hm
      | mapUpdate _ _ _ _ => cases hm
      | buildSlice _ _ _ => cases hm
      | call c =>
        unfold estep ecall at h
        dsimp only at h
        obtain ⟨callee, args, tys⟩ := c
        cases callee with
        | builtin b =>
          cases b with
          | append => cases hm
          | _ => exact h
        | invoke r m => exact h
        | value g =>
          cases g with
          | func f =>
            have hio : P.ioF f = false := by simpa [merges] using hm
            dsimp only at h
            rw [hio] at h
            exact h
          | _ => exact h
      | _ => exact h
    obtain ⟨x, hK, hy⟩ := pstep_ok h1
    exact .inl (hy rfl E a w hr _ _ fun v w' E' h1 h2 h3 h4 => hn _ w' E' _ (h1.put o.dst h3) h2 h4 hK)
  · rename_i j want hg
    unfold gstep at h
    split at h
    · rename_i g hgs
      have hw := guard_ok hr hg hgs
      rw [hw]
      rw [if_pos hm] at h
      obtain ⟨x, hK, hy⟩ := pstep_ok h
      cases g with
      | true =>
        rw [if_pos rfl]
        exact .inl (hy rfl E a w hr _ _ fun v w' E' h1 h2 h3 h4 => hn _ w' E' _ (h1.put o.dst (by rw [RdV]; exact ⟨fun _ => h3, fun h => by cases h⟩)) h2 h4 hK)
      | false =>
        rw [if_neg (by simp)]
        exact hn _ w E _ (hr.put o.dst (by rw [RdV]; exact ⟨fun h => (by cases h), fun _ => rfl⟩)) (Ext.refl _ _) (fun _ h => h) hK
    · exact h.elim

/-- operations that do not look at the heap -/
def heapB (op : Op) : Bool :=
  match op with
  | .move _ | .assign _ | .pick .. | .unOp .. | .binOp .. | .extract .. | .field .. | .build .. | .convert .. => false
  | _ => true
theorem ev_h {σ : St} {h : Heap} (x : Operand) : St.ev { σ with h := h } x = σ.ev x := by cases x <;> rfl
theorem partsE_h {σ : St} {h : Heap} : ∀ (l : List (Nat × Operand)), partsE { σ with h := h } l = partsE σ l
  | [] => rfl
  | (i, x) :: r => by simp only [partsE, ev_h, partsE_h r]
theorem pstep_h {P : Program} {G : Bool} {σ : St} {h : Heap} {op : Op} {K : V → Prop} (hb : heapB op = false) : pstep P G { σ with h := h } op K = pstep P G σ op K := by
  cases op with
  | move x => simp only [pstep, lookR, ev_h]
  | assign x => simp only [pstep, lookR, ev_h]
  | pick c a b => simp only [pstep, lookR, ev_h]
  | unOp a b c => simp only [pstep, lookR, ev_h]
  | binOp a b c d e => simp only [pstep, pstep.bstep, lookR, ev_h]
  | extract a b => simp only [pstep, lookR, ev_h]
  | field a b c => simp only [pstep, lookR, ev_h]
  | build a b => simp only [pstep, lookR, partsE_h]
  | convert a b c => simp only [pstep, lookR, ev_h]
  | _ => cases hb
theorem pstep_stableH {P : Program} {G : Bool} {σ : St} {op : Op} {K : V → Prop} (h : pstep P G σ op K) :
    ∃ x, K x ∧ ∀ σ', EvSame σ σ' op.operands.toList → (heapB op = true → ∀ y ∈ op.operands.toList, HeapOn (σ.ev y).ment σ.h σ'.h) → ∀ K' : V → Prop, K' x → pstep P G σ' op K' := by
  obtain ⟨x, hk, hst⟩ := pstep_stable h
  refine ⟨x, hk, fun σ' he hh K' hk' => ?_⟩
  cases hb : heapB op with
  | true => exact hst σ' he (hh hb) K' hk'
  | false =>
    rw [← pstep_h (h := σ.h) hb]
    exact hst { σ' with h := σ.h } (fun y hy => by rw [ev_h]; exact he y hy) (fun y hy q b _ hq => hq) K' hk'
theorem estep_look {P : Program} {σ : St} {d : Option Tmp} {op : Op} {K : St → Prop} (hm : merges P op = true) : estep P σ d op K = pstep P true σ op (kPut K σ d) := by
  cases op with
  | box _ _ => cases hm
  | alloc _ => cases hm
  | store _ _ _ => cases hm
  | insert _ _ _ _ => cases hm
  | makeMap _ _ => cases hm
  | makeSlice _ _ _ => cases hm
  | mapUpdate _ _ _ _ => cases hm
  | buildSlice _ _ _ => cases hm
  | call c =>
    unfold estep ecall
    dsimp only
    obtain ⟨callee, args, tys⟩ := c
    cases callee with
    | builtin b =>
      cases b with
      | append => cases hm
      | _ => rfl
    | invoke r m => rfl
    | value g =>
      cases g with
      | func f =>
        have hio : P.ioF f = false := by simpa [merges] using hm
        dsimp only
        rw [hio]
        rfl
      | _ => rfl
  | _ => rfl
theorem ostep_stableH {P : Program} {ops : List Oper} {σ : St} {d : Option Tmp} {op : Op} {g : Option (Nat × Bool)} {K : St → Prop} (hm : merges P op = true) (h : ostep P ops σ d op g K) :
    ∃ y, K (σ.put d y) ∧ ∀ σ', EvSame σ σ' op.operands.toList → (heapB op = true → ∀ y ∈ op.operands.toList, HeapOn (σ.ev y).ment σ.h σ'.h) → (∀ j w, g = some (j, w) → ∀ t, slotOf ops j = some t → σ'.ev (.tmp t) = σ.ev (.tmp t)) → ∀ K' : St → Prop, K' (σ'.put d y) → ostep P ops σ' d op g K' := by
  unfold ostep at h
  split at h
  · rw [estep_look hm] at h
    obtain ⟨y, hk, hst⟩ := pstep_stableH h
    refine ⟨y, hk, fun σ' he hh _ K' hk' => ?_⟩
    unfold ostep
    dsimp only
    rw [estep_look hm]
    exact hst σ' he hh (kPut K' σ' d) hk'
  · rename_i j want
    unfold gstep at h
    split at h
    · rename_i g' hg'
      rw [if_pos hm] at h
      obtain ⟨y, hk, hst⟩ := pstep_stableH h
      refine ⟨.cond g' y, hk, fun σ' he hh hs K' hk' => ?_⟩
      unfold ostep
      dsimp only
      have : guardS ops σ' j want = some g' := by
        rw [← hg']
        unfold guardS
        split
        · rename_i t ht
          have := hs j want rfl t ht
          simp only [St.ev] at this
          rw [this]
        · rfl
      rw [this]
      unfold gstep
      dsimp only
      rw [if_pos hm]
      exact hst σ' he hh (kCond K' σ' d g') hk'
    · exact h.elim
theorem vld_look {P : Program} {ops : List Oper} {n0 i : Nat} {o : Oper} {σ : St} {K : St → Prop} {M : List (Nat × Bool)} (hm : merges P o.op = true) (h : ostep P ops σ o.dst o.op o.guard K)
    (hM : heapB o.op = true → ∀ y ∈ o.op.operands.toList, ∀ q ∈ (σ.ev y).ment, q ∈ M.map (·.1)) : ∃ y, K (σ.put o.dst y) ∧ Vld P ops n0 i o σ ⟨o.dst, y, .none⟩ M := by
  obtain ⟨y, hK, hst⟩ := ostep_stableH hm h
  refine ⟨y, hK, rfl, fun t blk h => (by rcases h with h | ⟨_, h⟩ <;> cases h), fun σ' hnx hev hh hg E a w next Q hr _ _ hn => ?_⟩
  have h2 := hst σ' hev (fun hb y hy => hh.sub (hM hb y hy)) (fun j w hgd t ht => hg j w hgd t ht) (fun s => s = σ'.put o.dst y) rfl
  refine ostep_okM hm h2 hr fun a' w' E' σ'' h1 h3 h4 h5 => ?_
  subst h5
  exact hn a' w' E' _ put_setO (fun q => by rw [put_h]; rfl) put_nx put_df h1 h3 fun q hq => .inl (h4 q hq)

/-! operations that make a block -/
def newR (P : Program) (σ : St) (op : Op) : RO Blk :=
  match op with
  | .box t x => useR (strip true (σ.ev x)) fun x' => boxR x'
  | .alloc t => allocR (P.zeroT t)
  | .buildSlice t n parts => buildSliceR P n (P.elemT t) (usePartsR true (partsE σ parts.toList))
  | .makeMap _ none => some (True, .map [])
  | .makeSlice t l c => msR P (P.elemT t) (strip true (σ.ev l)) (strip true (σ.ev c))
  | _ => none
theorem newR_ok {P : Program} {σ : St} {o : Oper} {p : Prop} {blk : Blk} (h : newR P σ o.op = some (p, blk)) (hp : p) : NewOp P o σ blk := by
  have hk : kR (newR P σ o.op) (fun b => b = blk) := by rw [h]; exact ⟨hp, rfl⟩
  unfold newR at hk
  split at hk
  · rename_i t x ho
    obtain ⟨b, hb, hN⟩ := new_box (K := fun b => b = blk) ho (useR_ok (F := fun x' => boxV x' fun b => b = blk) (f := boxR) (K := fun b => b = blk) (fun y hy => ⟨hy.1, hy.2⟩) hk)
    subst hb
    exact hN
  · rename_i t ho
    unfold allocR at hk
    split at hk
    · rename_i z hz
      have := hk.2
      subst this
      exact new_alloc ho hz hk.1
    · exact hk.elim
  · rename_i t n parts ho
    rw [partsE_eq] at hk
    obtain ⟨b, hb, hN⟩ := new_buildSlice ho (buildSliceR_ok hk)
    subst hb
    exact hN
  · rename_i t ho
    have := hk.2
    subst this
    exact new_makeMap ho
  · rename_i t l c ho
    rw [ho] at h
    exact new_ms ho h hp
  · exact hk.elim
theorem newR_same {P : Program} {σ σ' : St} {op : Op} (he : EvSame σ σ' op.operands.toList) : newR P σ' op = newR P σ op := by
  unfold newR
  split
  · rename_i t x
    rw [he x (by simp [Op.operands])]
  · rfl
  · rename_i t n parts
    rw [partsE_same parts.toList fun p hp => he p.2 (by simp only [Op.operands, List.toList_toArray]; exact List.mem_map.2 ⟨p, hp, rfl⟩)]
  · rfl
  · rename_i t l c
    rw [he l (by simp [Op.operands]), he c (by simp [Op.operands])]
  · rfl
theorem new_op_value {P : Program} {o : Oper} {σ : St} {blk : Blk} (h : NewOp P o σ blk) {E : Env} {a : Act} {w : World} {m : Nat} {next : Act → World → Prop} {Q : Exit → Act → World → Prop} (hr : RelF E σ a w) (hnU : ¬ E.U m) (hm : m < σ.nx)
    (hn : ∀ a' w' E', RelF E' (({ σ with h := (m, blk) :: σ.h } : St).put o.dst (.own m)) a' w' → Ext E w E' w' → (∀ q, E'.U q → E.U q ∨ q = m) → next a' w') : o.wp P a w next Q := by
  obtain ⟨hv, w', hrun, hb, hone, hnew, hblk⟩ := h.2 E a w hr
  obtain ⟨k1, k2, k3⟩ := hr.addAt hnU hm hb hblk hnew hone h.1
  unfold Oper.wp
  rw [hrun]
  exact hn _ w' _ (k1.put o.dst k3) k2 fun q hq => hq.elim .inr .inl
theorem vld_new {P : Program} {ops : List Oper} {n0 i : Nat} {o : Oper} {σ : St} {p : Prop} {blk : Blk} (hg : o.guard = none) (h : newR P σ o.op = some (p, blk)) (hp : p) {M : List (Nat × Bool)} : Vld P ops n0 i o σ ⟨o.dst, .own (n0 + i), .new blk⟩ M := by
  refine ⟨rfl, fun t blk h => (by rcases h with h | ⟨_, h⟩ <;> cases h), fun σ' hnx hev hh _ E a w next Q hr hlt hnU hn => ?_⟩
  have h2 := newR_ok (o := o) (σ := σ') (by rw [newR_same hev]; exact h) hp
  unfold OW
  rw [if_pos (by simp [Region.wanted, hg])]
  refine .inl (new_op_value h2 hr hnU (by omega) fun a' w' E' h1 h3 h4 => hn a' w' E' _ ?_ (fun q => ?_) ?_ (by rw [put_df]) h1 h3 h4)
  · rw [put_setO]
  · rw [put_h]
    simp only [Heap.look, tch]
    split <;> rfl
  · rw [put_nx]

/-! calls that write to one's own box -/
def BEff (P : Program) (m : Nat) (f : FuncId) (t : Nat) (cs args : List V) (h : Heap) (y : V) (e : Eff) (h2 : Heap) : Prop :=
  (∃ cs', CBox P f cs args y cs' ∧ e = .upd t (.box cs') ∧ h2 = h.set t (.box cs')) ∨
  (∃ r cs' nb, CIO P f 1 [(0, .box cs)] (.own 0 :: args) r [(1, nb), (0, .box cs')] 2 ∧ V.pures cs' = true ∧ y = r.ren (num2 t m) ∧ e = .app t (some (.box cs')) (nb.ren (num2 t m)) ∧ h2 = (m, nb.ren (num2 t m)) :: h.set t (.box cs'))
def BCall (P : Program) (m : Nat) (σ : St) (d : Option Tmp) (f : FuncId) (xs : List V) (K : St → Prop) : Prop :=
  ∃ t cs args y e h2, xs = .own t :: args ∧ σ.h.look t = some (.box cs) ∧ V.pures cs = true ∧ V.pures args = true ∧ BEff P m f t cs args σ.h y e h2 ∧ K (({ σ with h := h2 } : St).put d y)
theorem bcall {P : Program} {m : Nat} {σ : St} {d : Option Tmp} {f : FuncId} {t : Nat} {cs args cs' : List V} {r : V} {K : St → Prop} (hc : CBox P f cs args r cs') (hl : σ.h.look t = some (.box cs)) (hp : V.pures cs = true) (ha : V.pures args = true)
    (hK : K (({ σ with h := σ.h.set t (.box cs') } : St).put d r)) : BCall P m σ d f (.own t :: args) K := ⟨t, cs, args, r, _, _, rfl, hl, hp, ha, .inl ⟨cs', hc, rfl, rfl⟩, hK⟩
theorem bcall_io {P : Program} {m : Nat} {σ : St} {d : Option Tmp} {f : FuncId} {t : Nat} {cs args cs' : List V} {r : V} {nb : Blk} {K : St → Prop} (hc : CIO P f 1 [(0, .box cs)] (.own 0 :: args) r [(1, nb), (0, .box cs')] 2) (hl : σ.h.look t = some (.box cs))
    (hp : V.pures cs = true) (ha : V.pures args = true) (hp' : V.pures cs' = true)
    (hK : K (({ σ with h := (m, nb.ren (num2 t m)) :: σ.h.set t (.box cs') } : St).put d (r.ren (num2 t m)))) : BCall P m σ d f (.own t :: args) K := ⟨t, cs, args, _, _, _, rfl, hl, hp, ha, .inr ⟨r, cs', nb, hc, hp', rfl, rfl, rfl⟩, hK⟩
theorem vld_box {P : Program} {ops : List Oper} {n0 i : Nat} {o : Oper} {σ : St} {K : St → Prop} {f : FuncId} {args : Array Operand} {tys : Array TypeId} {M : List (Nat × Bool)} (hg : o.guard = none)
    (ho : o.op = .call { callee := .value (.func f), args := args, argTypes := tys }) (h : useVs true (args.toList.map σ.ev) fun xs => BCall P (n0 + i) σ o.dst f xs K)
    (hM : ∀ x r, args.toList = x :: r → ∀ q ∈ (σ.ev x).ment, (q, true) ∈ M) : ∃ y e h2, K (({ σ with h := h2 } : St).put o.dst y) ∧ (∀ q, h2.look q = orB (tch n0 i e q) (σ.h.look q)) ∧ Vld P ops n0 i o σ ⟨o.dst, y, e⟩ M := by
  obtain ⟨ys, h1, hys⟩ := useVs_det h
  obtain ⟨t, cs, as', y, e, h2, rfl, hl, hp, ha, hB, hK⟩ := h1
  have htM : (t, true) ∈ M := by
    cases hal : args.toList with
    | nil => rw [hal] at hys; have := hys (fun z => z = .own t :: as') rfl; simp [useVs] at this
    | cons x rr =>
      rw [hal] at hys
      have h3 : useV true (σ.ev x) fun x' => useVs true (rr.map σ.ev) fun xs' => x' :: xs' = .own t :: as' := hys (fun z => z = .own t :: as') rfl
      obtain ⟨y', h4, hy'⟩ := useV_det h3
      obtain ⟨ys', h5, _⟩ := useVs_det h4
      injection h5 with h5 h6
      subst h5
      exact hM x rr hal t (useV_ment hy' t (by simp [V.ment]))
  have heff : ∀ h0 : Heap, h0.look t = some (.box cs) → ∀ h3, BEff P (n0 + i) f t cs as' h0 y e h3 → ∀ q, h3.look q = orB (tch n0 i e q) (h0.look q) := by
    rintro h0 hl0 h3 (⟨cs', _, rfl, rfl⟩ | ⟨r, cs', nb, _, _, _, rfl, rfl⟩) q
    · rw [Heap.look_set _ _ _ hl0]
      simp only [tch]
      split <;> rfl
    · simp only [Heap.look, tch]
      split
      · rfl
      · rw [Heap.look_set _ _ _ hl0]
        split <;> rfl
  have hside : ∀ h0 : Heap, ∃ h3, BEff P (n0 + i) f t cs as' h0 y e h3 := by
    intro h0
    rcases hB with ⟨cs', q1, q2, _⟩ | ⟨r, cs', nb, q1, q2, q3, q4, _⟩
    · exact ⟨_, .inl ⟨cs', q1, q2, rfl⟩⟩
    · exact ⟨_, .inr ⟨r, cs', nb, q1, q2, q3, q4, rfl⟩⟩
  refine ⟨y, e, h2, hK, heff _ hl _ hB, rfl, fun t' blk h => ?_, fun σ' hnx hev hh _ E a w next Q hr hlt hnU hn => ?_⟩
  · rcases hB with ⟨cs', _, q, _⟩ | ⟨r, cs', nb, _, _, _, q, _⟩
    · simp only at h
      rw [q] at h
      rcases h with h | ⟨_, h⟩ <;> cases h
      exact htM
    · simp only at h
      rw [q] at h
      rcases h with h | ⟨_, h⟩ <;> cases h
      exact htM
  have hl' : σ'.h.look t = some (.box cs) := hh t _ (List.mem_map.2 ⟨_, htM, rfl⟩) hl
  have hargs : args.toList.map σ'.ev = args.toList.map σ.ev := map_same _ fun y hy => hev y (by rw [ho]; simp [Op.operands, Call.operands]; exact .inr (by simpa using hy))
  have h2' : useVs true (args.toList.map σ'.ev) fun xs => xs = .own t :: as' := by rw [hargs]; exact hys _ rfl
  obtain ⟨ys2, h6, h7⟩ := useVs_ok h2'
  subst h6
  have hvs := h7 w E _ rfl (rdVs_map hr args.toList)
  obtain ⟨h3, hB3⟩ := hside σ'.h
  have h8 : P.enters f = true ∧ Calls P f (args.toList.map a.eval).toArray w fun e w' => ∃ v E', e = .returned v ∧ Rel w' E' h3 ∧ Ext E w E' w' ∧ RdV w' E' y v ∧ ∀ q, E'.U q → E.U q ∨ q = n0 + i := by
    rcases hB3 with ⟨cs', hc, _, rfl⟩ | ⟨r, cs', nb, hc, hp', rfl, _, rfl⟩
    · exact ⟨hc.1, (cbox_use hc hl' hp ha hr.rel hvs).mono fun e w' ⟨v, E', q1, q2, q3, q4, q5⟩ => ⟨v, E', q1, q2, q3, q4, fun q hq => .inl (q5 q hq)⟩⟩
    · exact ⟨hc.1, cio_box hc hl' hp ha hp' hr.rel hnU hvs⟩
  obtain ⟨hen, h8⟩ := h8
  unfold OW
  rw [if_pos (by simp [Region.wanted, hg])]
  refine .inl ?_
  unfold Oper.wp
  rw [run_callFn ho rfl hen]
  simp only [Oper.upon]
  have e1 : (args.toList.map a.eval).toArray = args.map a.eval := by apply Array.ext'; simp only [Array.toList_map]
  rw [e1] at h8
  refine Calls.mono h8 ?_
  rintro e' w' ⟨v, E', rfl, q2, q4, q5, q6⟩
  have hr' : RelF E' { σ' with h := h3 } a w' := ⟨q2, fun q hq => (q6 q hq).elim (hr.bound q) fun e => by rw [e]; show n0 + i < σ'.nx; omega, q4.rdVs _ hr.fr, hr.defers⟩
  refine hn _ w' E' _ ?_ (fun q => ?_) ?_ (by rw [put_df]) (hr'.put o.dst q5) q4 q6
  · rw [put_setO]
  · rw [put_h]
    exact heff _ hl' _ hB3 q
  · rw [put_nx]

/-! stores -/
def stR (h : Heap) (sz : Option Nat) (p x : V) : RO (Nat × Blk) :=
  match p with
  | .own i => stB i sz (h.look i) 0 x
  | .ptr i off => stB i sz (h.look i) off x
  | .rptr i k n j => stW i sz (h.look i) k n j x
  | _ => none
where
  stB (i : Nat) (sz : Option Nat) (b : Option Blk) (off : Nat) (x : V) : RO (Nat × Blk) :=
    match b with
    | some (.box cs) => some (x.cells.all V.isCell = true ∧ sz = some x.cells.length ∧ off + x.cells.length ≤ cs.length, (i, .box (putCells cs off x.cells)))
    | _ => none
  stW (i : Nat) (sz : Option Nat) (b : Option Blk) (k n j : Nat) (x : V) : RO (Nat × Blk) :=
    match b with
    | some (.row e k' d xs) => some (x.cells.all V.isCell = true ∧ sz = some x.cells.length ∧ k' = k ∧ n < xs.length ∧ j + x.cells.length ≤ k,
        (i, .row e k d (xs.set n (putCells (nthV d xs n) j x.cells))))
    | _ => none
theorem stR_ok {P : Program} {h : Heap} {t : TypeId} {p x : V} {K : Heap → Prop} (q : kR (stR h (P.szT t) p x) fun ib => K (h.set ib.1 ib.2)) : storeV P h t p x K := by
  unfold stR stR.stB stR.stW at q
  unfold storeV
  split at q
  · split at q
    · rename_i hl
      obtain ⟨⟨q1, q2, q3⟩, q4⟩ := q
      simp only [hl]
      exact ⟨q1, q2, by omega, q4⟩
    · exact q.elim
  · split at q
    · rename_i hl
      obtain ⟨⟨q1, q2, q3⟩, q4⟩ := q
      simp only [hl]
      exact ⟨q1, q2, q3, q4⟩
    · exact q.elim
  · split at q
    · rename_i hl
      obtain ⟨⟨q1, q2, q3⟩, q4⟩ := q
      simp only [hl]
      exact ⟨q1, q2, q3.1, q3.2.1, q3.2.2, q4⟩
    · exact q.elim
  · exact q.elim
theorem stR_look {h : Heap} {sz : Option Nat} {p x : V} {r : Prop × Nat × Blk} (hr : stR h sz p x = some r) : r.2.1 ∈ p.ment ∧ ∃ old, h.look r.2.1 = some old := by
  unfold stR stR.stB stR.stW at hr
  split at hr
  · split at hr
    · rename_i hl; injection hr with hr; subst hr; exact ⟨by simp [V.ment], _, hl⟩
    · cases hr
  · split at hr
    · rename_i hl; injection hr with hr; subst hr; exact ⟨by simp [V.ment], _, hl⟩
    · cases hr
  · split at hr
    · rename_i hl; injection hr with hr; subst hr; exact ⟨by simp [V.ment], _, hl⟩
    · cases hr
  · cases hr
theorem stR_ext {h h' : Heap} {sz : Option Nat} {p x : V} (he : HeapOn p.ment h h') {r : Prop × Nat × Blk} (hr : stR h sz p x = some r) : stR h' sz p x = some r := by
  unfold stR at hr ⊢
  split at hr
  · rename_i i
    cases hl : h.look i with
    | none => rw [hl] at hr; cases hr
    | some b => rw [hl] at hr; rw [he i b (by simp [V.ment]) hl]; exact hr
  · rename_i i off
    cases hl : h.look i with
    | none => rw [hl] at hr; cases hr
    | some b => rw [hl] at hr; rw [he i b (by simp [V.ment]) hl]; exact hr
  · rename_i i k n j
    cases hl : h.look i with
    | none => rw [hl] at hr; cases hr
    | some b => rw [hl] at hr; rw [he i b (by simp [V.ment]) hl]; exact hr
  · cases hr
def storeS (P : Program) (σ : St) (t : TypeId) (p x : Operand) : RO (Nat × Blk) := useR (strip true (σ.ev p)) fun p' => useR (strip true (σ.ev x)) fun x' => stR σ.h (P.szT t) p' x'
theorem strip_ment {G : Bool} {x : V} : ∀ q ∈ (strip G x).2.ment, q ∈ x.ment := by
  intro q hq
  cases x <;> simpa [strip, V.ment] using hq
theorem useR_inv {α : Type} {s : Prop × V} {f : V → RO α} {r : Prop × α} (h : useR s f = some r) : ∃ r', f s.2 = some r' ∧ r'.2 = r.2 := by
  obtain ⟨p, y⟩ := s
  have h' : andR p (f y) = some r := h
  cases hy : f y with
  | none => rw [hy] at h'; cases h'
  | some q =>
    rw [hy] at h'
    obtain ⟨q1, q2⟩ := q
    injection h' with h'
    subst h'
    exact ⟨_, rfl, rfl⟩
theorem vld_store {P : Program} {ops : List Oper} {n0 i : Nat} {o : Oper} {σ : St} {pp : Prop} {ib : Nat × Blk} {t : TypeId} {p x : Operand} {M : List (Nat × Bool)} (hg : o.guard = none) (hd : o.dst = none) (ho : o.op = .store t p x)
    (h : storeS P σ t p x = some (pp, ib)) (hp : pp) (hM : ∀ q ∈ (σ.ev p).ment, (q, true) ∈ M) : (∃ old, σ.h.look ib.1 = some old) ∧ Vld P ops n0 i o σ ⟨none, .dead, .upd ib.1 ib.2⟩ M := by
  obtain ⟨r1, h1, e1⟩ := useR_inv h
  obtain ⟨r2, h2, e2⟩ := useR_inv h1
  obtain ⟨hm, old, hold⟩ := stR_look h2
  have eib : r2.2 = ib := by rw [e2, e1]
  rw [eib] at hm hold
  have hiM : (ib.1, true) ∈ M := hM _ (strip_ment _ hm)
  refine ⟨⟨old, hold⟩, hd.symm, fun t' blk h => (by rcases h with h | ⟨_, h⟩ <;> cases h; exact hiM), fun σ' hnx hev hh _ E a w next Q hr _ _ hn => ?_⟩
  have hs' : storeS P σ' t p x = some (pp, ib) := by
    unfold storeS at h ⊢
    rw [hev p (by rw [ho]; simp [Op.operands]), hev x (by rw [ho]; simp [Op.operands])]
    refine useR_monoS (fun y r hy hr => useR_mono (fun z r hr => stR_ext (fun q b hq hb => hh q b ?_ hb) hr) hr) h
    exact List.mem_map.2 ⟨_, hM q (hy q hq), rfl⟩
  have hold' : σ'.h.look ib.1 = some old := hh _ _ (List.mem_map.2 ⟨_, hiM, rfl⟩) hold
  have hk : kR (storeS P σ' t p x) (fun ib' => ({ σ' with h := σ'.h.set ib'.1 ib'.2 } : St) = { σ' with h := σ'.h.set ib.1 ib.2 }) := by rw [hs']; exact ⟨hp, rfl⟩
  have hv : useV true (σ'.ev p) fun p' => useV true (σ'.ev x) fun x' => storeV P σ'.h t p' x' fun h' => ({ σ' with h := h' } : St) = { σ' with h := σ'.h.set ib.1 ib.2 } := useR_ok (fun y hy => useR_ok (fun z hz => stR_ok hz) hy) hk
  obtain ⟨σ2, hσ2, hS⟩ := skip_store (K := fun s => s = { σ' with h := σ'.h.set ib.1 ib.2 }) ho hv
  subst hσ2
  obtain ⟨w', hrun, k1, k2⟩ := hS E a w hr
  unfold OW
  rw [if_pos (by simp [Region.wanted, hg])]
  refine .inl ?_
  unfold Oper.wp
  rw [hrun]
  show next (a.put o.dst undef) w'
  have hput : a.put o.dst undef = a := by rw [hd]; rfl
  rw [hput]
  refine hn a w' E { σ' with h := σ'.h.set ib.1 ib.2 } rfl (fun q => ?_) rfl rfl k1 k2 fun q hq => .inl hq
  show (σ'.h.set ib.1 ib.2).look q = _
  rw [Heap.look_set _ _ _ hold']
  simp only [tch]
  split <;> rfl

/-! appends -/
theorem RelF.growAt {w w' : World} {E : Env} {σ : St} {a : Act} {i m : Nat} {hv hv' : Value} {old blk : Blk} (hr : RelF E σ a w) (hnU : ¬ E.U m) (hm : m < σ.nx) (hB : E.B i = some hv) (hl : σ.h.look i = some old) (hg : w.grownBy w' (blockOf hv))
    (hb' : blockOf hv' = blockOf hv ∨ blockOf hv' = some w.heap.size) (hlt : ∀ b, blockOf hv' = some b → b < w'.heap.size) (hone : hv'.oneCell' = true)
    (hblk : Ext E w (E.move i m hv') w' → BlkRel w' (E.move i m hv') blk hv') (hmn : blk.mine = true) :
    RelF (E.move i m hv') { σ with h := (m, blk) :: σ.h.del i } a w' ∧ Ext E w (E.move i m hv') w' ∧ RdV w' (E.move i m hv') (.own m) hv' := by
  have hne : ∀ b, E.S b ∨ E.D b → some b ≠ blockOf hv := fun b hb he => by
    obtain ⟨_, q2, q3⟩ := hr.rel.own i hv b hB he.symm
    exact hb.elim q2 q3
  have hE : Ext E w (E.move i m hv') w' := ⟨hg.os, hg.tape, hg.output, hg.size, fun b hb => hg.block b (hb.elim (hr.rel.slt b) (hr.rel.dlt b)) (hne b hb), fun _ h => h, fun _ h => .inl h, fun _ => .rfl, fun _ h => .inr h, fun q hq v hv => by
    simp only [Env.move] at hv
    split at hv
    · rename_i h; subst h; exact (hnU hq).elim
    · split at hv
      · cases hv
      · exact hv, fun q hq v hv => by
    have hqn : q ≠ m := fun h => hnU (h ▸ hq)
    simp only [Env.Is, Env.move, if_neg hqn] at hv
    rcases hv with hv | hv
    · split at hv
      · cases hv
      · exact .inl hv
    · exact .inr hv⟩
  have hfresh : ∀ b, blockOf hv' = some b → (blockOf hv = some b ∨ b = w.heap.size) := fun b hb => by
    rcases hb' with h | h
    · exact .inl (h ▸ hb)
    · rw [hb] at h; injection h with h; exact .inr h
  have hother : ∀ j v b, j ≠ i → E.B j = some v → blockOf v = some b → blockOf hv' ≠ some b := fun j v b hji hBj hb he => by
    rcases hfresh b he with h | h
    · exact hji (hr.rel.apart j i v hv b hBj hB hb h)
    · have := (hr.rel.own j v b hBj hb).1; omega
  refine ⟨⟨⟨fun j blk' hlj => ?_, fun j v hBj => ?_, fun j v hF => ?_, fun j v b hBj hbk => ?_, fun p q vp vq b hBp hBq hbp hbq => ?_, fun b hb => Nat.lt_of_lt_of_le (hr.rel.slt b hb) hg.size, fun b hb => Nat.lt_of_lt_of_le (hr.rel.dlt b hb) hg.size⟩, fun j hj => ?_, hE.rdVs _ hr.fr, hr.defers⟩, hE, ?_⟩
  · simp only [Heap.look] at hlj
    split at hlj
    · rename_i hj
      subst hj
      injection hlj with hlj
      subst hlj
      exact ⟨hv', by rw [at_mine hmn]; simp [Env.move], hblk hE⟩
    · rename_i hj
      rw [Heap.look_del] at hlj
      split at hlj
      · cases hlj
      · rename_i hji
        obtain ⟨v, hBj, hrel⟩ := hr.rel.has j blk' hlj
        cases hmj : blk'.mine with
        | true =>
          rw [at_mine hmj] at hBj
          refine ⟨v, by rw [at_mine hmj]; simp [Env.move, hj, hji, hBj], hrel.keep hE fun b hb => hg.block b (hr.rel.own j v b hBj hb).1 fun he => hji (hr.rel.apart j i v hv b hBj hB hb he.symm)⟩
        | false =>
          cases blk' <;> first | exact ⟨v, hBj, hE.rdT hrel⟩ | simp [Blk.mine] at hmj
  · simp only [Env.move] at hBj
    simp only [Env.move, Heap.look]
    split at hBj
    · rename_i hj; exact ⟨.inl hj, blk, by rw [if_pos hj]⟩
    · rename_i hj
      split at hBj
      · cases hBj
      · rename_i hji
        obtain ⟨q1, q2⟩ := hr.rel.dom j v hBj
        exact ⟨.inr q1, by rw [if_neg hj, Heap.look_del, if_neg hji]; exact q2⟩
  · obtain ⟨q1, q2⟩ := hr.rel.domF j v hF
    refine ⟨.inr q1, ?_⟩
    simp only [Env.move]
    rw [if_neg (fun h => hnU (show E.U m from by rw [← h]; exact q1))]
    split
    · rfl
    · exact q2
  · simp only [Env.move] at hBj
    split at hBj
    · injection hBj with hBj
      subst hBj
      refine ⟨hlt b hbk, ?_⟩
      rcases hfresh b hbk with h | h
      · obtain ⟨_, q2, q3⟩ := hr.rel.own i hv b hB h; exact ⟨q2, q3⟩
      · exact ⟨fun hs => by have := hr.rel.slt b hs; omega, fun hs => by have := hr.rel.dlt b hs; omega⟩
    · split at hBj
      · cases hBj
      · obtain ⟨q1, q2⟩ := hr.rel.own j v b hBj hbk
        exact ⟨Nat.lt_of_lt_of_le q1 hg.size, q2⟩
  · simp only [Env.move] at hBp hBq
    split at hBp
    · rename_i hp
      split at hBq
      · rename_i hq; rw [hp, hq]
      · split at hBq
        · cases hBq
        · rename_i hqi
          injection hBp with hBp; subst hBp
          exact (hother q vq b hqi hBq hbq hbp).elim
    · split at hBp
      · cases hBp
      · rename_i hpi
        split at hBq
        · injection hBq with hBq; subst hBq
          exact (hother p vp b hpi hBp hbp hbq).elim
        · split at hBq
          · cases hBq
          · exact hr.rel.apart p q vp vq b hBp hBq hbp hbq
  · simp only [Env.move] at hj
    rcases hj with rfl | hj
    · exact hm
    · exact hr.bound j hj
  · simp only [RdV]
    refine ⟨hone, .inl rfl, fun v hBj => ?_⟩
    rcases hBj with hBj | hBj
    · simp [Env.move] at hBj; exact hBj
    · exact (hnU (hr.rel.domF _ _ hBj).1).elim
def apR (h : Heap) (e : TypeId) (k by' : Option Nat) (z : Option (List Value)) (s x : V) : RO (Option Nat × Blk) :=
  match k, by', z with
  | some k, some by', some z => apB h e k by' (z.length = k ∧ 0 < k) s (srcV h k x)
  | _, _, _ => none
where
  apB (h : Heap) (e k by' : Nat) (p : Prop) (s : V) (src : Option (List T × List (List V))) : RO (Option Nat × Blk) :=
    match s with
    | .own i => apC e k by' p i (h.look i) src
    | .t (.lit (.slice none 0 0)) => apD e k by' p src
    | _ => none
  apC (e k by' : Nat) (p : Prop) (i : Nat) (b : Option Blk) (src : Option (List T × List (List V))) : RO (Option Nat × Blk) :=
    match b, src with
    | some (.row e' k' d xs), some (_, ys) => some (p ∧ e' = e ∧ k' = k ∧ xs.length + ys.length ≤ maxLen ∧ (xs.length + ys.length) * by' ≤ 140737488355328, (some i, .row e' k' d (xs ++ ys)))
    | _, _ => none
  apD (e k by' : Nat) (p : Prop) (src : Option (List T × List (List V))) : RO (Option Nat × Blk) :=
    match src with
    | some (d, ys) => some (p ∧ ys.length ≤ maxLen ∧ ys.length * by' ≤ 140737488355328, (none, .row e k d ys))
    | none => none
def delO (h : Heap) (t : Option Nat) : Heap :=
  match t with
  | some t => h.del t
  | none => h
def effA (t : Option Nat) (blk : Blk) : Eff :=
  match t with
  | some t => .app t none blk
  | none => .new blk
/-- the append, with any number that is free -/
theorem append_at {P : Program} {o : Oper} {σ : St} {s x : Operand} {t e : TypeId} {s' x' : V} {pp : Prop} {tb : Option Nat × Blk} (ho : o.op = .call { callee := .builtin .append, args := #[s, x], argTypes := #[t, t] }) (ht : P.elemT t = some e)
    (hs : ∀ (w : World) (E : Env) v, RdV w E (σ.ev s) v → RdV w E s' v) (hx : ∀ (w : World) (E : Env) v, RdV w E (σ.ev x) v → RdV w E x' v) (h : apR σ.h e (P.szT e) (P.bytesT e) (P.zeroT e) s' x' = some (pp, tb)) (hp : pp)
    {E : Env} {a : Act} {w : World} {m : Nat} {next : Act → World → Prop} {Q : Exit → Act → World → Prop} (hr : RelF E σ a w) (hnU : ¬ E.U m) (hm : m < σ.nx)
    (hn : ∀ a' w' E', RelF E' (({ σ with h := (m, tb.2) :: delO σ.h tb.1 } : St).put o.dst (.own m)) a' w' → Ext E w E' w' → (∀ q, E'.U q → E.U q ∨ q = m) → next a' w') : o.wp P a w next Q := by
  unfold apR at h
  split at h
  · rename_i k by' z hsz hby hz
    unfold apR.apB at h
    split at h
    · rename_i i
      unfold apR.apC at h
      split at h
      · rename_i e' k' d xs d' ys hl hsrc
        injection h with h; injection h with h1 h2
        subst h1 h2
        obtain ⟨⟨hzl, hk0⟩, rfl, rfl, q1, q2⟩ := hp
        have hz' : (P.zeroT e').map (·.length) = some k' := by rw [hz]; simp [hzl]
        obtain ⟨hv, hB, hrel⟩ := hr.rel.has i _ hl
        obtain ⟨cells, r1, r2, r3, r4⟩ := hrel
        have e1 := hs w E _ (hr.ev s)
        simp only [RdV] at e1
        have e2 := e1.2.2 _ (.inl hB)
        obtain ⟨v', w', news, p1, p2, p2', p3, p4, p5⟩ := append_core (P := P) (ty := o.type) ht hsz hby hz' hk0 r1 (srcV_ok hr.rel (hx w E _ (hr.ev x)) hsrc) q1 q2
        obtain ⟨o1, o2⟩ := ownBlock_eq r1
        obtain ⟨o3, o4⟩ := ownBlock_eq p3
        rw [o1] at p4 p5
        rw [o3] at p5
        have hlen : (xs ++ ys).length = xs.length + ys.length := List.length_append
        obtain ⟨k1, k2, k3⟩ := hr.growAt (blk := .row e' k' d (xs ++ ys)) hnU hm hB hl p4 p5 (fun b hb => (p3.lt b (o3.trans hb)).2) o4 (fun hE => by
          refine ⟨cells ++ news, by rw [hlen]; exact p3, ?_, ?_, ?_⟩
          · rw [List.flatten_append]
            exact RdVs.append (hE.rdVs _ r2) (hE.rdVs _ p2)
          · intro y hy
            rcases List.mem_append.1 hy with hy | hy
            · exact r3 y hy
            · obtain ⟨_, _, _, _, _, _, hyk, _⟩ := srcV_ok hr.rel (hx w E _ (hr.ev x)) hsrc
              exact hyk y hy
          · rw [List.all_append, r4, p2']; rfl) rfl
        unfold Oper.wp
        rw [run_append ho (by rw [e2]; exact p1)]
        exact hn _ w' _ (k1.put o.dst k3) k2 fun q hq => hq.elim .inr .inl
      · cases h
    · unfold apR.apD at h
      split at h
      · rename_i d ys hsrc
        injection h with h; injection h with h1 h2
        subst h1 h2
        obtain ⟨⟨hzl, hk0⟩, q1, q2⟩ := hp
        have hz' : (P.zeroT e).map (·.length) = some k := by rw [hz]; simp [hzl]
        have e1 := (rdV_lit_inv (hs w E _ (hr.ev s))).1
        have hsr := srcV_ok hr.rel (hx w E _ (hr.ev x)) hsrc
        obtain ⟨v', w', news, p1, p2, p2', p3, p4, p5⟩ := append_core (P := P) (ty := o.type) (xs := []) ht hsz hby hz' hk0 (World.ownsRow_nil w 0 e k) hsr (by simpa using q1) (by simpa using q2)
        obtain ⟨o3, o4⟩ := ownBlock_eq p3
        have hbel : Below w.heap.size w w' := ⟨p4.os, p4.tape, p4.output, p4.size, fun b hb => p4.block b hb (by simp [Value.ownBlock])⟩
        obtain ⟨k1, k2, k3⟩ := hr.addAt (blk := .row e k d ys) hnU hm hbel (fun E' hE => by
          refine ⟨news, by simpa using p3, hE.rdVs _ p2, ?_, p2'⟩
          obtain ⟨_, _, _, _, _, _, hyk, _⟩ := hsr
          exact hyk) (fun b hb => by
          rw [o3] at p5
          rcases p5 with h | h
          · rw [h] at hb; simp [Value.ownBlock] at hb
          · rw [h] at hb; injection hb with hb; subst hb
            exact ⟨Nat.le_refl _, (p3.lt _ (o3.trans h)).2⟩) o4 rfl
        unfold Oper.wp
        rw [run_append ho (by rw [e1]; exact p1)]
        exact hn _ w' _ (k1.put o.dst k3) k2 fun q hq => hq.elim .inr .inl
      · cases h
    · cases h
  · cases h

theorem srcV_ext {h h' : Heap} {k : Nat} {x : V} {r : List T × List (List V)} (he : HeapOn x.ment h h') (hr : srcV h k x = some r) : srcV h' k x = some r := by
  unfold srcV at hr ⊢
  split at hr
  · exact hr
  · rename_i i
    cases hl : h.look i with
    | none => rw [hl] at hr; cases hr
    | some b => rw [hl] at hr; rw [he i b (by simp [V.ment]) hl]; exact hr
  · exact hr
  · cases hr
theorem apR_ext {h h' : Heap} {e : TypeId} {k by' : Option Nat} {z : Option (List Value)} {s x : V} {r : Prop × Option Nat × Blk} (he : HeapOn s.ment h h') (he' : HeapOn x.ment h h') (hr : apR h e k by' z s x = some r) : apR h' e k by' z s x = some r := by
  unfold apR at hr ⊢
  split at hr
  · rename_i k by' z
    unfold apR.apB at hr ⊢
    split at hr
    · rename_i i
      cases hl : h.look i with
      | none => rw [hl] at hr; simp [apR.apC] at hr
      | some b =>
        cases hs : srcV h k x with
        | none => rw [hl, hs] at hr; unfold apR.apC at hr; split at hr <;> first | (cases hr; done) | (rename_i hh; cases hh)
        | some q => rw [hl, hs] at hr; rw [he i b (by simp [V.ment]) hl, srcV_ext he' hs]; exact hr
    · cases hs : srcV h k x with
      | none => rw [hs] at hr; simp [apR.apD] at hr
      | some q => rw [hs] at hr; rw [srcV_ext he' hs]; exact hr
    · cases hr
  · cases hr
theorem apR_look {h : Heap} {e : TypeId} {k by' : Option Nat} {z : Option (List Value)} {s x : V} {r : Prop × Option Nat × Blk} (hr : apR h e k by' z s x = some r) {t : Nat} (ht : r.2.1 = some t) : t ∈ s.ment := by
  unfold apR at hr
  split at hr
  · unfold apR.apB at hr
    split at hr
    · unfold apR.apC at hr
      split at hr
      · injection hr with hr; subst hr; injection ht with ht; subst ht; simp [V.ment]
      · cases hr
    · unfold apR.apD at hr
      split at hr
      · injection hr with hr; subst hr; cases ht
      · cases hr
    · cases hr
  · cases hr
theorem strip_ok {w : World} {E : Env} {X : V} {v : Value} (h : (strip true X).1) (hx : RdV w E X v) : RdV w E (strip true X).2 v := by
  cases X with
  | cond g y =>
    simp only [RdV] at hx
    exact hx.1 (h rfl)
  | _ => exact hx
theorem useR_inv2 {α : Type} {s : Prop × V} {f : V → RO α} {r : Prop × α} (h : useR s f = some r) : ∃ r', f s.2 = some r' ∧ r'.2 = r.2 ∧ (r.1 → s.1 ∧ r'.1) := by
  obtain ⟨p, y⟩ := s
  have h' : andR p (f y) = some r := h
  cases hy : f y with
  | none => rw [hy] at h'; cases h'
  | some q =>
    rw [hy] at h'
    obtain ⟨q1, q2⟩ := q
    injection h' with h'
    subst h'
    exact ⟨_, rfl, rfl, fun h => h⟩
def appS (P : Program) (σ : St) (e : Option TypeId) (s x : Operand) : RO (Option Nat × Blk) :=
  match e with
  | some e => useR (strip true (σ.ev s)) fun s' => useR (strip true (σ.ev x)) fun x' => apR σ.h e (P.szT e) (P.bytesT e) (P.zeroT e) s' x'
  | none => none
theorem vld_app {P : Program} {ops : List Oper} {n0 i : Nat} {o : Oper} {σ : St} {pp : Prop} {tb : Option Nat × Blk} {t : TypeId} {s x : Operand} {M : List (Nat × Bool)} (hg : o.guard = none)
    (ho : o.op = .call { callee := .builtin .append, args := #[s, x], argTypes := #[t, t] }) (h : appS P σ (P.elemT t) s x = some (pp, tb)) (hp : pp)
    (hM : ∀ q ∈ (σ.ev s).ment, (q, true) ∈ M) (hM2 : ∀ q ∈ (σ.ev x).ment, q ∈ M.map (·.1)) : Vld P ops n0 i o σ ⟨o.dst, .own (n0 + i), effA tb.1 tb.2⟩ M := by
  cases hte : P.elemT t with
  | none => rw [hte] at h; cases h
  | some e =>
    rw [hte] at h
    have h : (useR (strip true (σ.ev s)) fun s' => useR (strip true (σ.ev x)) fun x' => apR σ.h e (P.szT e) (P.bytesT e) (P.zeroT e) s' x') = some (pp, tb) := h
    obtain ⟨r1, h1, e1, c1⟩ := useR_inv2 h
    obtain ⟨r2, h2, e2, c2⟩ := useR_inv2 h1
    obtain ⟨cs, c1⟩ := c1 hp
    obtain ⟨cx, c2⟩ := c2 c1
    have eib : r2.2 = tb := by rw [e2, e1]
    refine ⟨rfl, fun t' blk hh => ?_, fun σ' hnx hev hh _ E a w next Q hr hlt hnU hn => ?_⟩
    · have ht : r2.2.1 = some t' := by
        rw [eib]
        cases htb : tb.1 with
        | none => rw [htb] at hh; rcases hh with hh | ⟨_, hh⟩ <;> cases hh
        | some q => rw [htb] at hh; rcases hh with hh | ⟨_, hh⟩ <;> cases hh; rfl
      exact hM _ (strip_ment _ (apR_look h2 ht))
    · have es : σ'.ev s = σ.ev s := hev s (by rw [ho]; simp [Op.operands, Call.operands])
      have ex : σ'.ev x = σ.ev x := hev x (by rw [ho]; simp [Op.operands, Call.operands])
      have h3 := apR_ext (h' := σ'.h) (fun q b hq hb => hh q b (List.mem_map.2 ⟨_, hM q (strip_ment q hq), rfl⟩) hb) (fun q b hq hb => hh q b (hM2 q (strip_ment q hq)) hb) h2
      have h4 : apR σ'.h e (P.szT e) (P.bytesT e) (P.zeroT e) (strip true (σ.ev s)).2 (strip true (σ.ev x)).2 = some (r2.1, tb) := by rw [h3, ← eib]
      unfold OW
      rw [if_pos (by simp [Region.wanted, hg])]
      refine .inl (append_at ho hte (fun w E v hv => strip_ok cs (by rw [← es]; exact hv)) (fun w E v hv => strip_ok cx (by rw [← ex]; exact hv)) h4 c2 hr hnU (by omega) fun a' w' E' k1 k2 k3 => hn a' w' E' _ ?_ (fun q => ?_) ?_ (by rw [put_df]) k1 k2 k3)
      · rw [put_setO]
      · rw [put_h]
        simp only [Heap.look]
        cases htb : tb.1 with
        | none =>
          simp only [effA, tch, delO]
          split <;> rfl
        | some q' =>
          simp only [effA, tch, delO]
          rw [Heap.look_del]
          split
          · rfl
          · split <;> rfl
      · rw [put_nx]
end Go.Proofs.Ytnbmiejjkkgckaa
