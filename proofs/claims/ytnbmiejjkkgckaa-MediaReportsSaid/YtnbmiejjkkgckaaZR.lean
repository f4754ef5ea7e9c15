/- Proved here: Calls on the abstract machine that write to a variable behind a pointer, for use in the proofs of the given statements; conditions stand in each theorem. -/
import Derived.Test.YtnbmiejjkkgckaaZQ
set_option linter.unusedSimpArgs false
set_option linter.unusedVariables false
namespace Go.Proofs.Ytnbmiejjkkgckaa
open Go.RowKit

def retI (P : Program) (rs : List ResultVar) (K : V → St → Prop) (e : Exit) (σ : St) : Prop :=
  match e with
  | .ret | .normal => match resVs P σ rs with
    | some xs => NopDs P σ.df ∧ K (tupV xs) σ
    | none => False
  | _ => False
theorem retI_inv {P : Program} {rs : List ResultVar} {K : V → St → Prop} {e : Exit} {σ : St} (h : retI P rs K e σ) : (e = .ret ∨ e = .normal) ∧ ∃ xs, resVs P σ rs = some xs ∧ NopDs P σ.df ∧ K (tupV xs) σ := by
  cases e with
  | normal => simp only [retI] at h; split at h <;> first | exact ⟨.inr rfl, _, by assumption, h⟩ | exact h.elim
  | ret => simp only [retI] at h; split at h <;> first | exact ⟨.inl rfl, _, by assumption, h⟩ | exact h.elim
  | exit _ => exact h.elim
  | goto _ => exact h.elim
  | panic _ => exact h.elim
  | outgrown => exact h.elim

/-- a function's text, from its entry to its end -/
theorem calls_of_awp {P : Program} {f : FuncId} {fn : Func} {c : Code} {args : List V} {n n0 nx : Nat} {rs : List ResultVar} {h0 : Heap} {K : V → St → Prop} {R : Ending → World → Prop} (hf : P.funcs[f]? = some fn) (hb : fn.body = some c) (hn : fn.ntmps = n)
    (hrs : fn.results.toList = rs) (h : AWP P n0 c (retI P rs K) (entry P n args h0 nx)) {E : Env} {w : World} {vs : List Value} (hr : Rel w E h0) (hbd : ∀ i, E.U i → i < nx) (hU : ∀ i, E.U i → i < n0) (hargs : RdVs w E args vs)
    (hR : ∀ v x σ' E' a' w', RelF E' σ' a' w' → Ext E w E' w' → RdV w' E' x v → K x σ' → R (.returned v) w') : Calls P f vs.toArray w R := by
  refine calls_of_wp_defers hf hb ?_
  have hlen := RdVs.len hargs
  have hrel : RelF E (entry P n args h0 nx) { tmps := vs.toArray ++ Array.replicate (fn.ntmps - vs.toArray.size) undef, defers := [] } w := by
    refine ⟨hr, hbd, ?_, trivial⟩
    have e1 : (vs.toArray ++ Array.replicate (fn.ntmps - vs.toArray.size) undef).toList = vs ++ List.replicate (n - args.length) undef := by
      rw [hn, hlen]; simp
    show RdVs w E (args ++ List.replicate (n - args.length) .dead) _
    rw [e1]
    exact RdVs.append hargs (rdVs_dead _)
  refine wp_mono (h E _ w hrel E w hU (Ext.refl _ _)) ?_
  rintro e a' w' ⟨σ', E', h1, h2, h3⟩
  obtain ⟨he, xs, hxs, hnop, hK⟩ := retI_inv h3
  obtain ⟨v, hv, hrv⟩ := run_results (fn := fn) h1 (by rw [hrs]; exact hxs)
  rcases he with rfl | rfl
  · exact leaves_nops _ _ h1.defers hnop ⟨v, hv, hR v _ σ' E' a' w' h1 h2 hrv hK⟩
  · exact leaves_nops _ _ h1.defers hnop ⟨v, hv, hR v _ σ' E' a' w' h1 h2 hrv hK⟩

/-- the call, walked in the caller's own state -/
theorem icall_of {P : Program} {σ : St} {d : Option Tmp} {f : FuncId} {fn : Func} {c : Code} {xs : List V} {n : Nat} {rs : List ResultVar} {K : St → Prop} (he : P.enters f = true) (hf : P.funcs[f]? = some fn) (hb : fn.body = some c) (hn : fn.ntmps = n) (hrs : fn.results.toList = rs)
    (h : AWP P σ.nx c (retI P rs fun x σ' => K (({ σ with h := σ'.h, nx := σ'.nx } : St).put d x)) (entry P n xs σ.h σ.nx)) : ICall P σ d f xs K :=
  ⟨he, fun E w vs hr hbd hargs => calls_of_awp hf hb hn hrs h hr hbd hbd hargs fun v x σ' E' a' w' h1 h2 h3 hK => ⟨v, x, σ'.h, σ'.nx, E', rfl, h1.rel, h1.bound, h2, h3, hK⟩⟩

/-! a pointer to a variable as the first argument -/
def CBox (P : Program) (f : FuncId) (cs args : List V) (r : V) (cs' : List V) : Prop :=
  P.enters f = true ∧ ∀ (w : World) (S : Nat → Prop) (b : Nat) (ty : TypeId) (cells : Array Value) (vs : List Value), (∀ x, S x → x < w.heap.size) → ¬ S b → w.heap[b]? = some (.cells cells ty (0, 0)) → RdVs w (bareE S) cs cells.toList →
    cells.toList.all (·.oneCell') = true → RdVs w (bareE S) args vs → Calls P f (.pointer (some ⟨b, 0, none⟩) :: vs).toArray w fun e w' => ∃ v S' ty' cells', e = .returned v ∧ (∀ x, S x → S' x) ∧ (∀ x, S' x → S x ∨ w.heap.size ≤ x) ∧
      (∀ x, S' x → x < w'.heap.size) ∧ RdV w' (bareE S') r v ∧ w'.heap[b]? = some (.cells cells' ty' (0, 0)) ∧ RdVs w' (bareE S') cs' cells'.toList ∧ cells'.toList.all (·.oneCell') = true ∧ w.grownBy w' (some b) ∧ ¬ S' b
def boxK1 (b : Option Blk) (h : Heap) (cs' : List V) : Prop :=
  match b with
  | some (.box cs) => V.lends h cs = cs' ∧ V.pures cs' = true
  | _ => False
def boxK (r : V) (cs' : List V) (x : V) (σ : St) : Prop := x.lend σ.h = r ∧ r.pure = true ∧ boxK1 (σ.h.look 0) σ.h cs'
theorem cbox_of {P : Program} {f : FuncId} {fn : Func} {c : Code} {cs args cs' : List V} {r : V} {n : Nat} {rs : List ResultVar} (he : P.enters f = true) (hf : P.funcs[f]? = some fn) (hb : fn.body = some c) (hn : fn.ntmps = n) (hrs : fn.results.toList = rs)
    (h : AWP P 1 c (retI P rs (boxK r cs')) (entry P n (.own 0 :: args) [(0, .box cs)] 1)) : CBox P f cs args r cs' := by
  refine ⟨he, fun w S b ty cells vs hS hSb hh hcs hones hargs => ?_⟩
  let E0 : Env := ⟨S, fun i => if i = 0 then some (.pointer (some ⟨b, 0, none⟩)) else none, fun i => i = 0, fun x => x < w.heap.size ∧ x ≠ b, fun _ => none⟩
  have hbl : b < w.heap.size := (Array.getElem?_eq_some_iff.1 hh).1
  have hrel : Rel w E0 [(0, .box cs)] := by
    refine ⟨fun i blk hl => ?_, fun i hv hB => ?_, fun i hv hF => (by cases hF), fun i hv b' hB hbk => ?_, fun i j hi hj b' hBi hBj _ _ => ?_, hS, fun x hx => hx.1⟩
    · simp only [Heap.look] at hl
      split at hl
      · rename_i h0
        injection hl with hl
        subst hl
        exact ⟨.pointer (some ⟨b, 0, none⟩), by simp [E0, h0, Env.at], b, cells, ty, rfl, hh, RdVs.unbare (E := E0) cs hcs, hones⟩
      · cases hl
    · simp only [E0] at hB
      split at hB
      · rename_i h0; exact ⟨h0, .box cs, by simp [Heap.look, h0]⟩
      · cases hB
    · simp only [E0] at hB
      split at hB
      · injection hB with hB
        subst hB
        simp only [blockOf, Option.some.injEq] at hbk
        subst hbk
        exact ⟨hbl, hSb, fun hd => hd.2 rfl⟩
      · cases hB
    · simp only [E0] at hBi hBj
      split at hBi
      · split at hBj
        · rename_i h1 h2; rw [h1, h2]
        · cases hBj
      · cases hBi
  refine calls_of_awp hf hb hn hrs h hrel (fun i hi => by have : i = 0 := hi; omega) (fun i hi => by have : i = 0 := hi; omega) (vs := .pointer (some ⟨b, 0, none⟩) :: vs) ?_ ?_
  · simp only [RdVs, RdV]
    exact ⟨⟨rfl, rfl, fun hv hB => by simp [E0, Env.Is] at hB; exact hB⟩, RdVs.unbare (E := E0) args hargs⟩
  · intro v x σ' E' a' w' h1 h2 h3 hK
    obtain ⟨k1, k2, k3⟩ := hK
    unfold boxK1 at k3
    split at k3
    · rename_i cs2 hl
      obtain ⟨k4, k5⟩ := k3
      obtain ⟨b', cells', ty', hB, hh', hcs', hones'⟩ := box_at h1.rel hl
      have hbb : b' = b := by
        have := h2.B 0 rfl _ hB
        simp [E0] at this
        exact this.symm
      subst hbb
      refine ⟨v, lentS E' σ'.h, ty', cells', rfl, fun x hx => .inl (h2.S x hx), fun x hx => ?_, fun x hx => ?_, ?_, hh', ?_, hones', ⟨h2.os, h2.tape, h2.output, h2.size, fun k hk hne => h2.keep k (.inr ⟨hk, fun e => hne (by rw [e])⟩)⟩, fun hsb => ?_⟩
      · rcases hx with hx | ⟨i, hv', _, _, _, _, hB', _, hbk⟩
        · rcases h2.S' x hx with q | q
          · exact .inl q
          · by_cases hxb : x = b'
            · subst hxb; exact ((h1.rel.own 0 _ x hB rfl).2.1 hx).elim
            · exact .inr (Nat.le_of_not_lt fun hlt => q ⟨hlt, hxb⟩)
        · have q := (h1.rel.own i hv' x hB' hbk).2.2
          by_cases hxb : x = b'
          · subst hxb
            have hi0 := h1.rel.apart i 0 hv' _ x hB' hB hbk rfl
            subst hi0
            rw [hB] at hB'
            rename_i hlk
            rw [hl] at hlk
            cases hlk
          · exact .inr (Nat.le_of_not_lt fun hlt => q ((h2.D x).2 ⟨hlt, hxb⟩))
      · rcases hx with hx | ⟨i, hv', _, _, _, _, hB', _, hbk⟩
        · exact h1.rel.slt x hx
        · exact (h1.rel.own i hv' x hB' hbk).1
      · have := RdV.lend h1.rel x (by rw [k1]; exact k2) h3
        rw [k1] at this
        exact this
      · have := RdVs.lend h1.rel cs2 (by rw [k4]; exact k5) hcs'
        rw [k4] at this
        exact this
      · rcases hsb with hx | ⟨i, hv', _, _, _, _, hB', hlk, hbk⟩
        · exact (h1.rel.own 0 _ b' hB rfl).2.1 hx
        · have hi0 := h1.rel.apart i 0 hv' _ b' hB' hB hbk rfl
          subst hi0
          rw [hl] at hlk
          cases hlk
    · exact k3.elim

theorem cbox_use {P : Program} {h : Heap} {f : FuncId} {i : Nat} {cs args cs' : List V} {r : V} (hc : CBox P f cs args r cs') (hl : h.look i = some (.box cs)) (hp : V.pures cs = true) (ha : V.pures args = true) {E : Env} {w : World} {vs : List Value}
    (hr : Rel w E h) (hargs : RdVs w E (.own i :: args) vs) : Calls P f vs.toArray w fun e w' => ∃ v E', e = .returned v ∧ Rel w' E' (h.set i (.box cs')) ∧ Ext E w E' w' ∧ RdV w' E' r v ∧ ∀ q, E'.U q → E.U q := by
  cases vs with
  | nil => simp only [RdVs] at hargs
  | cons v0 vs =>
    simp only [RdVs, RdV] at hargs
    obtain ⟨⟨_, hUi, hv0⟩, hargs⟩ := hargs
    obtain ⟨b, cells, ty, hB, hh, hcs, hones⟩ := box_at hr hl
    rw [hv0 _ (.inl hB)]
    obtain ⟨ob1, ob2, ob3⟩ := hr.own i _ b hB rfl
    refine (hc.2 w E.S b ty cells vs hr.slt ob2 hh (RdVs.bare cs hp hcs) hones (RdVs.bare args ha hargs)).mono ?_
    rintro e w' ⟨v, S', ty', cells', rfl, s1, s2, s3, hrv, hh', hcs', hones', hg, hSb⟩
    let E' : Env := { E with S := S' }
    have hE : Ext E w E' w' := by
      refine ⟨hg.os, hg.tape, hg.output, hg.size, fun k hk => hg.block k (hk.elim (hr.slt k) (hr.dlt k)) fun e => ?_, s1, fun k hk => (s2 k hk).imp id fun hlt hd => ?_, fun _ => .rfl, fun _ h => h, fun _ _ _ h => h, fun _ _ _ h => h⟩
      · injection e with e
        subst e
        exact hk.elim ob2 ob3
      · have := hr.dlt k hd; omega
    refine ⟨v, E', rfl, ⟨fun j blk hlj => ?_, fun j hv hBj => ?_, hr.domF, fun j hv b' hBj hbk => ?_, hr.apart, s3, fun k hk => Nat.lt_of_lt_of_le (hr.dlt k hk) hg.size⟩, hE, RdV.unbare (E := E') r hrv, fun _ h => h⟩
    · rw [Heap.look_set _ _ _ hl] at hlj
      split at hlj
      · rename_i hji
        subst hji
        injection hlj with hlj
        subst hlj
        exact ⟨_, hB, b, cells', ty', rfl, hh', RdVs.unbare (E := E') cs' hcs', hones'⟩
      · rename_i hji
        obtain ⟨hv, hBj, hrel⟩ := hr.has j blk hlj
        cases hmj : blk.mine with
        | true =>
          have hBj' : E.B j = some hv := by rw [← at_mine hmj]; exact hBj
          refine ⟨hv, hBj, hrel.keep hE fun b' hb' => hg.block b' (hr.own j hv b' hBj' hb').1 fun e => ?_⟩
          injection e with e
          subst e
          exact hji (hr.apart j i hv _ b' hBj' hB hb' rfl)
        | false =>
          cases blk <;> first | exact ⟨hv, hBj, hE.rdT hrel⟩ | simp [Blk.mine] at hmj
    · obtain ⟨q1, q2⟩ := hr.dom j hv hBj
      refine ⟨q1, ?_⟩
      rw [Heap.look_set _ _ _ hl]
      split
      · exact ⟨_, rfl⟩
      · exact q2
    · obtain ⟨o1, o2, o3⟩ := hr.own j hv b' hBj hbk
      refine ⟨Nat.lt_of_lt_of_le o1 hg.size, fun hs => ?_, o3⟩
      rcases s2 b' hs with h | h
      · exact o2 h
      · omega
theorem icall_box {P : Program} {σ : St} {d : Option Tmp} {f : FuncId} {i : Nat} {cs args cs' : List V} {r : V} {K : St → Prop} (hc : CBox P f cs args r cs') (hl : σ.h.look i = some (.box cs)) (hp : V.pures cs = true) (ha : V.pures args = true)
    (hK : K (({ σ with h := σ.h.set i (.box cs') } : St).put d r)) : ICall P σ d f (.own i :: args) K :=
  ⟨hc.1, fun E w vs hr hbd hargs => (cbox_use hc hl hp ha hr hargs).mono fun e w' ⟨v, E', he, h1, h2, h3, h4⟩ => ⟨v, r, _, σ.nx, E', he, h1, fun q hq => hbd q (h4 q hq), h2, h3, hK⟩⟩
attribute [go_sem] retI boxK boxK1
end Go.Proofs.Ytnbmiejjkkgckaa
/- Proved here: Regions that draw their order and make blocks, on the abstract machine: the effects of the operations, for use in the proofs of the given statements; conditions stand in each theorem. -/
set_option linter.unusedSimpArgs false
set_option linter.unusedVariables false
set_option linter.unnecessarySimpa false
namespace Go.Proofs.Ytnbmiejjkkgckaa
open Go.RowKit

/-! what an operation does: a slot, and a block -/
inductive Eff where
  | none
  | new (blk : Blk)
  | upd (t : Nat) (blk : Blk)
  | app (t : Nat) (blk : Blk)
structure Rec where
  d : Option Tmp
  x : V
  e : Eff
def setO (fr : List V) (d : Option Tmp) (x : V) : List V :=
  match d with
  | some t => fr.set t x
  | none => fr
def tch (n0 i : Nat) (e : Eff) (q : Nat) : Option (Option Blk) :=
  match e with
  | .none => none
  | .new blk => if q = n0 + i then some (some blk) else none
  | .upd t blk => if q = t then some (some blk) else none
  | .app t blk => if q = n0 + i then some (some blk) else if q = t then some none else none
def orB (a : Option (Option Blk)) (b : Option Blk) : Option Blk :=
  match a with
  | some x => x
  | none => b
theorem tch_inv {n0 i q : Nat} {e : Eff} (h : tch n0 i e q ≠ none) : q = n0 + i ∨ ∃ t blk, (e = .upd t blk ∨ e = .app t blk) ∧ q = t := by
  cases e with
  | none => exact (h rfl).elim
  | new blk =>
    simp only [tch] at h
    by_cases hq : q = n0 + i
    · exact .inl hq
    · rw [if_neg hq] at h; exact (h rfl).elim
  | upd t blk =>
    simp only [tch] at h
    by_cases hq : q = t
    · exact .inr ⟨t, blk, .inl rfl, hq⟩
    · rw [if_neg hq] at h; exact (h rfl).elim
  | app t blk =>
    simp only [tch] at h
    by_cases hq : q = n0 + i
    · exact .inl hq
    · rw [if_neg hq] at h
      by_cases hq : q = t
      · exact .inr ⟨t, blk, .inr rfl, hq⟩
      · rw [if_neg hq] at h; exact (h rfl).elim

def frX (X : Nat → Bool) : Nat → List Rec → List V → List V
  | _, [], fr => fr
  | i, r :: rs, fr => frX X (i + 1) rs (if X i = true then setO fr r.d r.x else fr)
def lkX (n0 : Nat) (X : Nat → Bool) (q : Nat) : Nat → List Rec → Option Blk → Option Blk
  | _, [], b => b
  | i, r :: rs, b => lkX n0 X q (i + 1) rs (if X i = true then orB (tch n0 i r.e q) b else b)

theorem setO_len {fr : List V} {d : Option Tmp} {x : V} : (setO fr d x).length = fr.length := by cases d <;> simp [setO]
theorem setO_ne {fr : List V} {d : Option Tmp} {x : V} {t : Nat} (h : d ≠ some t) : (setO fr d x).getD t .dead = fr.getD t .dead := by
  cases d with
  | none => rfl
  | some u =>
    have : u ≠ t := fun e => h (by rw [e])
    simp [setO, List.getD_eq_getElem?_getD, List.getElem?_set_ne this]
theorem setO_eq {fr fr' : List V} {x : V} {t : Nat} (h : fr.length = fr'.length) : (setO fr (some t) x).getD t .dead = (setO fr' (some t) x).getD t .dead := by
  simp only [setO, List.getD_eq_getElem?_getD, List.getElem?_set_self']
  by_cases ht : t < fr.length
  · rw [List.getElem?_eq_getElem ht, List.getElem?_eq_getElem (h ▸ ht)]; rfl
  · rw [List.getElem?_eq_none (by omega), List.getElem?_eq_none (by omega)]
theorem setO_comm {fr : List V} {d e : Option Tmp} {x y : V} (h : ∀ t, d = some t → e ≠ some t) : setO (setO fr d x) e y = setO (setO fr e y) d x := by
  cases d with
  | none => rfl
  | some t =>
    cases e with
    | none => rfl
    | some u =>
      have : t ≠ u := fun h' => h t rfl (by rw [h'])
      simp only [setO]
      rw [List.set_comm _ _ this]

theorem frX_len {X : Nat → Bool} : ∀ (rs : List Rec) (i : Nat) (fr : List V), (frX X i rs fr).length = fr.length
  | [], i, fr => rfl
  | r :: rs, i, fr => by
    unfold frX
    rw [frX_len rs (i + 1)]
    split
    · exact setO_len
    · rfl
/-- the slot reads the same, if the writers of the slot are in both sets or in none -/
theorem frX_same {X Y : Nat → Bool} {t : Nat} : ∀ (rs : List Rec) (i : Nat) (fr fr' : List V), (∀ j r, rs[j]? = some r → r.d = some t → X (i + j) = Y (i + j)) → fr.length = fr'.length → fr.getD t .dead = fr'.getD t .dead →
    (frX X i rs fr).getD t .dead = (frX Y i rs fr').getD t .dead
  | [], i, fr, fr', _, _, h => h
  | r :: rs, i, fr, fr', hs, hl, h => by
    unfold frX
    refine frX_same rs (i + 1) _ _ (fun j r' hj hd => ?_) ?_ ?_
    · have := hs (j + 1) r' (by simpa using hj) hd
      rwa [show i + 1 + j = i + (j + 1) by omega]
    · split <;> split <;> simp only [setO_len, hl]
    · by_cases hd : r.d = some t
      · have := hs 0 r (by simp) hd
        rw [Nat.add_zero] at this
        rw [this]
        split
        · rw [hd]; exact setO_eq hl
        · exact h
      · split <;> split <;> simp only [setO_ne hd, h]
theorem frX_out {X : Nat → Bool} : ∀ (rs : List Rec) (i : Nat) (fr : List V), (∀ j, j < rs.length → X (i + j) = false) → frX X i rs fr = fr
  | [], i, fr, _ => rfl
  | r :: rs, i, fr, h => by
    unfold frX
    have h0 := h 0 (by simp)
    rw [Nat.add_zero] at h0
    rw [h0, if_neg (by simp), frX_out rs (i + 1) fr fun j hj => ?_]
    have := h (j + 1) (by simpa using hj)
    rwa [show i + 1 + j = i + (j + 1) by omega]
theorem frX_set {X : Nat → Bool} {d : Option Tmp} {x : V} : ∀ (rs : List Rec) (i : Nat) (fr : List V), (∀ j r, rs[j]? = some r → X (i + j) = true → ∀ t, r.d = some t → d ≠ some t) → frX X i rs (setO fr d x) = setO (frX X i rs fr) d x
  | [], i, fr, _ => rfl
  | r :: rs, i, fr, h => by
    unfold frX
    rw [← frX_set rs (i + 1) _ fun j r' hj hX => h (j + 1) r' (by simpa using hj) (by rwa [show i + (j + 1) = i + 1 + j by omega])]
    by_cases h0 : X i = true
    · rw [if_pos h0, if_pos h0, setO_comm fun t ht e => h 0 r (by simp) (by simpa using h0) t e ht]
    · rw [if_neg h0, if_neg h0]
def addX (X : Nat → Bool) (k : Nat) : Nat → Bool := fun j => X j || j == k
/-- one more -/
theorem frX_add {X : Nat → Bool} {r : Rec} {k : Nat} (hX : X k = false) : ∀ (rs : List Rec) (i : Nat) (fr : List V), i ≤ k → rs[k - i]? = some r → (∀ j r', rs[j]? = some r' → i + j ≠ k → X (i + j) = true → ∀ t, r'.d = some t → r.d ≠ some t) →
    frX (addX X k) i rs fr = setO (frX X i rs fr) r.d r.x
  | [], i, fr, _, hr, _ => by simp at hr
  | r0 :: rs, i, fr, hi, hr, hd => by
    unfold frX
    by_cases hik : i = k
    · subst hik
      rw [Nat.sub_self] at hr
      simp at hr
      subst hr
      have e1 : addX X i i = true := by simp [addX]
      rw [e1, hX, if_pos rfl, if_neg (by simp)]
      have e2 : ∀ (rs : List Rec) (k' : Nat) (fr : List V), i < k' → frX (addX X i) k' rs fr = frX X k' rs fr := by
        intro rs
        induction rs with
        | nil => intros; rfl
        | cons r1 rs ih =>
          intro k' fr hk'
          unfold frX
          have : addX X i k' = X k' := by simp [addX]; omega
          rw [this, ih _ _ (by omega)]
      rw [e2 _ _ _ (by omega)]
      refine frX_set rs (i + 1) fr fun j r' hj hX' t ht => ?_
      exact hd (j + 1) r' (by simpa using hj) (by omega) (by rwa [show i + (j + 1) = i + 1 + j by omega]) t ht
    · have e1 : addX X k i = X i := by simp [addX, hik]
      rw [e1]
      refine frX_add hX rs (i + 1) _ (by omega) ?_ fun j r' hj hne hX' => hd (j + 1) r' (by simpa using hj) (by omega) (by rwa [show i + (j + 1) = i + 1 + j by omega])
      have : k - i = (k - (i + 1)) + 1 := by omega
      rw [this] at hr
      simpa using hr

/-! the same of the blocks -/
theorem lkX_same {n0 q : Nat} {X Y : Nat → Bool} : ∀ (rs : List Rec) (i : Nat) (b : Option Blk), (∀ j r, rs[j]? = some r → tch n0 (i + j) r.e q ≠ none → X (i + j) = Y (i + j)) → lkX n0 X q i rs b = lkX n0 Y q i rs b
  | [], i, b, _ => rfl
  | r :: rs, i, b, hs => by
    unfold lkX
    have e1 : (if X i = true then orB (tch n0 i r.e q) b else b) = (if Y i = true then orB (tch n0 i r.e q) b else b) := by
      cases ht : tch n0 i r.e q with
      | none => simp [orB]
      | some blk =>
        have := hs 0 r (by simp) (by rw [Nat.add_zero, ht]; simp)
        rw [Nat.add_zero] at this
        rw [this]
    rw [e1]
    exact lkX_same rs (i + 1) _ fun j r' hj hd => by
      have := hs (j + 1) r' (by simpa using hj) (by rwa [show i + (j + 1) = i + 1 + j by omega])
      rwa [show i + 1 + j = i + (j + 1) by omega]
theorem lkX_out {n0 q : Nat} {X : Nat → Bool} : ∀ (rs : List Rec) (i : Nat) (b : Option Blk), (∀ j r, rs[j]? = some r → X (i + j) = true → tch n0 (i + j) r.e q = none) → lkX n0 X q i rs b = b
  | [], i, b, _ => rfl
  | r :: rs, i, b, h => by
    unfold lkX
    have e1 : (if X i = true then orB (tch n0 i r.e q) b else b) = b := by
      split
      · rename_i hx
        have := h 0 r (by simp) (by simpa using hx)
        rw [Nat.add_zero] at this
        rw [this]; rfl
      · rfl
    rw [e1]
    exact lkX_out rs (i + 1) b fun j r' hj hX => by
      have := h (j + 1) r' (by simpa using hj) (by rwa [show i + (j + 1) = i + 1 + j by omega])
      rwa [show i + 1 + j = i + (j + 1) by omega]
theorem lkX_add {n0 q : Nat} {X : Nat → Bool} {r : Rec} {k : Nat} (hX : X k = false) : ∀ (rs : List Rec) (i : Nat) (b : Option Blk), i ≤ k → rs[k - i]? = some r →
    (tch n0 k r.e q ≠ none → ∀ j r', rs[j]? = some r' → k < i + j → X (i + j) = true → tch n0 (i + j) r'.e q = none) → lkX n0 (addX X k) q i rs b = orB (tch n0 k r.e q) (lkX n0 X q i rs b)
  | [], i, b, _, hr, _ => by simp at hr
  | r0 :: rs, i, b, hi, hr, hd => by
    unfold lkX
    by_cases hik : i = k
    · subst hik
      rw [Nat.sub_self] at hr
      simp at hr
      subst hr
      have e1 : addX X i i = true := by simp [addX]
      rw [e1, hX, if_pos rfl, if_neg (by simp)]
      have e2 : ∀ (b : Option Blk), lkX n0 (addX X i) q (i + 1) rs b = lkX n0 X q (i + 1) rs b := fun b => by
        refine lkX_same rs (i + 1) b fun j r' hj _ => ?_
        simp [addX]; omega
      rw [e2]
      cases ht : tch n0 i r0.e q with
      | none => rfl
      | some blk =>
        show lkX n0 X q (i + 1) rs blk = blk
        refine lkX_out rs (i + 1) _ fun j r' hj hX' => ?_
        have := hd (by rw [ht]; simp) (j + 1) r' (by simpa using hj) (by omega) (by rwa [show i + (j + 1) = i + 1 + j by omega])
        rwa [show i + 1 + j = i + (j + 1) by omega]
    · have e1 : addX X k i = X i := by simp [addX, hik]
      rw [e1]
      refine lkX_add hX rs (i + 1) _ (by omega) ?_ fun ht j r' hj hlt hX' => by
        have := hd ht (j + 1) r' (by simpa using hj) (by omega) (by rwa [show i + (j + 1) = i + 1 + j by omega])
        rwa [show i + 1 + j = i + (j + 1) by omega]
      have : k - i = (k - (i + 1)) + 1 := by omega
      rw [this] at hr
      simpa using hr
end Go.Proofs.Ytnbmiejjkkgckaa
/- Proved here: Regions that draw their order and make blocks, on the abstract machine: the operations, for use in the proofs of the given statements; conditions stand in each theorem. -/
set_option linter.unusedSimpArgs false
set_option linter.unusedVariables false
set_option linter.unnecessarySimpa false
namespace Go.Proofs.Ytnbmiejjkkgckaa
open Go.RowKit

theorem RelF.like {E : Env} {σ σ' : St} {a : Act} {w : World} (hr : RelF E σ a w) (hf : σ'.fr = σ.fr) (hl : ∀ q, σ'.h.look q = σ.h.look q) (hn : σ'.nx = σ.nx) (hd : σ'.df = σ.df) : RelF E σ' a w := by
  refine ⟨⟨fun i blk h => hr.rel.has i blk (by rw [← hl]; exact h), fun i hv h => ?_, hr.rel.domF, hr.rel.own, hr.rel.apart, hr.rel.slt, hr.rel.dlt⟩, fun i hi => by rw [hn]; exact hr.bound i hi, by rw [hf]; exact hr.fr, by rw [hd]; exact hr.defers⟩
  obtain ⟨h1, blk, h2⟩ := hr.rel.dom i hv h
  exact ⟨h1, blk, by rw [hl]; exact h2⟩

/-- a block is new, with any number that is free -/
theorem RelF.addAt {w w' : World} {E : Env} {σ : St} {a : Act} {hv : Value} {blk : Blk} {m : Nat} (hr : RelF E σ a w) (hnU : ¬ E.U m) (hm : m < σ.nx) (hb : Below w.heap.size w w') (hblk : ∀ E', Ext E w E' w' → BlkRel w' E' blk hv)
    (hnew : ∀ b, blockOf hv = some b → w.heap.size ≤ b ∧ b < w'.heap.size) (hone : hv.oneCell' = true) (hmn : blk.mine = true) :
    RelF (E.add m hv) { σ with h := (m, blk) :: σ.h } a w' ∧ Ext E w (E.add m hv) w' ∧ RdV w' (E.add m hv) (.own m) hv := by
  obtain ⟨k1, k2⟩ := hr.rel.later (S' := E.S) hb (fun _ h => h) (fun b hb => .inl hb) (fun b hb' => Nat.lt_of_lt_of_le (hr.rel.slt b hb') hb.size)
  have hE := k2.add (E0 := E) hnU hv
  have hE' : Ext E w' (E.add m hv) w' := (Ext.refl E w').add (E0 := E) hnU hv
  have hnB : E.B m = none := by
    cases h : E.B m with
    | none => rfl
    | some v => exact (hnU (hr.rel.dom _ _ h).1).elim
  refine ⟨⟨⟨fun i blk' hl => ?_, fun i v hB => ?_, fun i v hF => ?_, fun i v b hB hbk => ?_, fun i j hi hj b hBi hBj hbi hbj => ?_, k1.slt, k1.dlt⟩, fun i hi => ?_, hE.rdVs _ hr.fr, hr.defers⟩, hE, ?_⟩
  · simp only [Heap.look] at hl
    split at hl
    · rename_i hi
      subst hi
      injection hl with hl
      subst hl
      exact ⟨hv, by rw [at_mine hmn]; simp [Env.add], hblk _ hE⟩
    · rename_i hi
      obtain ⟨hv', hB, hrel⟩ := k1.has i blk' hl
      exact ⟨hv', by cases blk' <;> simp [Env.add, Env.at, hi] at hB ⊢ <;> exact hB, hrel.keep hE' fun _ _ => rfl⟩
  · simp only [Env.add] at hB
    simp only [Env.add, Heap.look]
    split at hB
    · rename_i hi
      subst hi
      exact ⟨.inl rfl, blk, by simp⟩
    · rename_i hi
      obtain ⟨q1, q2⟩ := hr.rel.dom i v hB
      exact ⟨.inr q1, by simp [hi]; exact q2⟩
  · obtain ⟨q1, q2⟩ := hr.rel.domF i v hF
    refine ⟨.inr q1, ?_⟩
    simp only [Env.add]
    rw [if_neg (fun h => hnU (show E.U m from by rw [← h]; exact q1))]
    exact q2
  · simp only [Env.add] at hB
    split at hB
    · injection hB with hB
      subst hB
      obtain ⟨q1, q2⟩ := hnew b hbk
      exact ⟨q2, fun hs => by have := hr.rel.slt b hs; omega, fun hd => by have := hr.rel.dlt b hd; omega⟩
    · exact k1.own i v b hB hbk
  · simp only [Env.add] at hBi hBj
    split at hBi
    · rename_i hi'
      split at hBj
      · rename_i hj'; rw [hi', hj']
      · injection hBi with hBi
        subst hBi
        have := (hnew b hbi).1
        have := (hr.rel.own j hj b hBj hbj).1
        omega
    · split at hBj
      · injection hBj with hBj
        subst hBj
        have := (hnew b hbj).1
        have := (hr.rel.own i hi b hBi hbi).1
        omega
      · exact hr.rel.apart i j hi hj b hBi hBj hbi hbj
  · simp only [Env.add] at hi
    rcases hi with rfl | hi
    · exact hm
    · exact hr.bound i hi
  · simp only [RdV]
    refine ⟨hone, .inl rfl, fun hv' hB => ?_⟩
    rcases hB with hB | hB
    · simp [Env.add] at hB; exact hB
    · exact (hnU (hr.rel.domF _ _ hB).1).elim

/-- one operation of a region -/
def OW (P : Program) (ops : List Oper) (o : Oper) (a : Act) (w : World) (next : Act → World → Prop) (Q : Exit → Act → World → Prop) : Prop :=
  if Region.wanted o (yielded ops.toArray a.tmps) = true then o.wp P a w next Q ∨ (o.asks P a w ∧ LetsOut Q) else next (a.put o.dst undef) w
def GuardSame (ops : List Oper) (o : Oper) (σ σ' : St) : Prop := ∀ j w, o.guard = some (j, w) → ∀ t, slotOf ops j = some t → σ'.ev (.tmp t) = σ.ev (.tmp t)
/-- what the operation does, in each state that is alike where the operation looks -/
structure Vld (P : Program) (ops : List Oper) (n0 i : Nat) (o : Oper) (σ : St) (r : Rec) (M : List (Nat × Bool)) : Prop where
  d : r.d = o.dst
  u : ∀ t blk, r.e = .upd t blk ∨ r.e = .app t blk → (t, true) ∈ M
  run : ∀ σ', σ'.nx = σ.nx → EvSame σ σ' o.op.operands.toList → HeapOn (M.map (·.1)) σ.h σ'.h → GuardSame ops o σ σ' → ∀ E a w next Q, RelF E σ' a w → n0 + i < σ.nx → ¬ E.U (n0 + i) →
    (∀ a' w' E' σ'', σ''.fr = setO σ'.fr r.d r.x → (∀ q, σ''.h.look q = orB (tch n0 i r.e q) (σ'.h.look q)) → σ''.nx = σ'.nx → σ''.df = σ'.df → RelF E' σ'' a' w' → Ext E w E' w' → (∀ q, E'.U q → E.U q ∨ q = n0 + i) → next a' w') → OW P ops o a w next Q

theorem put_df {σ : St} {d : Option Tmp} {x : V} : (σ.put d x).df = σ.df := by cases d <;> rfl
theorem put_setO {σ : St} {d : Option Tmp} {x : V} : (σ.put d x).fr = setO σ.fr d x := by cases d <;> rfl
theorem ostep_okM {P : Program} {ops : List Oper} {Q : Exit → Act → World → Prop} {σ : St} {o : Oper} {K : St → Prop} (hm : merges P o.op = true) (h : ostep P ops σ o.dst o.op o.guard K) {E : Env} {a : Act} {w : World} (hr : RelF E σ a w) {next : Act → World → Prop}
    (hn : ∀ a' w' E' σ', RelF E' σ' a' w' → Ext E w E' w' → (∀ q, E'.U q → E.U q) → K σ' → next a' w') : OW P ops o a w next Q := by
  unfold OW
  unfold ostep at h
  split at h
  · rename_i hg
    have hw : Region.wanted o (yielded ops.toArray a.tmps) = true := by simp [Region.wanted, hg]
    rw [if_pos hw]
    have h1 : pstep P true σ o.op (kPut K σ o.dst) := by
      revert h hm
      generalize o.op = op
      intro hm h
      cases op with
      | box _ _ => cases hm
      | alloc _ => cases hm
      | store _ _ _ => cases hm
      | insert _ _ _ _ => cases hm
      | makeMap _ _ => cases hm
      | makeSlice _ _ _ => cases hm
      | mapUpdate _ _ _ _ => cases hm
      | buildSlice _ _ _ => cases hm
      | call c =>
        unfold estep ecall at h
        dsimp only at h
        obtain ⟨callee, args, tys⟩ := c
        cases callee with
        | builtin b =>
          cases b with
          | append => cases hm
          | _ => exact h
        | invoke r m => exact h
        | value g =>
          cases g with
          | func f =>
            have hio : P.ioF f = false := by simpa [merges] using hm
            dsimp only at h
            rw [hio] at h
            exact h
          | _ => exact h
      | _ => exact h
    obtain ⟨x, hK, hy⟩ := pstep_ok h1
    exact .inl (hy rfl E a w hr _ _ fun v w' E' h1 h2 h3 h4 => hn _ w' E' _ (h1.put o.dst h3) h2 h4 hK)
  · rename_i j want hg
    unfold gstep at h
    split at h
    · rename_i g hgs
      have hw := guard_ok hr hg hgs
      rw [hw]
      rw [if_pos hm] at h
      obtain ⟨x, hK, hy⟩ := pstep_ok h
      cases g with
      | true =>
        rw [if_pos rfl]
        exact .inl (hy rfl E a w hr _ _ fun v w' E' h1 h2 h3 h4 => hn _ w' E' _ (h1.put o.dst (by rw [RdV]; exact ⟨fun _ => h3, fun h => by cases h⟩)) h2 h4 hK)
      | false =>
        rw [if_neg (by simp)]
        exact hn _ w E _ (hr.put o.dst (by rw [RdV]; exact ⟨fun h => (by cases h), fun _ => rfl⟩)) (Ext.refl _ _) (fun _ h => h) hK
    · exact h.elim

/-- operations that do not look at the heap -/
def heapB (op : Op) : Bool :=
  match op with
  | .move _ | .assign _ | .pick .. | .unOp .. | .binOp .. | .extract .. | .field .. | .build .. | .convert .. => false
  | _ => true
theorem ev_h {σ : St} {h : Heap} (x : Operand) : St.ev { σ with h := h } x = σ.ev x := by cases x <;> rfl
theorem partsE_h {σ : St} {h : Heap} : ∀ (l : List (Nat × Operand)), partsE { σ with h := h } l = partsE σ l
  | [] => rfl
  | (i, x) :: r => by simp only [partsE, ev_h, partsE_h r]
theorem pstep_h {P : Program} {G : Bool} {σ : St} {h : Heap} {op : Op} {K : V → Prop} (hb : heapB op = false) : pstep P G { σ with h := h } op K = pstep P G σ op K := by
  cases op with
  | move x => simp only [pstep, lookR, ev_h]
  | assign x => simp only [pstep, lookR, ev_h]
  | pick c a b => simp only [pstep, lookR, ev_h]
  | unOp a b c => simp only [pstep, lookR, ev_h]
  | binOp a b c d e => simp only [pstep, pstep.bstep, lookR, ev_h]
  | extract a b => simp only [pstep, lookR, ev_h]
  | field a b c => simp only [pstep, lookR, ev_h]
  | build a b => simp only [pstep, lookR, partsE_h]
  | convert a b c => simp only [pstep, lookR, ev_h]
  | _ => cases hb
theorem pstep_stableH {P : Program} {G : Bool} {σ : St} {op : Op} {K : V → Prop} (h : pstep P G σ op K) :
    ∃ x, K x ∧ ∀ σ', EvSame σ σ' op.operands.toList → (heapB op = true → ∀ y ∈ op.operands.toList, HeapOn (σ.ev y).ment σ.h σ'.h) → ∀ K' : V → Prop, K' x → pstep P G σ' op K' := by
  obtain ⟨x, hk, hst⟩ := pstep_stable h
  refine ⟨x, hk, fun σ' he hh K' hk' => ?_⟩
  cases hb : heapB op with
  | true => exact hst σ' he (hh hb) K' hk'
  | false =>
    rw [← pstep_h (h := σ.h) hb]
    exact hst { σ' with h := σ.h } (fun y hy => by rw [ev_h]; exact he y hy) (fun y hy q b _ hq => hq) K' hk'
theorem estep_look {P : Program} {σ : St} {d : Option Tmp} {op : Op} {K : St → Prop} (hm : merges P op = true) : estep P σ d op K = pstep P true σ op (kPut K σ d) := by
  cases op with
  | box _ _ => cases hm
  | alloc _ => cases hm
  | store _ _ _ => cases hm
  | insert _ _ _ _ => cases hm
  | makeMap _ _ => cases hm
  | makeSlice _ _ _ => cases hm
  | mapUpdate _ _ _ _ => cases hm
  | buildSlice _ _ _ => cases hm
  | call c =>
    unfold estep ecall
    dsimp only
    obtain ⟨callee, args, tys⟩ := c
    cases callee with
    | builtin b =>
      cases b with
      | append => cases hm
      | _ => rfl
    | invoke r m => rfl
    | value g =>
      cases g with
      | func f =>
        have hio : P.ioF f = false := by simpa [merges] using hm
        dsimp only
        rw [hio]
        rfl
      | _ => rfl
  | _ => rfl
theorem ostep_stableH {P : Program} {ops : List Oper} {σ : St} {d : Option Tmp} {op : Op} {g : Option (Nat × Bool)} {K : St → Prop} (hm : merges P op = true) (h : ostep P ops σ d op g K) :
    ∃ y, K (σ.put d y) ∧ ∀ σ', EvSame σ σ' op.operands.toList → (heapB op = true → ∀ y ∈ op.operands.toList, HeapOn (σ.ev y).ment σ.h σ'.h) → (∀ j w, g = some (j, w) → ∀ t, slotOf ops j = some t → σ'.ev (.tmp t) = σ.ev (.tmp t)) → ∀ K' : St → Prop, K' (σ'.put d y) → ostep P ops σ' d op g K' := by
  unfold ostep at h
  split at h
  · rw [estep_look hm] at h
    obtain ⟨y, hk, hst⟩ := pstep_stableH h
    refine ⟨y, hk, fun σ' he hh _ K' hk' => ?_⟩
    unfold ostep
    dsimp only
    rw [estep_look hm]
    exact hst σ' he hh (kPut K' σ' d) hk'
  · rename_i j want
    unfold gstep at h
    split at h
    · rename_i g' hg'
      rw [if_pos hm] at h
      obtain ⟨y, hk, hst⟩ := pstep_stableH h
      refine ⟨.cond g' y, hk, fun σ' he hh hs K' hk' => ?_⟩
      unfold ostep
      dsimp only
      have : guardS ops σ' j want = some g' := by
        rw [← hg']
        unfold guardS
        split
        · rename_i t ht
          have := hs j want rfl t ht
          simp only [St.ev] at this
          rw [this]
        · rfl
      rw [this]
      unfold gstep
      dsimp only
      rw [if_pos hm]
      exact hst σ' he hh (kCond K' σ' d g') hk'
    · exact h.elim
theorem vld_look {P : Program} {ops : List Oper} {n0 i : Nat} {o : Oper} {σ : St} {K : St → Prop} {M : List (Nat × Bool)} (hm : merges P o.op = true) (h : ostep P ops σ o.dst o.op o.guard K)
    (hM : heapB o.op = true → ∀ y ∈ o.op.operands.toList, ∀ q ∈ (σ.ev y).ment, q ∈ M.map (·.1)) : ∃ y, K (σ.put o.dst y) ∧ Vld P ops n0 i o σ ⟨o.dst, y, .none⟩ M := by
  obtain ⟨y, hK, hst⟩ := ostep_stableH hm h
  refine ⟨y, hK, rfl, fun t blk h => (by rcases h with h | h <;> cases h), fun σ' hnx hev hh hg E a w next Q hr _ _ hn => ?_⟩
  have h2 := hst σ' hev (fun hb y hy => hh.sub (hM hb y hy)) (fun j w hgd t ht => hg j w hgd t ht) (fun s => s = σ'.put o.dst y) rfl
  refine ostep_okM hm h2 hr fun a' w' E' σ'' h1 h3 h4 h5 => ?_
  subst h5
  exact hn a' w' E' _ put_setO (fun q => by rw [put_h]; rfl) put_nx put_df h1 h3 fun q hq => .inl (h4 q hq)

/-! operations that make a block -/
def newR (P : Program) (σ : St) (op : Op) : RO Blk :=
  match op with
  | .box t x => useR (strip true (σ.ev x)) fun x' => boxR x'
  | .alloc t => allocR (P.zeroT t)
  | .buildSlice t n parts => buildSliceR P n (P.elemT t) (usePartsR true (partsE σ parts.toList))
  | .makeMap _ none => some (True, .map [])
  | .makeSlice t l c => msR P (P.elemT t) (strip true (σ.ev l)) (strip true (σ.ev c))
  | _ => none
theorem newR_ok {P : Program} {σ : St} {o : Oper} {p : Prop} {blk : Blk} (h : newR P σ o.op = some (p, blk)) (hp : p) : NewOp P o σ blk := by
  have hk : kR (newR P σ o.op) (fun b => b = blk) := by rw [h]; exact ⟨hp, rfl⟩
  unfold newR at hk
  split at hk
  · rename_i t x ho
    obtain ⟨b, hb, hN⟩ := new_box (K := fun b => b = blk) ho (useR_ok (F := fun x' => boxV x' fun b => b = blk) (f := boxR) (K := fun b => b = blk) (fun y hy => ⟨hy.1, hy.2⟩) hk)
    subst hb
    exact hN
  · rename_i t ho
    unfold allocR at hk
    split at hk
    · rename_i z hz
      have := hk.2
      subst this
      exact new_alloc ho hz hk.1
    · exact hk.elim
  · rename_i t n parts ho
    rw [partsE_eq] at hk
    obtain ⟨b, hb, hN⟩ := new_buildSlice ho (buildSliceR_ok hk)
    subst hb
    exact hN
  · rename_i t ho
    have := hk.2
    subst this
    exact new_makeMap ho
  · rename_i t l c ho
    rw [ho] at h
    exact new_ms ho h hp
  · exact hk.elim
theorem newR_same {P : Program} {σ σ' : St} {op : Op} (he : EvSame σ σ' op.operands.toList) : newR P σ' op = newR P σ op := by
  unfold newR
  split
  · rename_i t x
    rw [he x (by simp [Op.operands])]
  · rfl
  · rename_i t n parts
    rw [partsE_same parts.toList fun p hp => he p.2 (by simp only [Op.operands, List.toList_toArray]; exact List.mem_map.2 ⟨p, hp, rfl⟩)]
  · rfl
  · rename_i t l c
    rw [he l (by simp [Op.operands]), he c (by simp [Op.operands])]
  · rfl
theorem new_op_value {P : Program} {o : Oper} {σ : St} {blk : Blk} (h : NewOp P o σ blk) {E : Env} {a : Act} {w : World} {m : Nat} {next : Act → World → Prop} {Q : Exit → Act → World → Prop} (hr : RelF E σ a w) (hnU : ¬ E.U m) (hm : m < σ.nx)
    (hn : ∀ a' w' E', RelF E' (({ σ with h := (m, blk) :: σ.h } : St).put o.dst (.own m)) a' w' → Ext E w E' w' → (∀ q, E'.U q → E.U q ∨ q = m) → next a' w') : o.wp P a w next Q := by
  obtain ⟨hv, w', hrun, hb, hone, hnew, hblk⟩ := h.2 E a w hr
  obtain ⟨k1, k2, k3⟩ := hr.addAt hnU hm hb hblk hnew hone h.1
  unfold Oper.wp
  rw [hrun]
  exact hn _ w' _ (k1.put o.dst k3) k2 fun q hq => hq.elim .inr .inl
theorem vld_new {P : Program} {ops : List Oper} {n0 i : Nat} {o : Oper} {σ : St} {p : Prop} {blk : Blk} (hg : o.guard = none) (h : newR P σ o.op = some (p, blk)) (hp : p) {M : List (Nat × Bool)} : Vld P ops n0 i o σ ⟨o.dst, .own (n0 + i), .new blk⟩ M := by
  refine ⟨rfl, fun t blk h => (by rcases h with h | h <;> cases h), fun σ' hnx hev hh _ E a w next Q hr hlt hnU hn => ?_⟩
  have h2 := newR_ok (o := o) (σ := σ') (by rw [newR_same hev]; exact h) hp
  unfold OW
  rw [if_pos (by simp [Region.wanted, hg])]
  refine .inl (new_op_value h2 hr hnU (by omega) fun a' w' E' h1 h3 h4 => hn a' w' E' _ ?_ (fun q => ?_) ?_ (by rw [put_df]) h1 h3 h4)
  · rw [put_setO]
  · rw [put_h]
    simp only [Heap.look, tch]
    split <;> rfl
  · rw [put_nx]

/-! calls that write to one's own box -/
def BCall (P : Program) (σ : St) (d : Option Tmp) (f : FuncId) (xs : List V) (K : St → Prop) : Prop :=
  ∃ t cs args cs' r, xs = .own t :: args ∧ CBox P f cs args r cs' ∧ σ.h.look t = some (.box cs) ∧ V.pures cs = true ∧ V.pures args = true ∧ K (({ σ with h := σ.h.set t (.box cs') } : St).put d r)
theorem bcall {P : Program} {σ : St} {d : Option Tmp} {f : FuncId} {t : Nat} {cs args cs' : List V} {r : V} {K : St → Prop} (hc : CBox P f cs args r cs') (hl : σ.h.look t = some (.box cs)) (hp : V.pures cs = true) (ha : V.pures args = true)
    (hK : K (({ σ with h := σ.h.set t (.box cs') } : St).put d r)) : BCall P σ d f (.own t :: args) K := ⟨t, cs, args, cs', r, rfl, hc, hl, hp, ha, hK⟩
theorem vld_box {P : Program} {ops : List Oper} {n0 i : Nat} {o : Oper} {σ : St} {K : St → Prop} {f : FuncId} {args : Array Operand} {tys : Array TypeId} {M : List (Nat × Bool)} (hg : o.guard = none)
    (ho : o.op = .call { callee := .value (.func f), args := args, argTypes := tys }) (h : useVs true (args.toList.map σ.ev) fun xs => BCall P σ o.dst f xs K)
    (hM : ∀ x r, args.toList = x :: r → ∀ q ∈ (σ.ev x).ment, (q, true) ∈ M) : ∃ y t blk, K (({ σ with h := σ.h.set t blk } : St).put o.dst y) ∧ (∃ old, σ.h.look t = some old) ∧ Vld P ops n0 i o σ ⟨o.dst, y, .upd t blk⟩ M := by
  obtain ⟨ys, h1, hys⟩ := useVs_det h
  obtain ⟨t, cs, as, cs', r, rfl, hc, hl, hp, ha, hK⟩ := h1
  have htM : (t, true) ∈ M := by
    cases hal : args.toList with
    | nil => rw [hal] at hys; have := hys (fun z => z = .own t :: as) rfl; simp [useVs] at this
    | cons x rr =>
      rw [hal] at hys
      have h3 : useV true (σ.ev x) fun x' => useVs true (rr.map σ.ev) fun xs' => x' :: xs' = .own t :: as := hys (fun z => z = .own t :: as) rfl
      obtain ⟨y', h4, hy'⟩ := useV_det h3
      obtain ⟨ys', h5, _⟩ := useVs_det h4
      injection h5 with h5 h6
      subst h5
      exact hM x rr hal t (useV_ment hy' t (by simp [V.ment]))
  refine ⟨r, t, _, hK, ⟨_, hl⟩, rfl, fun t' blk h => (by rcases h with h | h <;> cases h; exact htM), fun σ' hnx hev hh _ E a w next Q hr _ _ hn => ?_⟩
  have hl' : σ'.h.look t = some (.box cs) := hh t _ (List.mem_map.2 ⟨_, htM, rfl⟩) hl
  have hargs : args.toList.map σ'.ev = args.toList.map σ.ev := map_same _ fun y hy => hev y (by rw [ho]; simp [Op.operands, Call.operands]; exact .inr (by simpa using hy))
  have h2 : useVs true (args.toList.map σ'.ev) fun xs => xs = .own t :: as := by rw [hargs]; exact hys _ rfl
  obtain ⟨ys2, h6, h7⟩ := useVs_ok h2
  subst h6
  have hvs := h7 w E _ rfl (rdVs_map hr args.toList)
  unfold OW
  rw [if_pos (by simp [Region.wanted, hg])]
  refine .inl ?_
  unfold Oper.wp
  rw [run_callFn ho rfl hc.1]
  simp only [Oper.upon]
  have h8 := cbox_use hc hl' hp ha hr.rel hvs
  have e1 : (args.toList.map a.eval).toArray = args.map a.eval := by apply Array.ext'; simp only [Array.toList_map]
  rw [e1] at h8
  refine Calls.mono h8 ?_
  rintro e w' ⟨v, E', rfl, q2, q4, q5, q6⟩
  have hr' : RelF E' { σ' with h := σ'.h.set t (.box cs') } a w' := ⟨q2, fun q hq => hr.bound q (q6 q hq), q4.rdVs _ hr.fr, hr.defers⟩
  refine hn _ w' E' _ ?_ (fun q => ?_) ?_ (by rw [put_df]) (hr'.put o.dst q5) q4 fun q hq => .inl (q6 q hq)
  · rw [put_setO]
  · rw [put_h]
    show (σ'.h.set t (.box cs')).look q = _
    rw [Heap.look_set _ _ _ hl']
    simp only [tch]
    split <;> rfl
  · rw [put_nx]

/-! stores -/
def stR (h : Heap) (sz : Option Nat) (p x : V) : RO (Nat × Blk) :=
  match p with
  | .own i => stB i sz (h.look i) 0 x
  | .ptr i off => stB i sz (h.look i) off x
  | .rptr i k n j => stW i sz (h.look i) k n j x
  | _ => none
where
  stB (i : Nat) (sz : Option Nat) (b : Option Blk) (off : Nat) (x : V) : RO (Nat × Blk) :=
    match b with
    | some (.box cs) => some (x.cells.all V.isCell = true ∧ sz = some x.cells.length ∧ off + x.cells.length ≤ cs.length, (i, .box (putCells cs off x.cells)))
    | _ => none
  stW (i : Nat) (sz : Option Nat) (b : Option Blk) (k n j : Nat) (x : V) : RO (Nat × Blk) :=
    match b with
    | some (.row e k' d xs) => some (x.cells.all V.isCell = true ∧ sz = some x.cells.length ∧ k' = k ∧ n < xs.length ∧ j + x.cells.length ≤ k,
        (i, .row e k d (xs.set n (putCells (nthV d xs n) j x.cells))))
    | _ => none
theorem stR_ok {P : Program} {h : Heap} {t : TypeId} {p x : V} {K : Heap → Prop} (q : kR (stR h (P.szT t) p x) fun ib => K (h.set ib.1 ib.2)) : storeV P h t p x K := by
  unfold stR stR.stB stR.stW at q
  unfold storeV
  split at q
  · split at q
    · rename_i hl
      obtain ⟨⟨q1, q2, q3⟩, q4⟩ := q
      simp only [hl]
      exact ⟨q1, q2, by omega, q4⟩
    · exact q.elim
  · split at q
    · rename_i hl
      obtain ⟨⟨q1, q2, q3⟩, q4⟩ := q
      simp only [hl]
      exact ⟨q1, q2, q3, q4⟩
    · exact q.elim
  · split at q
    · rename_i hl
      obtain ⟨⟨q1, q2, q3⟩, q4⟩ := q
      simp only [hl]
      exact ⟨q1, q2, q3.1, q3.2.1, q3.2.2, q4⟩
    · exact q.elim
  · exact q.elim
theorem stR_look {h : Heap} {sz : Option Nat} {p x : V} {r : Prop × Nat × Blk} (hr : stR h sz p x = some r) : r.2.1 ∈ p.ment ∧ ∃ old, h.look r.2.1 = some old := by
  unfold stR stR.stB stR.stW at hr
  split at hr
  · split at hr
    · rename_i hl; injection hr with hr; subst hr; exact ⟨by simp [V.ment], _, hl⟩
    · cases hr
  · split at hr
    · rename_i hl; injection hr with hr; subst hr; exact ⟨by simp [V.ment], _, hl⟩
    · cases hr
  · split at hr
    · rename_i hl; injection hr with hr; subst hr; exact ⟨by simp [V.ment], _, hl⟩
    · cases hr
  · cases hr
theorem stR_ext {h h' : Heap} {sz : Option Nat} {p x : V} (he : HeapOn p.ment h h') {r : Prop × Nat × Blk} (hr : stR h sz p x = some r) : stR h' sz p x = some r := by
  unfold stR at hr ⊢
  split at hr
  · rename_i i
    cases hl : h.look i with
    | none => rw [hl] at hr; cases hr
    | some b => rw [hl] at hr; rw [he i b (by simp [V.ment]) hl]; exact hr
  · rename_i i off
    cases hl : h.look i with
    | none => rw [hl] at hr; cases hr
    | some b => rw [hl] at hr; rw [he i b (by simp [V.ment]) hl]; exact hr
  · rename_i i k n j
    cases hl : h.look i with
    | none => rw [hl] at hr; cases hr
    | some b => rw [hl] at hr; rw [he i b (by simp [V.ment]) hl]; exact hr
  · cases hr
def storeS (P : Program) (σ : St) (t : TypeId) (p x : Operand) : RO (Nat × Blk) := useR (strip true (σ.ev p)) fun p' => useR (strip true (σ.ev x)) fun x' => stR σ.h (P.szT t) p' x'
theorem strip_ment {G : Bool} {x : V} : ∀ q ∈ (strip G x).2.ment, q ∈ x.ment := by
  intro q hq
  cases x <;> simpa [strip, V.ment] using hq
theorem useR_inv {α : Type} {s : Prop × V} {f : V → RO α} {r : Prop × α} (h : useR s f = some r) : ∃ r', f s.2 = some r' ∧ r'.2 = r.2 := by
  obtain ⟨p, y⟩ := s
  have h' : andR p (f y) = some r := h
  cases hy : f y with
  | none => rw [hy] at h'; cases h'
  | some q =>
    rw [hy] at h'
    obtain ⟨q1, q2⟩ := q
    injection h' with h'
    subst h'
    exact ⟨_, rfl, rfl⟩
theorem vld_store {P : Program} {ops : List Oper} {n0 i : Nat} {o : Oper} {σ : St} {pp : Prop} {ib : Nat × Blk} {t : TypeId} {p x : Operand} {M : List (Nat × Bool)} (hg : o.guard = none) (hd : o.dst = none) (ho : o.op = .store t p x)
    (h : storeS P σ t p x = some (pp, ib)) (hp : pp) (hM : ∀ q ∈ (σ.ev p).ment, (q, true) ∈ M) : (∃ old, σ.h.look ib.1 = some old) ∧ Vld P ops n0 i o σ ⟨none, .dead, .upd ib.1 ib.2⟩ M := by
  obtain ⟨r1, h1, e1⟩ := useR_inv h
  obtain ⟨r2, h2, e2⟩ := useR_inv h1
  obtain ⟨hm, old, hold⟩ := stR_look h2
  have eib : r2.2 = ib := by rw [e2, e1]
  rw [eib] at hm hold
  have hiM : (ib.1, true) ∈ M := hM _ (strip_ment _ hm)
  refine ⟨⟨old, hold⟩, hd.symm, fun t' blk h => (by rcases h with h | h <;> cases h; exact hiM), fun σ' hnx hev hh _ E a w next Q hr _ _ hn => ?_⟩
  have hs' : storeS P σ' t p x = some (pp, ib) := by
    unfold storeS at h ⊢
    rw [hev p (by rw [ho]; simp [Op.operands]), hev x (by rw [ho]; simp [Op.operands])]
    refine useR_monoS (fun y r hy hr => useR_mono (fun z r hr => stR_ext (fun q b hq hb => hh q b ?_ hb) hr) hr) h
    exact List.mem_map.2 ⟨_, hM q (hy q hq), rfl⟩
  have hold' : σ'.h.look ib.1 = some old := hh _ _ (List.mem_map.2 ⟨_, hiM, rfl⟩) hold
  have hk : kR (storeS P σ' t p x) (fun ib' => ({ σ' with h := σ'.h.set ib'.1 ib'.2 } : St) = { σ' with h := σ'.h.set ib.1 ib.2 }) := by rw [hs']; exact ⟨hp, rfl⟩
  have hv : useV true (σ'.ev p) fun p' => useV true (σ'.ev x) fun x' => storeV P σ'.h t p' x' fun h' => ({ σ' with h := h' } : St) = { σ' with h := σ'.h.set ib.1 ib.2 } := useR_ok (fun y hy => useR_ok (fun z hz => stR_ok hz) hy) hk
  obtain ⟨σ2, hσ2, hS⟩ := skip_store (K := fun s => s = { σ' with h := σ'.h.set ib.1 ib.2 }) ho hv
  subst hσ2
  obtain ⟨w', hrun, k1, k2⟩ := hS E a w hr
  unfold OW
  rw [if_pos (by simp [Region.wanted, hg])]
  refine .inl ?_
  unfold Oper.wp
  rw [hrun]
  show next (a.put o.dst undef) w'
  have hput : a.put o.dst undef = a := by rw [hd]; rfl
  rw [hput]
  refine hn a w' E { σ' with h := σ'.h.set ib.1 ib.2 } rfl (fun q => ?_) rfl rfl k1 k2 fun q hq => .inl hq
  show (σ'.h.set ib.1 ib.2).look q = _
  rw [Heap.look_set _ _ _ hold']
  simp only [tch]
  split <;> rfl

/-! appends -/
theorem RelF.growAt {w w' : World} {E : Env} {σ : St} {a : Act} {i m : Nat} {hv hv' : Value} {old blk : Blk} (hr : RelF E σ a w) (hnU : ¬ E.U m) (hm : m < σ.nx) (hB : E.B i = some hv) (hl : σ.h.look i = some old) (hg : w.grownBy w' (blockOf hv))
    (hb' : blockOf hv' = blockOf hv ∨ blockOf hv' = some w.heap.size) (hlt : ∀ b, blockOf hv' = some b → b < w'.heap.size) (hone : hv'.oneCell' = true)
    (hblk : Ext E w (E.move i m hv') w' → BlkRel w' (E.move i m hv') blk hv') (hmn : blk.mine = true) :
    RelF (E.move i m hv') { σ with h := (m, blk) :: σ.h.del i } a w' ∧ Ext E w (E.move i m hv') w' ∧ RdV w' (E.move i m hv') (.own m) hv' := by
  have hne : ∀ b, E.S b ∨ E.D b → some b ≠ blockOf hv := fun b hb he => by
    obtain ⟨_, q2, q3⟩ := hr.rel.own i hv b hB he.symm
    exact hb.elim q2 q3
  have hE : Ext E w (E.move i m hv') w' := ⟨hg.os, hg.tape, hg.output, hg.size, fun b hb => hg.block b (hb.elim (hr.rel.slt b) (hr.rel.dlt b)) (hne b hb), fun _ h => h, fun _ h => .inl h, fun _ => .rfl, fun _ h => .inr h, fun q hq v hv => by
    simp only [Env.move] at hv
    split at hv
    · rename_i h; subst h; exact (hnU hq).elim
    · split at hv
      · cases hv
      · exact hv, fun q hq v hv => by
    have hqn : q ≠ m := fun h => hnU (h ▸ hq)
    simp only [Env.Is, Env.move, if_neg hqn] at hv
    rcases hv with hv | hv
    · split at hv
      · cases hv
      · exact .inl hv
    · exact .inr hv⟩
  have hfresh : ∀ b, blockOf hv' = some b → (blockOf hv = some b ∨ b = w.heap.size) := fun b hb => by
    rcases hb' with h | h
    · exact .inl (h ▸ hb)
    · rw [hb] at h; injection h with h; exact .inr h
  have hother : ∀ j v b, j ≠ i → E.B j = some v → blockOf v = some b → blockOf hv' ≠ some b := fun j v b hji hBj hb he => by
    rcases hfresh b he with h | h
    · exact hji (hr.rel.apart j i v hv b hBj hB hb h)
    · have := (hr.rel.own j v b hBj hb).1; omega
  refine ⟨⟨⟨fun j blk' hlj => ?_, fun j v hBj => ?_, fun j v hF => ?_, fun j v b hBj hbk => ?_, fun p q vp vq b hBp hBq hbp hbq => ?_, fun b hb => Nat.lt_of_lt_of_le (hr.rel.slt b hb) hg.size, fun b hb => Nat.lt_of_lt_of_le (hr.rel.dlt b hb) hg.size⟩, fun j hj => ?_, hE.rdVs _ hr.fr, hr.defers⟩, hE, ?_⟩
  · simp only [Heap.look] at hlj
    split at hlj
    · rename_i hj
      subst hj
      injection hlj with hlj
      subst hlj
      exact ⟨hv', by rw [at_mine hmn]; simp [Env.move], hblk hE⟩
    · rename_i hj
      rw [Heap.look_del] at hlj
      split at hlj
      · cases hlj
      · rename_i hji
        obtain ⟨v, hBj, hrel⟩ := hr.rel.has j blk' hlj
        cases hmj : blk'.mine with
        | true =>
          rw [at_mine hmj] at hBj
          refine ⟨v, by rw [at_mine hmj]; simp [Env.move, hj, hji, hBj], hrel.keep hE fun b hb => hg.block b (hr.rel.own j v b hBj hb).1 fun he => hji (hr.rel.apart j i v hv b hBj hB hb he.symm)⟩
        | false =>
          cases blk' <;> first | exact ⟨v, hBj, hE.rdT hrel⟩ | simp [Blk.mine] at hmj
  · simp only [Env.move] at hBj
    simp only [Env.move, Heap.look]
    split at hBj
    · rename_i hj; exact ⟨.inl hj, blk, by rw [if_pos hj]⟩
    · rename_i hj
      split at hBj
      · cases hBj
      · rename_i hji
        obtain ⟨q1, q2⟩ := hr.rel.dom j v hBj
        exact ⟨.inr q1, by rw [if_neg hj, Heap.look_del, if_neg hji]; exact q2⟩
  · obtain ⟨q1, q2⟩ := hr.rel.domF j v hF
    refine ⟨.inr q1, ?_⟩
    simp only [Env.move]
    rw [if_neg (fun h => hnU (show E.U m from by rw [← h]; exact q1))]
    split
    · rfl
    · exact q2
  · simp only [Env.move] at hBj
    split at hBj
    · injection hBj with hBj
      subst hBj
      refine ⟨hlt b hbk, ?_⟩
      rcases hfresh b hbk with h | h
      · obtain ⟨_, q2, q3⟩ := hr.rel.own i hv b hB h; exact ⟨q2, q3⟩
      · exact ⟨fun hs => by have := hr.rel.slt b hs; omega, fun hs => by have := hr.rel.dlt b hs; omega⟩
    · split at hBj
      · cases hBj
      · obtain ⟨q1, q2⟩ := hr.rel.own j v b hBj hbk
        exact ⟨Nat.lt_of_lt_of_le q1 hg.size, q2⟩
  · simp only [Env.move] at hBp hBq
    split at hBp
    · rename_i hp
      split at hBq
      · rename_i hq; rw [hp, hq]
      · split at hBq
        · cases hBq
        · rename_i hqi
          injection hBp with hBp; subst hBp
          exact (hother q vq b hqi hBq hbq hbp).elim
    · split at hBp
      · cases hBp
      · rename_i hpi
        split at hBq
        · injection hBq with hBq; subst hBq
          exact (hother p vp b hpi hBp hbp hbq).elim
        · split at hBq
          · cases hBq
          · exact hr.rel.apart p q vp vq b hBp hBq hbp hbq
  · simp only [Env.move] at hj
    rcases hj with rfl | hj
    · exact hm
    · exact hr.bound j hj
  · simp only [RdV]
    refine ⟨hone, .inl rfl, fun v hBj => ?_⟩
    rcases hBj with hBj | hBj
    · simp [Env.move] at hBj; exact hBj
    · exact (hnU (hr.rel.domF _ _ hBj).1).elim
def apR (h : Heap) (e : TypeId) (k by' : Option Nat) (z : Option (List Value)) (s x : V) : RO (Option Nat × Blk) :=
  match k, by', z with
  | some k, some by', some z => apB h e k by' (z.length = k ∧ 0 < k) s (srcV h k x)
  | _, _, _ => none
where
  apB (h : Heap) (e k by' : Nat) (p : Prop) (s : V) (src : Option (List T × List (List V))) : RO (Option Nat × Blk) :=
    match s with
    | .own i => apC e k by' p i (h.look i) src
    | .t (.lit (.slice none 0 0)) => apD e k by' p src
    | _ => none
  apC (e k by' : Nat) (p : Prop) (i : Nat) (b : Option Blk) (src : Option (List T × List (List V))) : RO (Option Nat × Blk) :=
    match b, src with
    | some (.row e' k' d xs), some (_, ys) => some (p ∧ e' = e ∧ k' = k ∧ xs.length + ys.length ≤ maxLen ∧ (xs.length + ys.length) * by' ≤ 140737488355328, (some i, .row e' k' d (xs ++ ys)))
    | _, _ => none
  apD (e k by' : Nat) (p : Prop) (src : Option (List T × List (List V))) : RO (Option Nat × Blk) :=
    match src with
    | some (d, ys) => some (p ∧ ys.length ≤ maxLen ∧ ys.length * by' ≤ 140737488355328, (none, .row e k d ys))
    | none => none
def delO (h : Heap) (t : Option Nat) : Heap :=
  match t with
  | some t => h.del t
  | none => h
def effA (t : Option Nat) (blk : Blk) : Eff :=
  match t with
  | some t => .app t blk
  | none => .new blk
/-- the append, with any number that is free -/
theorem append_at {P : Program} {o : Oper} {σ : St} {s x : Operand} {t e : TypeId} {s' x' : V} {pp : Prop} {tb : Option Nat × Blk} (ho : o.op = .call { callee := .builtin .append, args := #[s, x], argTypes := #[t, t] }) (ht : P.elemT t = some e)
    (hs : ∀ (w : World) (E : Env) v, RdV w E (σ.ev s) v → RdV w E s' v) (hx : ∀ (w : World) (E : Env) v, RdV w E (σ.ev x) v → RdV w E x' v) (h : apR σ.h e (P.szT e) (P.bytesT e) (P.zeroT e) s' x' = some (pp, tb)) (hp : pp)
    {E : Env} {a : Act} {w : World} {m : Nat} {next : Act → World → Prop} {Q : Exit → Act → World → Prop} (hr : RelF E σ a w) (hnU : ¬ E.U m) (hm : m < σ.nx)
    (hn : ∀ a' w' E', RelF E' (({ σ with h := (m, tb.2) :: delO σ.h tb.1 } : St).put o.dst (.own m)) a' w' → Ext E w E' w' → (∀ q, E'.U q → E.U q ∨ q = m) → next a' w') : o.wp P a w next Q := by
  unfold apR at h
  split at h
  · rename_i k by' z hsz hby hz
    unfold apR.apB at h
    split at h
    · rename_i i
      unfold apR.apC at h
      split at h
      · rename_i e' k' d xs d' ys hl hsrc
        injection h with h; injection h with h1 h2
        subst h1 h2
        obtain ⟨⟨hzl, hk0⟩, rfl, rfl, q1, q2⟩ := hp
        have hz' : (P.zeroT e').map (·.length) = some k' := by rw [hz]; simp [hzl]
        obtain ⟨hv, hB, hrel⟩ := hr.rel.has i _ hl
        obtain ⟨cells, r1, r2, r3, r4⟩ := hrel
        have e1 := hs w E _ (hr.ev s)
        simp only [RdV] at e1
        have e2 := e1.2.2 _ (.inl hB)
        obtain ⟨v', w', news, p1, p2, p2', p3, p4, p5⟩ := append_core (P := P) (ty := o.type) ht hsz hby hz' hk0 r1 (srcV_ok hr.rel (hx w E _ (hr.ev x)) hsrc) q1 q2
        obtain ⟨o1, o2⟩ := ownBlock_eq r1
        obtain ⟨o3, o4⟩ := ownBlock_eq p3
        rw [o1] at p4 p5
        rw [o3] at p5
        have hlen : (xs ++ ys).length = xs.length + ys.length := List.length_append
        obtain ⟨k1, k2, k3⟩ := hr.growAt (blk := .row e' k' d (xs ++ ys)) hnU hm hB hl p4 p5 (fun b hb => (p3.lt b (o3.trans hb)).2) o4 (fun hE => by
          refine ⟨cells ++ news, by rw [hlen]; exact p3, ?_, ?_, ?_⟩
          · rw [List.flatten_append]
            exact RdVs.append (hE.rdVs _ r2) (hE.rdVs _ p2)
          · intro y hy
            rcases List.mem_append.1 hy with hy | hy
            · exact r3 y hy
            · obtain ⟨_, _, _, _, _, _, hyk, _⟩ := srcV_ok hr.rel (hx w E _ (hr.ev x)) hsrc
              exact hyk y hy
          · rw [List.all_append, r4, p2']; rfl) rfl
        unfold Oper.wp
        rw [run_append ho (by rw [e2]; exact p1)]
        exact hn _ w' _ (k1.put o.dst k3) k2 fun q hq => hq.elim .inr .inl
      · cases h
    · unfold apR.apD at h
      split at h
      · rename_i d ys hsrc
        injection h with h; injection h with h1 h2
        subst h1 h2
        obtain ⟨⟨hzl, hk0⟩, q1, q2⟩ := hp
        have hz' : (P.zeroT e).map (·.length) = some k := by rw [hz]; simp [hzl]
        have e1 := (rdV_lit_inv (hs w E _ (hr.ev s))).1
        have hsr := srcV_ok hr.rel (hx w E _ (hr.ev x)) hsrc
        obtain ⟨v', w', news, p1, p2, p2', p3, p4, p5⟩ := append_core (P := P) (ty := o.type) (xs := []) ht hsz hby hz' hk0 (World.ownsRow_nil w 0 e k) hsr (by simpa using q1) (by simpa using q2)
        obtain ⟨o3, o4⟩ := ownBlock_eq p3
        have hbel : Below w.heap.size w w' := ⟨p4.os, p4.tape, p4.output, p4.size, fun b hb => p4.block b hb (by simp [Value.ownBlock])⟩
        obtain ⟨k1, k2, k3⟩ := hr.addAt (blk := .row e k d ys) hnU hm hbel (fun E' hE => by
          refine ⟨news, by simpa using p3, hE.rdVs _ p2, ?_, p2'⟩
          obtain ⟨_, _, _, _, _, _, hyk, _⟩ := hsr
          exact hyk) (fun b hb => by
          rw [o3] at p5
          rcases p5 with h | h
          · rw [h] at hb; simp [Value.ownBlock] at hb
          · rw [h] at hb; injection hb with hb; subst hb
            exact ⟨Nat.le_refl _, (p3.lt _ (o3.trans h)).2⟩) o4 rfl
        unfold Oper.wp
        rw [run_append ho (by rw [e1]; exact p1)]
        exact hn _ w' _ (k1.put o.dst k3) k2 fun q hq => hq.elim .inr .inl
      · cases h
    · cases h
  · cases h

theorem srcV_ext {h h' : Heap} {k : Nat} {x : V} {r : List T × List (List V)} (he : HeapOn x.ment h h') (hr : srcV h k x = some r) : srcV h' k x = some r := by
  unfold srcV at hr ⊢
  split at hr
  · exact hr
  · rename_i i
    cases hl : h.look i with
    | none => rw [hl] at hr; cases hr
    | some b => rw [hl] at hr; rw [he i b (by simp [V.ment]) hl]; exact hr
  · exact hr
  · cases hr
theorem apR_ext {h h' : Heap} {e : TypeId} {k by' : Option Nat} {z : Option (List Value)} {s x : V} {r : Prop × Option Nat × Blk} (he : HeapOn s.ment h h') (he' : HeapOn x.ment h h') (hr : apR h e k by' z s x = some r) : apR h' e k by' z s x = some r := by
  unfold apR at hr ⊢
  split at hr
  · rename_i k by' z
    unfold apR.apB at hr ⊢
    split at hr
    · rename_i i
      cases hl : h.look i with
      | none => rw [hl] at hr; simp [apR.apC] at hr
      | some b =>
        cases hs : srcV h k x with
        | none => rw [hl, hs] at hr; unfold apR.apC at hr; split at hr <;> first | (cases hr; done) | (rename_i hh; cases hh)
        | some q => rw [hl, hs] at hr; rw [he i b (by simp [V.ment]) hl, srcV_ext he' hs]; exact hr
    · cases hs : srcV h k x with
      | none => rw [hs] at hr; simp [apR.apD] at hr
      | some q => rw [hs] at hr; rw [srcV_ext he' hs]; exact hr
    · cases hr
  · cases hr
theorem apR_look {h : Heap} {e : TypeId} {k by' : Option Nat} {z : Option (List Value)} {s x : V} {r : Prop × Option Nat × Blk} (hr : apR h e k by' z s x = some r) {t : Nat} (ht : r.2.1 = some t) : t ∈ s.ment := by
  unfold apR at hr
  split at hr
  · unfold apR.apB at hr
    split at hr
    · unfold apR.apC at hr
      split at hr
      · injection hr with hr; subst hr; injection ht with ht; subst ht; simp [V.ment]
      · cases hr
    · unfold apR.apD at hr
      split at hr
      · injection hr with hr; subst hr; cases ht
      · cases hr
    · cases hr
  · cases hr
theorem strip_ok {w : World} {E : Env} {X : V} {v : Value} (h : (strip true X).1) (hx : RdV w E X v) : RdV w E (strip true X).2 v := by
  cases X with
  | cond g y =>
    simp only [RdV] at hx
    exact hx.1 (h rfl)
  | _ => exact hx
theorem useR_inv2 {α : Type} {s : Prop × V} {f : V → RO α} {r : Prop × α} (h : useR s f = some r) : ∃ r', f s.2 = some r' ∧ r'.2 = r.2 ∧ (r.1 → s.1 ∧ r'.1) := by
  obtain ⟨p, y⟩ := s
  have h' : andR p (f y) = some r := h
  cases hy : f y with
  | none => rw [hy] at h'; cases h'
  | some q =>
    rw [hy] at h'
    obtain ⟨q1, q2⟩ := q
    injection h' with h'
    subst h'
    exact ⟨_, rfl, rfl, fun h => h⟩
def appS (P : Program) (σ : St) (e : Option TypeId) (s x : Operand) : RO (Option Nat × Blk) :=
  match e with
  | some e => useR (strip true (σ.ev s)) fun s' => useR (strip true (σ.ev x)) fun x' => apR σ.h e (P.szT e) (P.bytesT e) (P.zeroT e) s' x'
  | none => none
theorem vld_app {P : Program} {ops : List Oper} {n0 i : Nat} {o : Oper} {σ : St} {pp : Prop} {tb : Option Nat × Blk} {t : TypeId} {s x : Operand} {M : List (Nat × Bool)} (hg : o.guard = none)
    (ho : o.op = .call { callee := .builtin .append, args := #[s, x], argTypes := #[t, t] }) (h : appS P σ (P.elemT t) s x = some (pp, tb)) (hp : pp)
    (hM : ∀ q ∈ (σ.ev s).ment, (q, true) ∈ M) (hM2 : ∀ q ∈ (σ.ev x).ment, q ∈ M.map (·.1)) : Vld P ops n0 i o σ ⟨o.dst, .own (n0 + i), effA tb.1 tb.2⟩ M := by
  cases hte : P.elemT t with
  | none => rw [hte] at h; cases h
  | some e =>
    rw [hte] at h
    have h : (useR (strip true (σ.ev s)) fun s' => useR (strip true (σ.ev x)) fun x' => apR σ.h e (P.szT e) (P.bytesT e) (P.zeroT e) s' x') = some (pp, tb) := h
    obtain ⟨r1, h1, e1, c1⟩ := useR_inv2 h
    obtain ⟨r2, h2, e2, c2⟩ := useR_inv2 h1
    obtain ⟨cs, c1⟩ := c1 hp
    obtain ⟨cx, c2⟩ := c2 c1
    have eib : r2.2 = tb := by rw [e2, e1]
    refine ⟨rfl, fun t' blk hh => ?_, fun σ' hnx hev hh _ E a w next Q hr hlt hnU hn => ?_⟩
    · have ht : r2.2.1 = some t' := by
        rw [eib]
        cases htb : tb.1 with
        | none => rw [htb] at hh; rcases hh with hh | hh <;> cases hh
        | some q => rw [htb] at hh; rcases hh with hh | hh <;> cases hh; rfl
      exact hM _ (strip_ment _ (apR_look h2 ht))
    · have es : σ'.ev s = σ.ev s := hev s (by rw [ho]; simp [Op.operands, Call.operands])
      have ex : σ'.ev x = σ.ev x := hev x (by rw [ho]; simp [Op.operands, Call.operands])
      have h3 := apR_ext (h' := σ'.h) (fun q b hq hb => hh q b (List.mem_map.2 ⟨_, hM q (strip_ment q hq), rfl⟩) hb) (fun q b hq hb => hh q b (hM2 q (strip_ment q hq)) hb) h2
      have h4 : apR σ'.h e (P.szT e) (P.bytesT e) (P.zeroT e) (strip true (σ.ev s)).2 (strip true (σ.ev x)).2 = some (r2.1, tb) := by rw [h3, ← eib]
      unfold OW
      rw [if_pos (by simp [Region.wanted, hg])]
      refine .inl (append_at ho hte (fun w E v hv => strip_ok cs (by rw [← es]; exact hv)) (fun w E v hv => strip_ok cx (by rw [← ex]; exact hv)) h4 c2 hr hnU (by omega) fun a' w' E' k1 k2 k3 => hn a' w' E' _ ?_ (fun q => ?_) ?_ (by rw [put_df]) k1 k2 k3)
      · rw [put_setO]
      · rw [put_h]
        simp only [Heap.look]
        cases htb : tb.1 with
        | none =>
          simp only [effA, tch, delO]
          split <;> rfl
        | some q' =>
          simp only [effA, tch, delO]
          rw [Heap.look_del]
          split
          · rfl
          · split <;> rfl
      · rw [put_nx]
end Go.Proofs.Ytnbmiejjkkgckaa
