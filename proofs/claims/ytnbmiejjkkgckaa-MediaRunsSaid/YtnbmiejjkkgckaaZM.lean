/- Proved here: Appends and slices made of the abstract machine, for use in the proofs of the given statements; conditions stand in each theorem. -/
import Derived.Test.YtnbmiejjkkgckaaZL
import Derived.Laws.AppendOwnNone
set_option linter.unusedSimpArgs false
set_option linter.unusedVariables false
set_option linter.unusedSimpArgs false
set_option linter.unusedVariables false
set_option linter.unnecessarySimpa false
namespace Go.Proofs.Ytnbmiejjkkgckaa
open Go.RowKit

theorem rdTs_get {w : World} {S : Nat → Prop} : ∀ {e : List T} {vs : List Value}, RdTs w S e vs → ∀ (j : Nat) x, e[j]? = some x → ∃ v, vs[j]? = some v ∧ RdT w S x v
  | [], [], _, j, x, h => by simp at h
  | y :: e, v :: vs, hr, 0, x, h => by simp at h; subst h; exact ⟨v, rfl, hr.1⟩
  | y :: e, v :: vs, hr, j + 1, x, h => by simp at h; simpa using rdTs_get hr.2 j x h
  | [], _ :: _, hr, _, _, _ => hr.elim
  | _ :: _, [], hr, _, _, _ => hr.elim

/-- a slice to be read: its elements' cells -/
def Src (w : World) (E : Env) (k : Nat) (ys : List (List V)) (v : Value) : Prop :=
  ∃ A c news, v = .slice A ys.length c ∧ RdVs w E ys.flatten news ∧ news.all (·.oneCell') = true ∧ (∀ y ∈ ys, y.length = k) ∧ (A = none → v = .slice none 0 0) ∧ ∀ ad, A = some ad → ∀ j u, news[j]? = some u → w.cell? (ad.add j) = some u

theorem tRows_flat (ys : List (List T)) : (tRows ys).flatten = ys.flatten.map .t := by
  unfold tRows
  rw [List.map_flatten]
theorem tRows_all {k : Nat} {ys : List (List T)} (h : ∀ y ∈ ys, y.length = k) : ∀ y ∈ tRows ys, y.length = k := by
  intro y hy
  unfold tRows at hy
  obtain ⟨z, hz, rfl⟩ := List.mem_map.1 hy
  rw [List.length_map]; exact h z hz
/-- of a slice that nobody writes -/
def SrcT (w : World) (S : Nat → Prop) (k : Nat) (ys : List (List T)) (v : Value) : Prop :=
  ∃ A c news, v = .slice A ys.length c ∧ RdTs w S ys.flatten news ∧ (∀ y ∈ ys, y.length = k) ∧ (A = none → v = .slice none 0 0) ∧ ∀ ad, A = some ad → ∀ j u, news[j]? = some u → w.cell? (ad.add j) = some u
theorem SrcT.src {w : World} {E : Env} {k : Nat} {ys : List (List T)} {v : Value} (h : SrcT w E.S k ys v) : Src w E k (tRows ys) v := by
  obtain ⟨A, c, news, h1, h2, h3, h4⟩ := h
  exact ⟨A, c, news, by rw [tRows_len]; exact h1, by rw [tRows_flat]; exact RdVs.ofT h2, rdTs_ones h2, tRows_all h3, h4⟩
theorem src_list {w : World} {S : Nat → Prop} {k : Nat} {d : List T} {ys : List (List T)} {v : Value} (h : RdT w S (.list k d ys) v) : SrcT w S k ys v := by
  cases h with
  | list _ _ _ A c hm hc hnn hk ha hr =>
    cases A with
    | none =>
      have : ys = [] := by
        cases ys with
        | nil => rfl
        | cons y r => obtain ⟨b, off, hA, _⟩ := ha 0 y rfl; cases hA
      subst this
      exact ⟨none, c, [], rfl, trivial, hk, fun _ => by rw [hnn rfl]; rfl, fun ad h => by cases h⟩
    | some ad =>
      by_cases hys : ys = []
      · subst hys
        exact ⟨some ad, c, [], rfl, trivial, hk, (fun h => by cases h), fun ad' _ j u hu => by simp at hu⟩
      · have hb : ∃ b off, ad = ⟨b, off, none⟩ := by
          cases ys with
          | nil => exact (hys rfl).elim
          | cons y r => obtain ⟨b, off, hA, _⟩ := ha 0 y rfl; injection hA with hA; exact ⟨b, off, hA⟩
        obtain ⟨b, off, rfl⟩ := hb
        obtain ⟨news, h1, h2⟩ := rdTs_of (w := w) (S := S) ys.flatten (fun j => w.cell? ⟨b, off + j, none⟩) (by
          intro j x hx
          have hlt : j < ys.flatten.length := (List.getElem?_eq_some_iff.1 hx).1
          have hk0 : 0 < k := by
            rcases Nat.eq_zero_or_pos k with h0 | h0
            · rw [flatten_len ys hk, h0] at hlt; omega
            · exact h0
          rw [flatten_len ys hk] at hlt
          have hi : j / k < ys.length := (Nat.div_lt_iff_lt_mul hk0).2 hlt
          have hj : j / k * k + j % k = j := by rw [Nat.mul_comm]; exact Nat.div_add_mod j k
          have hmod := Nat.mod_lt j hk0
          have hp := flatten_part ys (j / k) _ hk (nth_some (d := d) hi)
          have hx' : (nth d ys (j / k))[j % k]? = some x := by
            rw [← hp, List.getElem?_take, if_pos hmod, List.getElem?_drop, hj]; exact hx
          obtain ⟨b', off', hA, _, hc'⟩ := ha (j / k) _ (nth_some (d := d) hi)
          injection hA with hA; injection hA with e1 e2; subst e1 e2
          obtain ⟨u, hu⟩ := hc' (j % k) x hx'
          rw [Nat.add_assoc, hj] at hu
          exact ⟨u, hu, hr (j / k) _ (j % k) x _ _ u (nth_some hi) hx' rfl (by rw [Nat.add_assoc, hj]; exact hu)⟩)
        exact ⟨_, c, news, rfl, h1, hk, (fun h => by cases h), fun ad had j u hu => by
          injection had with had; subst had
          rw [Addr.add_lit]; exact h2 j u hu⟩

theorem src_row {w : World} {E : Env} {e k : Nat} {d : List T} {ys : List (List V)} {hv : Value} (h : BlkRel w E (.row e k d ys) hv) : Src w E k ys hv := by
  obtain ⟨cells, h2, h3, h4, h5⟩ := h
  have h2' := h2
  rcases h2.2 with ⟨rfl, h0⟩ | ⟨g, cap, cur, rfl, _, hg, hcap, hm, hcs, htake⟩
  · have : ys = [] := List.eq_nil_of_length_eq_zero h0
    subst this
    exact ⟨none, 0, cells, rfl, h3, h5, h4, fun _ => rfl, fun ad h => by cases h⟩
  · refine ⟨_, cap, cells, rfl, h3, h5, h4, (fun h => by cases h), fun ad had j u hu => ?_⟩
    injection had with had
    subst had
    exact h2'.cells rfl j u hu

def srcV (h : Heap) (k : Nat) (x : V) : Option (List T × List (List V)) :=
  match x with
  | .t (.list k' d ys) => if k' = k then some (d, tRows ys) else none
  | .own i => match h.look i with
    | some (.row _ k' d ys) => if k' = k then some (d, ys) else none
    | some (.shr (.list k' d ys)) => if k' = k then some (d, tRows ys) else none
    | _ => none
  | .t (.lit (.slice none 0 0)) => some ([], [])
  | _ => none
theorem srcV_ok {w : World} {E : Env} {h : Heap} {k : Nat} {x : V} {v : Value} {d : List T} {ys : List (List V)} (hr : Rel w E h) (hx : RdV w E x v) (hs : srcV h k x = some (d, ys)) : Src w E k ys v := by
  unfold srcV at hs
  split at hs
  · rename_i k' d' ys'
    split at hs
    · rename_i hk
      injection hs with hs; injection hs with h1 h2; subst h1 h2 hk
      simp only [RdV] at hx
      exact (src_list hx).src
    · cases hs
  · rename_i i
    split at hs
    · rename_i e k' d' ys' hl
      split at hs
      · rename_i hk
        injection hs with hs; injection hs with h1 h2; subst h1 h2 hk
        obtain ⟨hv, hB, hrel⟩ := hr.has i _ hl
        simp only [RdV] at hx
        rw [hx.2.2 _ (.inl hB)]
        exact src_row hrel
      · cases hs
    · rename_i k' d' ys' hl
      split at hs
      · rename_i hk
        injection hs with hs; injection hs with h1 h2; subst h1 h2 hk
        obtain ⟨hv, hF, hrel⟩ := hr.has i _ hl
        simp only [RdV] at hx
        rw [hx.2.2 _ (.inr hF)]
        exact (src_list hrel).src
      · cases hs
    · cases hs
  · injection hs with hs; injection hs with h1 h2; subst h1 h2
    rw [(rdV_lit_inv hx).1]
    exact ⟨none, 0, [], rfl, by simp only [List.flatten_nil, RdVs], rfl, by simp, fun _ => rfl, fun ad h => by cases h⟩
  · cases hs

def _root_.Go.Program.bytesT (P : Program) (e : TypeId) : Option Nat := (P.info? e).map (·.bytes)

/-- the handle of a row: its block, two ways of saying it -/
theorem ownBlock_eq {w : World} {B e k n : Nat} {v : Value} {xs : List Value} (h : w.ownsRow B e k v n xs) : v.ownBlock = blockOf v ∧ v.oneCell' = true := by
  rcases h.2 with ⟨rfl, _⟩ | ⟨g, cap, cur, rfl, _⟩ <;> exact ⟨rfl, rfl⟩

section
variable {P : Program} {σ : St} {o : Oper} {K : St → Prop}

/-- append to an owned row: what it yields -/
theorem append_core {w : World} {E : Env} {e k by' : Nat} {t ty : TypeId} {v s : Value} {xs ys : List (List V)} {cells : List Value} (ht : P.elemT t = some e) (hsz : P.szT e = some k) (hby : P.bytesT e = some by') (hz : (P.zeroT e).map (·.length) = some k)
    (hk0 : 0 < k) (hown : w.ownsRow 0 e k v xs.length cells) (hsrc : Src w E k ys s) (h1 : xs.length + ys.length ≤ maxLen) (h2 : (xs.length + ys.length) * by' ≤ 140737488355328) :
    ∃ v' w' news, (Builtin.append_ #[t, t] ty #[v, s]).run P w = .ok v' w' ∧ RdVs w E ys.flatten news ∧ news.all (·.oneCell') = true ∧ w'.ownsRow 0 e k v' (xs.length + ys.length) (cells ++ news) ∧ w.grownBy w' v.ownBlock ∧ (v'.ownBlock = v.ownBlock ∨ v'.ownBlock = some w.heap.size) := by
  obtain ⟨A, c, news, rfl, hn, hones, hyk, hA, hcell⟩ := hsrc
  unfold Program.elemT at ht
  split at ht
  · rename_i e' hu
    injection ht with ht; subst ht
    unfold Program.szT at hsz
    unfold Program.bytesT at hby
    cases hi : P.info? e' with
    | none => simp [hi] at hsz
    | some ie =>
      simp only [hi, Option.map_some, Option.some.injEq] at hsz hby
      cases A with
      | none =>
        have h0 := hA rfl
        injection h0 with _ h0 h00
        have hys : ys = [] := List.eq_nil_of_length_eq_zero h0
        subst hys
        have hnews : news = [] := by
          have := RdVs.len hn
          simp at this
          exact List.eq_nil_of_length_eq_zero (by simpa using this.symm)
        subst hnews
        refine ⟨v, w, [], ?_, hn, rfl, by simpa using hown, ⟨rfl, rfl, rfl, Nat.le_refl _, fun _ _ _ => rfl⟩, .inl rfl⟩
        rw [h00]
        exact run_append_owned_none (P := P) (w := w) 0 t ty e' ie k hu hi v xs.length cells hown
      | some ad =>
        obtain ⟨it, zv, hi', hzv, hzc⟩ : ∃ it v, P.info? e' = some it ∧ it.zero = some v ∧ v.cells.toList.length = k := by
          cases hzz : P.zeroT e' with
          | none => simp [hzz] at hz
          | some z =>
            obtain ⟨it, v, q1, q2, q3⟩ := zeroT_info hzz
            exact ⟨it, v, q1, q2, by rw [q3]; simpa [hzz] using hz⟩
        rw [hi] at hi'
        injection hi' with hi'
        subst hi'
        have hl : news.length = ys.length * k := by rw [← RdVs.len hn, flatten_len ys hyk]
        obtain ⟨v', w', q1, q2, q3, _, q5⟩ := run_append_own_at (P := P) w 0 t ty e' ie zv k by' hu hi hzv hsz hby (by simpa using hzc) hk0 v xs.length cells hown ad ys.length c news hl (hcell ad rfl)
          (fun u hu => (List.all_eq_true.1 hones) u hu) h1 h2 (Nat.zero_le _)
        exact ⟨v', w', news, q1, hn, hones, q2, q3, q5⟩
  · cases ht

/-- one block in the place of another -/
def Env.move (E : Env) (i j : Nat) (hv : Value) : Env := { E with B := fun q => if q = j then some hv else if q = i then none else E.B q, U := fun q => q = j ∨ E.U q }

theorem RelF.grow {w w' : World} {E : Env} {a : Act} {i : Nat} {hv hv' : Value} {old blk : Blk} (hr : RelF E σ a w) (hB : E.B i = some hv) (hl : σ.h.look i = some old) (hg : w.grownBy w' (blockOf hv))
    (hb' : blockOf hv' = blockOf hv ∨ blockOf hv' = some w.heap.size) (hlt : ∀ b, blockOf hv' = some b → b < w'.heap.size) (hone : hv'.oneCell' = true)
    (hblk : Ext E w (E.move i σ.nx hv') w' → BlkRel w' (E.move i σ.nx hv') blk hv') (hm : blk.mine = true) :
    RelF (E.move i σ.nx hv') { σ with h := (σ.nx, blk) :: σ.h.del i, nx := σ.nx + 1 } a w' ∧ Ext E w (E.move i σ.nx hv') w' ∧ RdV w' (E.move i σ.nx hv') (.own σ.nx) hv' := by
  have hnU : ¬ E.U σ.nx := fun h => by have := hr.bound _ h; omega
  have hne : ∀ b, E.S b ∨ E.D b → some b ≠ blockOf hv := fun b hb he => by
    obtain ⟨_, q2, q3⟩ := hr.rel.own i hv b hB he.symm
    exact hb.elim q2 q3
  have hE : Ext E w (E.move i σ.nx hv') w' := ⟨hg.os, hg.tape, hg.output, hg.size, fun b hb => hg.block b (hb.elim (hr.rel.slt b) (hr.rel.dlt b)) (hne b hb), fun _ h => h, fun _ h => .inl h, fun _ => .rfl, fun _ h => .inr h, fun q hq v hv => by
    simp only [Env.move] at hv
    split at hv
    · rename_i h; subst h; exact (hnU hq).elim
    · split at hv
      · cases hv
      · exact hv, fun q hq v hv => by
    have hqn : q ≠ σ.nx := fun h => hnU (h ▸ hq)
    simp only [Env.Is, Env.move, if_neg hqn] at hv
    rcases hv with hv | hv
    · split at hv
      · cases hv
      · exact .inl hv
    · exact .inr hv⟩
  have hfresh : ∀ b, blockOf hv' = some b → (blockOf hv = some b ∨ b = w.heap.size) := fun b hb => by
    rcases hb' with h | h
    · exact .inl (h ▸ hb)
    · rw [hb] at h; injection h with h; exact .inr h
  have hother : ∀ j v b, j ≠ i → E.B j = some v → blockOf v = some b → blockOf hv' ≠ some b := fun j v b hji hBj hb he => by
    rcases hfresh b he with h | h
    · exact hji (hr.rel.apart j i v hv b hBj hB hb h)
    · have := (hr.rel.own j v b hBj hb).1; omega
  refine ⟨⟨⟨fun j blk' hlj => ?_, fun j v hBj => ?_, fun j v hF => ?_, fun j v b hBj hbk => ?_, fun p q vp vq b hBp hBq hbp hbq => ?_, fun b hb => Nat.lt_of_lt_of_le (hr.rel.slt b hb) hg.size, fun b hb => Nat.lt_of_lt_of_le (hr.rel.dlt b hb) hg.size⟩, fun j hj => ?_, hE.rdVs _ hr.fr, hr.defers⟩, hE, ?_⟩
  · simp only [Heap.look] at hlj
    split at hlj
    · rename_i hj
      subst hj
      injection hlj with hlj
      subst hlj
      exact ⟨hv', by rw [at_mine hm]; simp [Env.move], hblk hE⟩
    · rename_i hj
      rw [Heap.look_del] at hlj
      split at hlj
      · cases hlj
      · rename_i hji
        obtain ⟨v, hBj, hrel⟩ := hr.rel.has j blk' hlj
        cases hmj : blk'.mine with
        | true =>
          rw [at_mine hmj] at hBj
          refine ⟨v, by rw [at_mine hmj]; simp [Env.move, hj, hji, hBj], hrel.keep hE fun b hb => hg.block b (hr.rel.own j v b hBj hb).1 fun he => hji (hr.rel.apart j i v hv b hBj hB hb he.symm)⟩
        | false =>
          cases blk' <;> first | exact ⟨v, hBj, hE.rdT hrel⟩ | simp [Blk.mine] at hmj
  · simp only [Env.move] at hBj
    simp only [Env.move, Heap.look]
    split at hBj
    · rename_i hj; exact ⟨.inl hj, blk, by rw [if_pos hj]⟩
    · rename_i hj
      split at hBj
      · cases hBj
      · rename_i hji
        obtain ⟨q1, q2⟩ := hr.rel.dom j v hBj
        exact ⟨.inr q1, by rw [if_neg hj, Heap.look_del, if_neg hji]; exact q2⟩
  · obtain ⟨q1, q2⟩ := hr.rel.domF j v hF
    refine ⟨.inr q1, ?_⟩
    simp only [Env.move]
    rw [if_neg (fun h => hnU (show E.U σ.nx from by rw [← h]; exact q1))]
    split
    · rfl
    · exact q2
  · simp only [Env.move] at hBj
    split at hBj
    · injection hBj with hBj
      subst hBj
      refine ⟨hlt b hbk, ?_⟩
      rcases hfresh b hbk with h | h
      · obtain ⟨_, q2, q3⟩ := hr.rel.own i hv b hB h; exact ⟨q2, q3⟩
      · exact ⟨fun hs => by have := hr.rel.slt b hs; omega, fun hs => by have := hr.rel.dlt b hs; omega⟩
    · split at hBj
      · cases hBj
      · obtain ⟨q1, q2⟩ := hr.rel.own j v b hBj hbk
        exact ⟨Nat.lt_of_lt_of_le q1 hg.size, q2⟩
  · simp only [Env.move] at hBp hBq
    split at hBp
    · rename_i hp
      split at hBq
      · rename_i hq; rw [hp, hq]
      · split at hBq
        · cases hBq
        · rename_i hqi
          injection hBp with hBp; subst hBp
          exact (hother q vq b hqi hBq hbq hbp).elim
    · split at hBp
      · cases hBp
      · rename_i hpi
        split at hBq
        · injection hBq with hBq; subst hBq
          exact (hother p vp b hpi hBp hbp hbq).elim
        · split at hBq
          · cases hBq
          · exact hr.rel.apart p q vp vq b hBp hBq hbp hbq
  · simp only [Env.move] at hj
    rcases hj with rfl | hj
    · exact Nat.lt_succ_self _
    · have := hr.bound j hj; show j < σ.nx + 1; omega
  · simp only [RdV]
    refine ⟨hone, .inl rfl, fun v hBj => ?_⟩
    rcases hBj with hBj | hBj
    · simp [Env.move] at hBj; exact hBj
    · exact (hnU (hr.rel.domF _ _ hBj).1).elim

def appendV (P : Program) (σ : St) (t : TypeId) (s x : V) (K : St → V → Prop) : Prop :=
  match P.elemT t with
  | none => False
  | some e => match P.szT e, P.bytesT e, P.zeroT e with
    | some k, some by', some z => z.length = k ∧ 0 < k ∧ (match s with
      | .own i => match σ.h.look i, srcV σ.h k x with
        | some (.row e' k' d xs), some (_, ys) => e' = e ∧ k' = k ∧ xs.length + ys.length ≤ maxLen ∧ (xs.length + ys.length) * by' ≤ 140737488355328 ∧
            K { σ with h := (σ.nx, .row e' k' d (xs ++ ys)) :: σ.h.del i, nx := σ.nx + 1 } (.own σ.nx)
        | _, _ => False
      | .t (.lit (.slice none 0 0)) => match srcV σ.h k x with
        | some (d, ys) => ys.length ≤ maxLen ∧ ys.length * by' ≤ 140737488355328 ∧ K (σ.add (.row e k d ys)) (.own σ.nx)
        | none => False
      | _ => False)
    | _, _, _ => False

theorem run_append {s x : Operand} {t : TypeId} (ho : o.op = .call { callee := .builtin .append, args := #[s, x], argTypes := #[t, t] }) {ρ : Operand → Value} {w w' : World} {v : Value}
    (h : (Builtin.append_ #[t, t] o.type #[ρ s, ρ x]).run P w = .ok v w') : (execOp ρ o).run P w = .ok (.value v) w' := by
  simp [execOp, ho, resolve, invoke, builtin, h]

theorem ow_append {s x : Operand} {t : TypeId} (ho : o.op = .call { callee := .builtin .append, args := #[s, x], argTypes := #[t, t] })
    (h : useV true (σ.ev s) fun s' => useV true (σ.ev x) fun x' => appendV P σ t s' x' fun σ' v => K (σ'.put o.dst v)) : OpW P o σ K := by
  obtain ⟨s', h1, hs⟩ := useV_ok h
  obtain ⟨x', h2, hx⟩ := useV_ok h1
  unfold appendV at h2
  split at h2
  · exact h2.elim
  · rename_i e ht
    split at h2
    · rename_i k by' z hsz hby hz
      obtain ⟨hzl, hk0, h3⟩ := h2
      have hz' : (P.zeroT e).map (·.length) = some k := by rw [hz]; simp [hzl]
      split at h3
      · rename_i i
        split at h3
        · rename_i e' k' d xs d' ys hl hsrc
          obtain ⟨rfl, rfl, q1, q2, hK⟩ := h3
          intro E a w hr next Q hn
          obtain ⟨hv, hB, hrel⟩ := hr.rel.has i _ hl
          obtain ⟨cells, r1, r2, r3, r4⟩ := hrel
          have e1 := hs w E _ rfl (hr.ev s)
          simp only [RdV] at e1
          have e2 := e1.2.2 _ (.inl hB)
          obtain ⟨v', w', news, p1, p2, p2', p3, p4, p5⟩ := append_core (P := P) (ty := o.type) ht hsz hby hz' hk0 r1 (srcV_ok hr.rel (hx w E _ rfl (hr.ev x)) hsrc) q1 q2
          obtain ⟨o1, o2⟩ := ownBlock_eq r1
          obtain ⟨o3, o4⟩ := ownBlock_eq p3
          rw [o1] at p4 p5
          rw [o3] at p5
          have hlen : (xs ++ ys).length = xs.length + ys.length := List.length_append
          obtain ⟨k1, k2, k3⟩ := hr.grow (blk := .row e' k' d (xs ++ ys)) hB hl p4 p5 (fun b hb => (p3.lt b (o3.trans hb)).2) o4 (fun hE => by
            refine ⟨cells ++ news, by rw [hlen]; exact p3, ?_, ?_, ?_⟩
            · rw [List.flatten_append]
              exact RdVs.append (hE.rdVs _ r2) (hE.rdVs _ p2)
            · intro y hy
              rcases List.mem_append.1 hy with hy | hy
              · exact r3 y hy
              · obtain ⟨_, _, _, _, _, _, hyk, _⟩ := srcV_ok hr.rel (hx w E _ rfl (hr.ev x)) hsrc
                exact hyk y hy
            · rw [List.all_append, r4, p2']; rfl) rfl
          unfold Oper.wp
          rw [run_append ho (by rw [e2]; exact p1)]
          exact hn _ w' _ _ (k1.put o.dst k3) k2 hK
        · exact h3.elim
      · split at h3
        · rename_i d ys hsrc
          obtain ⟨q1, q2, hK⟩ := h3
          refine opw_new rfl ⟨rfl, fun E a w hr => ?_⟩ hK
          have e1 := (rdV_lit_inv (hs w E _ rfl (hr.ev s))).1
          have hsr := srcV_ok hr.rel (hx w E _ rfl (hr.ev x)) hsrc
          obtain ⟨v', w', news, p1, p2, p2', p3, p4, p5⟩ := append_core (P := P) (ty := o.type) (xs := []) ht hsz hby hz' hk0 (World.ownsRow_nil w 0 e k) hsr (by simpa using q1) (by simpa using q2)
          obtain ⟨o3, o4⟩ := ownBlock_eq p3
          have hbel : Below w.heap.size w w' := ⟨p4.os, p4.tape, p4.output, p4.size, fun b hb => p4.block b hb (by simp [Value.ownBlock])⟩
          refine ⟨v', w', run_append ho (by rw [e1]; exact p1), hbel, o4, fun b hb => ?_, fun E' hE => ?_⟩
          · rw [o3] at p5
            rcases p5 with h | h
            · rw [h] at hb; simp [Value.ownBlock] at hb
            · rw [h] at hb; injection hb with hb; subst hb
              exact ⟨Nat.le_refl _, (p3.lt _ (o3.trans h)).2⟩
          · refine ⟨news, by simpa using p3, hE.rdVs _ p2, ?_, p2'⟩
            obtain ⟨_, _, _, _, _, _, hyk, _⟩ := hsr
            exact hyk
        · exact h3.elim
      · exact h3.elim
    · exact h2.elim

/-! a slice written out -/
def chunk {α : Type} (k n : Nat) (ts : List α) : List (List α) := (List.range n).map fun i => (ts.drop (i * k)).take k
theorem chunk_mem {α : Type} {k n : Nat} {ts : List α} (h : ts.length = n * k) : ∀ y ∈ chunk k n ts, y.length = k := by
  intro y hy
  unfold chunk at hy
  obtain ⟨i, hi, rfl⟩ := List.mem_map.1 hy
  rw [List.mem_range] at hi
  have : (i + 1) * k ≤ n * k := Nat.mul_le_mul_right k hi
  rw [Nat.add_mul, Nat.one_mul] at this
  simp only [List.length_take, List.length_drop]
  omega
theorem chunk_flat {α : Type} {k : Nat} : ∀ (n : Nat) (ts : List α), ts.length = n * k → (chunk k n ts).flatten = ts
  | 0, ts, h => by simp [chunk]; exact List.eq_nil_of_length_eq_zero (by simpa using h)
  | n + 1, ts, h => by
    have ih := chunk_flat (k := k) n (ts.drop k) (by rw [List.length_drop, h, Nat.add_mul]; omega)
    unfold chunk at ih ⊢
    rw [List.range_succ_eq_map, List.map_cons, List.flatten_cons, List.map_map]
    have e1 : ((fun i => (ts.drop (i * k)).take k) ∘ Nat.succ) = fun i => ((ts.drop k).drop (i * k)).take k := by
      funext i
      simp only [Function.comp, Nat.succ_eq_add_one, List.drop_drop, Nat.add_mul, Nat.one_mul, Nat.add_comm]
    rw [e1, ih]
    simp
def buildSliceV (P : Program) (t : TypeId) (n : Nat) (parts : List (Nat × V)) (K : Blk → Prop) : Prop :=
  match P.elemT t with
  | none => False
  | some e => match P.szT e, P.zeroT e with
    | some k, some z => z.length = k ∧ zeroOk z = true ∧ n * k ≤ 2 ^ 24 ∧ 0 < k ∧ useParts true parts fun ps =>
      match fillV (fun i => some (i * k, k)) (zeroV ((List.range (n * k)).map fun i => z.getD (i % z.length) undef)) ps with
      | some cs => cs.length = n * k ∧ K (.row e k (z.map .lit) (chunk k n cs))
      | none => False
    | _, _ => False
theorem run_buildSlice0 (w : World) (t e : TypeId) (ie : TypeInfo) (hu : P.underlying t = some (.slice e)) (hie : P.info? e = some ie) :
    (Instr.buildSlice t 0 #[]).run P w = .ok (.slice (some ⟨w.heap.size, 0, none⟩) 0 0) (w.alloc (.cells #[] e)) := by
  simp [Instr.buildSlice, run_underlying hu, sizeOf, typeInfo, hie, newRow, Instr.fill]
  have : Array.map (fun _ => (default : Value)) (Array.range 0) = #[] := by apply Array.ext'; simp
  rw [this]
theorem new_buildSlice {t : TypeId} {n : Nat} {parts : Array (Nat × Operand)} {K : Blk → Prop} (ho : o.op = .buildSlice t n parts) (h : buildSliceV P t n (parts.toList.map fun (i, x) => (i, σ.ev x)) K) : ∃ blk, K blk ∧ NewOp P o σ blk := by
  unfold buildSliceV at h
  split at h
  · exact h.elim
  · rename_i e ht
    split at h
    · rename_i k z hsz hz
      obtain ⟨hzl, hzo, hsm, hpos, h⟩ := h
      obtain ⟨ys, h1, hys⟩ := useParts_ok h
      split at h1
      · rename_i cs hf
        · obtain ⟨htl, hK⟩ := h1
          refine ⟨_, hK, rfl, fun E a w hr => ?_⟩
          obtain ⟨it, zv, hi, hzv, hzc⟩ := zeroT_info hz
          have hps := hys w E _ rfl (rdPs_map hr parts.toList)
          unfold Program.elemT at ht
          split at ht
          · rename_i e' hu
            injection ht with ht; subst ht
            rcases Nat.eq_zero_or_pos n with hn0 | hn0
            · subst hn0
              have hpl : parts.toList = [] := by
                cases hpp : parts.toList with
                | nil => rfl
                | cons p r =>
                  exfalso
                  obtain ⟨i, x⟩ := p
                  rw [hpp] at hps
                  cases ys with
                  | nil => simp only [List.map_cons, RdPs] at hps
                  | cons y ys =>
                    obtain ⟨j, y⟩ := y
                    unfold fillV at hf
                    dsimp only at hf
                    split at hf
                    · cases hf
                    · rename_i hno
                      rw [not_or, not_or] at hno
                      obtain ⟨q1, q2, _⟩ := hno
                      have q3 : (zeroV ((List.range (0 * k)).map fun i => z.getD (i % z.length) undef)).length = 0 := by simp [zeroV]
                      rw [q3] at q2
                      omega
              have hpe : parts = #[] := by apply Array.ext'; rw [hpl]
              rw [hpl] at hps
              have hys0 : ys = [] := by
                cases ys with
                | nil => rfl
                | cons y ys => simp only [List.map_nil, RdPs] at hps
              subst hys0 hpe
              simp [fillV, zeroV] at hf
              subst hf
              refine ⟨.slice (some ⟨w.heap.size, 0, none⟩) 0 0, w.alloc (.cells #[] e'), by simp only [execOp, ho, List.map_toArray, List.map_nil, Sem.run_bind, run_buildSlice0 w t e' it hu hi, Result.andThen_ok, Sem.run_pure], below_alloc w _, rfl, ?_, ?_⟩
              · intro b hb
                simp only [blockOf, Option.some.injEq] at hb
                subst hb
                exact ⟨Nat.le_refl _, by rw [size_alloc]; omega⟩
              · intro E' hE
                refine ⟨[], ⟨by simp [chunk], .inr ⟨w.heap.size, 0, #[], by simp [chunk], Nat.zero_le _, heap_alloc_new w _, by simp [chunk], by simp only [maxLen]; omega, by simp, by simp⟩⟩, by simp only [chunk, List.range_zero, List.map_nil, List.flatten_nil, RdVs], by simp [chunk], rfl⟩
            have hposn : 0 < n * k := Nat.mul_pos hn0 hpos
            have hits : it.size = k := by unfold Program.szT at hsz; simpa [hi] using hsz
            have hzcl : zv.cells.size = k := by rw [← Array.length_toList, hzc]; exact hzl
            have ezc : zv.cells = z.toArray := by apply Array.ext'; simpa using hzc
            have hz0 : ((Array.range (n * it.size)).map (zv.cells[· % zv.cells.size]!)).toList = (List.range (n * k)).map fun i => z.getD (i % z.length) undef := by
              rw [hits, ezc]
              simp only [Array.toList_map, Array.toList_range]
              apply List.map_congr_left
              intro i hi'
              have hk0 : 0 < z.length := by rw [hzl]; exact hpos
              have hm := Nat.mod_lt i hk0
              simp [List.getD_eq_getElem?_getD, hm, getElem!_pos]
            have hall : zeroOk ((List.range (n * k)).map fun i => z.getD (i % z.length) undef) = true := by
              unfold zeroOk at hzo ⊢
              simp only [List.all_eq_true, List.mem_map] at hzo ⊢
              rintro v ⟨i, _, rfl⟩
              have hk0 : 0 < z.length := by rw [hzl]; exact hpos
              have hm := Nat.mod_lt i hk0
              rw [List.getD_eq_getElem?_getD, List.getElem?_eq_getElem hm]
              exact hzo _ (List.getElem_mem hm)
            obtain ⟨r, hb, hr1, hr2⟩ := fill_ok (w := w) (E := E) (fun i => some (i * k, k)) (fun i => some (i * it.size, it.size)) (fun i x hx => by rw [hits]; exact hx) ys (parts.toList.map fun (i, x) => (i, a.eval x)) _
              ((Array.range (n * it.size)).map (zv.cells[· % zv.cells.size]!)) cs hps (by rw [hz0]; exact rdVs_lits _ hall) (by
                rw [hz0]
                unfold zeroOk at hall
                simp only [List.all_eq_true, Bool.and_eq_true] at hall ⊢
                exact fun x hx => (hall x hx).1) hf
            have hrun := run_buildSlice (P := P) w t e' n (parts.map fun (i, x) => (i, a.eval x)) r it zv hu hi hzv (by rw [hits]; omega) (by rw [hits]; omega) (by
              have e1 : (parts.map fun (i, x) => (i, a.eval x)).toList = parts.toList.map fun (i, x) => (i, a.eval x) := by simp
              rw [e1]; exact hb)
            have hnk : n ≤ n * k := Nat.le_mul_of_pos_right n hpos
            have hrl : r.size = n * k := by
              have q1 := RdVs.len hr1
              simp only [Array.length_toList] at q1
              omega
            refine ⟨.slice (some ⟨w.heap.size, 0, none⟩) n n, w.alloc (.cells r e'), by simp only [execOp, ho, Sem.run_bind, hrun, Result.andThen_ok, Sem.run_pure], below_alloc w _, rfl, ?_, ?_⟩
            · intro b hb
              simp only [blockOf, Option.some.injEq] at hb
              subst hb
              exact ⟨Nat.le_refl _, by rw [size_alloc]; omega⟩
            · intro E' hE
              have hcl : (chunk k n cs).length = n := by simp [chunk]
              refine ⟨r.toList, ⟨?_, .inr ⟨w.heap.size, n, r, by rw [hcl], Nat.zero_le _, heap_alloc_new w _, by rw [hcl]; exact Nat.le_refl _, by simp only [maxLen]; omega, hrl, ?_⟩⟩, ?_, chunk_mem htl, hr2⟩
              · rw [hcl, Array.length_toList, hrl]
              · rw [hcl]; exact List.take_of_length_le (by simp; omega)
              · rw [chunk_flat n cs htl]
                exact hE.rdVs _ hr1
          · cases ht
      · exact h1.elim
    · exact h.elim
theorem ow_buildSlice {t : TypeId} {n : Nat} {parts : Array (Nat × Operand)} (ho : o.op = .buildSlice t n parts) (h : buildSliceV P t n (parts.toList.map fun (i, x) => (i, σ.ev x)) fun blk => K ((σ.add blk).put o.dst (.own σ.nx))) : OpW P o σ K := by
  obtain ⟨blk, hK, hN⟩ := new_buildSlice ho h
  exact opw_new rfl hN hK
end
end Go.Proofs.Ytnbmiejjkkgckaa
/- Proved here: The operations of the abstract machine as values with conditions, for use in the proofs of the given statements; conditions stand in each theorem. -/
set_option linter.unusedSimpArgs false
set_option linter.unusedVariables false
set_option linter.unnecessarySimpa false
namespace Go.Proofs.Ytnbmiejjkkgckaa
open Go.RowKit

/-- a value under a condition, or none -/
abbrev RO (α : Type) := Option (Prop × α)
def kR {α : Type} (r : RO α) (K : α → Prop) : Prop :=
  match r with
  | some (p, v) => p ∧ K v
  | none => False
def okR {α : Type} (r : Option α) : RO α :=
  match r with
  | some v => some (True, v)
  | none => none
def andR {α : Type} (p : Prop) (r : RO α) : RO α :=
  match r with
  | some (q, v) => some (p ∧ q, v)
  | none => none
def strip (G : Bool) (x : V) : Prop × V :=
  match x with
  | .cond g y => ((G = true → g = true), y)
  | .t y => (True, .t y)
  | .agg y => (True, .agg y)
  | .tup y => (True, .tup y)
  | .own i => (True, .own i)
  | .ptr i j => (True, .ptr i j)
  | .rptr i k n j => (True, .rptr i k n j)
  | .elem k d xs i j => (True, .elem k d xs i j)
  | .clo f cs => (True, .clo f cs)
  | .dead => (True, .dead)
def useR {α : Type} (s : Prop × V) (f : V → RO α) : RO α :=
  match s with
  | (p, y) => andR p (f y)
theorem useR_ok {α : Type} {G : Bool} {x : V} {f : V → RO α} {K : α → Prop} {F : V → Prop} (hf : ∀ y, kR (f y) K → F y) (h : kR (useR (strip G x) f) K) : useV G x F := by
  have key : ∀ (p : Prop) (y : V), kR (andR p (f y)) K → p ∧ F y := by
    intro p y h
    unfold andR at h
    split at h
    · rename_i q v he
      simp only [kR] at h
      exact ⟨h.1.1, hf y (by rw [he]; exact ⟨h.1.2, h.2⟩)⟩
    · exact h.elim
  unfold useV
  cases x <;> simp only [strip, useR] at h <;> first | exact key _ _ h | exact (key _ _ h).2

theorem kR_ok {α : Type} {r : Option α} {K : α → Prop} (h : kR (okR r) K) : ∃ v, r = some v ∧ K v := by
  cases r with
  | none => exact h.elim
  | some v => exact ⟨v, rfl, h.2⟩

abbrev tb (b : Bool) : V := .t (.lit (.bool b))
def pickR (G : Bool) (c x y : V) : RO V :=
  match c, x, y with
  | .t (.lit (.bool b)), .t (.lit (.bool p)), .t (.lit (.bool q)) => some (True, tb (bif b then p else q))
  | .t (.lit (.bool b)), .cond g (.t (.lit (.bool p))), .t (.lit (.bool q)) => some (((G && b) = true → g = true), tb (bif b then p else q))
  | .t (.lit (.bool b)), .t (.lit (.bool p)), .cond g (.t (.lit (.bool q))) => some (((G && !b) = true → g = true), tb (bif b then p else q))
  | _, _, _ => none
def unR (op : UnOp) (x : V) : RO V :=
  match op, x with
  | .not, .t (.lit (.bool b)) => some (True, tb (!b))
  | .neg, .t (.lit (.int k n)) => some (True, .t (.lit (.int k (k.wrap (0 - n)))))
  | _, _ => none
def litR (G : Bool) (r : Option (Prop × Value)) : RO V :=
  match r with
  | some (p, v) => some ((G = true → p), .t (.lit v))
  | none => none
/-- equality of values of a struct's type: known types -/
def binR (P : Program) (G : Bool) (op : BinOp) (t : TypeId) (x y : V) : RO V :=
  match x, y with
  | .t (.lit a), .t (.lit b) => litR G (binS P op t a b)
  | _, _ => none
def loadR (P : Program) (G : Bool) (h : Heap) (t : TypeId) (x : V) : RO V :=
  match x with
  | .own i => loadB P t (h.look i) 0
  | .ptr i off => loadB P t (h.look i) off
  | .elem k d xs i j => okR (loadP P t ((nth d xs i).map .t) j)
  | .rptr i k n j => loadW P G t (h.look i) k n j
  | _ => none
where
  loadB (P : Program) (t : TypeId) (b : Option Blk) (off : Nat) : RO V :=
    match b with
    | some (.box cs) => okR (loadP P t cs off)
    | _ => none
  loadW (P : Program) (G : Bool) (t : TypeId) (b : Option Blk) (k n j : Nat) : RO V :=
    match b with
    | some (.row _ k' d xs) => if k' = k then andR (G = true → n < xs.length) (okR (loadP P t (nthV d xs n) j)) else none
    | some (.shr (.list k' d xs)) => if k' = k then andR (G = true → n < xs.length) (okR (loadP P t ((nth d xs n).map .t) j)) else none
    | _ => none
def fieldAddrR (h : Heap) (off : Nat) (x : V) : RO V :=
  match x with
  | .own i => isBox (h.look i) (.ptr i off)
  | .ptr i o => isBox (h.look i) (.ptr i (o + off))
  | .elem k d xs i j => some (True, .elem k d xs i (j + off))
  | .rptr i k n j => isRow (h.look i) (.rptr i k n (j + off))
  | _ => none
where
  isBox (b : Option Blk) (x : V) : RO V :=
    match b with
    | some (.box _) => some (True, x)
    | _ => none
  isRow (b : Option Blk) (x : V) : RO V :=
    match b with
    | some (.row ..) => some (True, x)
    | some (.shr _) => some (True, x)
    | _ => none
def fieldAddrR1 (P : Program) (h : Heap) (q : Option (Nat × TypeId)) (x : V) : RO V :=
  match q with
  | some (off, ft) => fieldAddrR2 h off (P.szT ft) x
  | none => none
where
  fieldAddrR2 (h : Heap) (off : Nat) (n : Option Nat) (x : V) : RO V :=
    match n with
    | some (_ + 1) => fieldAddrR h off x
    | _ => none
def fieldR (P : Program) (q : Option (Nat × TypeId)) (x : V) : RO V :=
  match x, q with
  | .agg cs, some (off, ft) => okR (partV P ft cs off)
  | _, _ => none
def indexR (P : Program) (G : Bool) (u : Option TypeDesc) (x ix : V) : RO V :=
  match x, ix, u with
  | .t (.lit (.string s)), .t (.lit (.int _ n)), some .string => some ((G = true → 0 ≤ n ∧ n < s.size), .t (.lit (.int .u8 (s.data.toList.getD n.toNat 0).toNat)))
  | _, _, _ => none
def indexAddrR (P : Program) (G : Bool) (h : Heap) (e : Option TypeId) (x ix : V) : RO V :=
  match ix, e with
  | .t (.lit (.int _ n)), some e => ixA G h (P.szT e) x n
  | _, _ => none
where
  ixA (G : Bool) (h : Heap) (sz : Option Nat) (x : V) (n : Int) : RO V :=
    match x with
    | .t (.list k d xs) => if sz = some k then some ((G = true → 0 ≤ n ∧ n < xs.length), .elem k d xs n.toNat 0) else none
    | .own i => ixB G i sz (h.look i) n
    | _ => none
  ixB (G : Bool) (i : Nat) (sz : Option Nat) (b : Option Blk) (n : Int) : RO V :=
    match b with
    | some (.row _ k d xs) => if sz = some k then some ((G = true → 0 ≤ n ∧ n < xs.length), .rptr i k n.toNat 0) else none
    | some (.shr (.list k d xs)) => if sz = some k then some ((G = true → 0 ≤ n ∧ n < xs.length), .elem k d xs n.toNat 0) else none
    | _ => none
def extractR (i : Nat) (x : V) : RO V :=
  match x with
  | .tup vs => okR (vs[i]?)
  | _ => none
def lenR (u : Option TypeDesc) (h : Heap) (x : V) : RO V :=
  match u, x with
  | some .string, .t (.lit (.string s)) => some (True, vint s.size)
  | some (.slice _), .t (.list _ _ xs) => some (True, vint xs.length)
  | some (.slice _), .t (.lit (.slice _ n _)) => some (True, vint n)
  | some (.slice _), .own i => lenB (h.look i)
  | some (.map _ _), .own i => lenM (h.look i)
  | _, _ => none
where
  lenB (b : Option Blk) : RO V :=
    match b with
    | some (.row _ _ _ xs) => some (True, vint xs.length)
    | some (.shr (.list _ _ xs)) => some (True, vint xs.length)
    | _ => none
  lenM (b : Option Blk) : RO V :=
    match b with
    | some (.map es) => some (True, vint es.length)
    | _ => none
def usePartsR (G : Bool) : List (Nat × V) → Prop × List (Nat × V)
  | [] => (True, [])
  | (i, x) :: r => consP i (strip G x) (usePartsR G r)
where
  consP (i : Nat) (a : Prop × V) (b : Prop × List (Nat × V)) : Prop × List (Nat × V) :=
    match a, b with
    | (p, x), (q, r) => (p ∧ q, (i, x) :: r)
def aggR (p : Prop) (cs : Option (List V)) : RO V :=
  match cs with
  | some cs => some (p, .agg cs)
  | none => none
def buildR (P : Program) (pl : Option (List (Nat × Nat))) (z : Option (List Value)) (ps : Prop × List (Nat × V)) : RO V :=
  match pl, z, ps with
  | some pl, some z, (p, ps) => aggR (zeroOk z = true ∧ p) (fillV (fun i => pl[i]?) (zeroV z) ps)
  | _, _, _ => none
def nilCheckR (h : Heap) (x : V) : RO V :=
  match x with
  | .own i => fieldAddrR.isBox (h.look i) (.own i)
  | .ptr i off => fieldAddrR.isBox (h.look i) (.ptr i off)
  | .elem k d xs i j => some (True, .elem k d xs i j)
  | .rptr i k n j => fieldAddrR.isRow (h.look i) (.rptr i k n j)
  | .clo f cs => some (True, .clo f cs)
  | .t (.lit (.func (.func f) a b)) => some (True, .t (.lit (.func (.func f) a b)))
  | _ => none
def convR (s d : Option TypeDesc) (x : V) : RO V :=
  match s, d, x with
  | some _, some (.int k), .t (.lit (.int _ n)) => some (True, .t (.lit (.int k (k.wrap n))))
  | some _, some .string, .t (.lit (.string b)) => some (True, .t (.lit (.string b)))
  | _, _, _ => none

section
variable {P : Program} {G : Bool} {h : Heap} {t : TypeId} {K : V → Prop}
theorem pickR_ok {c x y : V} (q : kR (pickR G c x y) K) : (match (generalizing := false) c with
    | .t (.lit (.bool b)) => pickV G b x y K
    | _ => False) := by
  unfold pickR at q
  split at q
  · exact q.2
  · exact q
  · exact q
  · exact q.elim
theorem unR_ok {op : UnOp} {x : V} (q : kR (unR op x) K) : unV op x K := by
  unfold unR at q
  unfold unV
  split at q
  · exact q.2
  · exact q.2
  · exact q.elim
theorem binR_ok {op : BinOp} {x y : V} (q : kR (binR P G op t x y) K) : binV P G op t x y K := by
  unfold binR litR at q
  unfold binV
  split at q
  · split at q
    · rename_i p v hb
      simp only [hb]
      exact q
    · exact q.elim
  · exact q.elim
theorem loadR_ok {x : V} (q : kR (loadR P G h t x) K) : loadV P G h t x K := by
  unfold loadR loadR.loadB loadR.loadW at q
  unfold loadV
  split at q
  · split at q
    · rename_i cs hl
      obtain ⟨v, hv, hk⟩ := kR_ok q
      simp only [hl, hv]
      exact hk
    · exact q.elim
  · split at q
    · rename_i cs hl
      obtain ⟨v, hv, hk⟩ := kR_ok q
      simp only [hl, hv]
      exact hk
    · exact q.elim
  · obtain ⟨v, hv, hk⟩ := kR_ok q
    simp only [hv]
    exact hk
  · split at q
    · rename_i e k' d xs hl
      split at q
      · rename_i hk'
        unfold andR okR at q
        simp only [hl, hk', if_true]
        split at q
        · rename_i q' v hv
          split at hv
          · rename_i v' hv'
            injection hv with hv; injection hv with h1 h2
            subst h1 h2
            simp only [hv']
            exact ⟨q.1.1, q.2⟩
          · cases hv
        · exact q.elim
      · exact q.elim
    · rename_i k' d xs hl
      split at q
      · rename_i hk'
        unfold andR okR at q
        simp only [hl, hk', if_true]
        split at q
        · rename_i q' v hv
          split at hv
          · rename_i v' hv'
            injection hv with hv; injection hv with h1 h2
            subst h1 h2
            simp only [hv']
            exact ⟨q.1.1, q.2⟩
          · cases hv
        · exact q.elim
      · exact q.elim
    · exact q.elim
  · exact q.elim
theorem fieldAddrR_ok {off : Nat} {x : V} (q : kR (fieldAddrR h off x) K) : fieldAddrV h off x K := by
  unfold fieldAddrR fieldAddrR.isBox fieldAddrR.isRow at q
  unfold fieldAddrV
  split at q
  · split at q
    · rename_i hl; simp only [hl]; exact q.2
    · exact q.elim
  · split at q
    · rename_i hl; simp only [hl]; exact q.2
    · exact q.elim
  · exact q.2
  · split at q
    · rename_i hl; simp only [hl]; exact q.2
    · rename_i hl; simp only [hl]; exact q.2
    · exact q.elim
  · exact q.elim
theorem fieldAddrR1_ok {r : Option (Nat × TypeId)} {x : V} (q : kR (fieldAddrR1 P h r x) K) : (match (generalizing := false) r with
      | some (off, ft) => match P.szT ft with
        | some (_ + 1) => fieldAddrV h off x K
        | _ => False
      | none => False) := by
  cases r with
  | none => exact q.elim
  | some p =>
    obtain ⟨off, ft⟩ := p
    simp only [fieldAddrR1] at q
    cases hs : P.szT ft with
    | none => rw [hs] at q; exact q.elim
    | some n => cases n with
      | zero => rw [hs] at q; exact q.elim
      | succ n => rw [hs] at q; simp only [hs]; exact fieldAddrR_ok q
theorem fieldR_ok {r : Option (Nat × TypeId)} {x : V} (q : kR (fieldR P r x) K) : (match (generalizing := false) x, r with
      | .agg cs, some (off, ft) => match partV P ft cs off with
        | some v => K v
        | none => False
      | _, _ => False) := by
  unfold fieldR at q
  split at q
  · obtain ⟨v, hv, hk⟩ := kR_ok q
    simp only [hv]; exact hk
  · exact q.elim
theorem indexR_ok {x ix : V} (q : kR (indexR P G (P.underlying t) x ix) K) : indexV P G t x ix K := by
  unfold indexR at q
  unfold indexV
  split at q
  · rename_i hu; simp only [hu]; exact q
  · exact q.elim
theorem indexAddrR_ok {x ix : V} (q : kR (indexAddrR P G h (P.elemT t) x ix) K) : indexAddrV P G h t x ix K := by
  unfold indexAddrR indexAddrR.ixA indexAddrR.ixB at q
  unfold indexAddrV
  split at q
  · rename_i he
    simp only [he]
    split at q
    · split at q
      · rename_i hs; simp only [hs, if_true]; exact q
      · exact q.elim
    · split at q
      · rename_i hl
        split at q
        · rename_i hs; simp only [hl, hs, if_true]; exact q
        · exact q.elim
      · rename_i hl
        split at q
        · rename_i hs; simp only [hl, hs, if_true]; exact q
        · exact q.elim
      · exact q.elim
    · exact q.elim
  · exact q.elim
theorem extractR_ok {i : Nat} {x : V} (q : kR (extractR i x) K) : (match (generalizing := false) x with
      | .tup vs => match vs[i]? with
        | some v => K v
        | none => False
      | _ => False) := by
  unfold extractR at q
  split at q
  · obtain ⟨v, hv, hk⟩ := kR_ok q
    simp only [hv]; exact hk
  · exact q.elim
theorem lenR_ok {x : V} (q : kR (lenR (P.underlying t) h x) K) : lenV P h t x K := by
  unfold lenR lenR.lenB lenR.lenM at q
  unfold lenV
  split at q
  · rename_i hu; simp only [hu]; exact q.2
  · rename_i hu; simp only [hu]; exact q.2
  · rename_i hu; simp only [hu]; exact q.2
  · rename_i hu
    split at q
    · rename_i hl; simp only [hu, hl]; exact q.2
    · rename_i hl; simp only [hu, hl]; exact q.2
    · exact q.elim
  · rename_i hu
    split at q
    · rename_i hl; simp only [hu, hl]; exact q.2
    · exact q.elim
  · exact q.elim
theorem usePartsR_ok {F : List (Nat × V) → Prop} : ∀ (l : List (Nat × V)), (usePartsR G l).1 → F (usePartsR G l).2 → useParts G l F
  | [], _, hf => hf
  | (i, x) :: r, hp, hf => by
    unfold usePartsR usePartsR.consP at hp hf
    unfold useParts
    refine useR_ok (α := Unit) (f := fun y => some ((usePartsR G r).1 ∧ F ((i, y) :: (usePartsR G r).2), ())) (K := fun _ => True) (fun y hy => ?_) ?_
    · exact usePartsR_ok r hy.1.1 hy.1.2
    · unfold useR andR
      exact ⟨⟨hp.1, hp.2, hf⟩, trivial⟩
theorem buildR_ok {parts : List (Nat × V)} (q : kR (buildR P (P.plT t) (P.zeroT t) (usePartsR G parts)) K) : buildV P G t parts K := by
  unfold buildR aggR at q
  unfold buildV
  split at q
  · rename_i pl z p ps h1 h2 h3
    simp only [h1, h2]
    split at q
    · rename_i cs hf
      obtain ⟨⟨q1, q2⟩, q3⟩ := q
      refine ⟨q1, usePartsR_ok _ (by rw [h3]; exact q2) ?_⟩
      rw [h3]
      simp only [hf]
      exact q3
    · exact q.elim
  · exact q.elim
theorem nilCheckR_ok {x : V} (q : kR (nilCheckR h x) K) : nilCheckV h x K := by
  unfold nilCheckR fieldAddrR.isBox fieldAddrR.isRow at q
  unfold nilCheckV
  split at q
  · split at q
    · rename_i hl; simp only [hl]; exact q.2
    · exact q.elim
  · split at q
    · rename_i hl; simp only [hl]; exact q.2
    · exact q.elim
  · exact q.2
  · split at q
    · rename_i hl; simp only [hl]; exact q.2
    · rename_i hl; simp only [hl]; exact q.2
    · exact q.elim
  · exact q.2
  · exact q.2
  · exact q.elim
theorem convR_ok {s d : TypeId} {x : V} (q : kR (convR (P.underlying s) (P.underlying d) x) K) : convV P s d x K := by
  unfold convR at q
  unfold convV
  split at q
  · rename_i h1 h2; simp only [h1, h2]; exact q.2
  · rename_i h1 h2; simp only [h1, h2]; exact q.2
  · exact q.elim
end
end Go.Proofs.Ytnbmiejjkkgckaa
/- Proved here: More operations of the abstract machine (blocks given away, maps, closures, parts of slices), for use in the proofs of the given statements; conditions stand in each theorem. -/
set_option linter.unusedSimpArgs false
set_option linter.unusedVariables false
set_option linter.unnecessarySimpa false
namespace Go.Proofs.Ytnbmiejjkkgckaa
open Go.RowKit

/-! a row is given away: from now on nobody writes to it -/
def lendS (h : Heap) : V → Option T
  | .t x => some x
  | .own j => match h.look j with
    | some (.shr t) => some t
    | _ => none
  | _ => none
def give1B (h : Heap) (i : Nat) (b : Option Blk) : Option Heap :=
  match b with
  | some (.row _ k d xs) => giveB h i k d (lendRs (lendS h) xs)
  | some (.shr _) => some h
  | _ => none
where
  giveB (h : Heap) (i k : Nat) (d : List T) (ts : Option (List (List T))) : Option Heap :=
    match ts with
    | some ts => some (h.set i (.shr (.list k d ts)))
    | none => none
def giveL : List Nat → Heap → Option Heap
  | [], h => some h
  | i :: r, h => giveN (giveL r) (give1B h i (h.look i))
where
  giveN (f : Heap → Option Heap) (h : Option Heap) : Option Heap :=
    match h with
    | some h => f h
    | none => none

theorem lendS_rd {w : World} {E : Env} {h : Heap} (hr : Rel w E h) : ∀ (x : V) (t : T) (v : Value), lendS h x = some t → RdV w E x v → RdT w E.S t v
  | .t x, t, v, h1, hx => by
    simp only [lendS, Option.some.injEq] at h1; subst h1
    simpa only [RdV] using hx
  | .own j, t, v, h1, hx => by
    simp only [lendS] at h1
    split at h1
    · rename_i t' hl
      injection h1 with h1; subst h1
      obtain ⟨hv, hF, hT⟩ := hr.has j _ hl
      simp only [RdV] at hx
      rw [hx.2.2 hv (.inr hF)]; exact hT
    · cases h1
  | .agg _, t, v, h1, hx => by simp [lendS] at h1
  | .tup _, t, v, h1, hx => by simp [lendS] at h1
  | .ptr _ _, t, v, h1, hx => by simp [lendS] at h1
  | .rptr _ _ _ _, t, v, h1, hx => by simp [lendS] at h1
  | .elem _ _ _ _ _, t, v, h1, hx => by simp [lendS] at h1
  | .cond _ _, t, v, h1, hx => by simp [lendS] at h1
  | .clo _ _, t, v, h1, hx => by simp [lendS] at h1
  | .dead, t, v, h1, hx => by simp [lendS] at h1

theorem RelF.give1 {w : World} {E : Env} {σ : St} {a : Act} {i : Nat} {h' : Heap} (hr : RelF E σ a w) (hg : give1B σ.h i (σ.h.look i) = some h') :
    ∃ E', RelF E' { σ with h := h' } a w ∧ Ext E w E' w ∧ ∀ q, E'.U q → E.U q := by
  unfold give1B at hg
  split at hg
  · rename_i e k d xs hl
    unfold give1B.giveB at hg
    split at hg
    · rename_i ts hts
      injection hg with hg
      subst hg
      obtain ⟨hv, hB0, cells, h2, h3, h4, h5⟩ := hr.rel.has i _ hl
      have hB : E.B i = some hv := hB0
      let E' : Env := { S := fun b => E.S b ∨ blockOf hv = some b, B := fun j => if j = i then none else E.B j, U := E.U, D := E.D, F := fun j => if j = i then some hv else E.F j }
      have hUi : E.U i := (hr.rel.dom i hv hB).1
      have hT : RdT w E'.S (.list k d ts) hv := by
        have h2' := h2
        rw [← lendRs_len hts] at h2'
        refine rdT_row (S := E.S) h2' ?_ (lendRs_all hts h4) (fun b hb => .inl hb) (fun b hb => .inr hb)
        exact lendCs_rd (fun x t v h1 h2 => lendS_rd hr.rel x t v h1 h2) (lendRs_flat hts) h3
      have hE : Ext E w E' w := by
        refine ⟨rfl, rfl, rfl, Nat.le_refl _, fun _ _ => rfl, fun b hb => .inl hb, fun b hb => ?_, fun _ => .rfl, fun _ h => h, fun j hj v hv' => ?_, fun j hj v hv' => ?_⟩
        · rcases hb with hb | hb
          · exact .inl hb
          · exact .inr (hr.rel.own i hv b hB hb).2.2
        · simp only [E'] at hv'
          split at hv'
          · cases hv'
          · exact hv'
        · simp only [E', Env.Is] at hv'
          by_cases hji : j = i
          · subst hji
            simp only [if_true, reduceCtorEq, false_or, Option.some.injEq] at hv'
            subst hv'
            exact .inl hB
          · simp only [if_neg hji] at hv'
            exact hv'
      refine ⟨E', ⟨⟨fun j blk hlj => ?_, fun j v hBj => ?_, fun j v hFj => ?_, fun j v b hBj hbk => ?_, fun p q vp vq b hBp hBq hbp hbq => ?_, fun b hb => ?_, hr.rel.dlt⟩, hr.bound, hE.rdVs _ hr.fr, hr.defers⟩, hE, fun _ h => h⟩
      · rw [Heap.look_set _ _ _ hl] at hlj
        split at hlj
        · rename_i hji
          injection hlj with hlj
          subst hlj
          exact ⟨hv, by simp [E', Env.at, hji], hT⟩
        · rename_i hji
          obtain ⟨v, hat, hrel⟩ := hr.rel.has j blk hlj
          refine ⟨v, ?_, hrel.keep hE fun _ _ => rfl⟩
          cases blk <;> simpa [E', Env.at, hji] using hat
      · simp only [E'] at hBj
        split at hBj
        · cases hBj
        · rename_i hji
          obtain ⟨q1, q2⟩ := hr.rel.dom j v hBj
          refine ⟨q1, ?_⟩
          rw [Heap.look_set _ _ _ hl, if_neg hji]
          exact q2
      · simp only [E'] at hFj ⊢
        by_cases hji : j = i
        · subst hji
          exact ⟨hUi, by simp⟩
        · simp only [if_neg hji] at hFj ⊢
          exact hr.rel.domF j v hFj
      · simp only [E'] at hBj ⊢
        split at hBj
        · cases hBj
        · rename_i hji
          obtain ⟨q1, q2, q3⟩ := hr.rel.own j v b hBj hbk
          refine ⟨q1, fun hs => ?_, q3⟩
          rcases hs with hs | hs
          · exact q2 hs
          · exact hji (hr.rel.apart j i v hv b hBj hB hbk hs)
      · simp only [E'] at hBp hBq
        split at hBp
        · cases hBp
        · split at hBq
          · cases hBq
          · exact hr.rel.apart p q vp vq b hBp hBq hbp hbq
      · rcases hb with hb | hb
        · exact hr.rel.slt b hb
        · exact (hr.rel.own i hv b hB hb).1
    · cases hg
  · injection hg with hg
    subst hg
    exact ⟨E, hr, Ext.refl E w, fun _ h => h⟩
  · cases hg
theorem RelF.giveL {w : World} {E : Env} {σ : St} {a : Act} : ∀ (is : List Nat) {h : Heap} {h' : Heap}, RelF E { σ with h := h } a w → giveL is h = some h' → ∃ E', RelF E' { σ with h := h' } a w ∧ Ext E w E' w ∧ ∀ q, E'.U q → E.U q
  | [], h, h', hr, hg => by
    simp only [Go.Proofs.Ytnbmiejjkkgckaa.giveL, Option.some.injEq] at hg
    subst hg
    exact ⟨E, hr, Ext.refl E w, fun _ h => h⟩
  | i :: r, h, h', hr, hg => by
    simp only [Go.Proofs.Ytnbmiejjkkgckaa.giveL] at hg
    unfold giveL.giveN at hg
    split at hg
    · rename_i h1 hg1
      obtain ⟨E1, q1, q2, q3⟩ := hr.give1 hg1
      obtain ⟨E2, r1, r2, r3⟩ := RelF.giveL r (E := E1) (h := h1) q1 hg
      exact ⟨E2, r1, q2.trans r2, fun q h => q3 q (r3 q h)⟩
    · cases hg
/-- the rows that a value leads to, the inner ones first -/
def reachL (f : V → List Nat) : List V → List Nat
  | [] => []
  | x :: xs => f x ++ reachL f xs
def reachRs (f : V → List Nat) : List (List V) → List Nat
  | [] => []
  | x :: xs => reachL f x ++ reachRs f xs
def reachB (f : V → List Nat) (i : Nat) (b : Option Blk) : List Nat :=
  match b with
  | some (.row _ _ _ xs) => reachRs f xs ++ [i]
  | _ => []
def reach (h : Heap) : Nat → V → List Nat
  | n + 1, .own i => reachB (reach h n) i (h.look i)
  | n + 1, .agg cs => reachL (reach h n) cs
  | n + 1, .tup cs => reachL (reach h n) cs
  | n + 1, .clo _ cs => reachL (reach h n) cs
  | _, _ => []
theorem reach_t (h : Heap) (n : Nat) (x : T) : reach h n (.t x) = [] := by cases n <;> rfl
theorem reachL_t (f : V → List Nat) (hf : ∀ x, f (.t x) = []) : ∀ (ts : List T), reachL f (ts.map .t) = []
  | [] => rfl
  | t :: ts => by simp only [List.map_cons, reachL, hf, reachL_t f hf ts, List.append_nil]
theorem reachRs_t (f : V → List Nat) (hf : ∀ x, f (.t x) = []) : ∀ (xs : List (List T)), reachRs f (tRows xs) = []
  | [] => rfl
  | x :: xs => by
    have := reachRs_t f hf xs
    unfold tRows at this ⊢
    simp only [List.map_cons, reachRs, reachL_t f hf, this, List.append_nil]
@[go_sem] theorem reachRs_reach {h : Heap} {n : Nat} {xs : List (List T)} : reachRs (reach h n) (tRows xs) = [] := reachRs_t _ (reach_t h n) xs
@[go_sem] theorem lendRs_lendS {h : Heap} {xs : List (List T)} : lendRs (lendS h) (tRows xs) = some xs := lendRs_t _ (fun _ => rfl) xs
@[go_sem] theorem lendRs_lendC {h : Heap} {n : Nat} {xs : List (List T)} : lendRs (lendC h n) (tRows xs) = some xs := lendRs_t _ (lendC_t h n) xs

/-! calls of functions that may do anything to one's own blocks, seen with the frame -/
def LCall (P : Program) (σ : St) (d : Option Tmp) (f : FuncId) (xs : List V) (K : St → Prop) : Prop :=
  P.enters f = true ∧ ∀ E a w vs, RelF E σ a w → RdVs w E xs vs → Calls P f vs.toArray w fun e w' => ∃ v σ' E', e = .returned v ∧ RelF E' σ' (a.put d v) w' ∧ Ext E w E' w' ∧ K σ'
theorem LCall.mono {P : Program} {σ : St} {d : Option Tmp} {f : FuncId} {xs : List V} {K K' : St → Prop} (hk : ∀ σ, K σ → K' σ) (h : LCall P σ d f xs K) : LCall P σ d f xs K' :=
  ⟨h.1, fun E a w vs h1 h2 => (h.2 E a w vs h1 h2).mono fun e w' ⟨v, σ', E', q1, q2, q3, q4⟩ => ⟨v, σ', E', q1, q2, q3, hk _ q4⟩⟩
theorem lcall_pure {P : Program} {σ : St} {d : Option Tmp} {f : FuncId} {xs : List V} {r : V} {K : St → Prop} (hC : CPure P f xs r) (hp : V.pures xs = true) (hK : K (σ.put d r)) : LCall P σ d f xs K := by
  refine ⟨hC.1, fun E a w vs hr hvs => ?_⟩
  refine (hC.2 w E.S vs hr.rel.slt (RdVs.bare _ hp hvs)).mono ?_
  rintro e w' ⟨v, S', rfl, q1, q2, q3, q4, q5⟩
  obtain ⟨k1, k2⟩ := hr.later q5 q1 q2 q3
  exact ⟨v, _, _, rfl, k1.put d (RdV.unbare (E := { E with S := S' }) r q4), k2, hK⟩
/-- the rows are lent: what the call yields has no memory behind -/
def lendK (P : Program) (σ : St) (d : Option Tmp) (f : FuncId) (xs : List V) (K : St → Prop) : Prop :=
  V.pures xs = true ∧ ∃ r, CPure P f xs r ∧ r.scal = true ∧ K (σ.put d r)
theorem lcall_lend {P : Program} {σ : St} {d : Option Tmp} {f : FuncId} {xs : List V} {K : St → Prop} (h : lendK P σ d f (V.lends σ.h xs) K) : LCall P σ d f xs K := by
  obtain ⟨hp, r, hC, hs, hK⟩ := h
  refine ⟨hC.1, fun E a w vs hr hvs => ?_⟩
  have h2 := hC.2 w (lentS E σ.h) vs (fun b hb => by
      rcases hb with hb | ⟨i, hv, _, _, _, _, hB, _, hbk⟩
      · exact hr.rel.slt b hb
      · exact (hr.rel.own i hv b hB hbk).1) (RdVs.lend hr.rel _ hp hvs)
  refine h2.mono ?_
  rintro e w' ⟨v, S', rfl, q1, q2, q3, q4, q5⟩
  obtain ⟨k1, k2⟩ := hr.later q5 (fun _ h => h) (fun b hb => .inl hb) (fun b hb => Nat.lt_of_lt_of_le (hr.rel.slt b hb) q5.size)
  exact ⟨v, _, _, rfl, k1.put d (rdV_scal hs q4), k2, hK⟩
/-- what was given away is a value as others -/
def resO (i : Nat) (b : Option Blk) : V :=
  match b with
  | some (.shr t) => .t t
  | _ => .own i
mutual
def V.res (h : Heap) : V → V
  | .own i => resO i (h.look i)
  | .agg cs => .agg (V.ress h cs)
  | .tup cs => .tup (V.ress h cs)
  | .clo f cs => .clo f (V.ress h cs)
  | x => x
def V.ress (h : Heap) : List V → List V
  | [] => []
  | x :: xs => V.res h x :: V.ress h xs
end
mutual
theorem RdV.res {w : World} {E : Env} {h : Heap} (hr : Rel w E h) : ∀ (x : V) {v : Value}, RdV w E x v → RdV w E (x.res h) v
  | .own i, v, hx => by
    unfold V.res resO
    split
    · rename_i t hl
      obtain ⟨hv, hF, hT⟩ := hr.has i _ hl
      simp only [RdV] at hx ⊢
      rw [hx.2.2 hv (.inr hF)]; exact hT
    · exact hx
  | .agg cs, v, hx => by
    simp only [V.res, RdV] at hx ⊢
    obtain ⟨vs, hv, h1, h2⟩ := hx
    exact ⟨vs, hv, RdVs.res hr cs h1, h2⟩
  | .tup cs, v, hx => by
    simp only [V.res, RdV] at hx ⊢
    obtain ⟨vs, hv, h1⟩ := hx
    exact ⟨vs, hv, RdVs.res hr cs h1⟩
  | .clo f cs, v, hx => by
    simp only [V.res, RdV] at hx ⊢
    obtain ⟨vs, hv, h1⟩ := hx
    exact ⟨vs, hv, RdVs.res hr cs h1⟩
  | .t x, v, hx => by simpa only [V.res] using hx
  | .ptr i off, v, hx => by simpa only [V.res] using hx
  | .rptr i k n j, v, hx => by simpa only [V.res] using hx
  | .elem k d xs i j, v, hx => by simpa only [V.res] using hx
  | .cond g x, v, hx => by simpa only [V.res] using hx
  | .dead, v, hx => by simpa only [V.res] using hx
theorem RdVs.res {w : World} {E : Env} {h : Heap} (hr : Rel w E h) : ∀ (xs : List V) {vs : List Value}, RdVs w E xs vs → RdVs w E (V.ress h xs) vs
  | [], [], _ => by simp only [V.ress, RdVs]
  | x :: xs, v :: vs, hx => by
    simp only [V.ress, RdVs] at hx ⊢
    exact ⟨RdV.res hr x hx.1, RdVs.res hr xs hx.2⟩
  | [], _ :: _, h => by simp only [RdVs] at h
  | _ :: _, [], h => by simp only [RdVs] at h
end
/-- the rows are given away -/
def giveK (P : Program) (σ : St) (d : Option Tmp) (f : FuncId) (xs : List V) (K : St → Prop) (h : Option Heap) : Prop :=
  match h with
  | some h => V.pures (V.ress h xs) = true ∧ ∃ r, CPure P f (V.ress h xs) r ∧ K (({ σ with h := h } : St).put d r)
  | none => False
theorem lcall_give {P : Program} {σ : St} {d : Option Tmp} {f : FuncId} {xs : List V} {K : St → Prop} (h : giveK P σ d f xs K (giveL (reachL (reach σ.h 8) xs) σ.h)) : LCall P σ d f xs K := by
  unfold giveK at h
  split at h
  · rename_i h' hg
    obtain ⟨hp, r, hC, hK⟩ := h
    refine ⟨hC.1, fun E a w vs hr hvs => ?_⟩
    obtain ⟨E1, r1, r2, r3⟩ := RelF.giveL (σ := σ) _ (h := σ.h) hr hg
    have hvs1 := RdVs.res r1.rel _ (r2.rdVs _ hvs)
    refine (hC.2 w E1.S vs r1.rel.slt (RdVs.bare _ hp hvs1)).mono ?_
    rintro e w' ⟨v, S', rfl, q1, q2, q3, q4, q5⟩
    obtain ⟨k1, k2⟩ := r1.later q5 q1 q2 q3
    exact ⟨v, _, _, rfl, k1.put d (RdV.unbare (E := { E1 with S := S' }) r q4), r2.trans k2, hK⟩
  · exact h.elim
theorem ow_lcall {P : Program} {σ : St} {o : Oper} {K : St → Prop} {f : FuncId} {args : Array Operand} {tys : Array TypeId} (ho : o.op = .call { callee := .value (.func f), args := args, argTypes := tys })
    (h : useVs true (args.toList.map σ.ev) fun xs => LCall P σ o.dst f xs K) : OpW P o σ K := by
  obtain ⟨ys, h1, hys⟩ := useVs_ok h
  intro E a w hr next Q hn
  have hvs := hys w E _ rfl (rdVs_map hr args.toList)
  unfold Oper.wp
  rw [run_callFn ho rfl h1.1]
  simp only [Oper.upon]
  have h2 := h1.2 E a w _ hr hvs
  have e1 : (args.toList.map a.eval).toArray = args.map a.eval := by apply Array.ext'; simp only [Array.toList_map]
  rw [e1] at h2
  refine Calls.mono h2 ?_
  rintro e w' ⟨v, σ', E', rfl, q2, q3, q4⟩
  exact hn _ w' E' _ q2 q3 q4

/-! calls of a function value -/
def cloV (x : V) : Option (FuncId × List V) :=
  match x with
  | .clo f cs => some (f, cs)
  | .t (.lit (.func (.func f) ⟨[]⟩ ⟨[]⟩)) => some (f, [])
  | _ => none
def dynC (P : Program) (σ : St) (d : Option Tmp) (c : Option (FuncId × List V)) (xs : List V) (K : St → Prop) : Prop :=
  match c with
  | some (f, cs) => LCall P σ d f (xs ++ cs) K
  | none => False
theorem run_callClo {P : Program} {ρ : Operand → Value} {o : Oper} {f : FuncId} {x : Operand} {args : Array Operand} {tys : Array TypeId} {caps : Array Value} (ho : o.op = .call { callee := .value x, args := args, argTypes := tys })
    (hρ : ρ x = .func (.func f) #[] caps) (he : P.enters f = true) (w : World) : (execOp ρ o).run P w = .ok (.enter f (args.map ρ ++ caps)) w := by
  unfold Program.enters at he
  split at he
  · rename_i fn hf
    simp only [Bool.and_eq_true, Bool.not_eq_true'] at he
    have hn : ¬ fn.name = "runtime.NumGoroutine" := by simpa using he.1
    have hb : ¬ fn.body = none := fun h => by rw [h] at he; simp at he
    simp [execOp, ho, resolve, hρ, Deferred.ofValue, invoke, callFunc, hf, hn, hb]
  · cases he
theorem ow_dyn {P : Program} {σ : St} {o : Oper} {K : St → Prop} {x : Operand} {args : Array Operand} {tys : Array TypeId} (ho : o.op = .call { callee := .value x, args := args, argTypes := tys })
    (h : useV true (σ.ev x) fun x' => useVs true (args.toList.map σ.ev) fun xs => dynC P σ o.dst (cloV x') xs K) : OpW P o σ K := by
  obtain ⟨x', h0, hx⟩ := useV_ok h
  obtain ⟨ys, h1, hys⟩ := useVs_ok h0
  intro E a w hr next Q hn
  have hvs := hys w E _ rfl (rdVs_map hr args.toList)
  have hxv := hx w E _ rfl (hr.ev x)
  unfold dynC at h1
  split at h1
  · rename_i f cs hc
    obtain ⟨caps, hf, hcs⟩ : ∃ caps : Array Value, a.eval x = .func (.func f) #[] caps ∧ RdVs w E cs caps.toList := by
      unfold cloV at hc
      split at hc
      · injection hc with hc; injection hc with h1 h2; subst h1 h2
        simp only [RdV] at hxv
        exact hxv
      · injection hc with hc; injection hc with h1 h2; subst h1 h2
        exact ⟨#[], (rdV_lit_inv hxv).1, by simp only [RdVs]⟩
      · cases hc
    unfold Oper.wp
    rw [run_callClo ho hf h1.1]
    simp only [Oper.upon]
    have h2 := h1.2 E a w _ hr (RdVs.append hvs hcs)
    have e1 : (args.toList.map a.eval ++ caps.toList).toArray = args.map a.eval ++ caps := by apply Array.ext'; simp
    rw [e1] at h2
    refine Calls.mono h2 ?_
    rintro e w' ⟨v, σ', E', rfl, q2, q3, q4⟩
    exact hn _ w' E' _ q2 q3 q4
  · exact h1.elim
end Go.Proofs.Ytnbmiejjkkgckaa
