/- Proved here: Operations of the abstract machine on maps, parts of slices, arrays, closures, numbers, for use in the proofs of the given statements; conditions stand in each theorem. -/
import Derived.Test.YtnbmiejjkkgckaaZM
import Derived.Laws.OwnMore
import Derived.Laws.StructEq
set_option linter.unusedSimpArgs false
set_option linter.unusedVariables false
set_option linter.unusedSimpArgs false
set_option linter.unusedVariables false
set_option linter.unnecessarySimpa false
namespace Go.Proofs.Ytnbmiejjkkgckaa
open Go.RowKit

/-! keys of maps -/
def keyB (k k' : Value) : Bool :=
  match k, k' with
  | .int _ a, .int _ b => decide (a = b)
  | .string a, .string b => decide (a = b)
  | _, _ => false
def kindB (d : TypeDesc) (k : Value) : Bool :=
  match d, k with
  | .int kd, .int kd' _ => decide (kd = kd')
  | .string, .string _ => true
  | _, _ => false
def kindsB (d : TypeDesc) : List (Value × V) → Bool
  | [] => true
  | e :: es => kindB d e.1 && kindsB d es
def lookE (k : Value) : List (Value × V) → Option V
  | [] => none
  | e :: es => if keyB k e.1 = true then some e.2 else lookE k es
def putE (k : Value) (x : V) : List (Value × V) → List (Value × V)
  | [] => [(k, x)]
  | e :: es => if keyB k e.1 = true then (k, x) :: es else e :: putE k x es
def delE (k : Value) : List (Value × V) → List (Value × V)
  | [] => []
  | e :: es => if keyB k e.1 = true then es else e :: delE k es
theorem bytes_inj {a b : ByteArray} (h : a.toList = b.toList) : a = b := by
  rw [ByteArray.toList_eq, ByteArray.toList_eq] at h
  exact ByteArray.ext (Array.toList_inj.mp h)
theorem beq_bytesL (a b : ByteArray) : (a.toList == b.toList) = decide (a = b) := by
  by_cases h : a = b
  · subst h; simp
  · simp only [h, decide_false]
    exact beq_eq_false_iff_ne.2 fun he => h (bytes_inj he)
theorem beq_bytes (a b : ByteArray) : (a == b) = decide (a = b) := by rw [beq_toListBytes, beq_bytesL]
theorem sameNow_ok {d : TypeDesc} {k k' : Value} (h : kindB d k = true) (h' : kindB d k' = true) : Instr.sameNow d k k' = some (keyB k k') := by
  cases d <;> cases k <;> simp [kindB] at h <;> cases k' <;> simp [kindB] at h'
  · subst h h'
    simp only [Instr.sameNow, if_true, keyB]
    congr 1
  · simp only [Instr.sameNow, keyB, beq_bytes]
theorem key_eq {d : TypeDesc} {k k' : Value} (h : kindB d k = true) (h' : kindB d k' = true) (he : keyB k k' = true) : k' = k := by
  unfold kindB at h h'
  unfold keyB at he
  split at he
  · rename_i kd a kd' b
    simp only [decide_eq_true_eq] at he; subst he
    split at h
    · rename_i h1
      injection h1 with h1 h2
      simp only [decide_eq_true_eq] at h
      subst h h1
      simp only [decide_eq_true_eq] at h'
      subst h'
      rfl
    · cases ‹Value.int _ _ = Value.string _›
    · cases h
  · simp only [decide_eq_true_eq] at he; subst he; rfl
  · cases he
theorem findNow_ok {w : World} {E : Env} {d : TypeDesc} {k : Value} (hk : kindB d k = true) : ∀ {es : List (Value × V)} {l : List MapEntry} (i : Nat), RdEs w E es l → kindsB d es = true →
    (lookE k es = none ∧ Instr.findNow d k l i = some none) ∨ ∃ x j e, lookE k es = some x ∧ Instr.findNow d k l i = some (some (i + j, e.val)) ∧ RdV w E x e.val ∧ l[j]? = some e ∧ e.key = k
  | [], [], i, _, _ => .inl ⟨rfl, rfl⟩
  | e :: es, m :: l, i, hr, hks => by
    obtain ⟨k', x⟩ := e
    obtain ⟨h1, h2, h3⟩ := hr
    simp only [kindsB, Bool.and_eq_true] at hks
    have hs := sameNow_ok hk (h1 ▸ hks.1)
    simp only [lookE, Instr.findNow]
    rw [hs, h1]
    cases hkb : keyB k k' with
    | true =>
      refine .inr ⟨x, 0, m, rfl, by simp, h2, rfl, ?_⟩
      rw [h1]; exact key_eq hk hks.1 hkb
    | false =>
      simp only [Bool.false_eq_true, if_false]
      rcases findNow_ok hk (i + 1) h3 hks.2 with ⟨q1, q2⟩ | ⟨x', j, e, q1, q2, q3, q4, q5⟩
      · exact .inl ⟨q1, q2⟩
      · exact .inr ⟨x', j + 1, e, q1, by rw [q2]; simp; omega, q3, by simpa using q4, q5⟩
  | [], _ :: _, _, h, _ => h.elim
  | _ :: _, [], _, h, _ => h.elim

theorem run_checkKey {P : Program} {t : TypeId} {d : TypeDesc} {k : Value} {e : Bool} (hu : P.underlying t = some d) (hk : kindB d k = true) (w : World) : (Instr.checkKey e 10000 t k).run P w = .ok () w := by
  have h : ∀ n, (Instr.checkKey e (n + 1) t k).run P w = .ok () w := fun n => by
    rw [Instr.checkKey]
    simp only [Sem.run_bind, run_underlying hu, Result.andThen_ok]
    cases d <;> cases k <;> simp [kindB] at hk <;> rfl
  exact h 9999
theorem run_findKey' {P : Program} {t : TypeId} {d : TypeDesc} {k : Value} {l : List MapEntry} {r : Option (Nat × Value)} (hu : P.underlying t = some d) (h : Instr.findNow d k l 0 = some r) (w : World) : (Instr.findKey t k l).run P w = .ok r w := by
  simp [Instr.findKey, run_underlying hu, h]
def _root_.Go.Program.mapT (P : Program) (t : TypeId) : Option (TypeId × TypeId) :=
  match P.underlying t with
  | some (.map k e) => some (k, e)
  | _ => none
def _root_.Go.Program.zero1 (P : Program) (t : TypeId) : Option Value := (P.info? t).bind (·.zero)
def commaV (ok : Bool) (b : Bool) (x : V) : V :=
  match ok with
  | true => .tup [x, .t (.lit (.bool b))]
  | false => x
def foundV (ok : Bool) (z : Value) (x : Option V) : V :=
  match x with
  | some x => commaV ok true x
  | none => commaV ok false (litV z)
def lookupR (P : Program) (h : Heap) (ok : Bool) (u : Option (TypeId × TypeId)) (x ix : V) : RO V :=
  match u, x, ix with
  | some (kt, et), .own i, .t (.lit k) => lkA (P.underlying kt) (P.zero1 et) ok k (h.look i)
  | _, _, _ => none
where
  lkA (d : Option TypeDesc) (z : Option Value) (ok : Bool) (k : Value) (b : Option Blk) : RO V :=
    match d, z, b with
    | some d, some z, some (.map es) => some (kindB d k = true ∧ kindsB d es = true, foundV ok z (lookE k es))
    | _, _, _ => none
section
variable {P : Program} {G : Bool} {σ : St} {o : Oper} {K : V → Prop}
theorem rdV_comma {w : World} {E : Env} {ok b : Bool} {x : V} {v : Value} (h : RdV w E x v) : RdV w E (commaV ok b x) (if ok then .tuple #[v, .bool b] else v) := by
  cases ok with
  | true =>
    simp only [commaV, if_true, RdV, RdVs]
    exact ⟨_, rfl, h, .lit _ rfl trivial, trivial⟩
  | false => exact h
theorem ps_lookup {t : TypeId} {x ix : Operand} {ok : Bool} (ho : o.op = .lookup t x ix ok) (h : kR (useR (strip G (σ.ev x)) fun x' => useR (strip G (σ.ev ix)) fun ix' => lookupR P σ.h ok (P.mapT t) x' ix') K) : ∃ x, K x ∧ (G = true → YV P o σ x) := by
  have h0 : useV G (σ.ev x) fun x' => useV G (σ.ev ix) fun ix' => kR (lookupR P σ.h ok (P.mapT t) x' ix') K := useR_ok (fun y hy => useR_ok (fun z hz => hz) hy) h
  obtain ⟨x', h1, hx⟩ := useV_ok h0
  obtain ⟨ix', h2, hix⟩ := useV_ok h1
  clear h h0 h1
  unfold lookupR lookupR.lkA at h2
  split at h2
  · rename_i kt et i k hu
    split at h2
    · rename_i d z es hd hz hl
      obtain ⟨⟨hk, hks⟩, hK⟩ := h2
      refine ⟨_, hK, fun hG => yv_of fun E a w hr => ?_⟩
      have e1 := hx w E _ hG (hr.ev x)
      have e2 := (rdV_lit_inv (hix w E _ hG (hr.ev ix))).1
      obtain ⟨hv, hB, r, entries, clock, rfl, h3, h4, _⟩ := hr.rel.has i _ hl
      simp only [RdV] at e1
      have e3 := e1.2.2 _ (.inl hB)
      unfold Program.mapT at hu
      split at hu
      · rename_i kt' et' hut
        injection hu with hu; injection hu with q1 q2; subst q1 q2
        have hgo : (getObj r).run P w = .ok (.map entries clock) w := by simp [getObj, Sem.run, h3]
        rcases findNow_ok hk 0 h4 hks with ⟨q1, q2⟩ | ⟨y, j, e, q1, q2, q3, q4, q5⟩
        · refine ⟨if ok then .tuple #[z, .bool false] else z, ?_, ?_⟩
          · unfold Program.zero1 at hz
            cases hi : P.info? et' with
            | none => simp [hi] at hz
            | some it =>
              simp [hi] at hz
              simp only [execOp, ho, e2, e3, Instr.lookup, Sem.run_bind, run_underlying hut, Result.andThen_ok, hgo, Sem.run_pure, run_checkKey hd hk, run_findKey' hd q2]
              cases ok <;> simp [zeroValue, typeInfo, hi, hz]
          · rw [q1]; exact rdV_comma (rdV_litV z)
        · refine ⟨if ok then .tuple #[e.val, .bool true] else e.val, ?_, ?_⟩
          · simp only [execOp, ho, e2, e3, Instr.lookup, Sem.run_bind, run_underlying hut, Result.andThen_ok, hgo, Sem.run_pure, run_checkKey hd hk, run_findKey' hd q2]
          · rw [q1]; exact rdV_comma q3
      · cases hu
    · exact h2.elim
  · exact h2.elim
end

section
variable {P : Program} {σ : St} {o : Oper}
theorem new_makeMap {t : TypeId} (ho : o.op = .makeMap t none) : NewOp P o σ (.map []) := by
  refine ⟨rfl, fun E a w hr => ⟨.map (some w.heap.size), w.alloc (.map #[] 0), ?_, below_alloc w _, rfl, ?_, ?_⟩⟩
  · simp [execOp, ho, Instr.makeMap]
  · intro b hb
    simp only [blockOf, Option.some.injEq] at hb
    subst hb
    exact ⟨Nat.le_refl _, by rw [size_alloc]; omega⟩
  · intro E' hE
    exact ⟨w.heap.size, #[], 0, rfl, heap_alloc_new w _, trivial, by simp, by simp⟩
theorem new_makeSlice {t e : TypeId} {l c : Operand} {k by' n : Nat} {z : List Value} {kd kd' : IntKind} (ho : o.op = .makeSlice t l c) (ht : P.elemT t = some e) (hsz : P.szT e = some k) (hby : P.bytesT e = some by') (hz : P.zeroT e = some z) (hzl : z.length = k) (hzo : zeroOk z = true)
    (hn : n ≤ maxLen) (hb : by' * n ≤ 281474976710656) (hk0 : 0 < k) (hl : ∀ (w : World) (E : Env) (a : Act), RelF E σ a w → a.eval l = .int kd n) (hc : ∀ (w : World) (E : Env) (a : Act), RelF E σ a w → a.eval c = .int kd' n) :
    NewOp P o σ (.row e k (z.map .lit) (tRows (List.replicate n (z.map .lit)))) := by
  refine ⟨rfl, fun E a w hr => ?_⟩
  obtain ⟨it, zv, hi, hzv, hzc⟩ := zeroT_info hz
  unfold Program.elemT at ht
  split at ht
  · rename_i e' hu
    injection ht with ht; subst ht
    have hits : it.size = k := by unfold Program.szT at hsz; simpa [hi] using hsz
    have hib : it.bytes = by' := by unfold Program.bytesT at hby; simpa [hi] using hby
    obtain ⟨w', h1, h2, h3⟩ := run_make_full (P := P) w 0 t e' it zv k hu hi hzv hits kd kd' n (by rw [hib]; exact hb) hn (Nat.zero_le _)
    refine ⟨.slice (some ⟨w.heap.size, 0, none⟩) n n, w', by simp only [execOp, ho, hl w E a hr, hc w E a hr, Sem.run_bind, h1, Result.andThen_ok, Sem.run_pure], ⟨h3.os, h3.tape, h3.output, h3.size, fun b hb => h3.block b hb (by simp)⟩, rfl, ?_, ?_⟩
    · intro b hb
      simp only [blockOf, Option.some.injEq] at hb
      subst hb
      refine ⟨Nat.le_refl _, ?_⟩
      rcases h2.2 with ⟨h, _⟩ | ⟨g, cap, cur, he, _, hg, _⟩
      · cases h
      · injection he with he; injection he with he; injection he with he
        subst he
        exact (Array.getElem?_eq_some_iff.1 hg).1
    · intro E' hE
      have hm : (madeCells zv.cells (n * k)).toList = (List.replicate n z).flatten := by
        have hzs : zv.cells = z.toArray := by apply Array.ext'; simpa using hzc
        unfold madeCells
        rw [hzs]
        simp only [Array.toList_map, Array.toList_range]
        apply List.ext_getElem?
        intro i
        by_cases hin : i < n * k
        · have hkz : 0 < z.length := by omega
          have hm := Nat.mod_lt i hkz
          have h1 : i / k < n := (Nat.div_lt_iff_lt_mul hk0).2 hin
          have hp := flatten_part (k := k) (List.replicate n z) (i / k) z (fun x hx => by rw [List.eq_of_mem_replicate hx]; exact hzl) (by rw [List.getElem?_replicate, if_pos h1])
          have hdm : i / k * k + i % k = i := by rw [Nat.mul_comm]; exact Nat.div_add_mod i k
          have h2 : ((List.replicate n z).flatten)[i]? = z[i % k]? := by
            have h3 : (((List.replicate n z).flatten.drop (i / k * k)).take k)[i % k]? = z[i % k]? := by rw [hp]
            rw [List.getElem?_take, if_pos (Nat.mod_lt i hk0), List.getElem?_drop, hdm] at h3
            exact h3
          rw [h2, List.getElem?_map, List.getElem?_range hin]
          subst hzl
          simp [hm, getElem!_pos]
        · rw [List.getElem?_eq_none (by simp; omega), List.getElem?_eq_none]
          rw [flatten_len (k := k) _ (fun x hx => by rw [List.eq_of_mem_replicate hx]; exact hzl)]
          simp; omega
      refine ⟨_, by rw [tRows_len, List.length_replicate]; exact h2, ?_, ?_, ?_⟩
      · rw [hm, tRows_flat]
        have : ∀ m, RdVs w' E' ((List.replicate m (z.map T.lit)).flatten.map .t) (List.replicate m z).flatten := by
          intro m
          induction m with
          | zero => simp only [List.replicate_zero, List.flatten_nil, List.map_nil, RdVs]
          | succ m ih =>
            simp only [List.replicate_succ, List.flatten_cons, List.map_append]
            refine RdVs.append ?_ ih
            rw [List.map_map]
            exact rdVs_lits z hzo
        exact this n
      · exact tRows_all (fun y hy => by rw [List.eq_of_mem_replicate hy, List.length_map]; exact hzl)
      · rw [hm, List.all_eq_true]
        intro v hv
        obtain ⟨y, hy, hvy⟩ := List.mem_flatten.1 hv
        rw [List.eq_of_mem_replicate hy] at hvy
        unfold zeroOk at hzo
        simp only [List.all_eq_true, Bool.and_eq_true] at hzo
        exact (hzo v hvy).1
  · cases ht

/-! a map is written -/
theorem RdEs.put {w : World} {E : Env} {d : TypeDesc} {k : Value} {x : V} {v : Value} (hk : kindB d k = true) (hx : RdV w E x v) : ∀ {es : List (Value × V)} {l : List MapEntry}, RdEs w E es l → kindsB d es = true → ∀ clock,
    (lookE k es = none → RdEs w E (putE k x es) (l ++ [{ key := k, val := v, born := clock }])) ∧
    ∀ j e, Instr.findNow d k l 0 = some (some (j, e)) → RdEs w E (putE k x es) (l.modify j fun e => { e with key := k, val := v })
  | [], [], _, _, clock => ⟨fun _ => ⟨rfl, hx, trivial⟩, fun j e h => by simp [Instr.findNow] at h⟩
  | (k', y) :: es, m :: l, hr, hks, clock => by
    obtain ⟨h1, h2, h3⟩ := hr
    simp only [kindsB, Bool.and_eq_true] at hks
    have hs := sameNow_ok hk (h1 ▸ hks.1)
    have ih := RdEs.put hk hx h3 hks.2 clock
    simp only [lookE, putE]
    cases hkb : keyB k k' with
    | true =>
      refine ⟨fun h => by simp at h, fun j e hf => ?_⟩
      have hs' : Instr.sameNow d k m.key = some true := by rw [hs, h1, hkb]
      simp only [Instr.findNow, hs', Option.some.injEq, Prod.mk.injEq] at hf
      obtain ⟨rfl, _⟩ := hf
      simp only [if_true, List.modify_zero_cons]
      exact ⟨rfl, hx, h3⟩
    | false =>
      simp only [Bool.false_eq_true, if_false]
      refine ⟨fun h => ⟨h1, h2, ih.1 h⟩, fun j e hf => ?_⟩
      have hs' : Instr.sameNow d k m.key = some false := by rw [hs, h1, hkb]
      simp only [Instr.findNow, hs'] at hf
      have hshift : ∀ (l : List MapEntry) (i : Nat) j e, Instr.findNow d k l (i + 1) = some (some (j, e)) → ∃ j', j = j' + 1 ∧ Instr.findNow d k l i = some (some (j', e)) := by
        intro l
        induction l with
        | nil => intro i j e h; simp [Instr.findNow] at h
        | cons m l ih =>
          intro i j e h
          simp only [Instr.findNow] at h ⊢
          split at h
          · simp only [Option.some.injEq, Prod.mk.injEq] at h
            obtain ⟨rfl, rfl⟩ := h
            exact ⟨i, rfl, rfl⟩
          · exact ih (i + 1) j e h
          · cases h
      obtain ⟨j', rfl, hf'⟩ := hshift l 0 j e hf
      rw [List.modify_succ_cons]
      exact ⟨h1, h2, ih.2 j' e hf'⟩
  | [], _ :: _, h, _, _ => h.elim
  | _ :: _, [], h, _, _ => h.elim
end
end Go.Proofs.Ytnbmiejjkkgckaa
/- Proved here: More operations of the abstract machine (maps written, arrays, parts of slices, numbers), for use in the proofs of the given statements; conditions stand in each theorem. -/
set_option linter.unusedSimpArgs false
set_option linter.unusedVariables false
set_option linter.unnecessarySimpa false
namespace Go.Proofs.Ytnbmiejjkkgckaa
open Go.RowKit

def mapPutR (P : Program) (h : Heap) (u : Option (TypeId × TypeId)) (m k x : V) : RO Heap :=
  match u, m, k with
  | some (kt, _), .own i, .t (.lit kv) => mpA (P.underlying kt) h i kv x (h.look i)
  | _, _, _ => none
where
  mpA (d : Option TypeDesc) (h : Heap) (i : Nat) (kv : Value) (x : V) (b : Option Blk) : RO Heap :=
    match d, b with
    | some d, some (.map es) => some (kindB d kv = true ∧ kindsB d es = true, h.set i (.map (putE kv x es)))
    | _, _ => none
theorem sameBits_self {d : TypeDesc} {k : Value} (h : kindB d k = true) : Instr.sameBits 10000 k k = true := by
  cases d <;> cases k <;> simp [kindB] at h <;> simp [Instr.sameBits, beq_bytes]
theorem run_setObj' {P : Program} {w : World} {r : Nat} {es : Array MapEntry} {c : Nat} (o : Obj) (h : w.heap[r]? = some (.map es c)) : (setObj r o).run P w = .ok () { w with heap := w.heap.setIfInBounds r o } := by
  simp [setObj, Sem.run, h]
theorem grown_setObj (w : World) (r : Nat) (o : Obj) : w.grownBy { w with heap := w.heap.setIfInBounds r o } (some r) :=
  ⟨rfl, rfl, rfl, by simp, fun k _ hk => by
    have : r ≠ k := fun h => hk (by rw [h])
    simp [Array.getElem?_setIfInBounds, this]⟩
theorem modify_born (l : List MapEntry) (j : Nat) (k v : Value) : (l.modify j fun e => { e with key := k, val := v }).map (·.born) = l.map (·.born) := by
  induction l generalizing j with
  | nil => cases j <;> simp
  | cons m l ih =>
    cases j with
    | zero => simp
    | succ j => simp [List.modify_succ_cons, ih]
section
variable {P : Program} {σ : St} {o : Oper} {K : St → Prop}
theorem skip_mapPut {t : TypeId} {m k x : Operand} (ho : o.op = .mapUpdate t m k x ∨ o.op = .insert t m k x)
    (h : kR (useR (strip true (σ.ev m)) fun m' => useR (strip true (σ.ev k)) fun k' => useR (strip true (σ.ev x)) fun x' => mapPutR P σ.h (P.mapT t) m' k' x') (fun h' => K { σ with h := h' })) : ∃ σ', K σ' ∧ SkipOp P o σ σ' := by
  have h0 : useV true (σ.ev m) fun m' => useV true (σ.ev k) fun k' => useV true (σ.ev x) fun x' => kR (mapPutR P σ.h (P.mapT t) m' k' x') (fun h' => K { σ with h := h' }) :=
    useR_ok (fun y hy => useR_ok (fun z hz => useR_ok (fun u hu => hu) hz) hy) h
  obtain ⟨m', h1, hm⟩ := useV_ok h0
  obtain ⟨k', h2, hk⟩ := useV_ok h1
  obtain ⟨x', h3, hx⟩ := useV_ok h2
  clear h h0 h1 h2
  unfold mapPutR mapPutR.mpA at h3
  split at h3
  · rename_i kt et i kv hu
    split at h3
    · rename_i d es hd hl
      obtain ⟨⟨hkd, hks⟩, hK⟩ := h3
      refine ⟨_, hK, fun E a w hr => ?_⟩
      have e1 := hm w E _ rfl (hr.ev m)
      have e2 := (rdV_lit_inv (hk w E _ rfl (hr.ev k))).1
      have e4 := hx w E _ rfl (hr.ev x)
      obtain ⟨hv, hB0, r, entries, clock, rfl, h3, h4, h5, h6⟩ := hr.rel.has i _ hl
      have hB : E.B i = some (.map (some r)) := hB0
      simp only [RdV] at e1
      have e3 := e1.2.2 _ (.inl hB)
      unfold Program.mapT at hu
      split at hu
      · rename_i kt' et' hut
        injection hu with hu; injection hu with q1 q2; subst q1 q2
        have hgo : (getObj r).run P w = .ok (.map entries clock) w := by simp [getObj, Sem.run, h3]
        have hexec : ∀ w', (Instr.mapUpdate t (.map (some r)) kv (a.eval x)).run P w = .ok () w' → (execOp a.eval o).run P w = .ok .skip w' := by
          intro w' hw
          rcases ho with ho | ho <;> simp only [execOp, ho, e2, e3, Sem.run_bind, hw, Result.andThen_ok, Sem.run_pure]
        have hrlt : r < w.heap.size := (Array.getElem?_eq_some_iff.1 h3).1
        rcases findNow_ok hkd 0 h4 hks with ⟨q1, q2⟩ | ⟨y, j, e, q1, q2, q3, q4, q5⟩
        · refine ⟨{ w with heap := w.heap.setIfInBounds r (.map (entries.push { key := kv, val := a.eval x, born := clock }) (clock + 1)) }, hexec _ ?_, ?_⟩
          · simp only [Instr.mapUpdate, Sem.run_bind, run_underlying hut, Result.andThen_ok, hgo, run_checkKey hd hkd, run_findKey' hd q2, run_setObj' _ h3]
          · refine hr.upd hB hl (by simpa [blockOf] using grown_setObj w r _) (by simp) (fun hE => ?_) rfl
            refine ⟨r, entries.push { key := kv, val := a.eval x, born := clock }, clock + 1, rfl, by simp [hrlt], ?_, ?_, ?_⟩
            · rw [Array.toList_push]
              exact (RdEs.put hkd (hE.rdV _ e4) (hE.rdEs _ h4) hks clock).1 q1
            · rw [Array.toList_push]
              intro e he
              rcases List.mem_append.1 he with he | he
              · have := h5 e he; omega
              · simp at he; subst he; exact Nat.lt_succ_self _
            · rw [Array.toList_push, List.map_append, List.nodup_append]
              refine ⟨h6, by simp, ?_⟩
              intro b hb c hc
              obtain ⟨e, he, rfl⟩ := List.mem_map.1 hb
              simp at hc
              have := h5 e he
              omega
        · have hej : entries[j]? = some e := by simpa using q4
          have hstay : ((((entries[j]?).map (·.key)).getD kv)) = kv := by rw [hej]; exact q5
          rw [Nat.zero_add] at q2
          refine ⟨{ w with heap := w.heap.setIfInBounds r (.map (entries.modify j fun e => { e with key := kv, val := a.eval x }) clock) }, hexec _ ?_, ?_⟩
          · simp only [Instr.mapUpdate, Sem.run_bind, run_underlying hut, Result.andThen_ok, hgo, run_checkKey hd hkd, run_findKey' hd q2, hstay, Instr.keyThatStays, sameBits_self hkd, if_true, Sem.run_pure, run_setObj' _ h3]
          · refine hr.upd hB hl (by simpa [blockOf] using grown_setObj w r _) (by simp) (fun hE => ?_) rfl
            refine ⟨r, entries.modify j fun e => { e with key := kv, val := a.eval x }, clock, rfl, by simp [hrlt], ?_, ?_, ?_⟩
            · rw [Array.toList_modify]
              exact (RdEs.put hkd (hE.rdV _ e4) (hE.rdEs _ h4) hks clock).2 j _ q2
            · rw [Array.toList_modify]
              intro e' he'
              have : e'.born ∈ (entries.toList.modify j fun e => { e with key := kv, val := a.eval x }).map (·.born) := List.mem_map.2 ⟨e', he', rfl⟩
              rw [modify_born] at this
              obtain ⟨e2, he2, hb⟩ := List.mem_map.1 this
              rw [← hb]; exact h5 e2 he2
            · rw [Array.toList_modify, modify_born]; exact h6
      · cases hu
    · exact h3.elim
  · exact h3.elim
end
/-! arrays -/
def indexA (P : Program) (G : Bool) (u : Option TypeDesc) (x ix : V) : RO V :=
  match x, ix, u with
  | .agg cs, .t (.lit (.int _ n)), some (.array len e) => ixS G cs n len e (P.szT e) P
  | x, ix, u => indexR P G u x ix
where
  ixS (G : Bool) (cs : List V) (n : Int) (len : Nat) (e : TypeId) (k : Option Nat) (P : Program) : RO V :=
    match k with
    | some k => andR (G = true → 0 ≤ n ∧ n < len) (okR (partV P e cs (n.toNat * k)))
    | none => none
section
variable {P : Program} {G : Bool} {σ : St} {o : Oper} {K : V → Prop}
theorem ps_indexA {t : TypeId} {x ix : Operand} (ho : o.op = .index t x ix) (h : useV G (σ.ev x) fun x' => useV G (σ.ev ix) fun ix' => kR (indexA P G (P.underlying t) x' ix') K) : ∃ x, K x ∧ (G = true → YV P o σ x) := by
  obtain ⟨x', h0, hx⟩ := useV_ok h
  obtain ⟨ix', h1, hix⟩ := useV_ok h0
  unfold indexA at h1
  split at h1
  · rename_i cs kk n len e hu
    unfold indexA.ixS at h1
    split at h1
    · rename_i k hk
      unfold andR okR at h1
      split at h1
      · rename_i q v hv
        split at hv
        · rename_i v' hv'
          injection hv with hv; injection hv with hv1 hv2; subst hv1 hv2
          refine ⟨_, h1.2, fun hG => yv_of fun E a w hr => ?_⟩
          have e1 := hx w E _ hG (hr.ev x)
          have e2 := (rdV_lit_inv (hix w E _ hG (hr.ev ix))).1
          obtain ⟨hn0, hn1⟩ := h1.1.1 hG
          simp only [RdV] at e1
          obtain ⟨vs, e3, e4, e5⟩ := e1
          obtain ⟨u, hu1, hu2⟩ := part_ok (P := P) e4 e5 hv'
          refine ⟨u, ?_, hu2⟩
          simp only [execOp, ho, e2, e3, Instr.index, asIntOf, Sem.run_bind, Sem.run_pure, Result.andThen_ok, run_underlying hu, hn0, hn1, and_self, if_true, run_sizeOf hk, hu1]
        · cases hv
      · exact h1.elim
    · exact h1.elim
  · unfold indexR at h1
    split at h1
    · rename_i s kk n hu _
      refine ⟨_, h1.2, fun hG => yv_of fun E a w hr => ?_⟩
      have e1 := (rdV_lit_inv (hx w E _ hG (hr.ev x))).1
      have e2 := (rdV_lit_inv (hix w E _ hG (hr.ev ix))).1
      obtain ⟨h0, h1⟩ := h1.1 hG
      refine ⟨.int .u8 (s.data.toList.getD n.toNat 0).toNat, ?_, rdV_lit rfl rfl⟩
      have hlt : n.toNat < s.size := by omega
      have hs : s[n.toNat]? = some (s.data.toList.getD n.toNat 0) := by
        rw [List.getD_eq_getElem?_getD, getElem?_pos s n.toNat hlt]
        have h2 : n.toNat < s.data.toList.length := by simpa using hlt
        rw [List.getElem?_eq_getElem h2]
        simp
        rfl
      simp [execOp, ho, e1, e2, Instr.index, asIntOf, run_underlying hu, h0, hs]
    · exact h1.elim
/-! the place of an element: of an array too -/
def indexAddrA (P : Program) (G : Bool) (h : Heap) (u : Option TypeDesc) (e : Option TypeId) (x ix : V) : RO V :=
  match u, ix with
  | some (.array len e), .t (.lit (.int _ n)) => iaS G h n len (P.szT e) x
  | _, ix => indexAddrR P G h e x ix
where
  iaS (G : Bool) (h : Heap) (n : Int) (len : Nat) (k : Option Nat) (x : V) : RO V :=
    match k, x with
    | some k, .own i => andR (G = true → 0 ≤ n ∧ n < len) (fieldAddrR.isBox (h.look i) (.ptr i (n.toNat * k)))
    | some k, .ptr i off => andR (G = true → 0 ≤ n ∧ n < len) (fieldAddrR.isBox (h.look i) (.ptr i (off + n.toNat * k)))
    | _, _ => none
theorem run_indexAt_arr {t e : TypeId} {len k : Nat} (hu : P.underlying t = some (.array len e)) (hk : P.szT e = some k) {b off : Nat} {kk : IntKind} {n : Int} (h0 : 0 ≤ n) (h1 : n < len) (w : World) :
    (Instr.indexAt t (.pointer (some ⟨b, off, none⟩)) (.int kk n)).run P w = .ok (.pointer (some ⟨b, off + n.toNat * k, none⟩)) w := by
  simp [Instr.indexAt, asIntOf, run_underlying hu, run_sizeOf hk, h0, h1, Instr.sureAddr, Addr.add_lit]
theorem ps_indexAddrA {t : TypeId} {x ix : Operand} (ho : o.op = .indexAddr t x ix) (h : useV G (σ.ev x) fun x' => useV G (σ.ev ix) fun ix' => kR (indexAddrA P G σ.h (P.underlying t) (P.elemT t) x' ix') K) : ∃ x, K x ∧ (G = true → YV P o σ x) := by
  obtain ⟨x', h0, hx⟩ := useV_ok h
  obtain ⟨ix', h1, hix⟩ := useV_ok h0
  clear h h0
  have hfin : ∀ (x'' : V), indexAddrV P G σ.h t x' ix' K → ∃ x, K x ∧ (G = true → YV P o σ x) := fun _ h => by
    unfold indexAddrV at h
    split at h
    · rename_i kk n e ht
      split at h
      · rename_i k d xs
        split at h
        · rename_i hk
          refine ⟨_, h.2, fun hG => yv_of fun E a w hr => ?_⟩
          have e1 := hx w E _ hG (hr.ev x)
          have e2 := (rdV_lit_inv (hix w E _ hG (hr.ev ix))).1
          obtain ⟨hn0, hn1⟩ := h.1 hG
          simp only [RdV] at e1
          generalize hv : a.eval x = v at e1
          have e1' := e1
          cases e1 with
          | list _ _ _ A c hm hc hnn hkk ha hrr =>
            obtain ⟨b, off, hA, _⟩ := ha n.toNat _ (nth_some (d := d) (by omega))
            subst hA
            refine ⟨.pointer (some ⟨b, off + n.toNat * k, none⟩), by simp only [execOp, ho, e2, hv, Sem.run_bind, run_indexAt ht hk hn0 hn1, Result.andThen_ok, Sem.run_pure], ?_⟩
            simp only [RdV]
            exact ⟨b, off, c, e1', by omega, by simp⟩
        · exact h.elim
      · rename_i i
        split at h
        · rename_i e' k d xs hl
          split at h
          · rename_i hk
            refine ⟨_, h.2, fun hG => yv_of fun E a w hr => ?_⟩
            have e1 := hx w E _ hG (hr.ev x)
            have e2 := (rdV_lit_inv (hix w E _ hG (hr.ev ix))).1
            obtain ⟨hn0, hn1⟩ := h.1 hG
            simp only [RdV] at e1
            obtain ⟨b, c, vs, hB, h3, _, h4⟩ := row_at (n := n.toNat) hr.rel hl (by omega)
            have e3 := e1.2.2 _ (.inl hB)
            refine ⟨.pointer (some ⟨b, 0 + n.toNat * k, none⟩), by simp only [execOp, ho, e2, e3, Sem.run_bind, run_indexAt ht hk hn0 hn1, Result.andThen_ok, Sem.run_pure], ?_⟩
            simp only [RdV]
            exact ⟨rfl, e1.2.1, fun hv hb => ⟨b, xs.length, c, hr.rel.is hB hb, by omega, by simp⟩⟩
          · exact h.elim
        · rename_i k d xs hl
          split at h
          · rename_i hk
            refine ⟨_, h.2, fun hG => yv_of fun E a w hr => ?_⟩
            have e0 := hx w E _ hG (hr.ev x)
            have e2 := (rdV_lit_inv (hix w E _ hG (hr.ev ix))).1
            obtain ⟨hn0, hn1⟩ := h.1 hG
            simp only [RdV] at e0
            obtain ⟨hv', hF, hT⟩ := hr.rel.has i _ hl
            have hv : a.eval x = hv' := e0.2.2 _ (.inr hF)
            have e1 : RdT w E.S (.list k d xs) hv' := hT
            have e1' := e1
            cases e1 with
            | list _ _ _ A c hm hc hnn hkk ha hrr =>
              obtain ⟨b, off, hA, _⟩ := ha n.toNat _ (nth_some (d := d) (by omega))
              subst hA
              refine ⟨.pointer (some ⟨b, off + n.toNat * k, none⟩), by simp only [execOp, ho, e2, hv, Sem.run_bind, run_indexAt ht hk hn0 hn1, Result.andThen_ok, Sem.run_pure], ?_⟩
              simp only [RdV]
              exact ⟨b, off, c, e1', by omega, by simp⟩
          · exact h.elim
        · exact h.elim
      · exact h.elim
    · exact h.elim
  unfold indexAddrA at h1
  split at h1
  · rename_i len e kk n hu
    unfold indexAddrA.iaS fieldAddrR.isBox at h1
    split at h1
    · rename_i k i hk
      split at h1
      · rename_i cs hl
        refine ⟨_, h1.2, fun hG => yv_of fun E a w hr => ?_⟩
        obtain ⟨hn0, hn1⟩ := h1.1.1 hG
        have e1 := hx w E _ hG (hr.ev x)
        have e2 := (rdV_lit_inv (hix w E _ hG (hr.ev ix))).1
        obtain ⟨b, vs, ty, hB, hh, q1, q2⟩ := box_at hr.rel hl
        simp only [RdV] at e1
        have e3 := e1.2.2 _ (.inl hB)
        refine ⟨.pointer (some ⟨b, 0 + n.toNat * k, none⟩), by simp only [execOp, ho, e2, e3, Sem.run_bind, run_indexAt_arr hu hk hn0 hn1, Result.andThen_ok, Sem.run_pure], ?_⟩
        simp only [RdV]
        exact ⟨rfl, e1.2.1, fun hv hb => ⟨b, hr.rel.is hB hb, by simp⟩⟩
      · exact h1.elim
    · rename_i k i off hk
      split at h1
      · rename_i cs hl
        refine ⟨_, h1.2, fun hG => yv_of fun E a w hr => ?_⟩
        obtain ⟨hn0, hn1⟩ := h1.1.1 hG
        have e1 := hx w E _ hG (hr.ev x)
        have e2 := (rdV_lit_inv (hix w E _ hG (hr.ev ix))).1
        obtain ⟨b, vs, ty, hB, hh, q1, q2⟩ := box_at hr.rel hl
        simp only [RdV] at e1
        obtain ⟨b', e4, e3⟩ := e1.2.2 _ (.inl hB)
        injection e4 with e4; injection e4 with e4; injection e4 with e4
        subst e4
        refine ⟨.pointer (some ⟨b, off + n.toNat * k, none⟩), by simp only [execOp, ho, e2, e3, Sem.run_bind, run_indexAt_arr hu hk hn0 hn1, Result.andThen_ok, Sem.run_pure], ?_⟩
        simp only [RdV]
        exact ⟨rfl, e1.2.1, fun hv hb => ⟨b, hr.rel.is hB hb, rfl⟩⟩
      · exact h1.elim
    · exact h1.elim
  · exact hfin .dead (indexAddrR_ok h1)
/-! closures -/
def makeFuncR (fn : Fn) (first : List Operand) (xs : List V) : RO V :=
  match fn, first with
  | .func f, [] => some (True, .clo f xs)
  | _, _ => none
def useVsR (G : Bool) : List V → Prop × List V
  | [] => (True, [])
  | x :: xs => uvC (strip G x) (useVsR G xs)
where
  uvC (a : Prop × V) (b : Prop × List V) : Prop × List V :=
    match a, b with
    | (p, x), (q, r) => (p ∧ q, x :: r)
theorem useVsR_ok {F : List V → Prop} : ∀ (l : List V), (useVsR G l).1 → F (useVsR G l).2 → useVs G l F
  | [], _, hf => hf
  | x :: r, hp, hf => by
    unfold useVsR useVsR.uvC at hp hf
    unfold useVs
    refine useR_ok (α := Unit) (f := fun y => some ((useVsR G r).1 ∧ F (y :: (useVsR G r).2), ())) (K := fun _ => True) (fun y hy => ?_) ?_
    · exact useVsR_ok r hy.1.1 hy.1.2
    · unfold useR andR
      exact ⟨⟨hp.1, hp.2, hf⟩, trivial⟩
def mfR (fn : Fn) (first : List Operand) (ps : Prop × List V) : RO V :=
  match ps with
  | (p, xs) => andR p (makeFuncR fn first xs)
theorem ps_makeFunc {fn : Fn} {first captured : Array Operand} (ho : o.op = .makeFunc fn first captured) (h : kR (mfR fn first.toList (useVsR G (captured.toList.map σ.ev))) K) : ∃ x, K x ∧ (G = true → YV P o σ x) := by
  generalize hps : useVsR G (captured.toList.map σ.ev) = ps at h
  obtain ⟨p, xs⟩ := ps
  cases fn with
  | func f =>
    cases hfl : first.toList with
    | nil =>
      rw [hfl] at h
      have hf0 : first = #[] := by apply Array.ext'; simpa using hfl
      subst hf0
      have h' : (p ∧ True) ∧ K (.clo f xs) := h
      have hu : useVs G (captured.toList.map σ.ev) fun xs => K (.clo f xs) := useVsR_ok _ (by rw [hps]; exact h'.1.1) (by rw [hps]; exact h'.2)
      obtain ⟨ys, hK, hys⟩ := useVs_ok hu
      refine ⟨_, hK, fun hG => yv_of fun E a w hr => ⟨.func (.func f) #[] (captured.map a.eval), by simp [execOp, ho, Instr.makeFunc], ?_⟩⟩
      simp only [RdV]
      refine ⟨_, rfl, ?_⟩
      rw [Array.toList_map]
      exact hys w E _ hG (rdVs_map hr captured.toList)
    | cons y r => rw [hfl] at h; exact h.elim
  | _ => simp only [mfR, makeFuncR, andR] at h; exact h.elim
end
end Go.Proofs.Ytnbmiejjkkgckaa
/- Proved here: More operations of the abstract machine (parts of slices, the lesser and the greater number, deferred calls), for use in the proofs of the given statements; conditions stand in each theorem. -/
set_option linter.unusedSimpArgs false
set_option linter.unusedVariables false
set_option linter.unnecessarySimpa false
namespace Go.Proofs.Ytnbmiejjkkgckaa
open Go.RowKit

/-! parts of slices and strings -/
def bndR (G : Bool) (o : Option V) (z : Int) : RO Int :=
  match o with
  | none => some (True, z)
  | some x => bndX (strip G x)
where
  bndX (s : Prop × V) : RO Int :=
    match s with
    | (p, .t (.lit (.int _ n))) => some (p, n)
    | _ => none
def slcC (G : Bool) (p q : Prop) (l h : Int) (n : Nat) (y : V) : RO V := some (p ∧ q ∧ (G = true → 0 ≤ l ∧ l ≤ h ∧ h ≤ n), y)
def slcA (G : Bool) (l h : RO Int) (n : Nat) (f : Int → Int → V) : RO V :=
  match l, h with
  | some (p, l), some (q, h) => slcC G p q l h n (f l h)
  | _, _ => none
def slcT (k : Nat) (d : List T) (xs : List (List T)) (l h : Int) : V := .t (.list k d ((xs.take h.toNat).drop l.toNat))
def slcS (s : ByteArray) (l h : Int) : V := .t (.lit (.string (s.extract l.toNat h.toNat)))
def slcR (P : Program) (G : Bool) (hp : Heap) (u : Option TypeDesc) (x : V) (lo hi : Option V) : RO V :=
  match u, x with
  | some .string, .t (.lit (.string s)) => slcA G (bndR G lo 0) (bndR G hi s.size) s.size (slcS s)
  | some (.slice e), .t (.list k d xs) => slcE G k d xs lo hi (P.szT e)
  | some (.slice e), .own i => slcO G lo hi (P.szT e) (hp.look i)
  | _, _ => none
where
  slcE (G : Bool) (k : Nat) (d : List T) (xs : List (List T)) (lo hi : Option V) (sz : Option Nat) : RO V :=
    if sz = some k then slcA G (bndR G lo 0) (bndR G hi xs.length) xs.length (slcT k d xs) else none
  slcO (G : Bool) (lo hi : Option V) (sz : Option Nat) (b : Option Blk) : RO V :=
    match b with
    | some (.shr (.list k d xs)) => slcE G k d xs lo hi sz
    | _ => none
section
variable {P : Program} {G : Bool} {σ : St} {o : Oper} {K : V → Prop}
theorem run_bound {x : Value} {kk : IntKind} {n : Int} {y : Nat} {c : BoundsCode} (hx : x = .int kk n) (h0 : 0 ≤ n) (h1 : n ≤ y) (w : World) : (Instr.sliceBound x y c).run P w = .ok n.toNat w := by
  subst hx
  simp [Instr.sliceBound, asIntOf, h0, h1]
/-- the bounds, as the text gives them -/
def BndIs (o : Option Value) (z n : Int) : Prop :=
  match o with
  | none => n = z
  | some v => ∃ kk, v = .int kk n
theorem bnd_ok {w : World} {E : Env} {a : Act} (hr : RelF E σ a w) (hG : G = true) {lo : Option Operand} {z n : Int} {p : Prop} (h : bndR G (lo.map σ.ev) z = some (p, n)) (hp : p) : BndIs (lo.map a.eval) z n := by
  cases lo with
  | none => simp only [Option.map_none, bndR, Option.some.injEq, Prod.mk.injEq] at h; exact h.2.symm
  | some x =>
    simp only [Option.map_some, bndR] at h
    unfold bndR.bndX at h
    split at h
    · rename_i p' kk n' heq
      injection h with h; injection h with h1 h2; subst h1 h2
      have h3 : useV G (σ.ev x) fun y => y = .t (.lit (.int kk n')) := by
        refine useR_ok (α := Unit) (f := fun y => some (y = .t (.lit (.int kk n')), ())) (K := fun _ => True) (fun y hy => hy.1) ?_
        rw [heq]
        unfold useR andR
        exact ⟨⟨hp, rfl⟩, trivial⟩
      obtain ⟨y, rfl, hy⟩ := useV_ok h3
      exact ⟨kk, (rdV_lit_inv (hy w E _ hG (hr.ev x))).1⟩
    · cases h
theorem run_bounds_slice {lo hi : Option Value} {len cap : Nat} {l h : Int} (hl : BndIs lo 0 l) (hh : BndIs hi len h) (h0 : 0 ≤ l) (h1 : l ≤ h) (h2 : h ≤ cap) (b : Bool) (w : World) :
    (Instr.sliceBounds b len cap lo hi none).run P w = .ok (l.toNat, h.toNat, cap) w := by
  have key : ∀ (hv : Nat), (hv : Int) = h → ((match lo with
      | some v => Instr.sliceBound v hv .sliceB
      | none => pure 0 : Sem Nat)).run P w = .ok l.toNat w := by
    intro hv hhv
    cases lo with
    | none => simp only [BndIs] at hl; subst hl; simp
    | some v => obtain ⟨kk, rfl⟩ := hl; exact run_bound rfl h0 (by omega) w
  unfold Instr.sliceBounds
  cases hi with
  | none =>
    simp only [BndIs] at hh
    subst hh
    simp only [Sem.run_bind, Sem.run_pure, Result.andThen_ok]
    have := key len rfl
    cases lo with
    | none => simp only [BndIs] at hl; subst hl; simp
    | some v => simp only at this; simp [this]
  | some v =>
    obtain ⟨kk, rfl⟩ := hh
    simp only [Sem.run_bind, Sem.run_pure, Result.andThen_ok]
    have hb := fun c => run_bound (P := P) (x := .int kk h) (c := c) rfl (by omega) h2 w
    have := key h.toNat (by omega)
    cases b <;> simp only [Bool.false_eq_true, if_false, if_true, hb, Result.andThen_ok] <;>
      (cases lo with
      | none => simp only [BndIs] at hl; subst hl; simp
      | some v => simp only at this; simp [this])
theorem rdT_sub {w : World} {S : Nat → Prop} {k : Nat} {d : List T} {xs : List (List T)} {A : Option Addr} {n c l h : Nat} (hT : RdT w S (.list k d xs) (.slice A n c)) (hlh : l ≤ h) (hh : h ≤ xs.length) :
    RdT w S (.list k d ((xs.take h).drop l)) (.slice (if c = l then A else A.map (·.add (l * k))) (h - l) (c - l)) := by
  generalize hv : Value.slice A n c = v at hT
  cases hT with
  | list _ _ _ A' c' hm hc hn hk ha hr =>
    injection hv with e1 e2 e3
    subst e1 e2 e3
    have hlen : ((xs.take h).drop l).length = h - l := by simp; omega
    have hget : ∀ i e, ((xs.take h).drop l)[i]? = some e → xs[l + i]? = some e := by
      intro i e he
      rw [List.getElem?_drop, List.getElem?_take] at he
      split at he
      · exact he
      · cases he
    rw [← hlen]
    refine .list k d _ _ _ (by rw [hlen]; omega) (by rw [hlen]; omega) ?_ ?_ ?_ ?_
    · intro hA
      split at hA
      · omega
      · cases A with
        | none => rw [hn rfl]; omega
        | some x => cases hA
    · intro e he
      exact hk e (List.mem_of_mem_take (List.mem_of_mem_drop he))
    · intro i e he
      have he' := hget i e he
      have hlt := (List.getElem?_eq_some_iff.1 he').1
      obtain ⟨b, off, rfl, hb, hj⟩ := ha (l + i) e he'
      have hcl : ¬ c = l := by
        have : i < h - l := by rw [← hlen]; exact (List.getElem?_eq_some_iff.1 he).1
        omega
      refine ⟨b, off + l * k, by rw [if_neg hcl]; simp [Addr.add_lit], hb, fun j x hx => ?_⟩
      obtain ⟨u, hu⟩ := hj j x hx
      exact ⟨u, by rw [show off + l * k + i * k + j = off + (l + i) * k + j from by rw [Nat.add_mul]; omega]; exact hu⟩
    · intro i e j x b off u he hx hA hu
      have he' := hget i e he
      obtain ⟨b0, off0, rfl, _, _⟩ := ha (l + i) e he'
      have hcl : ¬ c = l := by
        have : i < h - l := by rw [← hlen]; exact (List.getElem?_eq_some_iff.1 he).1
        omega
      rw [if_neg hcl] at hA
      simp only [Option.map_some, Addr.add_lit, Option.some.injEq, Addr.mk.injEq] at hA
      obtain ⟨rfl, rfl, _⟩ := hA
      exact hr (l + i) e j x b0 off0 u he' hx rfl (by rw [show off0 + (l + i) * k + j = off0 + l * k + i * k + j from by rw [Nat.add_mul]; omega]; exact hu)
theorem slc_core {t : TypeId} {x : Operand} {lo hi : Option Operand} {x' : V} (ho : o.op = .slice t x lo hi none) (h1 : kR (slcR P G σ.h (P.underlying t) x' (lo.map σ.ev) (hi.map σ.ev)) K) :
    ∃ y, K y ∧ ∀ E a w, G = true → RelF E σ a w → RdV w E x' (a.eval x) → ∃ v, (execOp a.eval o).run P w = .ok (.value v) w ∧ RdV w E y v := by
  have hcase : ∀ {n : Nat} {f : Int → Int → V} {z : Int}, kR (slcA G (bndR G (lo.map σ.ev) 0) (bndR G (hi.map σ.ev) z) n f) K → ∃ l h p q, bndR G (lo.map σ.ev) 0 = some (p, l) ∧ bndR G (hi.map σ.ev) z = some (q, h) ∧ p ∧ q ∧ (G = true → 0 ≤ l ∧ l ≤ h ∧ h ≤ n) ∧ K (f l h) := by
    intro n f z hk
    unfold slcA slcC at hk
    split at hk
    · rename_i p l q h e1 e2
      exact ⟨l, h, p, q, e1, e2, hk.1.1, hk.1.2.1, hk.1.2.2, hk.2⟩
    · exact hk.elim
  have hlist : ∀ (e : TypeId) (k : Nat) (d : List T) (xs : List (List T)), P.underlying t = some (.slice e) → (∀ (w : World) (E : Env) (a : Act), RelF E σ a w → RdV w E x' (a.eval x) → RdT w E.S (.list k d xs) (a.eval x)) → kR (slcR.slcE G k d xs (lo.map σ.ev) (hi.map σ.ev) (P.szT e)) K → ∃ y, K y ∧ ∀ E a w, G = true → RelF E σ a w → RdV w E x' (a.eval x) → ∃ v, (execOp a.eval o).run P w = .ok (.value v) w ∧ RdV w E y v := by
    intro e k d xs hu hxs hk
    unfold slcR.slcE at hk
    split at hk
    · rename_i hsz
      obtain ⟨l, hh, p, q, b1, b2, hp, hq, hb, hK⟩ := hcase hk
      refine ⟨_, hK, fun E a w hG hr hxx => ?_⟩
      have e1 := hxs w E a hr hxx
      obtain ⟨q0, q1, q2⟩ := hb hG
      have hl := bnd_ok hr hG b1 hp
      have hh' := bnd_ok hr hG b2 hq
      obtain ⟨A, c, e2, hc⟩ := rdT_slice e1
      rw [e2] at e1
      have hs := rdT_sub (l := l.toNat) (h := hh.toNat) e1 (by omega) (by omega)
      have hbd := run_bounds_slice (P := P) (len := xs.length) (cap := c) hl hh' q0 q1 (by omega) true w
      refine ⟨_, ?_, by simp only [slcT, RdV]; exact hs⟩
      simp only [execOp, ho, e2, Instr.sliceAt, Sem.run_bind, run_underlying hu, Result.andThen_ok, Instr.slice, Option.map_none, hbd, run_sizeOf hsz, Sem.run_pure]
    · exact hk.elim
  unfold slcR at h1
  split at h1
  · rename_i s hu
    obtain ⟨l, hh, p, q, b1, b2, hp, hq, hb, hK⟩ := hcase h1
    refine ⟨_, hK, fun E a w hG hr hxx => ?_⟩
    have e1 := rdV_lit_inv hxx
    obtain ⟨q0, q1, q2⟩ := hb hG
    have hl := bnd_ok hr hG b1 hp
    have hh' := bnd_ok hr hG b2 hq
    have hbd := run_bounds_slice (P := P) (len := s.size) (cap := s.size) hl hh' q0 q1 q2 false w
    refine ⟨.string (s.extract l.toNat hh.toNat), ?_, ?_⟩
    · simp only [execOp, ho, e1.1, Instr.sliceAt, Sem.run_bind, run_underlying hu, Result.andThen_ok, Instr.slice, Option.map_none, Option.isSome_none, Bool.false_eq_true, if_false, hbd, Sem.run_pure]
    · simp only [slcS, RdV]
      refine .lit _ rfl ?_
      have h3 : s.size ≤ maxLen := e1.2.2
      show (s.extract l.toNat hh.toNat).size ≤ maxLen
      rw [ByteArray.size_extract]
      omega
  · rename_i e k d xs hu
    exact hlist e k d xs hu (fun w E a hr hxx => by simpa only [RdV] using hxx) h1
  · rename_i e i hu
    unfold slcR.slcO at h1
    split at h1
    · rename_i k d xs hl
      refine hlist e k d xs hu (fun w E a hr this => ?_) h1
      obtain ⟨hv, hF, hT⟩ := hr.rel.has i _ hl
      simp only [RdV] at this
      rw [this.2.2 _ (.inr hF)]; exact hT
    · exact h1.elim
  · exact h1.elim
theorem ps_slice {t : TypeId} {x : Operand} {lo hi : Option Operand} (ho : o.op = .slice t x lo hi none) (h : kR (useR (strip G (σ.ev x)) fun x' => slcR P G σ.h (P.underlying t) x' (lo.map σ.ev) (hi.map σ.ev)) K) : ∃ x, K x ∧ (G = true → YV P o σ x) := by
  have h0 : useV G (σ.ev x) fun x' => kR (slcR P G σ.h (P.underlying t) x' (lo.map σ.ev) (hi.map σ.ev)) K := useR_ok (fun y hy => hy) h
  obtain ⟨x', h1, hx⟩ := useV_ok h0
  obtain ⟨y, hK, hy⟩ := slc_core ho h1
  exact ⟨y, hK, fun hG => yv_of fun E a w hr => hy E a w hG hr (hx w E _ hG (hr.ev x))⟩
theorem slc_run {t : TypeId} {x : Operand} {lo hi : Option Operand} {x' : V} (ho : o.op = .slice t x lo hi none) {E : Env} {a : Act} {w : World} (hx : RdV w E x' (a.eval x)) (hr : RelF E σ a w)
    (h1 : kR (slcR P true σ.h (P.underlying t) x' (lo.map σ.ev) (hi.map σ.ev)) K) : ∃ y, K y ∧ ∃ v, (execOp a.eval o).run P w = .ok (.value v) w ∧ RdV w E y v := by
  obtain ⟨y, hK, hy⟩ := slc_core ho h1
  exact ⟨y, hK, hy E a w rfl hr hx⟩
end
/-! the lesser, the greater -/
def mmR (b : Builtin) (x y : V) : RO V :=
  match b, x, y with
  | .min, .t (.lit (.int k a)), .t (.lit (.int _ c)) => some (True, .t (.lit (.int k (min a c))))
  | .max, .t (.lit (.int k a)), .t (.lit (.int _ c)) => some (True, .t (.lit (.int k (max a c))))
  | _, _, _ => none
section
variable {P : Program} {G : Bool} {σ : St} {o : Oper} {K : V → Prop}
theorem ps_minmax {b : Builtin} {x y : Operand} {tys : Array TypeId} (ho : o.op = .call { callee := .builtin b, args := #[x, y], argTypes := tys })
    (h : kR (useR (strip G (σ.ev x)) fun x' => useR (strip G (σ.ev y)) fun y' => mmR b x' y') K) : ∃ x, K x ∧ (G = true → YV P o σ x) := by
  have h0 : useV G (σ.ev x) fun x' => useV G (σ.ev y) fun y' => kR (mmR b x' y') K := useR_ok (fun y hy => useR_ok (fun z hz => hz) hy) h
  obtain ⟨x', h1, hx⟩ := useV_ok h0
  obtain ⟨y', h2, hy⟩ := useV_ok h1
  unfold mmR at h2
  split at h2
  · rename_i k a k' c
    refine ⟨_, h2.2, fun hG => yv_of fun E ac w hr => ⟨.int k (min a c), ?_, rdV_lit rfl rfl⟩⟩
    rw [show min a c = if c < a then c else a from by split <;> omega]
    simp [execOp, ho, resolve, invoke, builtin, (rdV_lit_inv (hx w E _ hG (hr.ev x))).1, (rdV_lit_inv (hy w E _ hG (hr.ev y))).1, Builtin.min_, Builtin.min2]
  · rename_i k a k' c
    refine ⟨_, h2.2, fun hG => yv_of fun E ac w hr => ⟨.int k (max a c), ?_, rdV_lit rfl rfl⟩⟩
    rw [show max a c = if c > a then c else a from by split <;> omega]
    simp [execOp, ho, resolve, invoke, builtin, (rdV_lit_inv (hx w E _ hG (hr.ev x))).1, (rdV_lit_inv (hy w E _ hG (hr.ev y))).1, Builtin.max_, Builtin.max2]
  · exact h2.elim
end
/-! deferred calls of closures without arguments -/
def dferO (x : V) : Option FuncId :=
  match x with
  | .clo f _ => some f
  | .t (.lit (.func (.func f) ⟨[]⟩ ⟨[]⟩)) => some f
  | _ => none
def dferK (K : St → Prop) (σ : St) (f : Option FuncId) : Prop :=
  match f with
  | some f => K { σ with df := f :: σ.df }
  | none => False
def dferC (σ : St) (d : Option Tmp) (c : Callee) (args : List Operand) (K : St → Prop) : Prop :=
  match c, args, d with
  | .value x, [], none => useV true (σ.ev x) fun x' => dferK K σ (dferO x')
  | _, _, _ => False
theorem ow_defer {P : Program} {σ : St} {o : Oper} {K : St → Prop} {c : Call} (ho : o.op = .defer c) (h : dferC σ o.dst c.callee c.args.toList K) : OpW P o σ K := by
  unfold dferC at h
  split at h
  · rename_i x hc ha hd
    obtain ⟨x', h1, hx⟩ := useV_ok h
    unfold dferK at h1
    split at h1
    · rename_i f hf
      intro E a w hr next Q hn
      have hxv := hx w E _ rfl (hr.ev x)
      obtain ⟨caps, he⟩ : ∃ caps : Array Value, a.eval x = .func (.func f) #[] caps := by
        unfold dferO at hf
        split at hf
        · injection hf with hf; subst hf
          simp only [RdV] at hxv
          obtain ⟨vs, h, _⟩ := hxv
          exact ⟨vs, h⟩
        · injection hf with hf; subst hf
          exact ⟨#[], (rdV_lit_inv hxv).1⟩
        · cases hf
      have harg : c.args = #[] := by apply Array.ext'; simpa using ha
      unfold Oper.wp
      have hrun : (execOp a.eval o).run P w = .ok (.defer { target := .fn (.func f) caps, args := #[] }) w := by
        simp [execOp, ho, resolve, hc, he, harg, Deferred.ofValue]
      rw [hrun]
      simp only [Oper.upon]
      have hput : ({ a with defers := { target := .fn (.func f) caps, args := #[] } :: a.defers } : Act).put o.dst undef = { a with defers := { target := .fn (.func f) caps, args := #[] } :: a.defers } := by rw [hd]; rfl
      rw [hput]
      exact hn _ w E { σ with df := f :: σ.df } ⟨hr.rel, hr.bound, hr.fr, ⟨⟨caps, rfl⟩, hr.defers⟩⟩ (Ext.refl E w) h1
    · exact h1.elim
  · exact h.elim
end Go.Proofs.Ytnbmiejjkkgckaa
