/- Proved here: The abstract machine's walk of a text, for use in the proofs of the given statements; conditions stand in each theorem. -/
import Derived.Test.YtnbmiejjkkgckaaZN
import Derived.Defers
set_option linter.unusedSimpArgs false
set_option linter.unusedVariables false
set_option linter.unusedSimpArgs false
set_option linter.unusedVariables false
set_option linter.unnecessarySimpa false
namespace Go.Proofs.Ytnbmiejjkkgckaa
open Go.RowKit

/-! operations that only look -/
def callC (P : Program) (G : Bool) (σ : St) (c : Callee) (args : List Operand) (tys : List TypeId) (K : V → Prop) : Prop :=
  match c with
  | .builtin .len => kR (lenC P G σ args tys) K
  | .builtin .min => kR (mmC G σ .min args) K
  | .builtin .max => kR (mmC G σ .max args) K
  | .value (.func f) => useVs G (args.map σ.ev) fun xs => callPV P G σ.h f xs K
  | _ => False
where
  lenC (P : Program) (G : Bool) (σ : St) (args : List Operand) (tys : List TypeId) : RO V :=
    match args, tys with
    | [x], t :: _ => useR (strip G (σ.ev x)) fun x' => lenR (P.underlying t) σ.h x'
    | _, _ => none
  mmC (G : Bool) (σ : St) (b : Builtin) (args : List Operand) : RO V :=
    match args with
    | [x, y] => useR (strip G (σ.ev x)) fun x' => useR (strip G (σ.ev y)) fun y' => mmR b x' y'
    | _ => none
/-- the values of some operands -/
def evs (σ : St) : List Operand → List V
  | [] => []
  | x :: r => σ.ev x :: evs σ r
theorem evs_eq (σ : St) : ∀ (l : List Operand), evs σ l = l.map σ.ev
  | [] => rfl
  | x :: r => by simp [evs, evs_eq σ r]
def evO (σ : St) (o : Option Operand) : Option V :=
  match o with
  | some x => some (σ.ev x)
  | none => none
theorem evO_eq (σ : St) (o : Option Operand) : evO σ o = o.map σ.ev := by cases o <;> rfl
def partsE (σ : St) : List (Nat × Operand) → List (Nat × V)
  | [] => []
  | (i, x) :: r => (i, σ.ev x) :: partsE σ r
theorem partsE_eq (σ : St) : ∀ (l : List (Nat × Operand)), partsE σ l = l.map fun (i, x) => (i, σ.ev x)
  | [] => rfl
  | (i, x) :: r => by simp [partsE, partsE_eq σ r]

def lookR (P : Program) (G : Bool) (σ : St) (op : Op) : RO V :=
  match op with
  | .move x => some (True, σ.ev x)
  | .assign x => some (True, σ.ev x)
  | .pick c a b => useR (strip G (σ.ev c)) fun c' => pickR G c' (σ.ev a) (σ.ev b)
  | .unOp op _ x => useR (strip G (σ.ev x)) fun x' => unR op x'
  | .binOp op t x y _ => useR (strip G (σ.ev x)) fun x' => useR (strip G (σ.ev y)) fun y' => binR P G op t x' y'
  | .load t a => useR (strip G (σ.ev a)) fun a' => loadR P G σ.h t a'
  | .fieldAddr t x f => useR (strip G (σ.ev x)) fun x' => fieldAddrR1 P σ.h (P.fldT t f) x'
  | .field t x f => useR (strip G (σ.ev x)) fun x' => fieldR P (P.fldT t f) x'
  | .index t x ix => useR (strip G (σ.ev x)) fun x' => useR (strip G (σ.ev ix)) fun ix' => indexA P G (P.underlying t) x' ix'
  | .indexAddr t x ix => useR (strip G (σ.ev x)) fun x' => useR (strip G (σ.ev ix)) fun ix' => indexAddrA P G σ.h (P.underlying t) (P.elemT t) x' ix'
  | .extract x i => useR (strip G (σ.ev x)) fun x' => extractR i x'
  | .build t parts => buildR P (P.plT t) (P.zeroT t) (usePartsR G (partsE σ parts.toList))
  | .nilCheck x => useR (strip G (σ.ev x)) fun x' => nilCheckR σ.h x'
  | .convert s d x => useR (strip G (σ.ev x)) fun x' => convR (P.underlying s) (P.underlying d) x'
  | .slice t x lo hi none => useR (strip G (σ.ev x)) fun x' => slcR P G σ.h (P.underlying t) x' (evO σ lo) (evO σ hi)
  | .lookup t x ix ok => useR (strip G (σ.ev x)) fun x' => useR (strip G (σ.ev ix)) fun ix' => lookupR P σ.h ok (P.mapT t) x' ix'
  | .makeFunc fn first cs => mfR fn first.toList (useVsR G (evs σ cs.toList))
  | _ => none

/-- an equality of values of a struct's type -/
def eqC (P : Program) (G : Bool) (t : TypeId) (neg : Bool) (x y : V) (K : V → Prop) : Prop :=
  match x, y with
  | .agg xs, .agg ys => ∃ b, (G = true → EqV P t xs ys b) ∧ K (vbool (b != neg))
  | _, _ => False
def isAggOp (P : Program) (op : Op) : Bool :=
  match op with
  | .binOp .eql t _ _ _ => aggB (P.aggT t)
  | .binOp .neq t _ _ _ => aggB (P.aggT t)
  | _ => false
where
  aggB (b : Option Bool) : Bool :=
    match b with
    | some true => true
    | _ => false
def pstep (P : Program) (G : Bool) (σ : St) (op : Op) (K : V → Prop) : Prop :=
  match op with
  | .call c => callC P G σ c.callee c.args.toList c.argTypes.toList K
  | .binOp op t x y u => bstep P G σ op t x y u (isAggOp P (.binOp op t x y u)) K
  | op => kR (lookR P G σ op) K
where
  bstep (P : Program) (G : Bool) (σ : St) (op : BinOp) (t : TypeId) (x y : Operand) (u : TypeId) (agg : Bool) (K : V → Prop) : Prop :=
    match agg with
    | true => useV G (σ.ev x) fun x' => useV G (σ.ev y) fun y' => eqC P G t (neqB op) x' y' K
    | false => kR (lookR P G σ (.binOp op t x y u)) K
  neqB (op : BinOp) : Bool :=
    match op with
    | .neq => true
    | _ => false

theorem lookR_ok {P : Program} {G : Bool} {σ : St} {o : Oper} {K : V → Prop} (h : kR (lookR P G σ o.op) K) : ∃ x, K x ∧ (G = true → YV P o σ x) := by
  unfold lookR at h
  split at h
  · rename_i x ho; exact ps_move (.inl ho) h.2
  · rename_i x ho; exact ps_move (.inr ho) h.2
  · rename_i c a b ho; exact ps_pick ho (useR_ok (fun y hy => pickR_ok hy) h)
  · rename_i op t x ho; exact ps_unop ho (useR_ok (fun y hy => unR_ok hy) h)
  · rename_i op t x y u ho; exact ps_binop ho (useR_ok (fun y hy => useR_ok (fun z hz => binR_ok hz) hy) h)
  · rename_i t a ho; exact ps_load ho (useR_ok (fun y hy => loadR_ok hy) h)
  · rename_i t x f ho; exact ps_fieldAddr ho (useR_ok (fun y hy => fieldAddrR1_ok hy) h)
  · rename_i t x f ho; exact ps_field ho (useR_ok (fun y hy => fieldR_ok hy) h)
  · rename_i t x ix ho; exact ps_indexA ho (useR_ok (fun y hy => useR_ok (fun z hz => hz) hy) h)
  · rename_i t x ix ho; exact ps_indexAddrA ho (useR_ok (fun y hy => useR_ok (fun z hz => hz) hy) h)
  · rename_i x i ho; exact ps_extract ho (useR_ok (fun y hy => extractR_ok hy) h)
  · rename_i t parts ho; rw [partsE_eq] at h; exact ps_build ho (buildR_ok h)
  · rename_i x ho; exact ps_nilCheck ho (useR_ok (fun y hy => nilCheckR_ok hy) h)
  · rename_i s d x ho; exact ps_convert ho (useR_ok (fun y hy => convR_ok hy) h)
  · rename_i t x lo hi ho; rw [evO_eq, evO_eq] at h; exact ps_slice ho h
  · rename_i t x ix ok ho; exact ps_lookup ho h
  · rename_i fn first cs ho; rw [evs_eq] at h; exact ps_makeFunc ho h
  · exact h.elim

theorem useV_mono {G : Bool} {x : V} {F F' : V → Prop} (hf : ∀ y, F y → F' y) (h : useV G x F) : useV G x F' := by
  unfold useV at h ⊢
  cases x <;> first | exact hf _ h | exact ⟨h.1, hf _ h.2⟩

theorem pstep_ok {P : Program} {G : Bool} {σ : St} {o : Oper} {K : V → Prop} (h : pstep P G σ o.op K) : ∃ x, K x ∧ (G = true → YV P o σ x) := by
  unfold pstep at h
  split at h
  · rename_i c ho
    obtain ⟨callee, args, tys⟩ := c
    unfold callC at h
    dsimp only at h
    split at h
    · unfold callC.lenC at h
      split at h
      · rename_i x t r hx ht
        have ha : args = #[x] := by apply Array.ext'; simpa using hx
        have ht' : tys[0]? = some t := by rw [← Array.getElem?_toList, ht]; rfl
        subst ha
        exact ps_len ho ht' (useR_ok (fun y hy => lenR_ok hy) h)
      · exact h.elim
    · unfold callC.mmC at h
      split at h
      · rename_i x y hx
        have ha : args = #[x, y] := by apply Array.ext'; simpa using hx
        subst ha
        exact ps_minmax ho h
      · exact h.elim
    · unfold callC.mmC at h
      split at h
      · rename_i x y hx
        have ha : args = #[x, y] := by apply Array.ext'; simpa using hx
        subst ha
        exact ps_minmax ho h
      · exact h.elim
    · exact ps_call ho h
    · exact h.elim
  · rename_i op t x y u ho
    unfold pstep.bstep at h
    split at h
    · rename_i hagg
      refine ps_binop ho (useV_mono (fun x' => useV_mono fun y' hy => ?_) h)
      unfold eqC at hy
      unfold binV
      split at hy
      · obtain ⟨b, h1, h2⟩ := hy
        unfold isAggOp at hagg
        split at hagg
        · rename_i he
          injection he with h0
          subst h0
          exact ⟨b, h1, by simpa [pstep.neqB] using h2⟩
        · rename_i he
          injection he with h0
          subst h0
          exact ⟨b, h1, by simpa [pstep.neqB] using h2⟩
        · cases hagg
      · exact hy.elim
    · rw [← ho] at h
      exact lookR_ok h
  · exact lookR_ok h

/-! operations that make or write memory -/
def kPut (K : St → Prop) (σ : St) (d : Option Tmp) (x : V) : Prop := K (σ.put d x)
def kAdd (K : St → Prop) (σ : St) (d : Option Tmp) (blk : Blk) : Prop := K ((σ.add blk).put d (.own σ.nx))
def kHeap (K : St → Prop) (σ : St) (h : Heap) : Prop := K { σ with h := h }
def kState (K : St → Prop) (d : Option Tmp) (σv : St × V) : Prop := K (σv.1.put d σv.2)
def allocR (z : Option (List Value)) : RO Blk :=
  match z with
  | some z => some (zeroOk z = true, .box (zeroV z))
  | none => none
def boxR (x : V) : RO Blk := some (x.cells.all V.isCell = true, .box x.cells)
def storeR (h : Heap) (sz : Option Nat) (p x : V) : RO Heap :=
  match p with
  | .own i => storeB h i sz (h.look i) 0 x
  | .ptr i off => storeB h i sz (h.look i) off x
  | .rptr i k n j => storeW h i sz (h.look i) k n j x
  | _ => none
where
  storeB (h : Heap) (i : Nat) (sz : Option Nat) (b : Option Blk) (off : Nat) (x : V) : RO Heap :=
    match b with
    | some (.box cs) => some (x.cells.all V.isCell = true ∧ sz = some x.cells.length ∧ off + x.cells.length ≤ cs.length, h.set i (.box (putCells cs off x.cells)))
    | _ => none
  storeW (h : Heap) (i : Nat) (sz : Option Nat) (b : Option Blk) (k n j : Nat) (x : V) : RO Heap :=
    match b with
    | some (.row e k' d xs) => some (x.cells.all V.isCell = true ∧ sz = some x.cells.length ∧ k' = k ∧ n < xs.length ∧ j + x.cells.length ≤ k,
        h.set i (.row e k d (xs.set n (putCells (nthV d xs n) j x.cells))))
    | _ => none
theorem storeR_ok {P : Program} {h : Heap} {t : TypeId} {p x : V} {K : Heap → Prop} (q : kR (storeR h (P.szT t) p x) K) : storeV P h t p x K := by
  unfold storeR storeR.storeB storeR.storeW at q
  unfold storeV
  split at q
  · split at q
    · rename_i hl
      obtain ⟨⟨q1, q2, q3⟩, q4⟩ := q
      simp only [hl]
      exact ⟨q1, q2, by omega, q4⟩
    · exact q.elim
  · split at q
    · rename_i hl
      obtain ⟨⟨q1, q2, q3⟩, q4⟩ := q
      simp only [hl]
      exact ⟨q1, q2, q3, q4⟩
    · exact q.elim
  · split at q
    · rename_i hl
      obtain ⟨⟨q1, q2, q3⟩, q4⟩ := q
      simp only [hl]
      exact ⟨q1, q2, q3.1, q3.2.1, q3.2.2, q4⟩
    · exact q.elim
  · exact q.elim
def sliceRow (n k : Nat) (e : TypeId) (z : List Value) (p : Prop) (ts : Option (List V)) : RO Blk :=
  match ts with
  | some ts => some (p ∧ ts.length = n * k, .row e k (z.map .lit) (chunk k n ts))
  | none => none
def sliceFill (n k : Nat) (z : List Value) (ps : List (Nat × V)) : Option (List V) :=
  match fillV (fun i => some (i * k, k)) (zeroV ((List.range (n * k)).map fun i => z.getD (i % z.length) undef)) ps with
  | some cs => some cs
  | none => none
def buildSliceR (P : Program) (n : Nat) (e : Option TypeId) (ps : Prop × List (Nat × V)) : RO Blk :=
  match e, ps with
  | some e, (p, ps) => bsA n e (P.szT e) (P.zeroT e) p ps
  | _, _ => none
where
  bsA (n : Nat) (e : TypeId) (k : Option Nat) (z : Option (List Value)) (p : Prop) (ps : List (Nat × V)) : RO Blk :=
    match k, z with
    | some k, some z => sliceRow n k e z (z.length = k ∧ zeroOk z = true ∧ n * k ≤ 2 ^ 24 ∧ 0 < k ∧ p) (sliceFill n k z ps)
    | _, _ => none
theorem buildSliceR_ok {P : Program} {t : TypeId} {n : Nat} {parts : List (Nat × V)} {K : Blk → Prop} (q : kR (buildSliceR P n (P.elemT t) (usePartsR true parts)) K) : buildSliceV P t n parts K := by
  unfold buildSliceR buildSliceR.bsA at q
  unfold buildSliceV
  split at q
  · rename_i e p ps h1 h2
    simp only [h1]
    split at q
    · rename_i k z h3 h4
      simp only [h3, h4]
      unfold sliceRow sliceFill at q
      split at q
      · rename_i ts hts
        obtain ⟨⟨⟨q1, q2, q3, q4, q5⟩, q6⟩, q7⟩ := q
        refine ⟨q1, q2, q3, q4, usePartsR_ok _ (by rw [h2]; exact q5) ?_⟩
        rw [h2]
        split at hts
        · rename_i cs hf
          injection hts with hts
          subst hts
          simp only [hf]
          exact ⟨q6, q7⟩
        · cases hts
      · exact q.elim
    · exact q.elim
  · exact q.elim
def appendR (P : Program) (σ : St) (e : Option TypeId) (s x : V) : RO (St × V) :=
  match e with
  | some e => apA σ e (P.szT e) (P.bytesT e) (P.zeroT e) s x
  | none => none
where
  apA (σ : St) (e : TypeId) (k by' : Option Nat) (z : Option (List Value)) (s x : V) : RO (St × V) :=
    match k, by', z with
    | some k, some by', some z => apB σ e k by' (z.length = k ∧ 0 < k) s (srcV σ.h k x)
    | _, _, _ => none
  apB (σ : St) (e k by' : Nat) (p : Prop) (s : V) (src : Option (List T × List (List V))) : RO (St × V) :=
    match s with
    | .own i => apC σ e k by' p i (σ.h.look i) src
    | .t (.lit (.slice none 0 0)) => apD σ e k by' p src
    | _ => none
  apC (σ : St) (e k by' : Nat) (p : Prop) (i : Nat) (b : Option Blk) (src : Option (List T × List (List V))) : RO (St × V) :=
    match b, src with
    | some (.row e' k' d xs), some (_, ys) => some (p ∧ e' = e ∧ k' = k ∧ xs.length + ys.length ≤ maxLen ∧ (xs.length + ys.length) * by' ≤ 140737488355328,
        ({ σ with h := (σ.nx, .row e' k' d (xs ++ ys)) :: σ.h.del i, nx := σ.nx + 1 }, .own σ.nx))
    | _, _ => none
  apD (σ : St) (e k by' : Nat) (p : Prop) (src : Option (List T × List (List V))) : RO (St × V) :=
    match src with
    | some (d, ys) => some (p ∧ ys.length ≤ maxLen ∧ ys.length * by' ≤ 140737488355328, (σ.add (.row e k d ys), .own σ.nx))
    | none => none
theorem appendR_ok {P : Program} {σ : St} {t : TypeId} {s x : V} {K : St × V → Prop} (q : kR (appendR P σ (P.elemT t) s x) K) : appendV P σ t s x fun σ' v => K (σ', v) := by
  unfold appendR appendR.apA appendR.apB appendR.apC appendR.apD at q
  unfold appendV
  split at q
  · rename_i e h1
    simp only [h1]
    split at q
    · rename_i k by' z h2 h3 h4
      simp only [h2, h3, h4]
      split at q
      · rename_i i
        split at q
        · rename_i hl hs
          obtain ⟨⟨⟨q1, q2⟩, q3, q4, q5, q6⟩, q7⟩ := q
          simp only [hl, hs]
          exact ⟨q1, q2, q3, q4, q5, q6, q7⟩
        · exact q.elim
      · split at q
        · rename_i hs
          obtain ⟨⟨⟨q1, q2⟩, q5, q6⟩, q7⟩ := q
          simp only [hs]
          exact ⟨q1, q2, q5, q6, q7⟩
        · exact q.elim
      · exact q.elim
    · exact q.elim
  · exact q.elim
def appendC (P : Program) (σ : St) (args : List Operand) (tys : List TypeId) : RO (St × V) :=
  match args, tys with
  | [s, x], [t, t'] => andR (t = t') (useR (strip true (σ.ev s)) fun s' => useR (strip true (σ.ev x)) fun x' => appendR P σ (P.elemT t) s' x')
  | _, _ => none
/-- a function with a parameter that is a pointer -/
def _root_.Go.Program.ioF (P : Program) (f : FuncId) : Bool :=
  match P.funcs[f]? with
  | some fn => (fn.params ++ fn.resultTypes).any fun t => match P.underlying t with
    | some (.pointer _) => true
    | _ => false
  | none => false
/-- a call of a function that may write to one's own blocks -/
def ICall (P : Program) (σ : St) (d : Option Tmp) (f : FuncId) (xs : List V) (K : St → Prop) : Prop :=
  P.enters f = true ∧ ∀ E w vs, Rel w E σ.h → (∀ i, E.U i → i < σ.nx) → RdVs w E xs vs → Calls P f vs.toArray w fun e w' => ∃ v x h' nx' E', e = .returned v ∧ Rel w' E' h' ∧ (∀ i, E'.U i → i < nx') ∧ Ext E w E' w' ∧ RdV w' E' x v ∧
    K (({ σ with h := h', nx := nx' } : St).put d x)
theorem ICall.mono {P : Program} {σ : St} {d : Option Tmp} {f : FuncId} {xs : List V} {K K' : St → Prop} (hk : ∀ σ, K σ → K' σ) (h : ICall P σ d f xs K) : ICall P σ d f xs K' :=
  ⟨h.1, fun E w vs h1 h2 h3 => (h.2 E w vs h1 h2 h3).mono fun e w' ⟨v, x, h', nx', E', q1, q2, q3, q4, q5, q6⟩ => ⟨v, x, h', nx', E', q1, q2, q3, q4, q5, hk _ q6⟩⟩
theorem ow_icall {P : Program} {σ : St} {o : Oper} {K : St → Prop} {f : FuncId} {args : Array Operand} {tys : Array TypeId} (ho : o.op = .call { callee := .value (.func f), args := args, argTypes := tys })
    (h : useVs true (args.toList.map σ.ev) fun xs => ICall P σ o.dst f xs K) : OpW P o σ K := by
  obtain ⟨ys, h1, hys⟩ := useVs_ok h
  intro E a w hr next Q hn
  have hvs := hys w E _ rfl (rdVs_map hr args.toList)
  unfold Oper.wp
  rw [run_callFn ho rfl h1.1]
  simp only [Oper.upon]
  have h2 := h1.2 E w _ hr.rel hr.bound hvs
  have e1 : (args.toList.map a.eval).toArray = args.map a.eval := by apply Array.ext'; simp only [Array.toList_map]
  rw [e1] at h2
  refine Calls.mono h2 ?_
  rintro e w' ⟨v, x, h', nx', E', rfl, q2, q3, q4, q5, q6⟩
  have hr' : RelF E' { σ with h := h', nx := nx' } a w' := ⟨q2, q3, q4.rdVs _ hr.fr, hr.defers⟩
  exact hn _ w' E' _ (hr'.put o.dst q5) q4 q6
def callE (P : Program) (io : Bool) (σ : St) (d : Option Tmp) (f : FuncId) (c : Call) (K : St → Prop) : Prop :=
  match io with
  | true => useVs true (c.args.toList.map σ.ev) fun xs => ICall P σ d f xs K
  | false => pstep P true σ (.call c) (kPut K σ d)
def ecall (P : Program) (σ : St) (d : Option Tmp) (c : Call) (K : St → Prop) : Prop :=
  match c.callee with
  | .builtin .append => kR (appendC P σ c.args.toList c.argTypes.toList) (kState K d)
  | .value (.func f) => callE P (P.ioF f) σ d f c K
  | _ => pstep P true σ (.call c) (kPut K σ d)
/-- a slice that is made -/
def msR (P : Program) (e : Option TypeId) (l c : Prop × V) : RO Blk :=
  match e, l, c with
  | some e, (p, .t (.lit (.int _ n))), (q, .t (.lit (.int _ m))) => msA e (P.szT e) (P.bytesT e) (P.zeroT e) (p ∧ q ∧ m = n) n
  | _, _, _ => none
where
  msA (e : TypeId) (k by' : Option Nat) (z : Option (List Value)) (p : Prop) (n : Int) : RO Blk :=
    match k, by', z with
    | some k, some by', some z => some (p ∧ 0 ≤ n ∧ z.length = k ∧ zeroOk z = true ∧ 0 < k ∧ n.toNat ≤ maxLen ∧ by' * n.toNat ≤ 281474976710656, .row e k (z.map .lit) (tRows (List.replicate n.toNat (z.map .lit))))
    | _, _, _ => none
theorem strip_lit {σ : St} {x : Operand} {p : Prop} {kd : IntKind} {n : Int} (h : strip true (σ.ev x) = (p, .t (.lit (.int kd n)))) (hp : p) : ∀ (w : World) (E : Env) (a : Act), RelF E σ a w → a.eval x = .int kd n := by
  have h3 : useV true (σ.ev x) fun y => y = .t (.lit (.int kd n)) := by
    refine useR_ok (α := Unit) (f := fun y => some (y = .t (.lit (.int kd n)), ())) (K := fun _ => True) (fun y hy => hy.1) ?_
    rw [h]
    unfold useR andR
    exact ⟨⟨hp, rfl⟩, trivial⟩
  obtain ⟨y, rfl, hy⟩ := useV_ok h3
  exact fun w E a hr => (rdV_lit_inv (hy w E _ rfl (hr.ev x))).1
theorem new_ms {P : Program} {σ : St} {o : Oper} {t : TypeId} {l c : Operand} {p : Prop} {blk : Blk} (ho : o.op = .makeSlice t l c) (h : msR P (P.elemT t) (strip true (σ.ev l)) (strip true (σ.ev c)) = some (p, blk)) (hp : p) : NewOp P o σ blk := by
  unfold msR at h
  split at h
  · rename_i e p' kd n q kd' m ht hl hc
    unfold msR.msA at h
    split at h
    · rename_i k by' z hsz hby hz
      injection h with h; injection h with h1 h2
      subst h1 h2
      obtain ⟨⟨hp1, hq, hmn⟩, h0, q1, q2, q3, q4, q5⟩ := hp
      have hn : ((n.toNat : Nat) : Int) = n := by omega
      exact new_makeSlice (n := n.toNat) ho ht hsz hby hz q1 q2 q4 q5 q3 (fun w E a hr => by rw [hn]; exact strip_lit hl hp1 w E a hr) (fun w E a hr => by rw [hn, ← hmn]; exact strip_lit hc hq w E a hr)
    · cases h
  · cases h
def mapPutE (P : Program) (σ : St) (t : TypeId) (m k x : Operand) : RO Heap :=
  useR (strip true (σ.ev m)) fun m' => useR (strip true (σ.ev k)) fun k' => useR (strip true (σ.ev x)) fun x' => mapPutR P σ.h (P.mapT t) m' k' x'
def estep (P : Program) (σ : St) (d : Option Tmp) (op : Op) (K : St → Prop) : Prop :=
  match op with
  | .box t x => kR (useR (strip true (σ.ev x)) fun x' => boxR x') (kAdd K σ d)
  | .alloc t => kR (allocR (P.zeroT t)) (kAdd K σ d)
  | .store t p x => d = none ∧ kR (useR (strip true (σ.ev p)) fun p' => useR (strip true (σ.ev x)) fun x' => storeR σ.h (P.szT t) p' x') (kHeap K σ)
  | .buildSlice t n parts => kR (buildSliceR P n (P.elemT t) (usePartsR true (partsE σ parts.toList))) (kAdd K σ d)
  | .makeMap _ none => kAdd K σ d (.map [])
  | .makeSlice t l c => kR (msR P (P.elemT t) (strip true (σ.ev l)) (strip true (σ.ev c))) (kAdd K σ d)
  | .mapUpdate t m k x => d = none ∧ kR (mapPutE P σ t m k x) (kHeap K σ)
  | .insert t m k x => d = none ∧ kR (mapPutE P σ t m k x) (kHeap K σ)
  | .call c => ecall P σ d c K
  | op => pstep P true σ op (kPut K σ d)
theorem estep_ok {P : Program} {σ : St} {o : Oper} {K : St → Prop} (h : estep P σ o.dst o.op K) : OpW P o σ K := by
  unfold estep at h
  split at h
  · rename_i t x ho; exact ow_box ho (useR_ok (F := fun x' => boxV x' fun blk => K ((σ.add blk).put o.dst (.own σ.nx))) (f := boxR) (K := kAdd K σ o.dst) (fun y hy => ⟨hy.1, hy.2⟩) h)
  · rename_i t ho
    unfold allocR at h
    split at h
    · rename_i z hz; exact ow_alloc ho hz h.1 h.2
    · exact h.elim
  · rename_i t p x ho; exact ow_store ho h.1 (useR_ok (fun y hy => useR_ok (fun z hz => storeR_ok hz) hy) h.2)
  · rename_i t n parts ho; rw [partsE_eq] at h; exact ow_buildSlice ho (buildSliceR_ok h)
  · rename_i t ho; exact opw_new rfl (new_makeMap ho) h
  · rename_i t l c ho
    generalize hms : msR P (P.elemT t) (strip true (σ.ev l)) (strip true (σ.ev c)) = r at h
    unfold kR at h
    split at h
    · exact opw_new rfl (new_ms ho hms h.1) h.2
    · exact h.elim
  · rename_i t m k x ho
    obtain ⟨σ', hK, hS⟩ := skip_mapPut (K := K) (.inl ho) h.2
    exact opw_skip hS h.1 hK
  · rename_i t m k x ho
    obtain ⟨σ', hK, hS⟩ := skip_mapPut (K := K) (.inr ho) h.2
    exact opw_skip hS h.1 hK
  · rename_i c ho
    unfold ecall at h
    split at h
    · rename_i hc
      unfold appendC at h
      split at h
      · rename_i s x t t' hx ht
        obtain ⟨callee, args, tys⟩ := c
        dsimp only at hc hx ht
        subst hc
        have ha : args = #[s, x] := by apply Array.ext'; simpa using hx
        have hb : tys = #[t, t'] := by apply Array.ext'; simpa using ht
        subst ha hb
        unfold andR at h
        split at h
        · rename_i q' v hv
          obtain ⟨⟨rfl, hq⟩, hk⟩ := h
          have h' : kR (useR (strip true (σ.ev s)) fun s' => useR (strip true (σ.ev x)) fun x' => appendR P σ (P.elemT t) s' x') (kState K o.dst) := by rw [hv]; exact ⟨hq, hk⟩
          exact ow_append ho (useR_ok (fun y hy => useR_ok (fun z hz => appendR_ok hz) hy) h')
        · exact h.elim
      · exact h.elim
    · rename_i f hc
      unfold callE at h
      split at h
      · obtain ⟨callee, args, tys⟩ := c
        dsimp only at hc
        subst hc
        exact ow_icall ho h
      · rw [← ho] at h
        obtain ⟨x, hK, hy⟩ := pstep_ok h
        exact opw_yv (hy rfl) hK
    · rw [← ho] at h
      obtain ⟨x, hK, hy⟩ := pstep_ok h
      exact opw_yv (hy rfl) hK
  · obtain ⟨x, hK, hy⟩ := pstep_ok h
    exact opw_yv (hy rfl) hK

/-! guards -/
def guardV (x : V) (want : Bool) : Option Bool :=
  match x with
  | .t (.lit (.bool b)) => some (b == want)
  | .cond g (.t (.lit (.bool b))) => some (g && (b == want))
  | _ => none
def slotOf (ops : List Oper) (j : Nat) : Option Tmp :=
  match ops[j]? with
  | some o => o.dst
  | none => none
def guardS (ops : List Oper) (σ : St) (j : Nat) (want : Bool) : Option Bool :=
  match slotOf ops j with
  | some d => guardV (σ.fr.getD d .dead) want
  | none => none
theorem guard_ok {ops : List Oper} {E : Env} {σ : St} {a : Act} {w : World} {j : Nat} {want g : Bool} {o : Oper} (hr : RelF E σ a w) (ho : o.guard = some (j, want)) (h : guardS ops σ j want = some g) :
    Region.wanted o (yielded ops.toArray a.tmps) = g := by
  unfold guardS slotOf at h
  unfold Region.wanted
  rw [ho]
  dsimp only
  split at h
  · rename_i d hd
    have hd' : ((ops.toArray[j]?).bind (·.dst)) = some d := by
      have e1 : ops.toArray[j]? = ops[j]? := by simp
      rw [e1]
      split at hd
      · rename_i o' ho'; rw [ho']; exact hd
      · cases hd
    unfold yielded
    rw [hd']
    simp only [Option.bind_some]
    have hsome : ∃ y, σ.fr[d]? = some y ∧ σ.fr.getD d .dead = y := by
      cases hq : σ.fr[d]? with
      | none => simp [List.getD_eq_getElem?_getD, hq, guardV] at h
      | some y => exact ⟨y, rfl, by simp [List.getD_eq_getElem?_getD, hq]⟩
    obtain ⟨y, hy, he⟩ := hsome
    obtain ⟨v, hv, hrv⟩ := RdVs.get hr.fr hy
    have hv' : a.tmps[d]? = some v := by simpa using hv
    rw [hv']
    rw [he] at h
    unfold guardV at h
    split at h
    · injection h with h
      rw [(rdV_lit_inv hrv).1, ← h]
      rename_i b
      cases b <;> cases want <;> rfl
    · injection h with h
      rename_i g0 b
      rw [RdV] at hrv
      cases g0 with
      | true =>
        rw [(rdV_lit_inv (hrv.1 rfl)).1, ← h]
        cases b <;> cases want <;> rfl
      | false =>
        rw [hrv.2 rfl, ← h]
        rfl
    · cases h
  · cases h

/-- may be taken under a condition, without parting the walk -/
def merges (P : Program) (op : Op) : Bool :=
  match op with
  | .box .. | .alloc .. | .store .. | .buildSlice .. | .makeMap .. | .makeSlice .. | .mapUpdate .. | .insert .. | .defer _ => false
  | .call { callee := .builtin .append, .. } => false
  | .call { callee := .value (.func f), .. } => !P.ioF f
  | .call { callee := .value _, .. } => false
  | _ => true
def kCond (K : St → Prop) (σ : St) (d : Option Tmp) (g : Bool) (x : V) : Prop := K (σ.put d (.cond g x))
def gstep (P : Program) (σ : St) (d : Option Tmp) (op : Op) (g : Option Bool) (K : St → Prop) : Prop :=
  match g with
  | some g => if merges P op = true then pstep P g σ op (kCond K σ d g) else (g = true → estep P σ d op K) ∧ (g = false → K (σ.put d .dead))
  | none => False
def ostep (P : Program) (ops : List Oper) (σ : St) (d : Option Tmp) (op : Op) (guard : Option (Nat × Bool)) (K : St → Prop) : Prop :=
  match guard with
  | none => estep P σ d op K
  | some (j, want) => gstep P σ d op (guardS ops σ j want) K

/-! the same outside of regions that draw their order: rows are given away, calls of function values, deferred calls -/
theorem useVs_mono {G : Bool} : ∀ {xs : List V} {F F' : List V → Prop}, (∀ ys, F ys → F' ys) → useVs G xs F → useVs G xs F'
  | [], F, F', hf, h => hf _ h
  | x :: xs, F, F', hf, h => by
    unfold useVs at h ⊢
    exact useV_mono (fun y hy => useVs_mono (fun ys hys => hf _ hys) hy) h
def callN (P : Program) (io : Bool) (σ : St) (d : Option Tmp) (f : FuncId) (xs : List Operand) (K : St → Prop) : Prop :=
  match io with
  | true => useVs true (xs.map σ.ev) fun xs => ICall P σ d f xs K
  | false => useVs true (xs.map σ.ev) (callM P σ d f K)
where
  callM (P : Program) (σ : St) (d : Option Tmp) (f : FuncId) (K : St → Prop) (xs : List V) : Prop :=
    if V.pures xs = true then ∃ r, CPure P f xs r ∧ kPut K σ d r else LCall P σ d f xs K
def ecallN (P : Program) (σ : St) (d : Option Tmp) (c : Callee) (args : List Operand) (tys : List TypeId) (K : St → Prop) : Prop :=
  match c with
  | .builtin .append => kR (appendC P σ args tys) (kState K d)
  | .value (.func f) => callN P (P.ioF f) σ d f args K
  | .value x => useV true (σ.ev x) fun x' => useVs true (args.map σ.ev) fun xs => dynC P σ d (cloV x') xs K
  | c => callC P true σ c args tys (kPut K σ d)
/-- a part of a row of one's own: the row is given away -/
def slcG (P : Program) (σ : St) (d : Option Tmp) (u : Option TypeDesc) (lo hi : Option V) (K : St → Prop) (x : V) (h : Option Heap) : Prop :=
  match h with
  | some h => kR (slcR P true h u (x.res h) lo hi) (fun y => K (({ σ with h := h } : St).put d y))
  | none => False
def slcN (P : Program) (σ : St) (d : Option Tmp) (u : Option TypeDesc) (lo hi : Option V) (K : St → Prop) (x : V) : Prop :=
  match x with
  | .own i => slcG P σ d u lo hi K (.own i) (giveL (reach σ.h 8 (.own i)) σ.h)
  | x => kR (slcR P true σ.h u x lo hi) (kPut K σ d)
def estepN (P : Program) (σ : St) (d : Option Tmp) (op : Op) (K : St → Prop) : Prop :=
  match op with
  | .call c => ecallN P σ d c.callee c.args.toList c.argTypes.toList K
  | .defer c => dferC σ d c.callee c.args.toList K
  | .slice t x lo hi none => useV true (σ.ev x) (slcN P σ d (P.underlying t) (evO σ lo) (evO σ hi) K)
  | op => estep P σ d op K
theorem estepN_ok {P : Program} {σ : St} {o : Oper} {K : St → Prop} (h : estepN P σ o.dst o.op K) : OpW P o σ K := by
  unfold estepN at h
  split at h
  · rename_i c ho
    unfold ecallN at h
    split at h
    · rename_i hc
      refine estep_ok ?_
      unfold estep
      rw [ho]
      simp only [ecall, hc]
      exact h
    · rename_i f hc
      obtain ⟨callee, args, tys⟩ := c
      dsimp only at hc h
      subst hc
      unfold callN at h
      split at h
      · exact ow_icall ho h
      · refine ow_lcall ho (useVs_mono (fun xs hxs => ?_) h)
        unfold callN.callM at hxs
        split at hxs
        · rename_i hp
          obtain ⟨r, hC, hK⟩ := hxs
          exact lcall_pure hC hp hK
        · exact hxs
    · rename_i x hx hc
      obtain ⟨callee, args, tys⟩ := c
      dsimp only at hc h
      subst hc
      exact ow_dyn ho h
    · rename_i hc1 hc2 hc3
      have h' : pstep P true σ o.op (kPut K σ o.dst) := by rw [ho]; exact h
      obtain ⟨x, hK, hy⟩ := pstep_ok h'
      exact opw_yv (hy rfl) hK
  · rename_i c ho; exact ow_defer ho h
  · rename_i t x lo hi ho
    obtain ⟨x', h1, hx⟩ := useV_ok h
    unfold slcN at h1
    split at h1
    · rename_i i
      unfold slcG at h1
      split at h1
      · rename_i h' hg
        intro E a w hr next Q hn
        obtain ⟨E1, r1, r2, r3⟩ := RelF.giveL (σ := σ) _ (h := σ.h) hr hg
        have hev : ∀ y : Operand, ({ σ with h := h' } : St).ev y = σ.ev y := fun y => by cases y <;> rfl
        rw [evO_eq, evO_eq] at h1
        obtain ⟨y, hK, hy⟩ : ∃ y, K (({ σ with h := h' } : St).put o.dst y) ∧ ∃ v, (execOp a.eval o).run P w = .ok (.value v) w ∧ RdV w E1 y v := by
          have hxv := RdV.res r1.rel _ (r2.rdV _ (hx w E _ rfl (hr.ev x)))
          exact slc_run (σ := { σ with h := h' }) ho hxv r1 (by rw [show ({ σ with h := h' } : St).ev = σ.ev from funext hev]; exact h1)
        obtain ⟨v, hrun, hv⟩ := hy
        unfold Oper.wp
        rw [hrun]
        exact hn _ w E1 _ (r1.put o.dst hv) r2 hK
      · exact h1.elim
    · intro E a w hr next Q hn
      rw [evO_eq, evO_eq] at h1
      obtain ⟨y, hK, v, hrun, hv⟩ := slc_run (σ := σ) ho (hx w E _ rfl (hr.ev x)) hr h1
      unfold Oper.wp
      rw [hrun]
      exact hn _ w E _ (hr.put o.dst hv) (Ext.refl E w) hK
  · exact estep_ok h
def gstepN (P : Program) (σ : St) (d : Option Tmp) (op : Op) (g : Option Bool) (K : St → Prop) : Prop :=
  match g with
  | some g => if merges P op = true then pstep P g σ op (kCond K σ d g) else (g = true → estepN P σ d op K) ∧ (g = false → K (σ.put d .dead))
  | none => False
def ostepN (P : Program) (ops : List Oper) (σ : St) (d : Option Tmp) (op : Op) (guard : Option (Nat × Bool)) (K : St → Prop) : Prop :=
  match guard with
  | none => estepN P σ d op K
  | some (j, want) => gstepN P σ d op (guardS ops σ j want) K

def steps (P : Program) (ops : List Oper) (l : List Oper) (K : St → Prop) (σ : St) : Prop :=
  match l with
  | [] => K σ
  | o :: r => ostepN P ops σ o.dst o.op o.guard (steps P ops r K)

def LiftQ (E0 : Env) (w0 : World) (Q : Exit → St → Prop) : Exit → Act → World → Prop := fun e a w => ∃ σ E, RelF E σ a w ∧ Ext E0 w0 E w ∧ Q e σ

theorem steps_ok {P : Program} {ops : List Oper} {Q : Exit → St → Prop} : ∀ (l : List Oper) (σ : St), steps P ops l (Q .normal) σ → ∀ E a w, RelF E σ a w → ∀ E0 w0, Ext E0 w0 E w → wpList P ops.toArray (LiftQ E0 w0 Q) l a w
  | [], σ, h, E, a, w, hr, E0, w0, hE => ⟨σ, E, hr, hE, h⟩
  | o :: r, σ, h, E, a, w, hr, E0, w0, hE => by
    unfold steps ostepN at h
    unfold wpList
    split at h
    · rename_i hg
      have hw : Region.wanted o (yielded ops.toArray a.tmps) = true := by simp [Region.wanted, hg]
      rw [if_pos hw]
      exact .inl (estepN_ok h E a w hr _ _ fun a' w' E' σ' h1 h2 h3 => steps_ok r σ' h3 E' a' w' h1 E0 w0 (hE.trans h2))
    · rename_i j want hg
      unfold gstepN at h
      split at h
      · rename_i g hgs
        have hw := guard_ok hr hg hgs
        rw [hw]
        split at h
        · obtain ⟨x, hK, hy⟩ := pstep_ok h
          cases g with
          | true =>
            rw [if_pos rfl]
            exact .inl (hy rfl E a w hr _ _ fun v w' E' h1 h2 h3 _ => steps_ok r _ hK E' _ w' (h1.put o.dst (by rw [RdV]; exact ⟨fun _ => h3, fun h => by cases h⟩)) E0 w0 (hE.trans h2))
          | false =>
            rw [if_neg (by simp)]
            exact steps_ok r _ hK E _ w (hr.put o.dst (by rw [RdV]; exact ⟨fun h => (by cases h), fun _ => rfl⟩)) E0 w0 hE
        · cases g with
          | true =>
            rw [if_pos rfl]
            exact .inl (estepN_ok (h.1 rfl) E a w hr _ _ fun a' w' E' σ' h1 h2 h3 => steps_ok r σ' h3 E' a' w' h1 E0 w0 (hE.trans h2))
          | false =>
            rw [if_neg (by simp)]
            exact steps_ok r _ (h.2 rfl) E _ w (hr.put o.dst (by simp only [RdV])) E0 w0 hE
      · exact h.elim

/-! the text -/
def AWP (P : Program) (n0 : Nat) (c : Code) (Q : Exit → St → Prop) (σ : St) : Prop :=
  ∀ E a w, RelF E σ a w → ∀ E0 w0, (∀ i, E0.U i → i < n0) → Ext E0 w0 E w → c.wp P (LiftQ E0 w0 Q) a w

def thenQ (K : St → Prop) (Q : Exit → St → Prop) (e : Exit) (σ : St) : Prop :=
  match e with
  | .normal => K σ
  | e => Q e σ
def blockQ (id : Nat) (Q : Exit → St → Prop) (e : Exit) (σ : St) : Prop :=
  match e with
  | .exit i => if i = id then Q .normal σ else Q (.exit i) σ
  | e => Q e σ
def condV (x : V) (A B : Prop) : Prop :=
  match x with
  | .t (.lit (.bool b)) => (b = true → A) ∧ (b = false → B)
  | .cond g (.t (.lit (.bool b))) => g = true ∧ (b = true → A) ∧ (b = false → B)
  | _ => False
/-- a region that draws its order -/
def DrawR (P : Program) (n0 : Nat) (id : Nat) (ops : Array Oper) (Q : Exit → St → Prop) (σ : St) : Prop := AWP P n0 (.region id ops true) Q σ

def aw (P : Program) (n0 : Nat) (c : Code) (Q : Exit → St → Prop) (σ : St) : Prop :=
  match c with
  | .skip => Q .normal σ
  | .region id ops draw => if draw = true then DrawR P n0 id ops Q σ else steps P ops.toList ops.toList (Q .normal) σ
  | .seq a b => aw P n0 a (thenQ (aw P n0 b Q) Q) σ
  | .cond c x y => condV (σ.ev c) (aw P n0 x Q σ) (aw P n0 y Q σ)
  | .block id c => aw P n0 c (blockQ id Q) σ
  | .exit id => Q (.exit id) σ
  | .ret => Q .ret σ
  | .label _ => Q .normal σ
  | .loop c => AWP P n0 (.loop c) Q σ
  | _ => False

theorem awp_mono {P : Program} {n0 : Nat} {c : Code} {Q Q' : Exit → St → Prop} {σ : St} (h : AWP P n0 c Q σ) (hq : ∀ e σ, Q e σ → Q' e σ) : AWP P n0 c Q' σ := by
  intro E a w hr E0 w0 hU hE
  exact wp_mono (h E a w hr E0 w0 hU hE) fun e a' w' ⟨σ', E', h1, h2, h3⟩ => ⟨σ', E', h1, h2, hq e σ' h3⟩
theorem awp_seq {P : Program} {n0 : Nat} {a b : Code} {Q : Exit → St → Prop} {σ : St} (h : AWP P n0 a (thenQ (AWP P n0 b Q) Q) σ) : AWP P n0 (.seq a b) Q σ := by
  intro E ac w hr E0 w0 hU hE
  refine wp_seq (wp_mono (h E ac w hr E0 w0 hU hE) ?_)
  rintro e a' w' ⟨σ', E', h1, h2, h3⟩
  cases e with
  | normal => exact h3 E' a' w' h1 E0 w0 hU h2
  | _ => exact ⟨σ', E', h1, h2, h3⟩
theorem awp_block {P : Program} {n0 : Nat} {id : Nat} {c : Code} {Q : Exit → St → Prop} {σ : St} (h : AWP P n0 c (blockQ id Q) σ) : AWP P n0 (.block id c) Q σ := by
  intro E a w hr E0 w0 hU hE
  refine wp_block (wp_mono (h E a w hr E0 w0 hU hE) ?_)
  rintro e a' w' ⟨σ', E', h1, h2, h3⟩
  cases e with
  | exit i =>
    simp only [blockQ] at h3
    simp only [Exit.inBlock]
    split
    · rename_i hi; rw [if_pos hi] at h3; exact ⟨σ', E', h1, h2, h3⟩
    · rename_i hi; rw [if_neg hi] at h3; exact ⟨σ', E', h1, h2, h3⟩
  | _ => exact ⟨σ', E', h1, h2, h3⟩
theorem awp_cond {P : Program} {n0 : Nat} {c : Operand} {x y : Code} {Q : Exit → St → Prop} {σ : St} (h : condV (σ.ev c) (AWP P n0 x Q σ) (AWP P n0 y Q σ)) : AWP P n0 (.cond c x y) Q σ := by
  intro E a w hr E0 w0 hU hE
  have hv := hr.ev c
  unfold condV at h
  split at h
  · rename_i b he
    rw [he] at hv
    exact wp_cond_split (rdV_lit_inv hv).1 (fun hb => h.1 hb E a w hr E0 w0 hU hE) fun hb => h.2 hb E a w hr E0 w0 hU hE
  · rename_i g b he
    rw [he, RdV] at hv
    exact wp_cond_split (rdV_lit_inv (hv.1 h.1)).1 (fun hb => h.2.1 hb E a w hr E0 w0 hU hE) fun hb => h.2.2 hb E a w hr E0 w0 hU hE
  · exact h.elim

theorem aw_ok {P : Program} {n0 : Nat} : ∀ (c : Code) {Q : Exit → St → Prop} {σ : St}, aw P n0 c Q σ → AWP P n0 c Q σ
  | .skip, Q, σ, h => fun E a w hr E0 w0 hU hE => wp_skip ⟨σ, E, hr, hE, h⟩
  | .label _, Q, σ, h => fun E a w hr E0 w0 hU hE => wp_label ⟨σ, E, hr, hE, h⟩
  | .exit _, Q, σ, h => fun E a w hr E0 w0 hU hE => wp_exit ⟨σ, E, hr, hE, h⟩
  | .ret, Q, σ, h => fun E a w hr E0 w0 hU hE => wp_ret ⟨σ, E, hr, hE, h⟩
  | .region id ops draw, Q, σ, h => by
    unfold aw at h
    split at h
    · rename_i hd; subst hd; exact h
    · rename_i hd
      have : draw = false := by simpa using hd
      subst this
      intro E a w hr E0 w0 hU hE
      have := steps_ok _ _ h E a w hr E0 w0 hE
      rw [Array.toArray_toList] at this
      exact wp_region_list this
  | .seq a b, Q, σ, h => by
    unfold aw at h
    refine awp_seq (awp_mono (aw_ok a h) fun e σ' h' => ?_)
    cases e with
    | normal => exact aw_ok b h'
    | _ => exact h'
  | .cond c x y, Q, σ, h => by
    unfold aw at h
    refine awp_cond ?_
    unfold condV at h ⊢
    split at h
    · exact ⟨fun hb => aw_ok x (h.1 hb), fun hb => aw_ok y (h.2 hb)⟩
    · exact ⟨h.1, fun hb => aw_ok x (h.2.1 hb), fun hb => aw_ok y (h.2.2 hb)⟩
    · exact h.elim
  | .block id c, Q, σ, h => by
    unfold aw at h
    exact awp_block (aw_ok c h)
  | .loop c, Q, σ, h => by unfold aw at h; exact h
  | .rangeFunc .., Q, σ, h => by unfold aw at h; exact h.elim
  | .scope _, Q, σ, h => by unfold aw at h; exact h.elim
  | .goto _, Q, σ, h => by unfold aw at h; exact h.elim
  | .refuse _, Q, σ, h => by unfold aw at h; exact h.elim
end Go.Proofs.Ytnbmiejjkkgckaa
/- Proved here: Contracts by the abstract machine's walk; loops; for use in the proofs of the given statements; conditions stand in each theorem. -/
set_option linter.unusedSimpArgs false
set_option linter.unusedVariables false
set_option linter.unnecessarySimpa false
namespace Go.Proofs.Ytnbmiejjkkgckaa
open Go.RowKit

/-! what a call yields -/
def resV1 (P : Program) (σ : St) (r : ResultVar) : Option V :=
  match r with
  | .tmp t => some (σ.fr.getD t .dead)
  | .cell a t => match σ.fr.getD a .dead with
    | .own i => match σ.h.look i with
      | some (.box cs) => loadP P t cs 0
      | _ => none
    | _ => none
def resVs (P : Program) (σ : St) : List ResultVar → Option (List V)
  | [] => some []
  | r :: rs => match resV1 P σ r, resVs P σ rs with
    | some x, some xs => some (x :: xs)
    | _, _ => none
def tupV : List V → V
  | [x] => x
  | xs => .tup xs
/-- a deferred call that does nothing where nobody panics -/
def NopD (P : Program) (g : FuncId) : Prop :=
  P.enters g = true ∧ ∀ (cap : Array Value) (w : World), CallsD P g cap .returning w fun e u' w' => (∃ v, e = .returned v) ∧ u' = .returning ∧ w' = w
def NopDs (P : Program) : List FuncId → Prop
  | [] => True
  | g :: gs => NopD P g ∧ NopDs P gs
theorem run_enters {P : Program} {f : FuncId} (he : P.enters f = true) (cap : Array Value) (w : World) : (invoke (.fn (.func f) cap) #[]).run P w = .ok (.enter f cap) w := by
  unfold Program.enters at he
  split at he
  · rename_i fn hf
    simp only [Bool.and_eq_true, Bool.not_eq_true'] at he
    have hn : ¬ fn.name = "runtime.NumGoroutine" := by simpa using he.1
    have hb : ¬ fn.body = none := fun h => by rw [h] at he; simp at he
    simp [invoke, callFunc, hf, hn, hb]
  · cases he
theorem leaves_nops {P : Program} {fn : Func} {tmps : Array Value} {R : Ending → World → Prop} {w : World} : ∀ (df : List FuncId) (ds : List Deferred), DefRel df ds → NopDs P df → (∃ v, (results fn tmps).run P w = .ok v w ∧ R (.returned v) w) → Leaves P fn tmps R ds .returning w
  | [], [], _, _, h => h
  | g :: gs, d :: ds, hd, hn, h => by
    obtain ⟨⟨cap, rfl⟩, hd2⟩ := hd
    refine leaves_cons (by simp) (run_enters hn.1.1 cap w) ((hn.1.2 cap w).mono ?_)
    rintro e u' w' ⟨⟨v, rfl⟩, rfl, rfl⟩
    exact leaves_nops gs ds hd2 hn.2 h
  | [], _ :: _, hd, _, _ => hd.elim
  | _ :: _, [], hd, _, _ => hd.elim
def retQ (P : Program) (rs : List ResultVar) (K : V → Heap → Prop) (e : Exit) (σ : St) : Prop :=
  match e with
  | .ret | .normal => match resVs P σ rs with
    | some xs => NopDs P σ.df ∧ K (tupV xs) σ.h
    | none => False
  | _ => False

theorem run_res1 {P : Program} {E : Env} {σ : St} {a : Act} {w : World} (hr : RelF E σ a w) : ∀ (r : ResultVar) (x : V), resV1 P σ r = some x →
    ∃ v, (match r with
      | .tmp t => pure (a.tmps.getD t undef)
      | .cell b t => do loadVar t (← asAddr (a.tmps.getD b undef)) : Sem Value).run P w = .ok v w ∧ RdV w E x v
  | .tmp t, x, h => by
    simp only [resV1, Option.some.injEq] at h
    subst h
    exact ⟨a.tmps.getD t undef, rfl, hr.ev (.tmp t)⟩
  | .cell b t, x, h => by
    simp only [resV1] at h
    split at h
    · rename_i i he
      split at h
      · rename_i cs hl
        obtain ⟨g, vs, ty, hB, hh, h1, h2⟩ := box_at hr.rel hl
        have e1 := hr.ev (.tmp b)
        have e0 : σ.ev (.tmp b) = .own i := he
        rw [e0] at e1
        simp only [RdV] at e1
        have e2 : a.tmps.getD b undef = .pointer (some ⟨g, 0, none⟩) := e1.2.2 _ (.inl hB)
        obtain ⟨u, hu, hru⟩ := loadVar_ok (P := P) (o := 0) (cell_of_heap hh) h1 h2 h
        exact ⟨u, by simp only [e2, asAddr, Sem.run_bind, Sem.run_pure, Result.andThen_ok]; exact hu, hru⟩
      · cases h
    · cases h
theorem run_ress {P : Program} {E : Env} {σ : St} {a : Act} {w : World} (hr : RelF E σ a w) : ∀ (rs : List ResultVar) (xs : List V), resVs P σ rs = some xs →
    ∃ vs, (rs.mapM fun
      | .tmp t => pure (a.tmps.getD t undef)
      | .cell b t => do loadVar t (← asAddr (a.tmps.getD b undef)) : Sem (List Value)).run P w = .ok vs w ∧ RdVs w E xs vs
  | [], xs, h => by
    simp only [resVs, Option.some.injEq] at h
    subst h
    exact ⟨[], by simp, by simp only [RdVs]⟩
  | r :: rs, xs, h => by
    simp only [resVs] at h
    split at h
    · rename_i x xs' h1 h2
      injection h with h
      subst h
      obtain ⟨v, q1, q2⟩ := run_res1 hr r x h1
      obtain ⟨vs, q3, q4⟩ := run_ress hr rs xs' h2
      refine ⟨v :: vs, ?_, by simp only [RdVs]; exact ⟨q2, q4⟩⟩
      rw [List.mapM_cons]
      simp only [Sem.run_bind, q1, Result.andThen_ok, q3, Sem.run_pure]
    · cases h

theorem run_results {P : Program} {E : Env} {σ : St} {a : Act} {w : World} {fn : Func} {xs : List V} (hr : RelF E σ a w) (h : resVs P σ fn.results.toList = some xs) :
    ∃ v, (results fn a.tmps).run P w = .ok v w ∧ RdV w E (tupV xs) v := by
  obtain ⟨vs, h1, h2⟩ := run_ress hr _ _ h
  have e1 : (results fn a.tmps) = (do
      let vs ← (fn.results.toList.mapM fun
        | .tmp t => pure (a.tmps.getD t undef)
        | .cell b t => do loadVar t (← asAddr (a.tmps.getD b undef)) : Sem (List Value))
      pure (if h : vs.toArray.size = 1 then vs.toArray[0] else .tuple vs.toArray)) := by
    unfold results
    rw [Array.mapM_eq_mapM_toList]
    simp only [map_eq_pure_bind, bind_assoc, pure_bind]
    rfl
  have hl := RdVs.len h2
  refine ⟨if h : vs.toArray.size = 1 then vs.toArray[0] else .tuple vs.toArray, ?_, ?_⟩
  · rw [e1]
    simp only [Sem.run_bind, h1, Result.andThen_ok, Sem.run_pure]
  · cases xs with
    | nil =>
      cases vs with
      | nil => simp only [tupV, RdV]; exact ⟨#[], rfl, by simpa using h2⟩
      | cons _ _ => simp only [RdVs] at h2
    | cons x xs =>
      cases xs with
      | nil =>
        cases vs with
        | nil => simp only [RdVs] at h2
        | cons v vs =>
          cases vs with
          | nil => simp only [RdVs] at h2; exact h2.1
          | cons _ _ => simp at hl
      | cons y ys =>
        have hne : ¬ vs.toArray.size = 1 := by simp; simp at hl; omega
        rw [dif_neg hne]
        simp only [tupV, RdV]
        exact ⟨_, rfl, by simpa using h2⟩

def entry (P : Program) (n : Nat) (args : List V) (h : Heap) (nx : Nat) : St := { fr := args ++ List.replicate (n - args.length) .dead, h := h, nx := nx }
theorem rdVs_dead {w : World} {E : Env} : ∀ (n : Nat), RdVs w E (List.replicate n .dead) (List.replicate n undef)
  | 0 => by simp only [List.replicate_zero, RdVs]
  | n + 1 => by simp only [List.replicate_succ, RdVs, RdV]; exact ⟨trivial, rdVs_dead n⟩

def pureK (r : V) (x : V) (h : Heap) : Prop := x.lend h = r ∧ r.pure = true

theorem cpure_of {P : Program} {f : FuncId} {fn : Func} {c : Code} {args : List V} {r : V} {n : Nat} {rs : List ResultVar} (he : P.enters f = true) (hf : P.funcs[f]? = some fn) (hb : fn.body = some c) (hn : fn.ntmps = n) (hrs : fn.results.toList = rs)
    (h : AWP P 0 c (retQ P rs (pureK r)) (entry P n args [] 0)) : CPure P f args r := by
  refine ⟨he, fun w S vs hS hargs => ?_⟩
  refine calls_of_wp_defers hf hb ?_
  let E0 : Env := ⟨S, fun _ => none, fun _ => False, fun b => b < w.heap.size, fun _ => none⟩
  have hlen := RdVs.len hargs
  have hrel : RelF E0 (entry P n args [] 0) { tmps := vs.toArray ++ Array.replicate (fn.ntmps - vs.toArray.size) undef, defers := [] } w := by
    refine ⟨⟨fun i blk hl => (by simp [entry, Heap.look] at hl), fun i hv hB => (by cases hB), fun i hv hB => (by cases hB), fun i hv b hB => (by cases hB), fun i j hi hj b hB => (by cases hB), hS, fun b hb => hb⟩, fun i hi => hi.elim, ?_, trivial⟩
    have e1 : (vs.toArray ++ Array.replicate (fn.ntmps - vs.toArray.size) undef).toList = vs ++ List.replicate (n - args.length) undef := by
      rw [hn, hlen]; simp
    show RdVs w E0 (args ++ List.replicate (n - args.length) .dead) _
    rw [e1]
    exact RdVs.append (RdVs.unbare (E := E0) args hargs) (rdVs_dead _)
  refine wp_mono (h E0 _ w hrel E0 w (fun i hi => hi.elim) (Ext.refl _ _)) ?_
  rintro e a' w' ⟨σ', E', h1, h2, h3⟩
  have key : ∀ xs, resVs P σ' rs = some xs → NopDs P σ'.df ∧ pureK r (tupV xs) σ'.h → Leaves P fn a'.tmps (fun e w' => ∃ v S', e = .returned v ∧ (∀ b, S b → S' b) ∧ (∀ b, S' b → S b ∨ w.heap.size ≤ b) ∧ (∀ b, S' b → b < w'.heap.size) ∧ RdV w' (bareE S') r v ∧ Below w.heap.size w w') a'.defers .returning w' := by
    intro xs hxs hK
    obtain ⟨hnop, hK1, hK2⟩ := hK
    refine leaves_nops _ _ h1.defers hnop ?_
    show ∃ v, (results fn a'.tmps).run P w' = .ok v w' ∧
      (∃ v' S', Ending.returned v = .returned v' ∧ (∀ b, S b → S' b) ∧ (∀ b, S' b → S b ∨ w.heap.size ≤ b) ∧ (∀ b, S' b → b < w'.heap.size) ∧ RdV w' (bareE S') r v' ∧ Below w.heap.size w w')
    obtain ⟨v, hv, hrv⟩ := run_results (fn := fn) h1 (by rw [hrs]; exact hxs)
    refine ⟨v, hv, v, lentS E' σ'.h, rfl, fun b hb' => .inl (h2.S b hb'), fun b hb' => ?_, fun b hb' => ?_, ?_, ⟨h2.os, h2.tape, h2.output, h2.size, fun b hb' => h2.keep b (.inr hb')⟩⟩
    · rcases hb' with hb' | ⟨i, hv', _, _, _, _, hB, _, hbk⟩
      · rcases h2.S' b hb' with q | q
        · exact .inl q
        · exact .inr (Nat.le_of_not_lt q)
      · have q := (h1.rel.own i hv' b hB hbk).2.2
        exact .inr (Nat.le_of_not_lt fun hlt => q ((h2.D b).2 hlt))
    · rcases hb' with hb' | ⟨i, hv', _, _, _, _, hB, _, hbk⟩
      · exact h1.rel.slt b hb'
      · exact (h1.rel.own i hv' b hB hbk).1
    · have := RdV.lend h1.rel (tupV xs) (by rw [hK1]; exact hK2) hrv
      rw [hK1] at this
      exact this
  cases e with
  | normal =>
    simp only [retQ] at h3
    split at h3
    · exact key _ (by assumption) h3
    · exact h3.elim
  | ret =>
    simp only [retQ] at h3
    split at h3
    · exact key _ (by assumption) h3
    · exact h3.elim
  | exit _ => exact h3.elim
  | goto _ => exact h3.elim
  | panic _ => exact h3.elim
  | outgrown => exact h3.elim

/-! loops -/
theorem wp_loop_g {P : Program} {Q : Exit → Act → World → Prop} {c : Code} {α : Type} (I : α → Act → World → Prop) (μ : α → Nat) {x : α} {a : Act} {w : World} (h₀ : I x a w)
    (round : ∀ x a w, I x a w → c.wp P (Exit.then (fun a' w' => ∃ y, I y a' w' ∧ μ y < μ x) Q) a w) : (Code.loop c).wp P Q a w := by
  intro b k cs
  have key : ∀ n x a w, μ x = n → I x a w →
      ∃ e a' w', Q e a' w' ∧ Arrives P (lone (b.at a (.code c :: .inLoop c :: k)) cs w) b k cs e a' w' := by
    intro n
    induction n using Nat.strongRecOn with
    | _ n ih =>
      intro x a w hn hI
      obtain ⟨e, a₁, w₁, hq, harr⟩ := round x a w hI b (.inLoop c :: k) cs
      cases e with
      | normal =>
        obtain ⟨y, hI₁, hlt⟩ := hq
        obtain ⟨e₂, a₂, w₂, hq₂, harr₂⟩ := ih (μ y) (hn ▸ hlt) y a₁ w₁ rfl hI₁
        exact ⟨e₂, a₂, w₂, hq₂, .of_steps (Steps.trans harr (.one step_inLoop)) harr₂⟩
      | exit id => exact ⟨_, a₁, w₁, hq, .pass (x := .inLoop c) rfl (fun _ _ => .inl (by simp)) harr⟩
      | goto l => exact ⟨_, a₁, w₁, hq, .pass (x := .inLoop c) rfl (fun _ _ => .inl (by simp)) harr⟩
      | ret => exact ⟨_, a₁, w₁, hq, .pass (x := .inLoop c) rfl (fun _ _ => .inl (by simp)) harr⟩
      | panic ch => exact ⟨_, a₁, w₁, hq, .pass (x := .inLoop c) rfl (fun _ _ => .inl (by simp)) harr⟩
      | outgrown => exact ⟨_, a₁, w₁, hq, .pass (x := .inLoop c) rfl (fun _ _ => .inl (by simp)) harr⟩
  obtain ⟨e, a', w', hq, harr⟩ := key _ x a w rfl h₀
  exact ⟨e, a', w', hq, .of_steps (.one step_loop) harr⟩

/-- a loop, from the beginning of its round -/
def LoopWp (P : Program) (c : Code) (Q : Exit → Act → World → Prop) (a : Act) (w : World) : Prop :=
  ∀ (b : Frame) (k : List Item) (cs : List Frame), ∃ e a' w', Q e a' w' ∧ Arrives P (lone (b.at a (.code c :: .inLoop c :: k)) cs w) b k cs e a' w'
theorem wp_of_loopWp {P : Program} {c : Code} {Q : Exit → Act → World → Prop} {a : Act} {w : World} (h : LoopWp P c Q a w) : (Code.loop c).wp P Q a w := by
  intro b k cs
  obtain ⟨e, a', w', hq, harr⟩ := h b k cs
  exact ⟨e, a', w', hq, .of_steps (.one step_loop) harr⟩
theorem loopWp_step {P : Program} {c : Code} {Q : Exit → Act → World → Prop} {a : Act} {w : World} (h : c.wp P (Exit.then (LoopWp P c Q) Q) a w) : LoopWp P c Q a w := by
  intro b k cs
  obtain ⟨e, a₁, w₁, hq, harr⟩ := h b (.inLoop c :: k) cs
  cases e with
  | normal =>
    obtain ⟨e₂, a₂, w₂, hq₂, harr₂⟩ := hq b k cs
    exact ⟨e₂, a₂, w₂, hq₂, .of_steps (Steps.trans harr (.one step_inLoop)) harr₂⟩
  | exit id => exact ⟨_, a₁, w₁, hq, .pass (x := .inLoop c) rfl (fun _ _ => .inl (by simp)) harr⟩
  | goto l => exact ⟨_, a₁, w₁, hq, .pass (x := .inLoop c) rfl (fun _ _ => .inl (by simp)) harr⟩
  | ret => exact ⟨_, a₁, w₁, hq, .pass (x := .inLoop c) rfl (fun _ _ => .inl (by simp)) harr⟩
  | panic ch => exact ⟨_, a₁, w₁, hq, .pass (x := .inLoop c) rfl (fun _ _ => .inl (by simp)) harr⟩
  | outgrown => exact ⟨_, a₁, w₁, hq, .pass (x := .inLoop c) rfl (fun _ _ => .inl (by simp)) harr⟩
/-- the same of the abstract machine -/
def AWPL (P : Program) (n0 : Nat) (c : Code) (Q : Exit → St → Prop) (σ : St) : Prop :=
  ∀ E a w, RelF E σ a w → ∀ E0 w0, (∀ i, E0.U i → i < n0) → Ext E0 w0 E w → LoopWp P c (LiftQ E0 w0 Q) a w
theorem awp_loopL {P : Program} {n0 : Nat} {c : Code} {Q : Exit → St → Prop} {σ : St} (h : AWPL P n0 c Q σ) : AWP P n0 (.loop c) Q σ :=
  fun E a w hr E0 w0 hU hE => wp_of_loopWp (h E a w hr E0 w0 hU hE)
/-- a round, and the rest -/
theorem awpL_step {P : Program} {n0 : Nat} {c : Code} {Q : Exit → St → Prop} {σ : St} (h : AWP P n0 c (thenQ (AWPL P n0 c Q) Q) σ) : AWPL P n0 c Q σ := by
  intro E a w hr E0 w0 hU hE
  refine loopWp_step (wp_mono (h E a w hr E0 w0 hU hE) ?_)
  rintro e a' w' ⟨σ', E', q1, q2, q3⟩
  cases e with
  | normal => exact q3 E' a' w' q1 E0 w0 hU q2
  | _ => exact ⟨σ', E', q1, q2, q3⟩

/-- the state σ may be seen as σ' -/
def Weak (n0 : Nat) (σ σ' : St) : Prop := ∀ E a w, RelF E σ a w → ∀ E0 w0, (∀ i, E0.U i → i < n0) → Ext E0 w0 E w → ∃ E', RelF E' σ' a w ∧ Ext E0 w0 E' w
theorem awp_weak {P : Program} {n0 : Nat} {c : Code} {Q : Exit → St → Prop} {σ σ' : St} (hw : Weak n0 σ σ') (h : AWP P n0 c Q σ') : AWP P n0 c Q σ := by
  intro E a w hr E0 w0 hU hE
  obtain ⟨E', h1, h2⟩ := hw E a w hr E0 w0 hU hE
  exact h E' a w h1 E0 w0 hU h2

theorem awp_loop {P : Program} {n0 : Nat} {c : Code} {Q : Exit → St → Prop} {σ : St} {α : Type} (I : α → St) (J : α → Prop) (μ : α → Nat) (x : α) (h0 : Weak n0 σ (I x)) (hJ : J x)
    (round : ∀ x, J x → AWP P n0 c (thenQ (fun σ' => ∃ y, Weak n0 σ' (I y) ∧ J y ∧ μ y < μ x) Q) (I x)) : AWP P n0 (.loop c) Q σ := by
  intro E a w hr E0 w0 hU hE
  obtain ⟨E', h1, h2⟩ := h0 E a w hr E0 w0 hU hE
  refine wp_loop_g (α := α) (fun x a w => J x ∧ ∃ E', RelF E' (I x) a w ∧ Ext E0 w0 E' w) μ (x := x) ⟨hJ, E', h1, h2⟩ ?_
  rintro x a w ⟨hJx, E1, k1, k2⟩
  refine wp_mono (round x hJx E1 a w k1 E0 w0 hU k2) ?_
  rintro e a' w' ⟨σ', E2, q1, q2, q3⟩
  cases e with
  | normal =>
    obtain ⟨y, hy, hJy, hlt⟩ := q3
    obtain ⟨E3, r1, r2⟩ := hy E2 a' w' q1 E0 w0 hU q2
    exact ⟨y, ⟨hJy, E3, r1, r2⟩, hlt⟩
  | _ => exact ⟨σ', E2, q1, q2, q3⟩
end Go.Proofs.Ytnbmiejjkkgckaa
