/- Proved here: The rules by which the abstract machine is run by simp, for use in the proofs of the given statements; conditions stand in each theorem. -/
import Derived.Test.YtnbmiejjkkgckaaZO
import Derived.IntWalk
set_option linter.unusedSimpArgs false
set_option linter.unusedVariables false
set_option linter.unusedSimpArgs false
namespace Go.Proofs.Ytnbmiejjkkgckaa
open Go.RowKit
/-! slices that are made in full, in order -/
def fullS (n k : Nat) : Nat → List (Nat × V) → Option (List (List V))
  | i, [] => if i = n then some [] else none
  | i, p :: r => fullP k i p.1 p.2.cells (fullS n k (i + 1) r)
where
  fullP (k i j : Nat) (cs : List V) (r : Option (List (List V))) : Option (List (List V)) :=
    match r with
    | some ts => if j = i ∧ cs.length = k ∧ cs.all V.isCell = true then some (cs :: ts) else none
    | none => none
theorem fullP_inv {k i j : Nat} {cs : List V} {r : Option (List (List V))} {rows : List (List V)} (h : fullS.fullP k i j cs r = some rows) : ∃ ts, r = some ts ∧ j = i ∧ cs.length = k ∧ cs.all V.isCell = true ∧ rows = cs :: ts := by
  unfold fullS.fullP at h
  cases h2 : r with
  | none => rw [h2] at h; cases h
  | some ts =>
    rw [h2] at h
    dsimp only at h
    split at h
    · rename_i h3
      injection h with h
      exact ⟨ts, rfl, h3.1, h3.2.1, h3.2.2, h.symm⟩
    · cases h
theorem tCells_t : ∀ {xs : List V} {ts : List T}, tCells xs = some ts → xs = ts.map .t
  | [], ts, h => by simp [tCells] at h; subst h; rfl
  | x :: xs, ts, h => by
    cases x <;> simp [tCells] at h
    obtain ⟨r, h1, h2⟩ := h
    subst h2
    simp [tCells_t h1]
theorem fullS_fill {n k : Nat} : ∀ (ps : List (Nat × V)) (i : Nat) (rows : List (List V)) (pre rest : List V), fullS n k i ps = some rows → pre.length = i * k → rest.length = (n - i) * k → i ≤ n →
    fillV (fun i => some (i * k, k)) (pre ++ rest) ps = some (pre ++ rows.flatten) ∧ rows.length = n - i ∧ (∀ r ∈ rows, r.length = k) ∧ i ≤ n
  | [], i, rows, pre, rest, h, hp, hr, hi => by
    unfold fullS at h
    split at h
    · rename_i hin
      injection h with h
      subst h hin
      have : rest = [] := List.length_eq_zero_iff.1 (by simpa using hr)
      subst this
      exact ⟨by simp [fillV], by simp, by simp, hi⟩
    · cases h
  | (j, x) :: r, i, rows, pre, rest, h, hp, hr, hi => by
    unfold fullS at h
    obtain ⟨ts, h2, h3, h4, h5, rfl⟩ := fullP_inv h
    dsimp only at h3 h4 h5
    subst h3
    have hji : j + 1 ≤ n := by
      rcases Nat.lt_or_ge j n with h | h
      · exact h
      · exfalso
        have : ∀ (ps : List (Nat × V)) (i : Nat) (rows : List (List V)), fullS n k i ps = some rows → i ≤ n := by
          intro ps
          induction ps with
          | nil =>
            intro i rows h
            unfold fullS at h
            split at h
            · omega
            · cases h
          | cons p ps ih =>
            intro i rows h
            unfold fullS at h
            obtain ⟨ts', h6, _⟩ := fullP_inv h
            have := ih _ _ h6
            omega
        have := this r (j + 1) ts h2
        omega
    have hrl : k ≤ rest.length := by
      rw [hr]
      exact Nat.le_mul_of_pos_left k (by omega)
    have hstep : (pre ++ rest).take (j * k) ++ x.cells ++ (pre ++ rest).drop (j * k + x.cells.length) = (pre ++ x.cells) ++ rest.drop k := by
      rw [List.take_append_of_le_length (by simp [hp]), List.take_of_length_le (by simp [hp]), h4, List.drop_append]
      simp [hp]
    obtain ⟨q1, q2, q3, q4⟩ := fullS_fill r (j + 1) ts (pre ++ x.cells) (rest.drop k) h2 (by simp [hp, h4, Nat.succ_mul]) (by
      rw [List.length_drop, hr, show n - j = (n - (j + 1)) + 1 by omega, Nat.succ_mul]; omega) hji
    refine ⟨?_, by simp [q2]; omega, ?_, hi⟩
    · unfold fillV
      dsimp only
      rw [if_neg (by
        rw [h4, h5]
        simp [hp, hr]
        have : k ≤ (n - j) * k := Nat.le_mul_of_pos_left k (by omega)
        omega), hstep, q1]
      simp
    · intro y hy
      rcases List.mem_cons.1 hy with h | h
      · rw [h]; exact h4
      · exact q3 y h
theorem flatT_len {α : Type} {k : Nat} : ∀ (rows : List (List α)), (∀ r ∈ rows, r.length = k) → rows.flatten.length = rows.length * k
  | [], _ => by simp
  | r :: rs, h => by
    rw [List.flatten_cons, List.length_append, h r (by simp), flatT_len rs (fun y hy => h y (by simp [hy])), List.length_cons, Nat.succ_mul]
    omega
theorem chunkT_flat {α : Type} {k : Nat} (rows : List (List α)) (h : ∀ r ∈ rows, r.length = k) : chunk k rows.length rows.flatten = rows := by
  unfold chunk
  have key : ∀ (rows : List (List α)), (∀ r ∈ rows, r.length = k) → ∀ i, i < rows.length → (rows.flatten.drop (i * k)).take k = rows.getD i [] := by
    intro rows
    induction rows with
    | nil => intro _ i hi; simp at hi
    | cons r rs ih =>
      intro h i hi
      have hr := h r (by simp)
      cases i with
      | zero => simp [hr]
      | succ i =>
        rw [List.flatten_cons, List.drop_append]
        have : (i + 1) * k - r.length = i * k := by rw [hr, Nat.succ_mul]; omega
        rw [this, List.drop_eq_nil_of_le (by rw [hr, Nat.succ_mul]; omega), List.nil_append, ih (fun y hy => h y (by simp [hy])) i (by simpa using hi)]
        simp
  refine List.ext_getElem (by simp) fun i h1 h2 => ?_
  rw [List.getElem_map, List.getElem_range, key rows h i h2]
  simp [h2]
/-- rows without memory of one's own behind are written so -/
def tRs : List (List V) → Option (List (List T))
  | [] => some []
  | r :: rs => tRc (tCells r) (tRs rs)
where
  tRc (t : Option (List T)) (ts : Option (List (List T))) : Option (List (List T)) :=
    match t, ts with
    | some t, some ts => some (t :: ts)
    | _, _ => none
def normR (rows : List (List V)) (ts : Option (List (List T))) : List (List V) :=
  match ts with
  | some ts => tRows ts
  | none => rows
theorem tRs_t : ∀ {rows : List (List V)} {ts : List (List T)}, tRs rows = some ts → rows = tRows ts
  | [], ts, h => by simp [tRs] at h; subst h; rfl
  | r :: rs, ts, h => by
    unfold tRs tRs.tRc at h
    split at h
    · rename_i t ts' h1 h2
      injection h with h; subst h
      rw [tCells_t h1, tRs_t h2]; rfl
    · cases h
theorem normR_eq (rows : List (List V)) : normR rows (tRs rows) = rows := by
  cases h : tRs rows with
  | none => rfl
  | some ts => exact (tRs_t h).symm
def bsF (n : Nat) (e : TypeId) (k : Nat) (z : List Value) (p : Prop) (ps : List (Nat × V)) (r : Option (List (List V))) : RO Blk :=
  match r with
  | some rows => some (z.length = k ∧ zeroOk z = true ∧ n * k ≤ 2 ^ 24 ∧ 0 < k ∧ p, .row e k (z.map .lit) rows)
  | none => sliceRow n k e z (z.length = k ∧ zeroOk z = true ∧ n * k ≤ 2 ^ 24 ∧ 0 < k ∧ p) (sliceFill n k z ps)
@[go_sem] theorem bsA_full {n k : Nat} {e : TypeId} {z : List Value} {p : Prop} {ps : List (Nat × V)} : buildSliceR.bsA n e (some k) (some z) p ps = bsF n e k z p ps (fullS n k 0 ps) := by
  cases h : fullS n k 0 ps with
  | none => rfl
  | some rows =>
    show sliceRow n k e z (z.length = k ∧ zeroOk z = true ∧ n * k ≤ 2 ^ 24 ∧ 0 < k ∧ p) (sliceFill n k z ps) = _
    obtain ⟨q1, q2, q3, _⟩ := fullS_fill ps 0 rows [] (zeroV ((List.range (n * k)).map fun i => z.getD (i % z.length) undef)) h (by simp) (by simp [zeroV]) (Nat.zero_le _)
    have e1 : sliceFill n k z ps = some rows.flatten := by
      unfold sliceFill
      rw [List.nil_append, List.nil_append] at q1
      rw [q1]
    have hl : rows.length = n := by simpa using q2
    rw [e1]
    unfold sliceRow bsF
    dsimp only
    have e2 : chunk k n rows.flatten = rows := by
      have := chunkT_flat rows q3
      rwa [hl] at this
    rw [e2]
    have e3 : rows.flatten.length = n * k := by rw [flatT_len rows q3, hl]
    rw [eq_true e3, and_true]
@[go_sem] theorem bsF_some {n k : Nat} {e : TypeId} {z : List Value} {p : Prop} {ps : List (Nat × V)} {rows : List (List V)} : bsF n e k z p ps (some rows) = some (z.length = k ∧ zeroOk z = true ∧ n * k ≤ 2 ^ 24 ∧ 0 < k ∧ p, .row e k (z.map .lit) (normR rows (tRs rows))) := by
  rw [normR_eq]; rfl
@[go_sem] theorem fullS_nil {n k i : Nat} : fullS n k i [] = if i = n then some [] else none := rfl
@[go_sem] theorem fullS_cons {n k i : Nat} {p : Nat × V} {r : List (Nat × V)} : fullS n k i (p :: r) = fullS.fullP k i p.1 p.2.cells (fullS n k (i + 1) r) := rfl
@[go_sem] theorem tRows_append {xs ys : List (List T)} : tRows xs ++ tRows ys = tRows (xs ++ ys) := by simp [tRows]
@[go_sem, simp] theorem tRows_nil : tRows [] = [] := rfl
/-- an element is written -/
def setRow (xs : List (List V)) (n : Nat) (r : List V) : List (List V) := xs.set n r
def setRowT (xs : List (List T)) (n : Nat) (r : List V) (t : Option (List T)) : List (List V) :=
  match t with
  | some t => tRows (xs.set n t)
  | none => (tRows xs).set n r
@[go_sem] theorem setRow_t {xs : List (List T)} {n : Nat} {r : List V} : setRow (tRows xs) n r = setRowT xs n r (tCells r) := by
  unfold setRow
  cases h : tCells r with
  | none => rfl
  | some t => rw [tCells_t h]; simp [setRowT, tRows]
@[go_sem] theorem storeW_row {h : Heap} {i e k' k n j : Nat} {d : List T} {xs : List (List V)} {sz : Option Nat} {x : V} : storeR.storeW h i sz (some (.row e k' d xs)) k n j x =
    some (x.cells.all V.isCell = true ∧ sz = some x.cells.length ∧ k' = k ∧ n < xs.length ∧ j + x.cells.length ≤ k, h.set i (.row e k d (setRow xs n (putCells (nthV d xs n) j x.cells)))) := rfl
attribute [go_sem] fullS.fullP tRs tRs.tRc normR setRowT nthV_tRows tRows_len
section
variable {P : Program} {n0 : Nat} {Q : Exit → St → Prop} {σ : St} {K : St → Prop} {d : Option Tmp}
def condS (P : Program) (n0 : Nat) (c : V) (x y : Code) (Q : Exit → St → Prop) (σ : St) : Prop := condV c (aw P n0 x Q σ) (aw P n0 y Q σ)
@[go_sem] theorem aw_skip : aw P n0 .skip Q σ = Q .normal σ := rfl
@[go_sem] theorem aw_region {id : Nat} {ops : List Oper} : aw P n0 (.region id ⟨ops⟩ false) Q σ = steps P ops ops (Q .normal) σ := rfl
@[go_sem] theorem aw_draw {id : Nat} {ops : Array Oper} : aw P n0 (.region id ops true) Q σ = DrawR P n0 id ops Q σ := rfl
@[go_sem] theorem aw_seq {a b : Code} : aw P n0 (.seq a b) Q σ = aw P n0 a (thenQ (aw P n0 b Q) Q) σ := rfl
@[go_sem] theorem aw_cond {c : Operand} {x y : Code} : aw P n0 (.cond c x y) Q σ = condS P n0 (σ.ev c) x y Q σ := rfl
@[go_sem] theorem aw_block {id : Nat} {c : Code} : aw P n0 (.block id c) Q σ = aw P n0 c (blockQ id Q) σ := rfl
@[go_sem] theorem aw_exit {id : Nat} : aw P n0 (.exit id) Q σ = Q (.exit id) σ := rfl
@[go_sem] theorem aw_ret : aw P n0 .ret Q σ = Q .ret σ := rfl
@[go_sem] theorem aw_loop {c : Code} : aw P n0 (.loop c) Q σ = AWP P n0 (.loop c) Q σ := rfl
/-- the walk stops here -/
def awS (P : Program) (n0 : Nat) (c : Code) (Q : Exit → St → Prop) (σ : St) : Prop := aw P n0 c Q σ
@[go_sem high] theorem condS_true {x y : Code} : condS P n0 (.t (.lit (.bool true))) x y Q σ = aw P n0 x Q σ := by simp [condS, condV]
@[go_sem high] theorem condS_false {x y : Code} : condS P n0 (.t (.lit (.bool false))) x y Q σ = aw P n0 y Q σ := by simp [condS, condV]
@[go_sem] theorem condS_lit {b : Bool} {x y : Code} : condS P n0 (.t (.lit (.bool b))) x y Q σ = ((b = true → awS P n0 x Q σ) ∧ (b = false → awS P n0 y Q σ)) := rfl
@[go_sem] theorem condS_cond {g b : Bool} {x y : Code} : condS P n0 (.cond g (.t (.lit (.bool b)))) x y Q σ = (g = true ∧ (b = true → awS P n0 x Q σ) ∧ (b = false → awS P n0 y Q σ)) := rfl
@[go_sem] theorem steps_nil {ops : List Oper} : steps P ops [] K σ = K σ := rfl
@[go_sem] theorem steps_cons {ops r : List Oper} {o : Oper} : steps P ops (o :: r) K σ = ostepN P ops σ o.dst o.op o.guard (steps P ops r K) := rfl
@[go_sem] theorem kPut_t {x : T} : kPut K σ d (.t x) = K (σ.put d (.t x)) := rfl
@[go_sem] theorem kPut_agg {x : List V} : kPut K σ d (.agg x) = K (σ.put d (.agg x)) := rfl
@[go_sem] theorem kPut_tup {x : List V} : kPut K σ d (.tup x) = K (σ.put d (.tup x)) := rfl
@[go_sem] theorem kPut_own {i : Nat} : kPut K σ d (.own i) = K (σ.put d (.own i)) := rfl
@[go_sem] theorem kPut_ptr {i j : Nat} : kPut K σ d (.ptr i j) = K (σ.put d (.ptr i j)) := rfl
@[go_sem] theorem kPut_rptr {i k n j : Nat} : kPut K σ d (.rptr i k n j) = K (σ.put d (.rptr i k n j)) := rfl
@[go_sem] theorem kPut_elem {k i j : Nat} {dd : List T} {xs : List (List T)} : kPut K σ d (.elem k dd xs i j) = K (σ.put d (.elem k dd xs i j)) := rfl
@[go_sem] theorem kPut_cond {g : Bool} {x : V} : kPut K σ d (.cond g x) = K (σ.put d (.cond g x)) := rfl
@[go_sem] theorem kPut_clo {f : FuncId} {cs : List V} : kPut K σ d (.clo f cs) = K (σ.put d (.clo f cs)) := rfl
@[go_sem] theorem kCond_clo {g : Bool} {f : FuncId} {cs : List V} : kCond K σ d g (.clo f cs) = K (σ.put d (.cond g (.clo f cs))) := rfl
@[go_sem] theorem kPut_dead : kPut K σ d .dead = K (σ.put d .dead) := rfl
@[go_sem] theorem kCond_t {g : Bool} {x : T} : kCond K σ d g (.t x) = K (σ.put d (.cond g (.t x))) := rfl
@[go_sem] theorem kCond_agg {g : Bool} {x : List V} : kCond K σ d g (.agg x) = K (σ.put d (.cond g (.agg x))) := rfl
@[go_sem] theorem kCond_tup {g : Bool} {x : List V} : kCond K σ d g (.tup x) = K (σ.put d (.cond g (.tup x))) := rfl
@[go_sem] theorem kCond_own {g : Bool} {i : Nat} : kCond K σ d g (.own i) = K (σ.put d (.cond g (.own i))) := rfl
@[go_sem] theorem kCond_ptr {g : Bool} {i j : Nat} : kCond K σ d g (.ptr i j) = K (σ.put d (.cond g (.ptr i j))) := rfl
@[go_sem] theorem kCond_rptr {g : Bool} {i k n j : Nat} : kCond K σ d g (.rptr i k n j) = K (σ.put d (.cond g (.rptr i k n j))) := rfl
@[go_sem] theorem kCond_elem {g : Bool} {k i j : Nat} {dd : List T} {xs : List (List T)} : kCond K σ d g (.elem k dd xs i j) = K (σ.put d (.cond g (.elem k dd xs i j))) := rfl
@[go_sem] theorem kR_some {α : Type} {p : Prop} {v : α} {K : α → Prop} : kR (some (p, v)) K = (p ∧ K v) := rfl
end
attribute [go_sem] ostep gstep estep pstep pstep.bstep pstep.neqB isAggOp isAggOp.aggB eqC ecall callE callC callC.lenC lookR lenR lenR.lenB appendC appendR appendR.apA appendR.apB appendR.apC appendR.apD allocR boxR storeR storeR.storeB
  buildSliceR kAdd kHeap kState merges guardS slotOf guardV thenQ blockQ okR andR strip useR pickR unR litR binR loadR loadR.loadB loadR.loadW fieldAddrR fieldAddrR.isBox fieldAddrR.isRow fieldAddrR1 fieldAddrR1.fieldAddrR2
  fieldR indexR indexAddrR indexAddrR.ixA indexAddrR.ixB extractR usePartsR usePartsR.consP aggR buildR nilCheckR convR partsE
  useV useVs St.ev St.put St.add litV fitB Value.oneCell' binS intB shB strB loadP partV fillV zeroV
  callPV V.pures V.pure V.lends V.lend V.lends1 V.lend1 V.scal Heap.look Heap.set Heap.del V.cells V.isCell putCells tCells srcV chunk retQ resVs resV1 tupV pureK entry
attribute [go_sem] indexA indexA.ixS indexAddrA indexAddrA.iaS lookupR lookupR.lkA foundV commaV keyB kindB kindsB lookE putE slcR slcR.slcE slcR.slcO slcA slcC bndR bndR.bndX slcT slcS mmR callC.mmC evs evO mfR makeFuncR useVsR useVsR.uvC
  estepN ecallN callN callN.callM gstepN ostepN slcN slcG dynC cloV dferC dferO dferK msR msR.msA mapPutE mapPutR mapPutR.mpA give1B give1B.giveB giveL giveL.giveN lendS reach reachB reachL reachRs giveK lendK resO V.res V.ress lendC lendB lendCs lendRs lendO NopDs lenR.lenM
attribute [go_sem] Bool.false_eq_true List.length_cons List.length_nil List.replicate_succ List.replicate_zero List.cons_append List.nil_append List.append_nil List.set_cons_zero List.set_cons_succ List.getD_cons_zero List.getD_cons_succ List.getD_nil
  List.all_cons List.all_nil Bool.and_self Bool.and_true Bool.true_and true_and and_true and_self forall_const List.map_cons List.map_nil List.drop_succ_cons List.drop_zero List.take_succ_cons List.take_zero List.getElem?_cons_zero List.getElem?_cons_succ
  List.length_map List.take_nil List.drop_nil Option.map_some Option.map_none if_true if_false nth_map Bool.cond_true Bool.cond_false Nat.zero_add Int.toNat_natCast
end Go.Proofs.Ytnbmiejjkkgckaa
/- Proved here: One state of the abstract machine seen as another, for use in the proofs of the given statements; conditions stand in each theorem. -/
set_option linter.unusedSimpArgs false
set_option linter.unusedVariables false
namespace Go.Proofs.Ytnbmiejjkkgckaa
open Go.RowKit

abbrev Ren := List (Nat × Option Nat)
def Ren.look (ρ : Ren) (j : Nat) : Option (Option Nat) :=
  match ρ with
  | [] => none
  | (k, o) :: r => if j = k then some o else Ren.look r j

def wkL (v : Value) (b : T) : Prop :=
  match v, b with
  | .slice none 0 0, .list _ _ xs => xs = []
  | v, b => .lit v = b
def wkE (a b : T) : Prop :=
  match a with
  | .lit v => wkL v b
  | .list k d xs => .list k d xs = b
theorem wkE_ok {w : World} {S : Nat → Prop} {a b : T} {v : Value} (h : wkE a b) (hx : RdT w S a v) : RdT w S b v := by
  cases a with
  | lit u =>
    unfold wkE wkL at h
    dsimp only at h
    split at h
    · subst h
      cases hx
      exact .list _ _ [] none 0 (Nat.zero_le _) (Nat.le_refl _) (fun _ => rfl) (by simp) (by simp) (by simp)
    · subst h; exact hx
  | list k d xs =>
    have h : T.list k d xs = b := h
    subst h; exact hx
theorem wkE_refl (a : T) : wkE a a := by
  cases a with
  | lit v => unfold wkE wkL; dsimp only; split <;> first | rfl | (rename_i hh; cases hh)
  | list => rfl
@[go_sem high] theorem wkE_self (a : T) : wkE a a = True := eq_true (wkE_refl a)
def freeL (ρ : Ren) : List Nat → Prop
  | [] => True
  | i :: is => (∀ p ∈ ρ, p.2 ≠ some i) ∧ freeL ρ is
theorem freeL_mem {ρ : Ren} : ∀ {is : List Nat}, freeL ρ is → ∀ i ∈ is, ∀ p ∈ ρ, p.2 ≠ some i
  | [], _, i, hi => by cases hi
  | j :: is, h, i, hi => by
    rcases List.mem_cons.1 hi with rfl | hi
    · exact h.1
    · exact freeL_mem h.2 i hi
def wkO (ρ : Ren) (o : Option T) (is : List Nat) (b : T) : Prop :=
  match o with
  | some t => t = b ∧ freeL ρ is
  | none => False
def wkT (ρ : Ren) (h : Heap) (x : V) (b : T) : Prop :=
  match x with
  | .t a => wkE a b
  | .own i => wkO ρ (lendC h 6 (.own i)) (reach h 8 (.own i)) b
  | _ => False
def wkOwn (ρ : Ren) (x : V) (j : Nat) : Prop :=
  match x with
  | .own i => ρ.look j = some (some i)
  | .t (.lit (.slice none 0 0)) => ρ.look j = some none
  | _ => False
mutual
def wkV (ρ : Ren) (h : Heap) : V → V → Prop
  | x, .dead => True
  | x, .t b => wkT ρ h x b
  | x, .own j => wkOwn ρ x j
  | .ptr i o, .ptr j o' => ρ.look j = some (some i) ∧ o = o'
  | .rptr i k n q, .rptr j k' n' q' => ρ.look j = some (some i) ∧ k = k' ∧ n = n' ∧ q = q'
  | .elem k d xs i j, .elem k' d' xs' i' j' => k = k' ∧ d = d' ∧ xs = xs' ∧ i = i' ∧ j = j'
  | .cond g x, .cond g' y => g = g' ∧ wkV ρ h x y
  | .clo f xs, .clo g ys => f = g ∧ wkVs ρ h xs ys
  | .agg xs, .agg ys => wkVs ρ h xs ys
  | .tup xs, .tup ys => wkVs ρ h xs ys
  | _, _ => False
def wkVs (ρ : Ren) (h : Heap) : List V → List V → Prop
  | [], [] => True
  | x :: xs, y :: ys => wkV ρ h x y ∧ wkVs ρ h xs ys
  | _, _ => False
end
def wkRs (ρ : Ren) (o : Option (List (List T))) (is : List Nat) (xs : List (List V)) : Prop :=
  match o with
  | some ts => tRows ts = xs ∧ freeL ρ is
  | none => False
def isOwnV : V → Bool
  | .t _ => false
  | _ => true
/-- does one of the cells lead to memory of one's own? -/
def rowOwn : List (List V) → Bool
  | [] => false
  | x :: r => x.any isOwnV || rowOwn r
@[go_sem] theorem rowOwn_t : ∀ l : List (List T), rowOwn (tRows l) = false
  | [] => rfl
  | x :: r => by
    have h1 : ∀ l : List T, (l.map V.t).any isOwnV = false := fun l => by induction l with
      | nil => rfl
      | cons a l ih => simp [isOwnV]
    have := rowOwn_t r
    unfold tRows at this ⊢
    simp only [List.map_cons, rowOwn, h1, this, Bool.or_self]
def wkVss (ρ : Ren) (h : Heap) : List (List V) → List (List V) → Prop
  | [], [] => True
  | x :: xs, y :: ys => wkVs ρ h x y ∧ wkVss ρ h xs ys
  | _, _ => False
def wkRow (ρ : Ren) (h : Heap) (b : Bool) (xs xs' : List (List V)) : Prop :=
  match b with
  | true => wkVss ρ h xs xs'
  | false => wkRs ρ (lendRs (lendC h 6) xs) (reachRs (reach h 8) xs) xs'
theorem wkVs_len {ρ : Ren} {h : Heap} : ∀ {xs ys : List V}, wkVs ρ h xs ys → xs.length = ys.length
  | [], [], _ => rfl
  | x :: xs, y :: ys, hw => by
    simp only [wkVs] at hw
    simp only [List.length_cons, wkVs_len hw.2]
  | [], _ :: _, hw => by simp only [wkVs] at hw
  | _ :: _, [], hw => by simp only [wkVs] at hw
theorem wkVs_append {ρ : Ren} {h : Heap} : ∀ {xs ys xs' ys' : List V}, wkVs ρ h xs ys → wkVs ρ h xs' ys' → wkVs ρ h (xs ++ xs') (ys ++ ys')
  | [], [], _, _, _, h2 => h2
  | x :: xs, y :: ys, _, _, hw, h2 => by
    simp only [wkVs] at hw
    simp only [List.cons_append, wkVs]
    exact ⟨hw.1, wkVs_append hw.2 h2⟩
  | [], _ :: _, _, _, hw, _ => by simp only [wkVs] at hw
  | _ :: _, [], _, _, hw, _ => by simp only [wkVs] at hw
theorem wkVss_flat {ρ : Ren} {h : Heap} : ∀ {xs ys : List (List V)}, wkVss ρ h xs ys → wkVs ρ h xs.flatten ys.flatten ∧ xs.length = ys.length ∧ ∀ k, (∀ x ∈ xs, x.length = k) → ∀ y ∈ ys, y.length = k
  | [], [], _ => ⟨by simp only [List.flatten_nil, wkVs], rfl, by simp⟩
  | x :: xs, y :: ys, hw => by
    obtain ⟨q1, q2, q3⟩ := wkVss_flat hw.2
    refine ⟨by rw [List.flatten_cons, List.flatten_cons]; exact wkVs_append hw.1 q1, by simp only [List.length_cons, q2], fun k hk z hz => ?_⟩
    rcases List.mem_cons.1 hz with rfl | hz
    · rw [← wkVs_len hw.1]; exact hk x (by simp)
    · exact q3 k (fun u hu => hk u (by simp [hu])) z hz
  | [], _ :: _, hw => hw.elim
  | _ :: _, [], hw => hw.elim
def pureEs : List (Value × V) → Prop
  | [] => True
  | e :: es => e.2.pure = true ∧ pureEs es
def wkB (ρ : Ren) (h : Heap) : Option Blk → Blk → Prop
  | some (.box cs), .box cs' => cs'.all V.isCell = true ∧ wkVs ρ h cs cs'
  | some (.row e k d xs), .row e' k' d' xs' => e = e' ∧ k = k' ∧ wkRow ρ h (rowOwn xs') xs xs'
  | some (.map es), .map es' => es = es' ∧ pureEs es'
  | some (.shr t), .shr t' => t = t'
  | _, _ => False
def wkH (n0 : Nat) (ρ0 : Ren) (h : Heap) (nx : Nat) : Ren → Heap → Prop
  | [], [] => True
  | (j, some i) :: r, (j', blk) :: h' => j = j' ∧ j < nx ∧ (∀ p ∈ r, p.2 ≠ some i) ∧ (j = i ∨ n0 ≤ j) ∧ wkB ρ0 h (h.look i) blk ∧ wkH n0 ρ0 h nx r h'
  | (j, none) :: r, (j', .row e k d xs) :: h' => j = j' ∧ j < nx ∧ xs = [] ∧ n0 ≤ j ∧ wkH n0 ρ0 h nx r h'
  | _, _ => False
def wkOk (n0 : Nat) (ρ : Ren) (σ σ' : St) : Prop := n0 ≤ σ'.nx ∧ σ.df = σ'.df ∧ wkH n0 ρ σ.h σ'.nx ρ σ'.h ∧ wkVs ρ σ.h σ.fr σ'.fr

def Env.ren (E : Env) (h : Heap) (ρ : Ren) (nx : Nat) : Env where
  S := fun b => E.S b ∨ ∃ i hv e k d xs, E.B i = some hv ∧ h.look i = some (.row e k d xs) ∧ blockOf hv = some b ∧ ∀ j, ρ.look j ≠ some (some i)
  B := fun j => match ρ.look j with
    | some (some i) => E.B i
    | some none => some (.slice none 0 0)
    | none => none
  U := fun j => j < nx
  D := E.D
  F := fun j => match ρ.look j with
    | some (some i) => E.F i
    | _ => none
theorem ren_is {E : Env} {h : Heap} {ρ : Ren} {nx i j : Nat} {hv : Value} (hj : ρ.look j = some (some i)) (hb : (E.ren h ρ nx).Is j hv) : E.Is i hv := by
  simp only [Env.Is, Env.ren, hj] at hb ⊢
  exact hb

theorem wkH_spec {n0 : Nat} {ρ0 : Ren} {h : Heap} {nx : Nat} : ∀ {r : Ren} {h' : Heap}, wkH n0 ρ0 h nx r h' → (∀ j o, r.look j = some o → j < nx ∧ (o = some j ∨ n0 ≤ j)) ∧ (∀ j, (∃ o, r.look j = some o) ↔ ∃ b, h'.look j = some b) ∧
    (∀ j i blk, r.look j = some (some i) → h'.look j = some blk → wkB ρ0 h (h.look i) blk) ∧ (∀ j blk, r.look j = some none → h'.look j = some blk → ∃ e k d, blk = .row e k d []) ∧
    (∀ j j' i, r.look j = some (some i) → r.look j' = some (some i) → j = j') ∧ (∀ j i, r.look j = some (some i) → ∃ p ∈ r, p.2 = some i)
  | [], [], _ => ⟨by simp [Ren.look], by simp [Ren.look, Heap.look], by simp [Ren.look], by simp [Ren.look], by simp [Ren.look], by simp [Ren.look]⟩
  | (j0, some i0) :: r, (j1, blk0) :: h', hh => by
    simp only [wkH] at hh
    obtain ⟨rfl, hlt, hne, hn0, hb, hrest⟩ := hh
    obtain ⟨a1, a2, a3, a4, a5, a6⟩ := wkH_spec hrest
    refine ⟨fun j o hj => ?_, fun j => ?_, fun j i blk hj hl => ?_, fun j blk hj hl => ?_, fun j j' i hj hj' => ?_, fun j i hj => ?_⟩
    · simp only [Ren.look] at hj
      split at hj
      · rename_i h; injection hj with hj; subst hj; rw [h]; exact ⟨hlt, by first | exact .inr hn0 | exact hn0.imp (fun e => by rw [e]) id⟩
      · exact a1 j o hj
    · simp only [Ren.look, Heap.look]
      by_cases h : j = j0
      · simp [h]
      · simp only [h, if_false]; exact a2 j
    · simp only [Ren.look, Heap.look] at hj hl
      by_cases h : j = j0
      · simp only [h, if_true, Option.some.injEq] at hj hl
        subst hj hl; exact hb
      · simp only [h, if_false] at hj hl; exact a3 j i blk hj hl
    · simp only [Ren.look, Heap.look] at hj hl
      by_cases h : j = j0
      · simp [h] at hj
      · simp only [h, if_false] at hj hl; exact a4 j blk hj hl
    · simp only [Ren.look] at hj hj'
      by_cases h : j = j0 <;> by_cases h' : j' = j0
      · rw [h, h']
      · simp only [h, h', if_true, if_false, Option.some.injEq] at hj hj'
        subst hj
        obtain ⟨p, hp, he⟩ := a6 j' _ hj'
        exact (hne p hp he).elim
      · simp only [h, h', if_true, if_false, Option.some.injEq] at hj hj'
        subst hj'
        obtain ⟨p, hp, he⟩ := a6 j _ hj
        exact (hne p hp he).elim
      · simp only [h, h', if_false] at hj hj'; exact a5 j j' i hj hj'
    · simp only [Ren.look] at hj
      split at hj
      · injection hj with hj; exact ⟨_, List.mem_cons_self, hj⟩
      · obtain ⟨p, hp, he⟩ := a6 j i hj; exact ⟨p, List.mem_cons_of_mem _ hp, he⟩
  | (j0, none) :: r, (j1, .row e k d xs) :: h', hh => by
    simp only [wkH] at hh
    obtain ⟨rfl, hlt, rfl, hn0, hrest⟩ := hh
    obtain ⟨a1, a2, a3, a4, a5, a6⟩ := wkH_spec hrest
    refine ⟨fun j o hj => ?_, fun j => ?_, fun j i blk hj hl => ?_, fun j blk hj hl => ?_, fun j j' i hj hj' => ?_, fun j i hj => ?_⟩
    · simp only [Ren.look] at hj
      split at hj
      · rename_i h; injection hj with hj; subst hj; rw [h]; exact ⟨hlt, by first | exact .inr hn0 | exact hn0.imp (fun e => by rw [e]) id⟩
      · exact a1 j o hj
    · simp only [Ren.look, Heap.look]
      by_cases h : j = j0
      · simp [h]
      · simp only [h, if_false]; exact a2 j
    · simp only [Ren.look, Heap.look] at hj hl
      by_cases h : j = j0
      · simp [h] at hj
      · simp only [h, if_false] at hj hl; exact a3 j i blk hj hl
    · simp only [Ren.look, Heap.look] at hj hl
      by_cases h : j = j0
      · simp only [h, if_true, Option.some.injEq] at hl; exact ⟨e, k, d, hl.symm⟩
      · simp only [h, if_false] at hj hl; exact a4 j blk hj hl
    · simp only [Ren.look] at hj hj'
      by_cases h : j = j0 <;> by_cases h' : j' = j0
      · rw [h, h']
      · simp [h] at hj
      · simp [h'] at hj'
      · simp only [h, h', if_false] at hj hj'; exact a5 j j' i hj hj'
    · simp only [Ren.look] at hj
      split at hj
      · cases hj
      · obtain ⟨p, hp, he⟩ := a6 j i hj; exact ⟨p, List.mem_cons_of_mem _ hp, he⟩
  | [], _ :: _, hh => by simp only [wkH] at hh
  | (_, some _) :: _, [], hh => by simp only [wkH] at hh
  | (_, none) :: _, [], hh => by simp only [wkH] at hh
  | (_, none) :: _, (_, .box _) :: _, hh => by simp only [wkH] at hh
  | (_, none) :: _, (_, .map _) :: _, hh => by simp only [wkH] at hh
  | (_, none) :: _, (_, .shr _) :: _, hh => by simp only [wkH] at hh

section
variable {w : World} {E : Env} {h : Heap} {ρ : Ren} {nx : Nat}
theorem ren_S (b : Nat) (hb : E.S b) : (E.ren h ρ nx).S b := .inl hb
theorem ren_look_mem : ∀ {ρ : Ren} {j i : Nat}, ρ.look j = some (some i) → ∃ p ∈ ρ, p.2 = some i
  | [], j, i, h => by simp [Ren.look] at h
  | (k, o) :: r, j, i, h => by
    simp only [Ren.look] at h
    split at h
    · injection h with h; exact ⟨_, List.mem_cons_self, h⟩
    · obtain ⟨p, hp, he⟩ := ren_look_mem h; exact ⟨p, List.mem_cons_of_mem _ hp, he⟩
theorem lendCs_rdM {w : World} {E : Env} {S' : Nat → Prop} {f : V → Option T} : ∀ {xs : List V} {ts : List T} {vs : List Value}, (∀ x ∈ xs, ∀ t v, f x = some t → RdV w E x v → RdT w S' t v) → lendCs f xs = some ts → RdVs w E xs vs → RdTs w S' ts vs
  | [], ts, [], _, h, _ => by simp [lendCs] at h; subst h; trivial
  | x :: xs, ts, v :: vs, hf, h, hr => by
    simp only [lendCs] at h
    simp only [RdVs] at hr
    split at h
    · rename_i t ts' h1 h2
      injection h with h; subst h
      exact ⟨hf x (by simp) t v h1 hr.1, lendCs_rdM (fun y hy => hf y (by simp [hy])) h2 hr.2⟩
    · cases h
  | [], _, _ :: _, _, _, h => by simp only [RdVs] at h
  | _ :: _, _, [], _, _, h => by simp only [RdVs] at h
theorem mem_reachL {f : V → List Nat} {j : Nat} : ∀ {r : List V} {x : V}, x ∈ r → j ∈ f x → j ∈ reachL f r
  | y :: r, x, hx, hj => by
    simp only [reachL, List.mem_append]
    rcases List.mem_cons.1 hx with rfl | hx
    · exact .inl hj
    · exact .inr (mem_reachL hx hj)
theorem mem_reachRs {f : V → List Nat} {j : Nat} : ∀ {xs : List (List V)} {x : V}, x ∈ xs.flatten → j ∈ f x → j ∈ reachRs f xs
  | r :: xs, x, hx, hj => by
    simp only [reachRs, List.mem_append]
    rw [List.flatten_cons] at hx
    rcases List.mem_append.1 hx with hx | hx
    · exact .inl (mem_reachL hx hj)
    · exact .inr (mem_reachRs hx hj)
/-- what is lent, and which blocks it leads to -/
theorem lendC_rdR {w : World} {E : Env} {h : Heap} {S' : Nat → Prop} (hr : Rel w E h) (hS : ∀ b, E.S b → S' b) :
    ∀ (n m : Nat) (x : V) (t : T) (v : Value), n ≤ m → lendC h n x = some t → RdV w E x v → (∀ i ∈ reach h m x, ∀ hv e k d xs, E.B i = some hv → h.look i = some (.row e k d xs) → ∀ b, blockOf hv = some b → S' b) → RdT w S' t v
  | n, m, .t x, t, v, _, h1, hx, _ => by
    rw [lendC_t] at h1; injection h1 with h1; subst h1
    simp only [RdV] at hx
    exact hx.mono hS fun _ _ => rfl
  | n + 1, m + 1, .own i, t, v, hnm, h1, hx, hO => by
    simp only [lendC] at h1
    unfold lendB at h1
    split at h1
    · rename_i e k d xs hl
      split at h1
      · rename_i ts hts
        injection h1 with h1; subst h1
        obtain ⟨hv, hB, cells, h2, h3, h4, h5⟩ := hr.has i _ hl
        simp only [RdV] at hx
        have := hx.2.2 hv (.inl hB)
        subst this
        rw [← lendRs_len hts] at h2
        simp only [reach, reachB, hl] at hO
        refine rdT_row (S := S') h2 ?_ (lendRs_all hts h4) (fun _ h => h) (hO i (by simp) _ e k d xs hB hl)
        exact lendCs_rdM (fun y hy t v h1 h2 => lendC_rdR hr hS n m y t v (by omega) h1 h2 fun j hj => hO j (List.mem_append_left _ (mem_reachRs hy hj))) (lendRs_flat hts) h3
      · cases h1
    · rename_i t' hl
      injection h1 with h1; subst h1
      obtain ⟨hv, hF, hT⟩ := hr.has i _ hl
      simp only [RdV] at hx
      have := hx.2.2 hv (.inr hF)
      subst this
      exact RdT.mono hS (fun _ _ => rfl) hT
    · cases h1
  | n + 1, 0, .own i, t, v, hnm, h1, hx, _ => by omega
  | 0, m, .own i, t, v, _, h1, hx, _ => by simp [lendC] at h1
  | n, m, .agg _, t, v, _, h1, hx, _ => by cases n <;> simp [lendC] at h1
  | n, m, .tup _, t, v, _, h1, hx, _ => by cases n <;> simp [lendC] at h1
  | n, m, .ptr _ _, t, v, _, h1, hx, _ => by cases n <;> simp [lendC] at h1
  | n, m, .rptr _ _ _ _, t, v, _, h1, hx, _ => by cases n <;> simp [lendC] at h1
  | n, m, .elem _ _ _ _ _, t, v, _, h1, hx, _ => by cases n <;> simp [lendC] at h1
  | n, m, .cond _ _, t, v, _, h1, hx, _ => by cases n <;> simp [lendC] at h1
  | n, m, .clo _ _, t, v, _, h1, hx, _ => by cases n <;> simp [lendC] at h1
  | n, m, .dead, t, v, _, h1, hx, _ => by cases n <;> simp [lendC] at h1
theorem ren_free {is : List Nat} (hf : freeL ρ is) : ∀ i ∈ is, ∀ hv e k d xs, E.B i = some hv → h.look i = some (.row e k d xs) → ∀ b, blockOf hv = some b → (E.ren h ρ nx).S b :=
  fun i hi hv e k d xs hB hl b hb => .inr ⟨i, hv, e, k, d, xs, hB, hl, hb, fun j hj => by
    obtain ⟨p, hp, he⟩ := ren_look_mem hj
    exact freeL_mem hf i hi p hp he⟩
theorem wkT_ok (hr : Rel w E h) {x : V} {v : Value} {b : T} (hx : RdV w E x v) (hw : wkT ρ h x b) : RdT w (E.ren h ρ nx).S b v := by
  unfold wkT at hw
  split at hw
  · simp only [RdV] at hx
    exact (wkE_ok hw hx).mono (fun b hb => .inl hb) fun _ _ => rfl
  · rename_i i
    unfold wkO at hw
    split at hw
    · rename_i t ht
      obtain ⟨rfl, hno⟩ := hw
      exact lendC_rdR hr (fun b hb => .inl hb) 6 8 (.own i) _ v (by omega) ht hx (ren_free hno)
    · exact hw.elim
  · exact hw.elim
mutual
theorem wkV_ok (hr : Rel w E h) (hnx : ∀ j o, ρ.look j = some o → j < nx) : ∀ (x y : V) {v : Value}, RdV w E x v → wkV ρ h x y → RdV w (E.ren h ρ nx) y v
  | x, .dead, v, hx, hw => by simp only [RdV]
  | x, .t b, v, hx, hw => by
    have hw' : wkT ρ h x b := by cases x <;> simpa only [wkV] using hw
    simp only [RdV]
    exact wkT_ok hr hx hw'
  | x, .own j, v, hx, hw => by
    have hw' : wkOwn ρ x j := by cases x <;> simpa only [wkV] using hw
    unfold wkOwn at hw'
    split at hw'
    · rename_i i
      simp only [RdV] at hx ⊢
      exact ⟨hx.1, hnx _ _ hw', fun hv hB => hx.2.2 hv (ren_is hw' hB)⟩
    · have hv := (rdV_lit_inv hx).1
      subst hv
      simp only [RdV]
      refine ⟨rfl, hnx _ _ hw', fun hv hB => ?_⟩
      simp only [Env.Is, Env.ren, hw', Option.some.injEq, reduceCtorEq, or_false] at hB
      exact hB
    · exact hw'.elim
  | .ptr i o, .ptr j o', v, hx, hw => by
    simp only [wkV] at hw
    obtain ⟨hw', rfl⟩ := hw
    simp only [RdV] at hx ⊢
    exact ⟨hx.1, hnx _ _ hw', fun hv hB => hx.2.2 hv (ren_is hw' hB)⟩
  | .rptr i k n q, .rptr j k' n' q', v, hx, hw => by
    simp only [wkV] at hw
    obtain ⟨hw', rfl, rfl, rfl⟩ := hw
    simp only [RdV] at hx ⊢
    exact ⟨hx.1, hnx _ _ hw', fun hv hB => hx.2.2 hv (ren_is hw' hB)⟩
  | .elem k d xs i j, .elem k' d' xs' i' j', v, hx, hw => by
    simp only [wkV] at hw
    obtain ⟨rfl, rfl, rfl, rfl, rfl⟩ := hw
    simp only [RdV] at hx ⊢
    obtain ⟨b, off, c, h1, h2⟩ := hx
    exact ⟨b, off, c, h1.mono (fun b hb => .inl hb) fun _ _ => rfl, h2⟩
  | .cond g x, .cond g' y, v, hx, hw => by
    simp only [wkV] at hw
    obtain ⟨rfl, hw'⟩ := hw
    simp only [RdV] at hx ⊢
    exact ⟨fun hg => wkV_ok hr hnx x y (hx.1 hg) hw', hx.2⟩
  | .agg xs, .agg ys, v, hx, hw => by
    simp only [wkV] at hw
    simp only [RdV] at hx ⊢
    obtain ⟨vs, hv, h1, h2⟩ := hx
    exact ⟨vs, hv, wkVs_ok hr hnx xs ys h1 hw, h2⟩
  | .tup xs, .tup ys, v, hx, hw => by
    simp only [wkV] at hw
    simp only [RdV] at hx ⊢
    obtain ⟨vs, hv, h1⟩ := hx
    exact ⟨vs, hv, wkVs_ok hr hnx xs ys h1 hw⟩
  | .clo f xs, .clo g ys, v, hx, hw => by
    simp only [wkV] at hw
    obtain ⟨rfl, hw⟩ := hw
    simp only [RdV] at hx ⊢
    obtain ⟨vs, hv, h1⟩ := hx
    exact ⟨vs, hv, wkVs_ok hr hnx xs ys h1 hw⟩
  | .t _, .clo _ _, _, _, hw => by simp only [wkV] at hw
  | .agg _, .clo _ _, _, _, hw => by simp only [wkV] at hw
  | .tup _, .clo _ _, _, _, hw => by simp only [wkV] at hw
  | .own _, .clo _ _, _, _, hw => by simp only [wkV] at hw
  | .ptr .., .clo _ _, _, _, hw => by simp only [wkV] at hw
  | .rptr .., .clo _ _, _, _, hw => by simp only [wkV] at hw
  | .elem .., .clo _ _, _, _, hw => by simp only [wkV] at hw
  | .cond _ _, .clo _ _, _, _, hw => by simp only [wkV] at hw
  | .dead, .clo _ _, _, _, hw => by simp only [wkV] at hw
  | .clo _ _, .agg _, _, _, hw => by simp only [wkV] at hw
  | .clo _ _, .tup _, _, _, hw => by simp only [wkV] at hw
  | .clo _ _, .ptr .., _, _, hw => by simp only [wkV] at hw
  | .clo _ _, .rptr .., _, _, hw => by simp only [wkV] at hw
  | .clo _ _, .elem .., _, _, hw => by simp only [wkV] at hw
  | .clo _ _, .cond _ _, _, _, hw => by simp only [wkV] at hw
  | .t _, .agg _, _, _, hw => by simp only [wkV] at hw
  | .t _, .tup _, _, _, hw => by simp only [wkV] at hw
  | .t _, .ptr _ _, _, _, hw => by simp only [wkV] at hw
  | .t _, .rptr .., _, _, hw => by simp only [wkV] at hw
  | .t _, .elem .., _, _, hw => by simp only [wkV] at hw
  | .t _, .cond _ _, _, _, hw => by simp only [wkV] at hw
  | .agg _, .tup _, _, _, hw => by simp only [wkV] at hw
  | .agg _, .ptr _ _, _, _, hw => by simp only [wkV] at hw
  | .agg _, .rptr .., _, _, hw => by simp only [wkV] at hw
  | .agg _, .elem .., _, _, hw => by simp only [wkV] at hw
  | .agg _, .cond _ _, _, _, hw => by simp only [wkV] at hw
  | .tup _, .agg _, _, _, hw => by simp only [wkV] at hw
  | .tup _, .ptr _ _, _, _, hw => by simp only [wkV] at hw
  | .tup _, .rptr .., _, _, hw => by simp only [wkV] at hw
  | .tup _, .elem .., _, _, hw => by simp only [wkV] at hw
  | .tup _, .cond _ _, _, _, hw => by simp only [wkV] at hw
  | .own _, .agg _, _, _, hw => by simp only [wkV] at hw
  | .own _, .tup _, _, _, hw => by simp only [wkV] at hw
  | .own _, .ptr _ _, _, _, hw => by simp only [wkV] at hw
  | .own _, .rptr .., _, _, hw => by simp only [wkV] at hw
  | .own _, .elem .., _, _, hw => by simp only [wkV] at hw
  | .own _, .cond _ _, _, _, hw => by simp only [wkV] at hw
  | .ptr .., .agg _, _, _, hw => by simp only [wkV] at hw
  | .ptr .., .tup _, _, _, hw => by simp only [wkV] at hw
  | .ptr .., .rptr .., _, _, hw => by simp only [wkV] at hw
  | .ptr .., .elem .., _, _, hw => by simp only [wkV] at hw
  | .ptr .., .cond _ _, _, _, hw => by simp only [wkV] at hw
  | .rptr .., .agg _, _, _, hw => by simp only [wkV] at hw
  | .rptr .., .tup _, _, _, hw => by simp only [wkV] at hw
  | .rptr .., .ptr .., _, _, hw => by simp only [wkV] at hw
  | .rptr .., .elem .., _, _, hw => by simp only [wkV] at hw
  | .rptr .., .cond _ _, _, _, hw => by simp only [wkV] at hw
  | .elem .., .agg _, _, _, hw => by simp only [wkV] at hw
  | .elem .., .tup _, _, _, hw => by simp only [wkV] at hw
  | .elem .., .ptr .., _, _, hw => by simp only [wkV] at hw
  | .elem .., .rptr .., _, _, hw => by simp only [wkV] at hw
  | .elem .., .cond _ _, _, _, hw => by simp only [wkV] at hw
  | .cond _ _, .agg _, _, _, hw => by simp only [wkV] at hw
  | .cond _ _, .tup _, _, _, hw => by simp only [wkV] at hw
  | .cond _ _, .ptr .., _, _, hw => by simp only [wkV] at hw
  | .cond _ _, .rptr .., _, _, hw => by simp only [wkV] at hw
  | .cond _ _, .elem .., _, _, hw => by simp only [wkV] at hw
  | .dead, .agg _, _, _, hw => by simp only [wkV] at hw
  | .dead, .tup _, _, _, hw => by simp only [wkV] at hw
  | .dead, .ptr .., _, _, hw => by simp only [wkV] at hw
  | .dead, .rptr .., _, _, hw => by simp only [wkV] at hw
  | .dead, .elem .., _, _, hw => by simp only [wkV] at hw
  | .dead, .cond _ _, _, _, hw => by simp only [wkV] at hw
theorem wkVs_ok (hr : Rel w E h) (hnx : ∀ j o, ρ.look j = some o → j < nx) : ∀ (xs ys : List V) {vs : List Value}, RdVs w E xs vs → wkVs ρ h xs ys → RdVs w (E.ren h ρ nx) ys vs
  | [], [], [], _, _ => by simp only [RdVs]
  | x :: xs, y :: ys, v :: vs, hx, hw => by
    simp only [wkVs] at hw
    simp only [RdVs] at hx ⊢
    exact ⟨wkV_ok hr hnx x y hx.1 hw.1, wkVs_ok hr hnx xs ys hx.2 hw.2⟩
  | [], [], _ :: _, hx, _ => by simp only [RdVs] at hx
  | _ :: _, _ :: _, [], hx, _ => by simp only [RdVs] at hx
  | [], _ :: _, _, _, hw => by simp only [wkVs] at hw
  | _ :: _, [], _, _, hw => by simp only [wkVs] at hw
end

theorem freeL_of {ρ : Ren} : ∀ {is : List Nat}, (∀ i ∈ is, ∀ p ∈ ρ, p.2 ≠ some i) → freeL ρ is
  | [], _ => trivial
  | i :: is, h => ⟨h i (by simp), freeL_of fun j hj => h j (by simp [hj])⟩
theorem freeL_sub {ρ : Ren} {is js : List Nat} (h : freeL ρ is) (hs : ∀ q ∈ js, q ∈ is) : freeL ρ js := freeL_of fun i hi => freeL_mem h i (hs i hi)
theorem rdV_pure {x : V} {v : Value} (hp : x.pure = true) (hx : RdV w E x v) : RdV w (E.ren h ρ nx) x v := by
  have h1 := RdV.bare x hp hx
  have h2 : RdV w (bareE (E.ren h ρ nx).S) x v := by
    have hE : Ext (bareE E.S) w (bareE (E.ren h ρ nx).S) w := ⟨rfl, rfl, rfl, Nat.le_refl _, fun _ _ => rfl, fun b hb => .inl hb, fun _ _ => .inr id, fun _ => .rfl, fun _ h => h, fun _ h => h.elim, fun _ h => h.elim⟩
    exact hE.rdV _ h1
  exact RdV.unbare x h2
theorem rdEs_pure : ∀ {es : List (Value × V)} {l : List MapEntry}, pureEs es → RdEs w E es l → RdEs w (E.ren h ρ nx) es l
  | [], [], _, _ => trivial
  | (k, x) :: es, m :: l, hp, hx => ⟨hx.1, rdV_pure hp.1 hx.2.1, rdEs_pure hp.2 hx.2.2⟩
  | [], _ :: _, _, hx => hx.elim
  | _ :: _, [], _, hx => hx.elim
theorem weak_of {n0 : Nat} (ρ : Ren) {σ σ' : St} (hok : wkOk n0 ρ σ σ') : Weak n0 σ σ' := by
  intro E a w hr E0 w0 hU hE
  obtain ⟨hn0, hdf, hH, hF⟩ := hok
  obtain ⟨a1, a2, a3, a4, a5, a6⟩ := wkH_spec hH
  have hnx : ∀ j o, ρ.look j = some o → j < σ'.nx := fun j o h => (a1 j o h).1
  let E' := E.ren σ.h ρ σ'.nx
  have hE' : Ext E0 w0 E' w := by
    refine ⟨hE.os, hE.tape, hE.output, hE.size, hE.keep, fun b hb => .inl (hE.S b hb), fun b hb => ?_, hE.D, fun i hi => Nat.lt_of_lt_of_le (hU i hi) hn0, fun i hi hv hB => ?_, fun i hi hv hB => ?_⟩
    rcases hb with hb | ⟨i, hv, e, k, d, xs, hB, hl, hbk, _⟩
    · exact hE.S' b hb
    · exact .inr fun hd => (hr.rel.own i hv b hB hbk).2.2 ((hE.D b).2 hd)
    · simp only [E', Env.ren] at hB
      split at hB
      · rename_i i' ho
        rcases (a1 i _ ho).2 with h | h
        · injection h with h; subst h; exact hE.B _ hi hv hB
        · have := hU i hi; omega
      · rename_i ho
        rcases (a1 i _ ho).2 with h | h
        · cases h
        · have := hU i hi; omega
      · cases hB
    · cases ho : ρ.look i with
      | none => simp [E', Env.Is, Env.ren, ho] at hB
      | some o =>
        rcases (a1 i _ ho).2 with h | h
        · subst h; exact hE.W _ hi hv (ren_is ho hB)
        · have := hU i hi; omega
  have hTs : ∀ {xs : List T} {vs : List Value}, RdTs w E.S xs vs → RdTs w E'.S xs vs := fun {xs vs} h => by
    induction xs generalizing vs with
    | nil => cases vs <;> first | exact trivial | exact h.elim
    | cons x xs ih =>
      cases vs with
      | nil => exact h.elim
      | cons v vs => exact ⟨h.1.mono (fun b hb => .inl hb) fun _ _ => rfl, ih h.2⟩
  refine ⟨E', ⟨⟨fun j blk hl => ?_, fun j hv hB => ?_, fun j hv hFj => ?_, fun j hv b hB hbk => ?_, fun j j' hv hv' b hB hB' hbk hbk' => ?_, fun b hb => ?_, hr.rel.dlt⟩, fun i hi => hi, wkVs_ok hr.rel hnx _ _ hr.fr hF, by rw [← hdf]; exact hr.defers⟩, hE'⟩
  · obtain ⟨o, ho⟩ := (a2 j).2 ⟨blk, hl⟩
    cases o with
    | none =>
      obtain ⟨e, k, d, rfl⟩ := a4 j blk ho hl
      refine ⟨.slice none 0 0, by simp [E', Env.ren, Env.at, ho], [], World.ownsRow_nil w 0 e k, by simp only [List.flatten_nil, RdVs], by simp, rfl⟩
    | some i =>
      have hb := a3 j i blk ho hl
      cases hli : σ.h.look i with
      | none => rw [hli] at hb; simp only [wkB] at hb
      | some old =>
        rw [hli] at hb
        obtain ⟨hv, hB, hrel⟩ := hr.rel.has i old hli
        have hat : E'.at blk j = some hv := by
          cases old <;> cases blk <;> first | (simp only [wkB] at hb; done) | (simp only [wkB] at hb; simpa [E', Env.ren, Env.at, ho] using hB) | exact hb.elim
        refine ⟨hv, hat, ?_⟩
        cases old with
        | box cs =>
          cases blk with
          | box cs' =>
            simp only [wkB] at hb
            obtain ⟨b, vs, ty, rfl, hh, hvs, h1⟩ := hrel
            exact ⟨b, vs, ty, rfl, hh, wkVs_ok hr.rel hnx _ _ hvs hb.2, h1⟩
          | _ => simp only [wkB] at hb
        | row e k d xs =>
          cases blk with
          | row e' k' d' xs' =>
            simp only [wkB] at hb
            obtain ⟨rfl, rfl, hb⟩ := hb
            unfold wkRow at hb
            split at hb
            · obtain ⟨cells, h5, h6, h7, h8⟩ := hrel
              obtain ⟨q1, q2, q3⟩ := wkVss_flat hb
              exact ⟨cells, by rw [← q2]; exact h5, wkVs_ok hr.rel hnx _ _ h6 q1, q3 k h7, h8⟩
            unfold wkRs at hb
            split at hb
            · rename_i ts hts
              obtain ⟨rfl, hfree⟩ := hb
              obtain ⟨cells, h5, h6, h7, h8⟩ := hrel
              have hT : RdTs w E'.S ts.flatten cells := lendCs_rdM (fun y hy t v q1 q2 => lendC_rdR hr.rel (fun b hb => .inl hb) 6 8 y t v (by omega) q1 q2 (ren_free (freeL_sub hfree (fun q hq => mem_reachRs hy hq)))) (lendRs_flat hts) h6
              exact ⟨cells, by rw [tRows_len, lendRs_len hts]; exact h5, by rw [tRows_flat]; exact RdVs.ofT hT, tRows_all (lendRs_all hts h7), h8⟩
            · exact hb.elim
          | _ => simp only [wkB] at hb
        | map es =>
          cases blk with
          | map es' =>
            simp only [wkB] at hb
            obtain ⟨rfl, hp⟩ := hb
            obtain ⟨r, entries, clock, rfl, h5, h6, h7⟩ := hrel
            refine ⟨r, entries, clock, rfl, h5, ?_, h7⟩
            exact rdEs_pure hp h6
          | _ => simp only [wkB] at hb
        | shr t =>
          cases blk with
          | shr t' =>
            simp only [wkB] at hb
            subst hb
            exact RdT.mono (fun b hb => .inl hb) (fun _ _ => rfl) hrel
          | _ => simp only [wkB] at hb
  · simp only [E', Env.ren] at hB
    split at hB
    · rename_i i ho
      exact ⟨hnx _ _ ho, (a2 j).1 ⟨_, ho⟩⟩
    · rename_i ho
      exact ⟨hnx _ _ ho, (a2 j).1 ⟨_, ho⟩⟩
    · cases hB
  · simp only [E', Env.ren] at hFj ⊢
    split at hFj
    · rename_i i ho
      refine ⟨hnx _ _ ho, ?_⟩
      rw [ho]
      exact (hr.rel.domF i hv hFj).2
    · cases hFj
  · simp only [E', Env.ren] at hB
    split at hB
    · rename_i i ho
      obtain ⟨q1, q2, q3⟩ := hr.rel.own i hv b hB hbk
      refine ⟨q1, fun hs => ?_, q3⟩
      rcases hs with hs | ⟨i', hv', e, k, d, xs, hB', hl', hbk', hno⟩
      · exact q2 hs
      · have := hr.rel.apart i' i hv' hv b hB' hB hbk' hbk
        subst this
        exact hno j ho
    · injection hB with hB; subst hB; simp [blockOf] at hbk
    · cases hB
  · simp only [E', Env.ren] at hB hB'
    split at hB
    · rename_i i ho
      split at hB'
      · rename_i i' ho'
        have := hr.rel.apart i i' hv hv' b hB hB' hbk hbk'
        subst this
        exact a5 j j' i ho ho'
      · injection hB' with hB'; subst hB'; simp [blockOf] at hbk'
      · cases hB'
    · injection hB with hB; subst hB; simp [blockOf] at hbk
    · cases hB
  · rcases hb with hb | ⟨i, hv, e, k, d, xs, hB, hl, hbk, _⟩
    · exact hr.rel.slt b hb
    · exact (hr.rel.own i hv b hB hbk).1
end
end Go.Proofs.Ytnbmiejjkkgckaa
namespace Go.Proofs.Ytnbmiejjkkgckaa
open Go.RowKit
theorem awp_loop_f {P : Program} {n0 : Nat} {c : Code} {Q : Exit → St → Prop} {σ : St} {α : Type} (F : α → St → St) (J : α → Prop) (μ : α → Nat) (x : α) (h0 : Weak n0 σ (F x σ)) (hJ : J x)
    (round : ∀ x, J x → AWP P n0 c (thenQ (fun σ' => ∃ y, Weak n0 σ' (F y σ) ∧ J y ∧ μ y < μ x) Q) (F x σ)) : AWP P n0 (.loop c) Q σ := awp_loop (fun x => F x σ) J μ x h0 hJ round
theorem wrap_of {k : Nat} {n : Nat} (h : k < n) (hn : n ≤ maxLen) : IntKind.i64.wrap (↑k + 1) = ((k + 1 : Nat) : Int) := by
  simp only [maxLen] at hn
  rw [IntWalk.i64_in _ (by omega)]; omega
def setS (i : Nat) (x : V) (σ : St) : St := { σ with fr := σ.fr.set i x }
attribute [go_sem] List.any_cons List.any_nil
attribute [go_sem] setS wkOk wkH wkB wkVs wkV wkT wkOwn Ren.look wkO freeL wkRs pureEs wkRow wkVss rowOwn isOwnV
theorem map_t_inj {a b : List T} (h : a.map V.t = b.map V.t) : a = b := by
  induction a generalizing b with
  | nil => cases b <;> first | rfl | cases h
  | cons x a ih =>
    cases b with
    | nil => cases h
    | cons y b =>
      simp only [List.map_cons, List.cons.injEq, V.t.injEq] at h
      rw [h.1, ih h.2]
@[go_sem] theorem tRows_inj {a b : List (List T)} : (tRows a = tRows b) = (a = b) := by
  refine propext ⟨fun h => ?_, fun h => by rw [h]⟩
  unfold tRows at h
  induction a generalizing b with
  | nil => cases b <;> first | rfl | cases h
  | cons x a ih =>
    cases b with
    | nil => cases h
    | cons y b =>
      simp only [List.map_cons, List.cons.injEq] at h
      rw [map_t_inj h.1, ih h.2]
@[go_sem] theorem wkE_lit {v : Value} {b : T} : wkE (.lit v) b = wkL v b := rfl
@[go_sem] theorem wkE_list {k : Nat} {d : List T} {xs : List (List T)} {b : T} : wkE (.list k d xs) b = (.list k d xs = b) := rfl
attribute [go_sem] wkL
end Go.Proofs.Ytnbmiejjkkgckaa
