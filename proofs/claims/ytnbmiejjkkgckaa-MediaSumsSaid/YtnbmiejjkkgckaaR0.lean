/- Proved here: Contracts of the two functions Run, for use in the proofs of the given statements; conditions stand in each theorem. -/
import Derived.Test.YtnbmiejjkkgckaaS2
import Derived.Test.YtnbmiejjkkgckaaReg2
namespace Go.Proofs.Ytnbmiejjkkgckaa
open Go.RowKit

def runStep (acc : StateR × List OutR × List Int) (e : EventR) : StateR × List OutR × List Int :=
  if (stepS acc.1 e).2.2 = 0 then ((stepS acc.1 e).1, acc.2.1 ++ (stepS acc.1 e).2.1, acc.2.2 ++ [0]) else (acc.1, acc.2.1, acc.2.2 ++ [(stepS acc.1 e).2.2])
def runFrom (s : StateR) (l : List EventR) : StateR × List OutR × List Int := l.foldl runStep (s, [], [])
def runS (s : StateR) (l : List EventR) : StateR × List OutR × List Int :=
  if validSt s.files s.links then runFrom s l else (⟨[], []⟩, [], List.replicate l.length 1)
theorem runFrom_snoc {s : StateR} {l : List EventR} {k : Nat} (h : k < l.length) : runFrom s (l.take (k + 1)) = runStep (runFrom s (l.take k)) l[k] := by
  unfold runFrom
  rw [List.take_succ_eq_append_getElem h, List.foldl_append]; rfl
def EventR.fits (e : EventR) : Prop := e.media.size ≤ maxLen ∧ e.file.size ≤ maxLen ∧ e.proxy.size ≤ maxLen
structure Fit (s : StateR) : Prop where
  nf : s.files.length ≤ 32
  nl : s.links.length ≤ 16
  ff : ∀ f ∈ s.files, f.fits
  fl : ∀ l ∈ s.links, l.fits
theorem empty_fits : (⟨#[]⟩ : ByteArray).size ≤ maxLen := Nat.zero_le _
theorem getD_fits {fs : List FileR} (h : ∀ f ∈ fs, f.fits) (i : Nat) : (fs.getD i default).fits := by
  rw [List.getD_eq_getElem?_getD]
  cases hh : fs[i]? with
  | none => exact empty_fits
  | some x => exact h x (List.mem_of_getElem? hh)
theorem getD_fitsL {fs : List LinkR} (h : ∀ f ∈ fs, f.fits) (i : Nat) : (fs.getD i default).fits := by
  rw [List.getD_eq_getElem?_getD]
  cases hh : fs[i]? with
  | none => exact ⟨empty_fits, empty_fits, empty_fits⟩
  | some x => exact h x (List.mem_of_getElem? hh)
theorem perf_fit (s : StateR) (e : EventR) (h : Fit s) (he : e.fits) : Fit (performS s e).2 := by
  have hb := perf_bounds s e h.nf h.nl
  refine ⟨hb.1, hb.2, ?_, ?_⟩
  · unfold performS arriveS leaveS connectS relinkS attachS
    repeat' split
    all_goals (intro f hf; first | exact h.ff f hf | skip)
    · rcases List.mem_or_eq_of_mem_set hf with h1 | rfl
      · exact h.ff f h1
      · exact he.2.1
    · rcases List.mem_append.1 hf with h1 | h1
      · exact h.ff f h1
      · simp at h1; subst h1; exact he.2.1
    · rcases List.mem_or_eq_of_mem_set hf with h1 | rfl
      · exact h.ff f h1
      · exact getD_fits h.ff _
  · unfold performS arriveS leaveS connectS relinkS attachS
    repeat' split
    all_goals (intro f hf; first | exact h.fl f hf | skip)
    · rcases List.mem_append.1 hf with h1 | h1
      · exact h.fl f h1
      · simp at h1; subst h1; exact ⟨he.1, he.2.1, empty_fits⟩
    · rcases List.mem_or_eq_of_mem_set hf with h1 | rfl
      · exact h.fl f h1
      · exact ⟨(getD_fitsL h.fl _).1, he.2.1, (getD_fitsL h.fl _).2.2⟩
    · rcases List.mem_or_eq_of_mem_set hf with h1 | rfl
      · exact h.fl f h1
      · exact ⟨(getD_fitsL h.fl _).1, (getD_fitsL h.fl _).2.1, he.2.2⟩
theorem step_fit (s : StateR) (e : EventR) (h : Fit s) (he : e.fits) : Fit (stepS s e).1 := by
  unfold stepS
  have h0 : Fit ⟨[], []⟩ := ⟨by simp, by simp, fun f hf => by simp at hf, fun f hf => by simp at hf⟩
  repeat' split
  · exact perf_fit s e h he
  · exact h0
  · exact h0
theorem step_outs (s : StateR) (e : EventR) (h : Fit s) : (stepS s e).2.1.length ≤ 16 := by
  unfold stepS
  repeat' split
  · exact Nat.le_trans (List.length_filterMap_le _ _) (perf_bounds s e h.nf h.nl).2
  · simp
  · simp
theorem valid_fit {s : StateR} (h : validSt s.files s.links = true) (hff : ∀ f ∈ s.files, f.fits) (hfl : ∀ l ∈ s.links, l.fits) : Fit s := ⟨(valid_len h).1, (valid_len h).2, hff, hfl⟩
theorem runStep_fit {acc : StateR × List OutR × List Int} {e : EventR} (h : Fit acc.1) (he : e.fits) : Fit (runStep acc e).1 := by
  unfold runStep
  split
  · exact step_fit _ _ h he
  · exact h
def pad (es : List Int) (n : Nat) : List Int := es ++ List.replicate (n - es.length) 0
theorem pad_set {es : List Int} {n : Nat} (h : es.length < n) (c : Int) : (pad es n).set es.length c = pad (es ++ [c]) n := by
  unfold pad
  have e1 : n - es.length = (n - (es.length + 1)) + 1 := by omega
  rw [List.set_append_right _ _ (Nat.le_refl _), Nat.sub_self, e1, List.replicate_succ, List.set_cons_zero]
  simp
theorem pad_zero {es : List Int} {n : Nat} (h : es.length < n) : pad (es ++ [0]) n = pad es n := by
  unfold pad
  have e1 : n - es.length = (n - (es.length + 1)) + 1 := by omega
  rw [e1, List.replicate_succ]
  simp
theorem pad_full {es : List Int} {n : Nat} (h : es.length = n) : pad es n = es := by
  unfold pad; rw [h]; simp
theorem pad_len {es : List Int} {n : Nat} (h : es.length ≤ n) : (pad es n).length = n := by
  unfold pad; simp; omega
def ints (es : List Int) : List Value := es.map (Value.int .i64)
theorem runStep_len (acc : StateR × List OutR × List Int) (e : EventR) : (runStep acc e).2.2.length = acc.2.2.length + 1 := by
  unfold runStep; split <;> simp
theorem runFrom_len (s : StateR) (l : List EventR) : ∀ k, k ≤ l.length → (runFrom s (l.take k)).2.2.length = k
  | 0, _ => rfl
  | k + 1, h => by rw [runFrom_snoc (by omega), runStep_len, runFrom_len s l k (by omega)]
theorem own_setBlk {w : World} {B e e' k n : Nat} {v : Value} {xs : List Value} {cs : Array Value} (h : w.ownsRow B e k v n xs) {b : Nat} (hb : w.heap[b]? = some (.cells cs e' (0, 0))) (hne : e ≠ e') (j : Nat) (u : Value) :
    (w.setCell ⟨b, j, none⟩ u).ownsRow B e k v n xs :=
  h.kept (row := some b) ⟨rfl, rfl, rfl, by simp, fun k _ hk => Below.heap_setCell _ _ _ _ (fun e => hk (by rw [e]))⟩ (.inr (own_blk_ne h hb hne))
def RunPost (w : World) (r : StateR × List OutR × List Int) (e : Ending) (w' : World) : Prop :=
  ∃ v vo ve, e = .returned (.tuple #[v, vo, ve]) ∧ OwnSt w' w.heap.size v r.1 ∧ w'.ownsRow w.heap.size 61 2 vo r.2.1.length (r.2.1.flatMap OutR.cells) ∧ w'.ownsRow w.heap.size 49 1 ve r.2.2.length (ints r.2.2) ∧ Below w.heap.size w w'
theorem Try.info49 : (Try.prog.info? 49).map (fun i => (i.zero, i.size, i.bytes)) = some (some (.int .i64 0), 1, 8) := by kernel_rfl
end Go.Proofs.Ytnbmiejjkkgckaa
