/- Proved here: The bound on the length of a slice that was read, for use in the proofs of the given statements; conditions stand in each theorem. -/
import Derived.Test.YtkppmlignfhdeaaZG
import Derived.SizedLaws
set_option linter.unusedSimpArgs false
set_option linter.unusedVariables false
set_option linter.unusedSectionVars false
set_option linter.unusedSimpArgs false
set_option linter.unusedVariables false
set_option linter.unnecessarySimpa false
namespace Go.Proofs.Ytkppmlignfhdeaa
open Go.RowKit
set_option maxRecDepth 4000
open Go.ChangeShapes Go.WideShapes
theorem slice_bound {H : Type} {enc : TypeId × Value → H} {P : Program} {W : World} {E : Env} {spare : Nat → Bool} {held : Bool} {t e : TypeId} (ht : P.underlying t = some (.slice e)) {k : Nat} {d : List T} {xs : List (List T)} {v : Value} {d0 : DataW H} {p0 : List MemPlace} {B : Nat}
    (h0 : DataW.Trod enc P W 0 spare held t v d0 p0) (hv : RdV W E (.t (.list k d xs)) v) (hsz : ∀ el sp, d0 = .slice el sp → (el.length + sp.length) * B ≤ reachBytes) : xs.length * B ≤ reachBytes := by
  simp only [RdV] at hv
  obtain ⟨fuel, hf⟩ := h0
  cases hv with
  | list _ _ _ A c hm hc hn hk hb hr =>
    have hcs : (Value.slice A xs.length c).cells.toList = [.slice A xs.length c] := rfl
    rw [hcs] at hf
    rcases DataW.trod_slice ht hf with ⟨h1, _⟩ | ⟨a, len, cap, elems, rest, m, _, h1, h2, _, _, _, hlen, _, _, _⟩
    · simp only [List.cons.injEq, Value.slice.injEq, and_true] at h1
      rw [h1.2.1]; simp [reachBytes]
    · simp only [List.cons.injEq, Value.slice.injEq, and_true] at h1
      simp only [Prod.mk.injEq] at h2
      have := hsz _ _ h2.1
      simp only [List.length_map] at this
      rw [h1.2.1, ← hlen]
      refine Nat.le_trans (Nat.mul_le_mul_right B (Nat.le_add_right _ rest.length)) this
end Go.Proofs.Ytkppmlignfhdeaa
