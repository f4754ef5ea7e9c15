/-
  NARROWER THAN 'FOR EVERY INPUT', by the rows' own cells (each row's printed sentence says how): DenoteRuns: loops.
  DERIVED. THE GIVEN ROWS OF THIS SEAT. 3 by the template 'for every input the law returns true; each argument reads behind the call as it read before'; 0 by the template 'total and deterministic' (their statements: YtkppmlignfhdeaaTotals.lean).
  GIVEN WITH THE SEED: the statements are not yours to turn. If you find one false, say at which input.
  Laid BY PROGRAM, IN A SANDBOX (cutbox-rows.mjs): the forced cells as the released guide's own fill.sh prints them over the translation 4a416e0b1591b3b8… (all of the seat's roots in one cut). By AI agents, Wed Nov 11 2026. No macro, syntax, notation, axiom, sorry.
-/
import Derived.Test.YtkppmlignfhdeaaChecked
import GoSem.Claim
import GoSem.ClaimJoined
import GoSem.ClaimMapViews
import Derived.JoinedTies
import Derived.KernelRfl
namespace Go.Proofs.Ytkppmlignfhdeaa
/- THE CELL 'sum', in the pinned program and in every row, IS THE sha256 OF THE DUMP (.gsa) THAT YtkppmlignfhdeaaProg.lean LOADS. Nothing in Lean hashes anything: it is a label: what it is worth is what the hold of that sum in a sandbox is worth. -/
noncomputable def Try.pinned : Pinned := { name := "ytkppmlignfhdeaa", sum := "4a416e0b1591b3b834657103dc617324431ef0135f7b2bb2aace4186faafd5af", checked := Try.checked }
namespace Rows
def none {H : Type} : Left H := { results := [], args := [] }

/-- 'cutroomlaw25.DenoteSimplest': WHATEVER THE INPUT: true; the input reads as it did. -/
def denoteSimplestSpec : ChangeSpec := { name := "denoteSimplest", fn := fun _ => fun
  | [d] => { results := [.lit (.bool true)], args := [d] }
  | _ => none }
def denoteSimplestRow : OpenClaim := { program := "ytkppmlignfhdeaa", sum := "4a416e0b1591b3b834657103dc617324431ef0135f7b2bb2aace4186faafd5af", func := "cutroom/cutroomlaw25.DenoteSimplest", spec := "denoteSimplest", unfollowed := true, recurses := true, apart := false }
def DenoteSimplestSaid : Prop := denoteSimplestRow.holds Try.pinned (OpenSpec.ofChange denoteSimplestSpec)

/-- ITS FALSE NEIGHBOUR: 'it returns false'. Refute it at one input. -/
def denoteSimplestWrong : ChangeSpec := { name := "denoteSimplest", fn := fun _ => fun
  | [d] => { results := [.lit (.bool false)], args := [d] }
  | _ => none }
def DenoteSimplestWrongFalsely : Prop := denoteSimplestRow.holds Try.pinned (OpenSpec.ofChange denoteSimplestWrong)

/-- 'cutroomlaw25.DenoteRuns': WHATEVER THE INPUT: true; the input reads as it did. -/
def denoteRunsSpec : ChangeSpec := { name := "denoteRuns", fn := fun _ => fun
  | [d1, d2] => { results := [.lit (.bool true)], args := [d1, d2] }
  | _ => none }
def denoteRunsRow : OpenClaim := { program := "ytkppmlignfhdeaa", sum := "4a416e0b1591b3b834657103dc617324431ef0135f7b2bb2aace4186faafd5af", func := "cutroom/cutroomlaw25.DenoteRuns", spec := "denoteRuns", unfollowed := true, recurses := true, loops := true, apart := false }
def DenoteRunsSaid : Prop := denoteRunsRow.holds Try.pinned (OpenSpec.ofChange denoteRunsSpec)

/-- ITS FALSE NEIGHBOUR: 'it returns false'. Refute it at one input. -/
def denoteRunsWrong : ChangeSpec := { name := "denoteRuns", fn := fun _ => fun
  | [d1, d2] => { results := [.lit (.bool false)], args := [d1, d2] }
  | _ => none }
def DenoteRunsWrongFalsely : Prop := denoteRunsRow.holds Try.pinned (OpenSpec.ofChange denoteRunsWrong)

/-- 'cutroomlaw25.DenoteCovers': WHATEVER THE INPUT: true; the input reads as it did. -/
def denoteCoversSpec : ChangeSpec := { name := "denoteCovers", fn := fun _ => fun
  | [d] => { results := [.lit (.bool true)], args := [d] }
  | _ => none }
def denoteCoversRow : OpenClaim := { program := "ytkppmlignfhdeaa", sum := "4a416e0b1591b3b834657103dc617324431ef0135f7b2bb2aace4186faafd5af", func := "cutroom/cutroomlaw25.DenoteCovers", spec := "denoteCovers", unfollowed := true, recurses := true, apart := false }
def DenoteCoversSaid : Prop := denoteCoversRow.holds Try.pinned (OpenSpec.ofChange denoteCoversSpec)

/-- ITS FALSE NEIGHBOUR: 'it returns false'. Refute it at one input. -/
def denoteCoversWrong : ChangeSpec := { name := "denoteCovers", fn := fun _ => fun
  | [d] => { results := [.lit (.bool false)], args := [d] }
  | _ => none }
def DenoteCoversWrongFalsely : Prop := denoteCoversRow.holds Try.pinned (OpenSpec.ofChange denoteCoversWrong)

/- THE SECOND FORM. 'bulk': how many values and letters a reading holds, each counted each time it is reached (what is shared counts as often as it is met; a slice's spare places count too). A statement '..UptoSaid' is the law's where the arguments, and the package variables that the reading takes, are together of bulk at most 1048576: NARROWER than '..Said'. Prove '..Said' where nothing that the law and all that it calls make is longer than what came in: it says more and counts as full. Else prove '..UptoSaid'. A law counts once. -/
mutual
def uptoBulk {H : Type} : DataW H → Nat
  | .lit (.string bytes) => bytes.length + 1
  | .lit _ => 1
  | .nil => 1
  | .ptr d => uptoBulk d + 1
  | .slice elems spare => uptoBulkAll elems + uptoBulkAll spare + 1
  | .agg parts => uptoBulkAll parts + 1
  | .iface _ d => uptoBulk d + 1
  | .map entries => uptoBulkEntries entries + 1
  | .held _ => 1
def uptoBulkAll {H : Type} : List (DataW H) → Nat
  | [] => 0
  | d :: r => uptoBulk d + uptoBulkAll r
def uptoBulkEntries {H : Type} : List (Lit × DataW H) → Nat
  | [] => 0
  | x :: r => uptoBulkEntry x + uptoBulkEntries r
def uptoBulkEntry {H : Type} : Lit × DataW H → Nat
  | (.string bytes, d) => bytes.length + uptoBulk d + 1
  | (_, d) => uptoBulk d + 1
 end
def uptoSmall : (H : Type) → List (DataW H) → Bool := fun _ ds => decide (uptoBulkAll ds ≤ 1048576)
def OpenSpec.upto (s : _root_.Go.ChangeSpec) : _root_.Go.OpenSpec := { _root_.Go.OpenSpec.ofChange s with cond := some uptoSmall }

/-- 'cutroomlaw25.DenoteSimplest', WHERE WHAT IT READS IS OF BULK AT MOST 1048576: true; the input reads as it did. -/
def denoteSimplestUptoRow : OpenClaim := { program := "ytkppmlignfhdeaa", sum := "4a416e0b1591b3b834657103dc617324431ef0135f7b2bb2aace4186faafd5af", func := "cutroom/cutroomlaw25.DenoteSimplest", spec := "denoteSimplest", unfollowed := true, recurses := true, apart := false, narrowed := true }
def DenoteSimplestUptoSaid : Prop := denoteSimplestUptoRow.holds Try.pinned (OpenSpec.upto denoteSimplestSpec)

/-- 'cutroomlaw25.DenoteRuns', WHERE WHAT IT READS IS OF BULK AT MOST 1048576: true; the input reads as it did. -/
def denoteRunsUptoRow : OpenClaim := { program := "ytkppmlignfhdeaa", sum := "4a416e0b1591b3b834657103dc617324431ef0135f7b2bb2aace4186faafd5af", func := "cutroom/cutroomlaw25.DenoteRuns", spec := "denoteRuns", unfollowed := true, recurses := true, loops := true, apart := false, narrowed := true }
def DenoteRunsUptoSaid : Prop := denoteRunsUptoRow.holds Try.pinned (OpenSpec.upto denoteRunsSpec)

/-- 'cutroomlaw25.DenoteCovers', WHERE WHAT IT READS IS OF BULK AT MOST 1048576: true; the input reads as it did. -/
def denoteCoversUptoRow : OpenClaim := { program := "ytkppmlignfhdeaa", sum := "4a416e0b1591b3b834657103dc617324431ef0135f7b2bb2aace4186faafd5af", func := "cutroom/cutroomlaw25.DenoteCovers", spec := "denoteCovers", unfollowed := true, recurses := true, apart := false, narrowed := true }
def DenoteCoversUptoSaid : Prop := denoteCoversUptoRow.holds Try.pinned (OpenSpec.upto denoteCoversSpec)

end Rows
end Go.Proofs.Ytkppmlignfhdeaa
