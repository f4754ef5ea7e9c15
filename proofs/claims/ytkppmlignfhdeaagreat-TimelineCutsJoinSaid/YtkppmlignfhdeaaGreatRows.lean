/-
  NARROWER THAN 'FOR EVERY INPUT', by the rows' own cells (each row's printed sentence says how): DenoteValid: loops · DenoteSimple: loops.
  DERIVED. THE GIVEN ROWS OF THIS SEAT. 9 by the template 'for every input the law returns true; each argument reads behind the call as it read before'; 0 by the template 'total and deterministic' (their statements: YtkppmlignfhdeaaGreatTotals.lean).
  GIVEN WITH THE SEED: the statements are not yours to turn. If you find one false, say at which input.
  Laid BY PROGRAM, IN A SANDBOX (cutbox-rows.mjs): the forced cells as the released guide's own fill.sh prints them over the translation 63160ba6ac8f64e0… (all of the seat's roots in one cut). By AI agents, Wed Nov 11 2026. No macro, syntax, notation, axiom, sorry.
-/
import Derived.Test.YtkppmlignfhdeaaGreatChecked
import GoSem.Claim
import GoSem.ClaimJoined
import GoSem.ClaimMapViews
import Derived.JoinedTies
import Derived.KernelRfl
namespace Go.Proofs.YtkppmlignfhdeaaGreat
/- THE CELL 'sum', in the pinned program and in every row, IS THE sha256 OF THE DUMP (.gsa) THAT YtkppmlignfhdeaaGreatProg.lean LOADS. Nothing in Lean hashes anything: it is a label: what it is worth is what the hold of that sum in a sandbox is worth. -/
noncomputable def Tryz.pinned : Pinned := { name := "ytkppmlignfhdeaagreat", sum := "63160ba6ac8f64e0db3275de1314be404f5d22e837afd1c5f88f31bf4baf9fc9", checked := Tryz.checked }
namespace Rows
def none {H : Type} : Left H := { results := [], args := [] }

/-- 'cutroomlaw25.DenoteValid': WHATEVER THE INPUT: true; the input reads as it did. -/
def denoteValidSpec : ChangeSpec := { name := "denoteValid", fn := fun _ => fun
  | [d1, d2, d3] => { results := [.lit (.bool true)], args := [d1, d2, d3] }
  | _ => none }
def denoteValidRow : OpenClaim := { program := "ytkppmlignfhdeaagreat", sum := "63160ba6ac8f64e0db3275de1314be404f5d22e837afd1c5f88f31bf4baf9fc9", func := "cutroom/cutroomlaw25.DenoteValid", spec := "denoteValid", unfollowed := true, recurses := true, loops := true, apart := false }
def DenoteValidSaid : Prop := denoteValidRow.holds Tryz.pinned (OpenSpec.ofChange denoteValidSpec)

/-- ITS FALSE NEIGHBOUR: 'it returns false'. Refute it at one input. -/
def denoteValidWrong : ChangeSpec := { name := "denoteValid", fn := fun _ => fun
  | [d1, d2, d3] => { results := [.lit (.bool false)], args := [d1, d2, d3] }
  | _ => none }
def DenoteValidWrongFalsely : Prop := denoteValidRow.holds Tryz.pinned (OpenSpec.ofChange denoteValidWrong)

/-- 'cutroomlaw25.DenoteSimple': WHATEVER THE INPUT: true; the input reads as it did. -/
def denoteSimpleSpec : ChangeSpec := { name := "denoteSimple", fn := fun _ => fun
  | [d1, d2] => { results := [.lit (.bool true)], args := [d1, d2] }
  | _ => none }
def denoteSimpleRow : OpenClaim := { program := "ytkppmlignfhdeaagreat", sum := "63160ba6ac8f64e0db3275de1314be404f5d22e837afd1c5f88f31bf4baf9fc9", func := "cutroom/cutroomlaw25.DenoteSimple", spec := "denoteSimple", unfollowed := true, recurses := true, loops := true, apart := false }
def DenoteSimpleSaid : Prop := denoteSimpleRow.holds Tryz.pinned (OpenSpec.ofChange denoteSimpleSpec)

/-- ITS FALSE NEIGHBOUR: 'it returns false'. Refute it at one input. -/
def denoteSimpleWrong : ChangeSpec := { name := "denoteSimple", fn := fun _ => fun
  | [d1, d2] => { results := [.lit (.bool false)], args := [d1, d2] }
  | _ => none }
def DenoteSimpleWrongFalsely : Prop := denoteSimpleRow.holds Tryz.pinned (OpenSpec.ofChange denoteSimpleWrong)

/-- 'cutroomlaw23.TimelineProjects': WHATEVER THE INPUT: true; the input reads as it did. -/
def timelineProjectsSpec : ChangeSpec := { name := "timelineProjects", fn := fun _ => fun
  | [d1, d2, d3] => { results := [.lit (.bool true)], args := [d1, d2, d3] }
  | _ => none }
def timelineProjectsRow : OpenClaim := { program := "ytkppmlignfhdeaagreat", sum := "63160ba6ac8f64e0db3275de1314be404f5d22e837afd1c5f88f31bf4baf9fc9", func := "cutroom/cutroomlaw23.TimelineProjects", spec := "timelineProjects", inPlace := ["math/bits.Add64", "math/bits.Sub64"], unfollowed := true, recurses := true, named := ["math/bits.divideError", "math/bits.overflowError"], apart := false }
def TimelineProjectsSaid : Prop := timelineProjectsRow.holds Tryz.pinned (OpenSpec.ofChange timelineProjectsSpec)

/-- ITS FALSE NEIGHBOUR: 'it returns false'. Refute it at one input. -/
def timelineProjectsWrong : ChangeSpec := { name := "timelineProjects", fn := fun _ => fun
  | [d1, d2, d3] => { results := [.lit (.bool false)], args := [d1, d2, d3] }
  | _ => none }
def TimelineProjectsWrongFalsely : Prop := timelineProjectsRow.holds Tryz.pinned (OpenSpec.ofChange timelineProjectsWrong)

/-- 'cutroomlaw23.TimelineJoins': WHATEVER THE INPUT: true; the input reads as it did. -/
def timelineJoinsSpec : ChangeSpec := { name := "timelineJoins", fn := fun _ => fun
  | [d1, d2, d3, d4] => { results := [.lit (.bool true)], args := [d1, d2, d3, d4] }
  | _ => none }
def timelineJoinsRow : OpenClaim := { program := "ytkppmlignfhdeaagreat", sum := "63160ba6ac8f64e0db3275de1314be404f5d22e837afd1c5f88f31bf4baf9fc9", func := "cutroom/cutroomlaw23.TimelineJoins", spec := "timelineJoins", inPlace := ["math/bits.Add64", "math/bits.Sub64"], unfollowed := true, recurses := true, named := ["math/bits.divideError", "math/bits.overflowError"], apart := false }
def TimelineJoinsSaid : Prop := timelineJoinsRow.holds Tryz.pinned (OpenSpec.ofChange timelineJoinsSpec)

/-- ITS FALSE NEIGHBOUR: 'it returns false'. Refute it at one input. -/
def timelineJoinsWrong : ChangeSpec := { name := "timelineJoins", fn := fun _ => fun
  | [d1, d2, d3, d4] => { results := [.lit (.bool false)], args := [d1, d2, d3, d4] }
  | _ => none }
def TimelineJoinsWrongFalsely : Prop := timelineJoinsRow.holds Tryz.pinned (OpenSpec.ofChange timelineJoinsWrong)

/-- 'cutroomlaw23.TimelineUses': WHATEVER THE INPUT: true; the input reads as it did. -/
def timelineUsesSpec : ChangeSpec := { name := "timelineUses", fn := fun _ => fun
  | [d1, d2, d3, d4] => { results := [.lit (.bool true)], args := [d1, d2, d3, d4] }
  | _ => none }
def timelineUsesRow : OpenClaim := { program := "ytkppmlignfhdeaagreat", sum := "63160ba6ac8f64e0db3275de1314be404f5d22e837afd1c5f88f31bf4baf9fc9", func := "cutroom/cutroomlaw23.TimelineUses", spec := "timelineUses", inPlace := ["math/bits.Add64", "math/bits.Sub64"], unfollowed := true, recurses := true, named := ["math/bits.divideError", "math/bits.overflowError"], apart := false }
def TimelineUsesSaid : Prop := timelineUsesRow.holds Tryz.pinned (OpenSpec.ofChange timelineUsesSpec)

/-- ITS FALSE NEIGHBOUR: 'it returns false'. Refute it at one input. -/
def timelineUsesWrong : ChangeSpec := { name := "timelineUses", fn := fun _ => fun
  | [d1, d2, d3, d4] => { results := [.lit (.bool false)], args := [d1, d2, d3, d4] }
  | _ => none }
def TimelineUsesWrongFalsely : Prop := timelineUsesRow.holds Tryz.pinned (OpenSpec.ofChange timelineUsesWrong)

/-- 'cutroomlaw25.DenoteFilms': WHATEVER THE INPUT: true; the input reads as it did. -/
def denoteFilmsSpec : ChangeSpec := { name := "denoteFilms", fn := fun _ => fun
  | [d1, d2, d3, d4] => { results := [.lit (.bool true)], args := [d1, d2, d3, d4] }
  | _ => none }
def denoteFilmsRow : OpenClaim := { program := "ytkppmlignfhdeaagreat", sum := "63160ba6ac8f64e0db3275de1314be404f5d22e837afd1c5f88f31bf4baf9fc9", func := "cutroom/cutroomlaw25.DenoteFilms", spec := "denoteFilms", unfollowed := true, recurses := true, apart := false }
def DenoteFilmsSaid : Prop := denoteFilmsRow.holds Tryz.pinned (OpenSpec.ofChange denoteFilmsSpec)

/-- ITS FALSE NEIGHBOUR: 'it returns false'. Refute it at one input. -/
def denoteFilmsWrong : ChangeSpec := { name := "denoteFilms", fn := fun _ => fun
  | [d1, d2, d3, d4] => { results := [.lit (.bool false)], args := [d1, d2, d3, d4] }
  | _ => none }
def DenoteFilmsWrongFalsely : Prop := denoteFilmsRow.holds Tryz.pinned (OpenSpec.ofChange denoteFilmsWrong)

/-- 'cutroomlaw23.TimelineSwaps': WHATEVER THE INPUT: true; the input reads as it did. -/
def timelineSwapsSpec : ChangeSpec := { name := "timelineSwaps", fn := fun _ => fun
  | [d1, d2, d3, d4, d5] => { results := [.lit (.bool true)], args := [d1, d2, d3, d4, d5] }
  | _ => none }
def timelineSwapsRow : OpenClaim := { program := "ytkppmlignfhdeaagreat", sum := "63160ba6ac8f64e0db3275de1314be404f5d22e837afd1c5f88f31bf4baf9fc9", func := "cutroom/cutroomlaw23.TimelineSwaps", spec := "timelineSwaps", inPlace := ["math/bits.Add64", "math/bits.Sub64"], unfollowed := true, recurses := true, named := ["math/bits.divideError", "math/bits.overflowError"], apart := false }
def TimelineSwapsSaid : Prop := timelineSwapsRow.holds Tryz.pinned (OpenSpec.ofChange timelineSwapsSpec)

/-- ITS FALSE NEIGHBOUR: 'it returns false'. Refute it at one input. -/
def timelineSwapsWrong : ChangeSpec := { name := "timelineSwaps", fn := fun _ => fun
  | [d1, d2, d3, d4, d5] => { results := [.lit (.bool false)], args := [d1, d2, d3, d4, d5] }
  | _ => none }
def TimelineSwapsWrongFalsely : Prop := timelineSwapsRow.holds Tryz.pinned (OpenSpec.ofChange timelineSwapsWrong)

/-- 'cutroomlaw23.TimelineSwapBack': WHATEVER THE INPUT: true; the input reads as it did. -/
def timelineSwapBackSpec : ChangeSpec := { name := "timelineSwapBack", fn := fun _ => fun
  | [d] => { results := [.lit (.bool true)], args := [d] }
  | _ => none }
def timelineSwapBackRow : OpenClaim := { program := "ytkppmlignfhdeaagreat", sum := "63160ba6ac8f64e0db3275de1314be404f5d22e837afd1c5f88f31bf4baf9fc9", func := "cutroom/cutroomlaw23.TimelineSwapBack", spec := "timelineSwapBack", inPlace := ["math/bits.Add64", "math/bits.Sub64"], unfollowed := true, recurses := true, named := ["math/bits.divideError", "math/bits.overflowError"], apart := false }
def TimelineSwapBackSaid : Prop := timelineSwapBackRow.holds Tryz.pinned (OpenSpec.ofChange timelineSwapBackSpec)

/-- ITS FALSE NEIGHBOUR: 'it returns false'. Refute it at one input. -/
def timelineSwapBackWrong : ChangeSpec := { name := "timelineSwapBack", fn := fun _ => fun
  | [d] => { results := [.lit (.bool false)], args := [d] }
  | _ => none }
def TimelineSwapBackWrongFalsely : Prop := timelineSwapBackRow.holds Tryz.pinned (OpenSpec.ofChange timelineSwapBackWrong)

/-- 'cutroomlaw23.TimelineCutsJoin': WHATEVER THE INPUT: true; the input reads as it did. -/
def timelineCutsJoinSpec : ChangeSpec := { name := "timelineCutsJoin", fn := fun _ => fun
  | [d1, d2, d3, d4] => { results := [.lit (.bool true)], args := [d1, d2, d3, d4] }
  | _ => none }
def timelineCutsJoinRow : OpenClaim := { program := "ytkppmlignfhdeaagreat", sum := "63160ba6ac8f64e0db3275de1314be404f5d22e837afd1c5f88f31bf4baf9fc9", func := "cutroom/cutroomlaw23.TimelineCutsJoin", spec := "timelineCutsJoin", inPlace := ["math/bits.Add64", "math/bits.Sub64"], unfollowed := true, recurses := true, named := ["math/bits.divideError", "math/bits.overflowError"], apart := false }
def TimelineCutsJoinSaid : Prop := timelineCutsJoinRow.holds Tryz.pinned (OpenSpec.ofChange timelineCutsJoinSpec)

/-- ITS FALSE NEIGHBOUR: 'it returns false'. Refute it at one input. -/
def timelineCutsJoinWrong : ChangeSpec := { name := "timelineCutsJoin", fn := fun _ => fun
  | [d1, d2, d3, d4] => { results := [.lit (.bool false)], args := [d1, d2, d3, d4] }
  | _ => none }
def TimelineCutsJoinWrongFalsely : Prop := timelineCutsJoinRow.holds Tryz.pinned (OpenSpec.ofChange timelineCutsJoinWrong)

/- THE SECOND FORM. 'bulk': how many values and letters a reading holds, each counted each time it is reached (what is shared counts as often as it is met; a slice's spare places count too). A statement '..UptoSaid' is the law's where the arguments, and the package variables that the reading takes, are together of bulk at most 1048576: NARROWER than '..Said'. Prove '..Said' where nothing that the law and all that it calls make is longer than what came in: it says more and counts as full. Else prove '..UptoSaid'. A law counts once. -/
mutual
def uptoBulk {H : Type} : DataW H → Nat
  | .lit (.string bytes) => bytes.length + 1
  | .lit _ => 1
  | .nil => 1
  | .ptr d => uptoBulk d + 1
  | .slice elems spare => uptoBulkAll elems + uptoBulkAll spare + 1
  | .agg parts => uptoBulkAll parts + 1
  | .iface _ d => uptoBulk d + 1
  | .map entries => uptoBulkEntries entries + 1
  | .held _ => 1
def uptoBulkAll {H : Type} : List (DataW H) → Nat
  | [] => 0
  | d :: r => uptoBulk d + uptoBulkAll r
def uptoBulkEntries {H : Type} : List (Lit × DataW H) → Nat
  | [] => 0
  | x :: r => uptoBulkEntry x + uptoBulkEntries r
def uptoBulkEntry {H : Type} : Lit × DataW H → Nat
  | (.string bytes, d) => bytes.length + uptoBulk d + 1
  | (_, d) => uptoBulk d + 1
 end
def uptoSmall : (H : Type) → List (DataW H) → Bool := fun _ ds => decide (uptoBulkAll ds ≤ 1048576)
def OpenSpec.upto (s : _root_.Go.ChangeSpec) : _root_.Go.OpenSpec := { _root_.Go.OpenSpec.ofChange s with cond := some uptoSmall }

/-- 'cutroomlaw25.DenoteValid', WHERE WHAT IT READS IS OF BULK AT MOST 1048576: true; the input reads as it did. -/
def denoteValidUptoRow : OpenClaim := { program := "ytkppmlignfhdeaagreat", sum := "63160ba6ac8f64e0db3275de1314be404f5d22e837afd1c5f88f31bf4baf9fc9", func := "cutroom/cutroomlaw25.DenoteValid", spec := "denoteValid", unfollowed := true, recurses := true, loops := true, apart := false, narrowed := true }
def DenoteValidUptoSaid : Prop := denoteValidUptoRow.holds Tryz.pinned (OpenSpec.upto denoteValidSpec)

/-- 'cutroomlaw25.DenoteSimple', WHERE WHAT IT READS IS OF BULK AT MOST 1048576: true; the input reads as it did. -/
def denoteSimpleUptoRow : OpenClaim := { program := "ytkppmlignfhdeaagreat", sum := "63160ba6ac8f64e0db3275de1314be404f5d22e837afd1c5f88f31bf4baf9fc9", func := "cutroom/cutroomlaw25.DenoteSimple", spec := "denoteSimple", unfollowed := true, recurses := true, loops := true, apart := false, narrowed := true }
def DenoteSimpleUptoSaid : Prop := denoteSimpleUptoRow.holds Tryz.pinned (OpenSpec.upto denoteSimpleSpec)

/-- 'cutroomlaw23.TimelineProjects', WHERE WHAT IT READS IS OF BULK AT MOST 1048576: true; the input reads as it did. -/
def timelineProjectsUptoRow : OpenClaim := { program := "ytkppmlignfhdeaagreat", sum := "63160ba6ac8f64e0db3275de1314be404f5d22e837afd1c5f88f31bf4baf9fc9", func := "cutroom/cutroomlaw23.TimelineProjects", spec := "timelineProjects", inPlace := ["math/bits.Add64", "math/bits.Sub64"], unfollowed := true, recurses := true, named := ["math/bits.divideError", "math/bits.overflowError"], apart := false, narrowed := true }
def TimelineProjectsUptoSaid : Prop := timelineProjectsUptoRow.holds Tryz.pinned (OpenSpec.upto timelineProjectsSpec)

/-- 'cutroomlaw23.TimelineJoins', WHERE WHAT IT READS IS OF BULK AT MOST 1048576: true; the input reads as it did. -/
def timelineJoinsUptoRow : OpenClaim := { program := "ytkppmlignfhdeaagreat", sum := "63160ba6ac8f64e0db3275de1314be404f5d22e837afd1c5f88f31bf4baf9fc9", func := "cutroom/cutroomlaw23.TimelineJoins", spec := "timelineJoins", inPlace := ["math/bits.Add64", "math/bits.Sub64"], unfollowed := true, recurses := true, named := ["math/bits.divideError", "math/bits.overflowError"], apart := false, narrowed := true }
def TimelineJoinsUptoSaid : Prop := timelineJoinsUptoRow.holds Tryz.pinned (OpenSpec.upto timelineJoinsSpec)

/-- 'cutroomlaw23.TimelineUses', WHERE WHAT IT READS IS OF BULK AT MOST 1048576: true; the input reads as it did. -/
def timelineUsesUptoRow : OpenClaim := { program := "ytkppmlignfhdeaagreat", sum := "63160ba6ac8f64e0db3275de1314be404f5d22e837afd1c5f88f31bf4baf9fc9", func := "cutroom/cutroomlaw23.TimelineUses", spec := "timelineUses", inPlace := ["math/bits.Add64", "math/bits.Sub64"], unfollowed := true, recurses := true, named := ["math/bits.divideError", "math/bits.overflowError"], apart := false, narrowed := true }
def TimelineUsesUptoSaid : Prop := timelineUsesUptoRow.holds Tryz.pinned (OpenSpec.upto timelineUsesSpec)

/-- 'cutroomlaw25.DenoteFilms', WHERE WHAT IT READS IS OF BULK AT MOST 1048576: true; the input reads as it did. -/
def denoteFilmsUptoRow : OpenClaim := { program := "ytkppmlignfhdeaagreat", sum := "63160ba6ac8f64e0db3275de1314be404f5d22e837afd1c5f88f31bf4baf9fc9", func := "cutroom/cutroomlaw25.DenoteFilms", spec := "denoteFilms", unfollowed := true, recurses := true, apart := false, narrowed := true }
def DenoteFilmsUptoSaid : Prop := denoteFilmsUptoRow.holds Tryz.pinned (OpenSpec.upto denoteFilmsSpec)

/-- 'cutroomlaw23.TimelineSwaps', WHERE WHAT IT READS IS OF BULK AT MOST 1048576: true; the input reads as it did. -/
def timelineSwapsUptoRow : OpenClaim := { program := "ytkppmlignfhdeaagreat", sum := "63160ba6ac8f64e0db3275de1314be404f5d22e837afd1c5f88f31bf4baf9fc9", func := "cutroom/cutroomlaw23.TimelineSwaps", spec := "timelineSwaps", inPlace := ["math/bits.Add64", "math/bits.Sub64"], unfollowed := true, recurses := true, named := ["math/bits.divideError", "math/bits.overflowError"], apart := false, narrowed := true }
def TimelineSwapsUptoSaid : Prop := timelineSwapsUptoRow.holds Tryz.pinned (OpenSpec.upto timelineSwapsSpec)

/-- 'cutroomlaw23.TimelineSwapBack', WHERE WHAT IT READS IS OF BULK AT MOST 1048576: true; the input reads as it did. -/
def timelineSwapBackUptoRow : OpenClaim := { program := "ytkppmlignfhdeaagreat", sum := "63160ba6ac8f64e0db3275de1314be404f5d22e837afd1c5f88f31bf4baf9fc9", func := "cutroom/cutroomlaw23.TimelineSwapBack", spec := "timelineSwapBack", inPlace := ["math/bits.Add64", "math/bits.Sub64"], unfollowed := true, recurses := true, named := ["math/bits.divideError", "math/bits.overflowError"], apart := false, narrowed := true }
def TimelineSwapBackUptoSaid : Prop := timelineSwapBackUptoRow.holds Tryz.pinned (OpenSpec.upto timelineSwapBackSpec)

/-- 'cutroomlaw23.TimelineCutsJoin', WHERE WHAT IT READS IS OF BULK AT MOST 1048576: true; the input reads as it did. -/
def timelineCutsJoinUptoRow : OpenClaim := { program := "ytkppmlignfhdeaagreat", sum := "63160ba6ac8f64e0db3275de1314be404f5d22e837afd1c5f88f31bf4baf9fc9", func := "cutroom/cutroomlaw23.TimelineCutsJoin", spec := "timelineCutsJoin", inPlace := ["math/bits.Add64", "math/bits.Sub64"], unfollowed := true, recurses := true, named := ["math/bits.divideError", "math/bits.overflowError"], apart := false, narrowed := true }
def TimelineCutsJoinUptoSaid : Prop := timelineCutsJoinUptoRow.holds Tryz.pinned (OpenSpec.upto timelineCutsJoinSpec)

end Rows
end Go.Proofs.YtkppmlignfhdeaaGreat
