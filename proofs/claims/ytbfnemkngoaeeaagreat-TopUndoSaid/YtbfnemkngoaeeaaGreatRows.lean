/-
  No cell of these rows narrows 'for every input' (looked for: loops, veiled, ifaces, maps, wideKeys, modest, calm, conditions, laid).
  DERIVED. THE GIVEN ROWS OF THIS SEAT. 7 by the template 'for every input the law returns true; each argument reads behind the call as it read before'; 0 by the template 'total and deterministic' (their statements: YtbfnemkngoaeeaaGreatTotals.lean).
  GIVEN WITH THE SEED: the statements are not yours to turn. If you find one false, say at which input.
  Laid BY PROGRAM, IN A SANDBOX (cutbox-rows.mjs): the forced cells as the released guide's own fill.sh prints them over the translation 31a3ff594f245763… (all of the seat's roots in one cut). By AI agents, Wed Nov 11 2026. No macro, syntax, notation, axiom, sorry.
-/
import Derived.Test.YtbfnemkngoaeeaaGreatChecked
import GoSem.Claim
import GoSem.ClaimJoined
import GoSem.ClaimMapViews
import Derived.JoinedTies
import Derived.KernelRfl
namespace Go.Proofs.YtbfnemkngoaeeaaGreat
/- THE CELL 'sum', in the pinned program and in every row, IS THE sha256 OF THE DUMP (.gsa) THAT YtbfnemkngoaeeaaGreatProg.lean LOADS. Nothing in Lean hashes anything: it is a label: what it is worth is what the hold of that sum in a sandbox is worth. -/
noncomputable def Tryz.pinned : Pinned := { name := "ytbfnemkngoaeeaagreat", sum := "31a3ff594f245763212850748ca1da42d1368c1aa64d35e259f09b95c7c9d62a", checked := Tryz.checked }
namespace Rows
def none {H : Type} : Left H := { results := [], args := [] }

/-- 'cutroomtop.TopUndo': WHATEVER THE INPUT: true; the input reads as it did. -/
def topUndoSpec : ChangeSpec := { name := "topUndo", fn := fun _ => fun
  | [d1, d2] => { results := [.lit (.bool true)], args := [d1, d2] }
  | _ => none }
def topUndoRow : OpenClaim := { program := "ytbfnemkngoaeeaagreat", sum := "31a3ff594f245763212850748ca1da42d1368c1aa64d35e259f09b95c7c9d62a", func := "cutroom/cutroomtop.TopUndo", spec := "topUndo", inPlace := ["math/bits.Add64", "math/bits.Sub64"], unfollowed := true, recurses := true, named := ["math/bits.divideError", "math/bits.overflowError"], apart := false }
def TopUndoSaid : Prop := topUndoRow.holds Tryz.pinned (OpenSpec.ofChange topUndoSpec)

/-- ITS FALSE NEIGHBOUR: 'it returns false'. Refute it at one input. -/
def topUndoWrong : ChangeSpec := { name := "topUndo", fn := fun _ => fun
  | [d1, d2] => { results := [.lit (.bool false)], args := [d1, d2] }
  | _ => none }
def TopUndoWrongFalsely : Prop := topUndoRow.holds Tryz.pinned (OpenSpec.ofChange topUndoWrong)

/-- 'cutroomlaw36.MediaResolves': WHATEVER THE INPUT: true; the input reads as it did. -/
def mediaResolvesSpec : ChangeSpec := { name := "mediaResolves", fn := fun _ => fun
  | [d1, d2, d3, d4, d5] => { results := [.lit (.bool true)], args := [d1, d2, d3, d4, d5] }
  | _ => none }
def mediaResolvesRow : OpenClaim := { program := "ytbfnemkngoaeeaagreat", sum := "31a3ff594f245763212850748ca1da42d1368c1aa64d35e259f09b95c7c9d62a", func := "cutroom/cutroomlaw36.MediaResolves", spec := "mediaResolves", unfollowed := true, recurses := true, apart := false }
def MediaResolvesSaid : Prop := mediaResolvesRow.holds Tryz.pinned (OpenSpec.ofChange mediaResolvesSpec)

/-- ITS FALSE NEIGHBOUR: 'it returns false'. Refute it at one input. -/
def mediaResolvesWrong : ChangeSpec := { name := "mediaResolves", fn := fun _ => fun
  | [d1, d2, d3, d4, d5] => { results := [.lit (.bool false)], args := [d1, d2, d3, d4, d5] }
  | _ => none }
def MediaResolvesWrongFalsely : Prop := mediaResolvesRow.holds Tryz.pinned (OpenSpec.ofChange mediaResolvesWrong)

/-- 'cutroomlaw36.MediaUsable': WHATEVER THE INPUT: true; the input reads as it did. -/
def mediaUsableSpec : ChangeSpec := { name := "mediaUsable", fn := fun _ => fun
  | [d1, d2] => { results := [.lit (.bool true)], args := [d1, d2] }
  | _ => none }
def mediaUsableRow : OpenClaim := { program := "ytbfnemkngoaeeaagreat", sum := "31a3ff594f245763212850748ca1da42d1368c1aa64d35e259f09b95c7c9d62a", func := "cutroom/cutroomlaw36.MediaUsable", spec := "mediaUsable", unfollowed := true, recurses := true, apart := false }
def MediaUsableSaid : Prop := mediaUsableRow.holds Tryz.pinned (OpenSpec.ofChange mediaUsableSpec)

/-- ITS FALSE NEIGHBOUR: 'it returns false'. Refute it at one input. -/
def mediaUsableWrong : ChangeSpec := { name := "mediaUsable", fn := fun _ => fun
  | [d1, d2] => { results := [.lit (.bool false)], args := [d1, d2] }
  | _ => none }
def MediaUsableWrongFalsely : Prop := mediaUsableRow.holds Tryz.pinned (OpenSpec.ofChange mediaUsableWrong)

/-- 'cutroomlaw36.MediaOthers': WHATEVER THE INPUT: true; the input reads as it did. -/
def mediaOthersSpec : ChangeSpec := { name := "mediaOthers", fn := fun _ => fun
  | [d1, d2, d3] => { results := [.lit (.bool true)], args := [d1, d2, d3] }
  | _ => none }
def mediaOthersRow : OpenClaim := { program := "ytbfnemkngoaeeaagreat", sum := "31a3ff594f245763212850748ca1da42d1368c1aa64d35e259f09b95c7c9d62a", func := "cutroom/cutroomlaw36.MediaOthers", spec := "mediaOthers", unfollowed := true, recurses := true, apart := false }
def MediaOthersSaid : Prop := mediaOthersRow.holds Tryz.pinned (OpenSpec.ofChange mediaOthersSpec)

/-- ITS FALSE NEIGHBOUR: 'it returns false'. Refute it at one input. -/
def mediaOthersWrong : ChangeSpec := { name := "mediaOthers", fn := fun _ => fun
  | [d1, d2, d3] => { results := [.lit (.bool false)], args := [d1, d2, d3] }
  | _ => none }
def MediaOthersWrongFalsely : Prop := mediaOthersRow.holds Tryz.pinned (OpenSpec.ofChange mediaOthersWrong)

/-- 'cutroomlaw23.TimelineSwaps': WHATEVER THE INPUT: true; the input reads as it did. -/
def timelineSwapsSpec : ChangeSpec := { name := "timelineSwaps", fn := fun _ => fun
  | [d1, d2, d3, d4, d5] => { results := [.lit (.bool true)], args := [d1, d2, d3, d4, d5] }
  | _ => none }
def timelineSwapsRow : OpenClaim := { program := "ytbfnemkngoaeeaagreat", sum := "31a3ff594f245763212850748ca1da42d1368c1aa64d35e259f09b95c7c9d62a", func := "cutroom/cutroomlaw23.TimelineSwaps", spec := "timelineSwaps", inPlace := ["math/bits.Add64", "math/bits.Sub64"], unfollowed := true, recurses := true, named := ["math/bits.divideError", "math/bits.overflowError"], apart := false }
def TimelineSwapsSaid : Prop := timelineSwapsRow.holds Tryz.pinned (OpenSpec.ofChange timelineSwapsSpec)

/-- ITS FALSE NEIGHBOUR: 'it returns false'. Refute it at one input. -/
def timelineSwapsWrong : ChangeSpec := { name := "timelineSwaps", fn := fun _ => fun
  | [d1, d2, d3, d4, d5] => { results := [.lit (.bool false)], args := [d1, d2, d3, d4, d5] }
  | _ => none }
def TimelineSwapsWrongFalsely : Prop := timelineSwapsRow.holds Tryz.pinned (OpenSpec.ofChange timelineSwapsWrong)

/-- 'cutroomlaw23.TimelineSwapBack': WHATEVER THE INPUT: true; the input reads as it did. -/
def timelineSwapBackSpec : ChangeSpec := { name := "timelineSwapBack", fn := fun _ => fun
  | [d] => { results := [.lit (.bool true)], args := [d] }
  | _ => none }
def timelineSwapBackRow : OpenClaim := { program := "ytbfnemkngoaeeaagreat", sum := "31a3ff594f245763212850748ca1da42d1368c1aa64d35e259f09b95c7c9d62a", func := "cutroom/cutroomlaw23.TimelineSwapBack", spec := "timelineSwapBack", inPlace := ["math/bits.Add64", "math/bits.Sub64"], unfollowed := true, recurses := true, named := ["math/bits.divideError", "math/bits.overflowError"], apart := false }
def TimelineSwapBackSaid : Prop := timelineSwapBackRow.holds Tryz.pinned (OpenSpec.ofChange timelineSwapBackSpec)

/-- ITS FALSE NEIGHBOUR: 'it returns false'. Refute it at one input. -/
def timelineSwapBackWrong : ChangeSpec := { name := "timelineSwapBack", fn := fun _ => fun
  | [d] => { results := [.lit (.bool false)], args := [d] }
  | _ => none }
def TimelineSwapBackWrongFalsely : Prop := timelineSwapBackRow.holds Tryz.pinned (OpenSpec.ofChange timelineSwapBackWrong)

/-- 'cutroomlaw36.MediaShows': WHATEVER THE INPUT: true; the input reads as it did. -/
def mediaShowsSpec : ChangeSpec := { name := "mediaShows", fn := fun _ => fun
  | [d1, d2, d3] => { results := [.lit (.bool true)], args := [d1, d2, d3] }
  | _ => none }
def mediaShowsRow : OpenClaim := { program := "ytbfnemkngoaeeaagreat", sum := "31a3ff594f245763212850748ca1da42d1368c1aa64d35e259f09b95c7c9d62a", func := "cutroom/cutroomlaw36.MediaShows", spec := "mediaShows", inPlace := ["math/bits.Add64", "math/bits.Sub64"], unfollowed := true, recurses := true, named := ["math/bits.divideError", "math/bits.overflowError"], apart := false }
def MediaShowsSaid : Prop := mediaShowsRow.holds Tryz.pinned (OpenSpec.ofChange mediaShowsSpec)

/-- ITS FALSE NEIGHBOUR: 'it returns false'. Refute it at one input. -/
def mediaShowsWrong : ChangeSpec := { name := "mediaShows", fn := fun _ => fun
  | [d1, d2, d3] => { results := [.lit (.bool false)], args := [d1, d2, d3] }
  | _ => none }
def MediaShowsWrongFalsely : Prop := mediaShowsRow.holds Tryz.pinned (OpenSpec.ofChange mediaShowsWrong)

/- THE SECOND FORM. 'bulk': how many values and letters a reading holds, each counted each time it is reached (what is shared counts as often as it is met; a slice's spare places count too). A statement '..UptoSaid' is the law's where the arguments, and the package variables that the reading takes, are together of bulk at most 1048576: NARROWER than '..Said'. Prove '..Said' where nothing that the law and all that it calls make is longer than what came in: it says more and counts as full. Else prove '..UptoSaid'. A law counts once. -/
mutual
def uptoBulk {H : Type} : DataW H → Nat
  | .lit (.string bytes) => bytes.length + 1
  | .lit _ => 1
  | .nil => 1
  | .ptr d => uptoBulk d + 1
  | .slice elems spare => uptoBulkAll elems + uptoBulkAll spare + 1
  | .agg parts => uptoBulkAll parts + 1
  | .iface _ d => uptoBulk d + 1
  | .map entries => uptoBulkEntries entries + 1
  | .held _ => 1
def uptoBulkAll {H : Type} : List (DataW H) → Nat
  | [] => 0
  | d :: r => uptoBulk d + uptoBulkAll r
def uptoBulkEntries {H : Type} : List (Lit × DataW H) → Nat
  | [] => 0
  | x :: r => uptoBulkEntry x + uptoBulkEntries r
def uptoBulkEntry {H : Type} : Lit × DataW H → Nat
  | (.string bytes, d) => bytes.length + uptoBulk d + 1
  | (_, d) => uptoBulk d + 1
 end
def uptoSmall : (H : Type) → List (DataW H) → Bool := fun _ ds => decide (uptoBulkAll ds ≤ 1048576)
def OpenSpec.upto (s : _root_.Go.ChangeSpec) : _root_.Go.OpenSpec := { _root_.Go.OpenSpec.ofChange s with cond := some uptoSmall }

/-- 'cutroomtop.TopUndo', WHERE WHAT IT READS IS OF BULK AT MOST 1048576: true; the input reads as it did. -/
def topUndoUptoRow : OpenClaim := { program := "ytbfnemkngoaeeaagreat", sum := "31a3ff594f245763212850748ca1da42d1368c1aa64d35e259f09b95c7c9d62a", func := "cutroom/cutroomtop.TopUndo", spec := "topUndo", inPlace := ["math/bits.Add64", "math/bits.Sub64"], unfollowed := true, recurses := true, named := ["math/bits.divideError", "math/bits.overflowError"], apart := false, narrowed := true }
def TopUndoUptoSaid : Prop := topUndoUptoRow.holds Tryz.pinned (OpenSpec.upto topUndoSpec)

/-- 'cutroomlaw36.MediaResolves', WHERE WHAT IT READS IS OF BULK AT MOST 1048576: true; the input reads as it did. -/
def mediaResolvesUptoRow : OpenClaim := { program := "ytbfnemkngoaeeaagreat", sum := "31a3ff594f245763212850748ca1da42d1368c1aa64d35e259f09b95c7c9d62a", func := "cutroom/cutroomlaw36.MediaResolves", spec := "mediaResolves", unfollowed := true, recurses := true, apart := false, narrowed := true }
def MediaResolvesUptoSaid : Prop := mediaResolvesUptoRow.holds Tryz.pinned (OpenSpec.upto mediaResolvesSpec)

/-- 'cutroomlaw36.MediaUsable', WHERE WHAT IT READS IS OF BULK AT MOST 1048576: true; the input reads as it did. -/
def mediaUsableUptoRow : OpenClaim := { program := "ytbfnemkngoaeeaagreat", sum := "31a3ff594f245763212850748ca1da42d1368c1aa64d35e259f09b95c7c9d62a", func := "cutroom/cutroomlaw36.MediaUsable", spec := "mediaUsable", unfollowed := true, recurses := true, apart := false, narrowed := true }
def MediaUsableUptoSaid : Prop := mediaUsableUptoRow.holds Tryz.pinned (OpenSpec.upto mediaUsableSpec)

/-- 'cutroomlaw36.MediaOthers', WHERE WHAT IT READS IS OF BULK AT MOST 1048576: true; the input reads as it did. -/
def mediaOthersUptoRow : OpenClaim := { program := "ytbfnemkngoaeeaagreat", sum := "31a3ff594f245763212850748ca1da42d1368c1aa64d35e259f09b95c7c9d62a", func := "cutroom/cutroomlaw36.MediaOthers", spec := "mediaOthers", unfollowed := true, recurses := true, apart := false, narrowed := true }
def MediaOthersUptoSaid : Prop := mediaOthersUptoRow.holds Tryz.pinned (OpenSpec.upto mediaOthersSpec)

/-- 'cutroomlaw23.TimelineSwaps', WHERE WHAT IT READS IS OF BULK AT MOST 1048576: true; the input reads as it did. -/
def timelineSwapsUptoRow : OpenClaim := { program := "ytbfnemkngoaeeaagreat", sum := "31a3ff594f245763212850748ca1da42d1368c1aa64d35e259f09b95c7c9d62a", func := "cutroom/cutroomlaw23.TimelineSwaps", spec := "timelineSwaps", inPlace := ["math/bits.Add64", "math/bits.Sub64"], unfollowed := true, recurses := true, named := ["math/bits.divideError", "math/bits.overflowError"], apart := false, narrowed := true }
def TimelineSwapsUptoSaid : Prop := timelineSwapsUptoRow.holds Tryz.pinned (OpenSpec.upto timelineSwapsSpec)

/-- 'cutroomlaw23.TimelineSwapBack', WHERE WHAT IT READS IS OF BULK AT MOST 1048576: true; the input reads as it did. -/
def timelineSwapBackUptoRow : OpenClaim := { program := "ytbfnemkngoaeeaagreat", sum := "31a3ff594f245763212850748ca1da42d1368c1aa64d35e259f09b95c7c9d62a", func := "cutroom/cutroomlaw23.TimelineSwapBack", spec := "timelineSwapBack", inPlace := ["math/bits.Add64", "math/bits.Sub64"], unfollowed := true, recurses := true, named := ["math/bits.divideError", "math/bits.overflowError"], apart := false, narrowed := true }
def TimelineSwapBackUptoSaid : Prop := timelineSwapBackUptoRow.holds Tryz.pinned (OpenSpec.upto timelineSwapBackSpec)

/-- 'cutroomlaw36.MediaShows', WHERE WHAT IT READS IS OF BULK AT MOST 1048576: true; the input reads as it did. -/
def mediaShowsUptoRow : OpenClaim := { program := "ytbfnemkngoaeeaagreat", sum := "31a3ff594f245763212850748ca1da42d1368c1aa64d35e259f09b95c7c9d62a", func := "cutroom/cutroomlaw36.MediaShows", spec := "mediaShows", inPlace := ["math/bits.Add64", "math/bits.Sub64"], unfollowed := true, recurses := true, named := ["math/bits.divideError", "math/bits.overflowError"], apart := false, narrowed := true }
def MediaShowsUptoSaid : Prop := mediaShowsUptoRow.holds Tryz.pinned (OpenSpec.upto mediaShowsSpec)

end Rows
end Go.Proofs.YtbfnemkngoaeeaaGreat
