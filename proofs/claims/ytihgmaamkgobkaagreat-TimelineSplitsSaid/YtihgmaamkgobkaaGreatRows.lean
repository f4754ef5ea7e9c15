/-
  No cell of these rows narrows 'for every input' (looked for: loops, veiled, ifaces, maps, wideKeys, modest, calm, conditions, laid).
  DERIVED. THE GIVEN ROWS OF THIS SEAT. 11 by the template 'for every input the law returns true; each argument reads behind the call as it read before'; 0 by the template 'total and deterministic' (their statements: YtihgmaamkgobkaaGreatTotals.lean).
  GIVEN WITH THE SEED: the statements are not yours to turn. If you find one false, say at which input.
  Laid BY PROGRAM, IN A SANDBOX (cutbox-rows.mjs): the forced cells as the released guide's own fill.sh prints them over the translation 68fb692d4ad39c28… (all of the seat's roots in one cut). By AI agents, Wed Nov 11 2026. No macro, syntax, notation, axiom, sorry.
-/
import Derived.Test.YtihgmaamkgobkaaGreatChecked
import GoSem.Claim
import GoSem.ClaimJoined
import GoSem.ClaimMapViews
import Derived.JoinedTies
import Derived.KernelRfl
namespace Go.Proofs.YtihgmaamkgobkaaGreat
/- THE CELL 'sum', in the pinned program and in every row, IS THE sha256 OF THE DUMP (.gsa) THAT YtihgmaamkgobkaaGreatProg.lean LOADS. Nothing in Lean hashes anything: it is a label: what it is worth is what the hold of that sum in a sandbox is worth. -/
noncomputable def Tryz.pinned : Pinned := { name := "ytihgmaamkgobkaagreat", sum := "68fb692d4ad39c2840ee71619e0e6ac3d134c392103a5351c994723a6b9fd23b", checked := Tryz.checked }
namespace Rows
def none {H : Type} : Left H := { results := [], args := [] }

/-- 'cutroomlaw23.TimelineClips': WHATEVER THE INPUT: true; the input reads as it did. -/
def timelineClipsSpec : ChangeSpec := { name := "timelineClips", fn := fun _ => fun
  | [d1, d2] => { results := [.lit (.bool true)], args := [d1, d2] }
  | _ => none }
def timelineClipsRow : OpenClaim := { program := "ytihgmaamkgobkaagreat", sum := "68fb692d4ad39c2840ee71619e0e6ac3d134c392103a5351c994723a6b9fd23b", func := "cutroom/cutroomlaw23.TimelineClips", spec := "timelineClips", inPlace := ["math/bits.Add64", "math/bits.Sub64"], unfollowed := true, recurses := true, named := ["math/bits.divideError", "math/bits.overflowError"], apart := false }
def TimelineClipsSaid : Prop := timelineClipsRow.holds Tryz.pinned (OpenSpec.ofChange timelineClipsSpec)

/-- ITS FALSE NEIGHBOUR: 'it returns false'. Refute it at one input. -/
def timelineClipsWrong : ChangeSpec := { name := "timelineClips", fn := fun _ => fun
  | [d1, d2] => { results := [.lit (.bool false)], args := [d1, d2] }
  | _ => none }
def TimelineClipsWrongFalsely : Prop := timelineClipsRow.holds Tryz.pinned (OpenSpec.ofChange timelineClipsWrong)

/-- 'cutroomlaw23.TimelineTracks': WHATEVER THE INPUT: true; the input reads as it did. -/
def timelineTracksSpec : ChangeSpec := { name := "timelineTracks", fn := fun _ => fun
  | [d1, d2, d3] => { results := [.lit (.bool true)], args := [d1, d2, d3] }
  | _ => none }
def timelineTracksRow : OpenClaim := { program := "ytihgmaamkgobkaagreat", sum := "68fb692d4ad39c2840ee71619e0e6ac3d134c392103a5351c994723a6b9fd23b", func := "cutroom/cutroomlaw23.TimelineTracks", spec := "timelineTracks", inPlace := ["math/bits.Add64", "math/bits.Sub64"], unfollowed := true, recurses := true, named := ["math/bits.divideError", "math/bits.overflowError"], apart := false }
def TimelineTracksSaid : Prop := timelineTracksRow.holds Tryz.pinned (OpenSpec.ofChange timelineTracksSpec)

/-- ITS FALSE NEIGHBOUR: 'it returns false'. Refute it at one input. -/
def timelineTracksWrong : ChangeSpec := { name := "timelineTracks", fn := fun _ => fun
  | [d1, d2, d3] => { results := [.lit (.bool false)], args := [d1, d2, d3] }
  | _ => none }
def TimelineTracksWrongFalsely : Prop := timelineTracksRow.holds Tryz.pinned (OpenSpec.ofChange timelineTracksWrong)

/-- 'cutroomlaw23.TimelineFinds': WHATEVER THE INPUT: true; the input reads as it did. -/
def timelineFindsSpec : ChangeSpec := { name := "timelineFinds", fn := fun _ => fun
  | [d] => { results := [.lit (.bool true)], args := [d] }
  | _ => none }
def timelineFindsRow : OpenClaim := { program := "ytihgmaamkgobkaagreat", sum := "68fb692d4ad39c2840ee71619e0e6ac3d134c392103a5351c994723a6b9fd23b", func := "cutroom/cutroomlaw23.TimelineFinds", spec := "timelineFinds", inPlace := ["math/bits.Add64", "math/bits.Sub64"], unfollowed := true, recurses := true, named := ["math/bits.divideError", "math/bits.overflowError"], apart := false }
def TimelineFindsSaid : Prop := timelineFindsRow.holds Tryz.pinned (OpenSpec.ofChange timelineFindsSpec)

/-- ITS FALSE NEIGHBOUR: 'it returns false'. Refute it at one input. -/
def timelineFindsWrong : ChangeSpec := { name := "timelineFinds", fn := fun _ => fun
  | [d] => { results := [.lit (.bool false)], args := [d] }
  | _ => none }
def TimelineFindsWrongFalsely : Prop := timelineFindsRow.holds Tryz.pinned (OpenSpec.ofChange timelineFindsWrong)

/-- 'cutroomlaw23.TimelinePacks': WHATEVER THE INPUT: true; the input reads as it did. -/
def timelinePacksSpec : ChangeSpec := { name := "timelinePacks", fn := fun _ => fun
  | [d1, d2, d3] => { results := [.lit (.bool true)], args := [d1, d2, d3] }
  | _ => none }
def timelinePacksRow : OpenClaim := { program := "ytihgmaamkgobkaagreat", sum := "68fb692d4ad39c2840ee71619e0e6ac3d134c392103a5351c994723a6b9fd23b", func := "cutroom/cutroomlaw23.TimelinePacks", spec := "timelinePacks", inPlace := ["math/bits.Add64", "math/bits.Sub64"], unfollowed := true, recurses := true, named := ["math/bits.divideError", "math/bits.overflowError"], apart := false }
def TimelinePacksSaid : Prop := timelinePacksRow.holds Tryz.pinned (OpenSpec.ofChange timelinePacksSpec)

/-- ITS FALSE NEIGHBOUR: 'it returns false'. Refute it at one input. -/
def timelinePacksWrong : ChangeSpec := { name := "timelinePacks", fn := fun _ => fun
  | [d1, d2, d3] => { results := [.lit (.bool false)], args := [d1, d2, d3] }
  | _ => none }
def TimelinePacksWrongFalsely : Prop := timelinePacksRow.holds Tryz.pinned (OpenSpec.ofChange timelinePacksWrong)

/-- 'cutroomlaw23.TimelineAdvances': WHATEVER THE INPUT: true; the input reads as it did. -/
def timelineAdvancesSpec : ChangeSpec := { name := "timelineAdvances", fn := fun _ => fun
  | [d1, d2, d3] => { results := [.lit (.bool true)], args := [d1, d2, d3] }
  | _ => none }
def timelineAdvancesRow : OpenClaim := { program := "ytihgmaamkgobkaagreat", sum := "68fb692d4ad39c2840ee71619e0e6ac3d134c392103a5351c994723a6b9fd23b", func := "cutroom/cutroomlaw23.TimelineAdvances", spec := "timelineAdvances", inPlace := ["math/bits.Add64", "math/bits.Sub64"], unfollowed := true, recurses := true, named := ["math/bits.divideError", "math/bits.overflowError"], apart := false }
def TimelineAdvancesSaid : Prop := timelineAdvancesRow.holds Tryz.pinned (OpenSpec.ofChange timelineAdvancesSpec)

/-- ITS FALSE NEIGHBOUR: 'it returns false'. Refute it at one input. -/
def timelineAdvancesWrong : ChangeSpec := { name := "timelineAdvances", fn := fun _ => fun
  | [d1, d2, d3] => { results := [.lit (.bool false)], args := [d1, d2, d3] }
  | _ => none }
def TimelineAdvancesWrongFalsely : Prop := timelineAdvancesRow.holds Tryz.pinned (OpenSpec.ofChange timelineAdvancesWrong)

/-- 'cutroomlaw23.TimelineSteps': WHATEVER THE INPUT: true; the input reads as it did. -/
def timelineStepsSpec : ChangeSpec := { name := "timelineSteps", fn := fun _ => fun
  | [d1, d2, d3] => { results := [.lit (.bool true)], args := [d1, d2, d3] }
  | _ => none }
def timelineStepsRow : OpenClaim := { program := "ytihgmaamkgobkaagreat", sum := "68fb692d4ad39c2840ee71619e0e6ac3d134c392103a5351c994723a6b9fd23b", func := "cutroom/cutroomlaw23.TimelineSteps", spec := "timelineSteps", inPlace := ["math/bits.Add64", "math/bits.Sub64"], unfollowed := true, recurses := true, named := ["math/bits.divideError", "math/bits.overflowError"], apart := false }
def TimelineStepsSaid : Prop := timelineStepsRow.holds Tryz.pinned (OpenSpec.ofChange timelineStepsSpec)

/-- ITS FALSE NEIGHBOUR: 'it returns false'. Refute it at one input. -/
def timelineStepsWrong : ChangeSpec := { name := "timelineSteps", fn := fun _ => fun
  | [d1, d2, d3] => { results := [.lit (.bool false)], args := [d1, d2, d3] }
  | _ => none }
def TimelineStepsWrongFalsely : Prop := timelineStepsRow.holds Tryz.pinned (OpenSpec.ofChange timelineStepsWrong)

/-- 'cutroomlaw23.TimelineNormalForm': WHATEVER THE INPUT: true; the input reads as it did. -/
def timelineNormalFormSpec : ChangeSpec := { name := "timelineNormalForm", fn := fun _ => fun
  | [d] => { results := [.lit (.bool true)], args := [d] }
  | _ => none }
def timelineNormalFormRow : OpenClaim := { program := "ytihgmaamkgobkaagreat", sum := "68fb692d4ad39c2840ee71619e0e6ac3d134c392103a5351c994723a6b9fd23b", func := "cutroom/cutroomlaw23.TimelineNormalForm", spec := "timelineNormalForm", inPlace := ["math/bits.Add64", "math/bits.Sub64"], unfollowed := true, recurses := true, named := ["math/bits.divideError", "math/bits.overflowError"], apart := false }
def TimelineNormalFormSaid : Prop := timelineNormalFormRow.holds Tryz.pinned (OpenSpec.ofChange timelineNormalFormSpec)

/-- ITS FALSE NEIGHBOUR: 'it returns false'. Refute it at one input. -/
def timelineNormalFormWrong : ChangeSpec := { name := "timelineNormalForm", fn := fun _ => fun
  | [d] => { results := [.lit (.bool false)], args := [d] }
  | _ => none }
def TimelineNormalFormWrongFalsely : Prop := timelineNormalFormRow.holds Tryz.pinned (OpenSpec.ofChange timelineNormalFormWrong)

/-- 'cutroomlaw23.TimelineSames': WHATEVER THE INPUT: true; the input reads as it did. -/
def timelineSamesSpec : ChangeSpec := { name := "timelineSames", fn := fun _ => fun
  | [d1, d2, d3, d4] => { results := [.lit (.bool true)], args := [d1, d2, d3, d4] }
  | _ => none }
def timelineSamesRow : OpenClaim := { program := "ytihgmaamkgobkaagreat", sum := "68fb692d4ad39c2840ee71619e0e6ac3d134c392103a5351c994723a6b9fd23b", func := "cutroom/cutroomlaw23.TimelineSames", spec := "timelineSames", inPlace := ["math/bits.Add64", "math/bits.Sub64"], unfollowed := true, recurses := true, named := ["math/bits.divideError", "math/bits.overflowError"], apart := false }
def TimelineSamesSaid : Prop := timelineSamesRow.holds Tryz.pinned (OpenSpec.ofChange timelineSamesSpec)

/-- ITS FALSE NEIGHBOUR: 'it returns false'. Refute it at one input. -/
def timelineSamesWrong : ChangeSpec := { name := "timelineSames", fn := fun _ => fun
  | [d1, d2, d3, d4] => { results := [.lit (.bool false)], args := [d1, d2, d3, d4] }
  | _ => none }
def TimelineSamesWrongFalsely : Prop := timelineSamesRow.holds Tryz.pinned (OpenSpec.ofChange timelineSamesWrong)

/-- 'cutroomlaw23.TimelineJoins': WHATEVER THE INPUT: true; the input reads as it did. -/
def timelineJoinsSpec : ChangeSpec := { name := "timelineJoins", fn := fun _ => fun
  | [d1, d2, d3, d4] => { results := [.lit (.bool true)], args := [d1, d2, d3, d4] }
  | _ => none }
def timelineJoinsRow : OpenClaim := { program := "ytihgmaamkgobkaagreat", sum := "68fb692d4ad39c2840ee71619e0e6ac3d134c392103a5351c994723a6b9fd23b", func := "cutroom/cutroomlaw23.TimelineJoins", spec := "timelineJoins", inPlace := ["math/bits.Add64", "math/bits.Sub64"], unfollowed := true, recurses := true, named := ["math/bits.divideError", "math/bits.overflowError"], apart := false }
def TimelineJoinsSaid : Prop := timelineJoinsRow.holds Tryz.pinned (OpenSpec.ofChange timelineJoinsSpec)

/-- ITS FALSE NEIGHBOUR: 'it returns false'. Refute it at one input. -/
def timelineJoinsWrong : ChangeSpec := { name := "timelineJoins", fn := fun _ => fun
  | [d1, d2, d3, d4] => { results := [.lit (.bool false)], args := [d1, d2, d3, d4] }
  | _ => none }
def TimelineJoinsWrongFalsely : Prop := timelineJoinsRow.holds Tryz.pinned (OpenSpec.ofChange timelineJoinsWrong)

/-- 'cutroomlaw23.TimelineSplits': WHATEVER THE INPUT: true; the input reads as it did. -/
def timelineSplitsSpec : ChangeSpec := { name := "timelineSplits", fn := fun _ => fun
  | [d1, d2] => { results := [.lit (.bool true)], args := [d1, d2] }
  | _ => none }
def timelineSplitsRow : OpenClaim := { program := "ytihgmaamkgobkaagreat", sum := "68fb692d4ad39c2840ee71619e0e6ac3d134c392103a5351c994723a6b9fd23b", func := "cutroom/cutroomlaw23.TimelineSplits", spec := "timelineSplits", inPlace := ["math/bits.Add64", "math/bits.Sub64"], unfollowed := true, recurses := true, named := ["math/bits.divideError", "math/bits.overflowError"], apart := false }
def TimelineSplitsSaid : Prop := timelineSplitsRow.holds Tryz.pinned (OpenSpec.ofChange timelineSplitsSpec)

/-- ITS FALSE NEIGHBOUR: 'it returns false'. Refute it at one input. -/
def timelineSplitsWrong : ChangeSpec := { name := "timelineSplits", fn := fun _ => fun
  | [d1, d2] => { results := [.lit (.bool false)], args := [d1, d2] }
  | _ => none }
def TimelineSplitsWrongFalsely : Prop := timelineSplitsRow.holds Tryz.pinned (OpenSpec.ofChange timelineSplitsWrong)

/-- 'cutroomlaw23.TimelineCutsJoin': WHATEVER THE INPUT: true; the input reads as it did. -/
def timelineCutsJoinSpec : ChangeSpec := { name := "timelineCutsJoin", fn := fun _ => fun
  | [d1, d2, d3, d4] => { results := [.lit (.bool true)], args := [d1, d2, d3, d4] }
  | _ => none }
def timelineCutsJoinRow : OpenClaim := { program := "ytihgmaamkgobkaagreat", sum := "68fb692d4ad39c2840ee71619e0e6ac3d134c392103a5351c994723a6b9fd23b", func := "cutroom/cutroomlaw23.TimelineCutsJoin", spec := "timelineCutsJoin", inPlace := ["math/bits.Add64", "math/bits.Sub64"], unfollowed := true, recurses := true, named := ["math/bits.divideError", "math/bits.overflowError"], apart := false }
def TimelineCutsJoinSaid : Prop := timelineCutsJoinRow.holds Tryz.pinned (OpenSpec.ofChange timelineCutsJoinSpec)

/-- ITS FALSE NEIGHBOUR: 'it returns false'. Refute it at one input. -/
def timelineCutsJoinWrong : ChangeSpec := { name := "timelineCutsJoin", fn := fun _ => fun
  | [d1, d2, d3, d4] => { results := [.lit (.bool false)], args := [d1, d2, d3, d4] }
  | _ => none }
def TimelineCutsJoinWrongFalsely : Prop := timelineCutsJoinRow.holds Tryz.pinned (OpenSpec.ofChange timelineCutsJoinWrong)

/- THE SECOND FORM. 'bulk': how many values and letters a reading holds, each counted each time it is reached (what is shared counts as often as it is met; a slice's spare places count too). A statement '..UptoSaid' is the law's where the arguments, and the package variables that the reading takes, are together of bulk at most 1048576: NARROWER than '..Said'. Prove '..Said' where nothing that the law and all that it calls make is longer than what came in: it says more and counts as full. Else prove '..UptoSaid'. A law counts once. -/
mutual
def uptoBulk {H : Type} : DataW H → Nat
  | .lit (.string bytes) => bytes.length + 1
  | .lit _ => 1
  | .nil => 1
  | .ptr d => uptoBulk d + 1
  | .slice elems spare => uptoBulkAll elems + uptoBulkAll spare + 1
  | .agg parts => uptoBulkAll parts + 1
  | .iface _ d => uptoBulk d + 1
  | .map entries => uptoBulkEntries entries + 1
  | .held _ => 1
def uptoBulkAll {H : Type} : List (DataW H) → Nat
  | [] => 0
  | d :: r => uptoBulk d + uptoBulkAll r
def uptoBulkEntries {H : Type} : List (Lit × DataW H) → Nat
  | [] => 0
  | x :: r => uptoBulkEntry x + uptoBulkEntries r
def uptoBulkEntry {H : Type} : Lit × DataW H → Nat
  | (.string bytes, d) => bytes.length + uptoBulk d + 1
  | (_, d) => uptoBulk d + 1
 end
def uptoSmall : (H : Type) → List (DataW H) → Bool := fun _ ds => decide (uptoBulkAll ds ≤ 1048576)
def OpenSpec.upto (s : _root_.Go.ChangeSpec) : _root_.Go.OpenSpec := { _root_.Go.OpenSpec.ofChange s with cond := some uptoSmall }

/-- 'cutroomlaw23.TimelineClips', WHERE WHAT IT READS IS OF BULK AT MOST 1048576: true; the input reads as it did. -/
def timelineClipsUptoRow : OpenClaim := { program := "ytihgmaamkgobkaagreat", sum := "68fb692d4ad39c2840ee71619e0e6ac3d134c392103a5351c994723a6b9fd23b", func := "cutroom/cutroomlaw23.TimelineClips", spec := "timelineClips", inPlace := ["math/bits.Add64", "math/bits.Sub64"], unfollowed := true, recurses := true, named := ["math/bits.divideError", "math/bits.overflowError"], apart := false, narrowed := true }
def TimelineClipsUptoSaid : Prop := timelineClipsUptoRow.holds Tryz.pinned (OpenSpec.upto timelineClipsSpec)

/-- 'cutroomlaw23.TimelineTracks', WHERE WHAT IT READS IS OF BULK AT MOST 1048576: true; the input reads as it did. -/
def timelineTracksUptoRow : OpenClaim := { program := "ytihgmaamkgobkaagreat", sum := "68fb692d4ad39c2840ee71619e0e6ac3d134c392103a5351c994723a6b9fd23b", func := "cutroom/cutroomlaw23.TimelineTracks", spec := "timelineTracks", inPlace := ["math/bits.Add64", "math/bits.Sub64"], unfollowed := true, recurses := true, named := ["math/bits.divideError", "math/bits.overflowError"], apart := false, narrowed := true }
def TimelineTracksUptoSaid : Prop := timelineTracksUptoRow.holds Tryz.pinned (OpenSpec.upto timelineTracksSpec)

/-- 'cutroomlaw23.TimelineFinds', WHERE WHAT IT READS IS OF BULK AT MOST 1048576: true; the input reads as it did. -/
def timelineFindsUptoRow : OpenClaim := { program := "ytihgmaamkgobkaagreat", sum := "68fb692d4ad39c2840ee71619e0e6ac3d134c392103a5351c994723a6b9fd23b", func := "cutroom/cutroomlaw23.TimelineFinds", spec := "timelineFinds", inPlace := ["math/bits.Add64", "math/bits.Sub64"], unfollowed := true, recurses := true, named := ["math/bits.divideError", "math/bits.overflowError"], apart := false, narrowed := true }
def TimelineFindsUptoSaid : Prop := timelineFindsUptoRow.holds Tryz.pinned (OpenSpec.upto timelineFindsSpec)

/-- 'cutroomlaw23.TimelinePacks', WHERE WHAT IT READS IS OF BULK AT MOST 1048576: true; the input reads as it did. -/
def timelinePacksUptoRow : OpenClaim := { program := "ytihgmaamkgobkaagreat", sum := "68fb692d4ad39c2840ee71619e0e6ac3d134c392103a5351c994723a6b9fd23b", func := "cutroom/cutroomlaw23.TimelinePacks", spec := "timelinePacks", inPlace := ["math/bits.Add64", "math/bits.Sub64"], unfollowed := true, recurses := true, named := ["math/bits.divideError", "math/bits.overflowError"], apart := false, narrowed := true }
def TimelinePacksUptoSaid : Prop := timelinePacksUptoRow.holds Tryz.pinned (OpenSpec.upto timelinePacksSpec)

/-- 'cutroomlaw23.TimelineAdvances', WHERE WHAT IT READS IS OF BULK AT MOST 1048576: true; the input reads as it did. -/
def timelineAdvancesUptoRow : OpenClaim := { program := "ytihgmaamkgobkaagreat", sum := "68fb692d4ad39c2840ee71619e0e6ac3d134c392103a5351c994723a6b9fd23b", func := "cutroom/cutroomlaw23.TimelineAdvances", spec := "timelineAdvances", inPlace := ["math/bits.Add64", "math/bits.Sub64"], unfollowed := true, recurses := true, named := ["math/bits.divideError", "math/bits.overflowError"], apart := false, narrowed := true }
def TimelineAdvancesUptoSaid : Prop := timelineAdvancesUptoRow.holds Tryz.pinned (OpenSpec.upto timelineAdvancesSpec)

/-- 'cutroomlaw23.TimelineSteps', WHERE WHAT IT READS IS OF BULK AT MOST 1048576: true; the input reads as it did. -/
def timelineStepsUptoRow : OpenClaim := { program := "ytihgmaamkgobkaagreat", sum := "68fb692d4ad39c2840ee71619e0e6ac3d134c392103a5351c994723a6b9fd23b", func := "cutroom/cutroomlaw23.TimelineSteps", spec := "timelineSteps", inPlace := ["math/bits.Add64", "math/bits.Sub64"], unfollowed := true, recurses := true, named := ["math/bits.divideError", "math/bits.overflowError"], apart := false, narrowed := true }
def TimelineStepsUptoSaid : Prop := timelineStepsUptoRow.holds Tryz.pinned (OpenSpec.upto timelineStepsSpec)

/-- 'cutroomlaw23.TimelineNormalForm', WHERE WHAT IT READS IS OF BULK AT MOST 1048576: true; the input reads as it did. -/
def timelineNormalFormUptoRow : OpenClaim := { program := "ytihgmaamkgobkaagreat", sum := "68fb692d4ad39c2840ee71619e0e6ac3d134c392103a5351c994723a6b9fd23b", func := "cutroom/cutroomlaw23.TimelineNormalForm", spec := "timelineNormalForm", inPlace := ["math/bits.Add64", "math/bits.Sub64"], unfollowed := true, recurses := true, named := ["math/bits.divideError", "math/bits.overflowError"], apart := false, narrowed := true }
def TimelineNormalFormUptoSaid : Prop := timelineNormalFormUptoRow.holds Tryz.pinned (OpenSpec.upto timelineNormalFormSpec)

/-- 'cutroomlaw23.TimelineSames', WHERE WHAT IT READS IS OF BULK AT MOST 1048576: true; the input reads as it did. -/
def timelineSamesUptoRow : OpenClaim := { program := "ytihgmaamkgobkaagreat", sum := "68fb692d4ad39c2840ee71619e0e6ac3d134c392103a5351c994723a6b9fd23b", func := "cutroom/cutroomlaw23.TimelineSames", spec := "timelineSames", inPlace := ["math/bits.Add64", "math/bits.Sub64"], unfollowed := true, recurses := true, named := ["math/bits.divideError", "math/bits.overflowError"], apart := false, narrowed := true }
def TimelineSamesUptoSaid : Prop := timelineSamesUptoRow.holds Tryz.pinned (OpenSpec.upto timelineSamesSpec)

/-- 'cutroomlaw23.TimelineJoins', WHERE WHAT IT READS IS OF BULK AT MOST 1048576: true; the input reads as it did. -/
def timelineJoinsUptoRow : OpenClaim := { program := "ytihgmaamkgobkaagreat", sum := "68fb692d4ad39c2840ee71619e0e6ac3d134c392103a5351c994723a6b9fd23b", func := "cutroom/cutroomlaw23.TimelineJoins", spec := "timelineJoins", inPlace := ["math/bits.Add64", "math/bits.Sub64"], unfollowed := true, recurses := true, named := ["math/bits.divideError", "math/bits.overflowError"], apart := false, narrowed := true }
def TimelineJoinsUptoSaid : Prop := timelineJoinsUptoRow.holds Tryz.pinned (OpenSpec.upto timelineJoinsSpec)

/-- 'cutroomlaw23.TimelineSplits', WHERE WHAT IT READS IS OF BULK AT MOST 1048576: true; the input reads as it did. -/
def timelineSplitsUptoRow : OpenClaim := { program := "ytihgmaamkgobkaagreat", sum := "68fb692d4ad39c2840ee71619e0e6ac3d134c392103a5351c994723a6b9fd23b", func := "cutroom/cutroomlaw23.TimelineSplits", spec := "timelineSplits", inPlace := ["math/bits.Add64", "math/bits.Sub64"], unfollowed := true, recurses := true, named := ["math/bits.divideError", "math/bits.overflowError"], apart := false, narrowed := true }
def TimelineSplitsUptoSaid : Prop := timelineSplitsUptoRow.holds Tryz.pinned (OpenSpec.upto timelineSplitsSpec)

/-- 'cutroomlaw23.TimelineCutsJoin', WHERE WHAT IT READS IS OF BULK AT MOST 1048576: true; the input reads as it did. -/
def timelineCutsJoinUptoRow : OpenClaim := { program := "ytihgmaamkgobkaagreat", sum := "68fb692d4ad39c2840ee71619e0e6ac3d134c392103a5351c994723a6b9fd23b", func := "cutroom/cutroomlaw23.TimelineCutsJoin", spec := "timelineCutsJoin", inPlace := ["math/bits.Add64", "math/bits.Sub64"], unfollowed := true, recurses := true, named := ["math/bits.divideError", "math/bits.overflowError"], apart := false, narrowed := true }
def TimelineCutsJoinUptoSaid : Prop := timelineCutsJoinUptoRow.holds Tryz.pinned (OpenSpec.upto timelineCutsJoinSpec)

end Rows
end Go.Proofs.YtihgmaamkgobkaaGreat
