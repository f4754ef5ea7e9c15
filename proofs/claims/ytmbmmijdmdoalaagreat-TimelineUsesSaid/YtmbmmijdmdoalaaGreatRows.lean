/-
  No cell of these rows narrows 'for every input' (looked for: loops, veiled, ifaces, maps, wideKeys, modest, calm, conditions, laid).
  DERIVED. THE GIVEN ROWS OF THIS SEAT. 10 by the template 'for every input the law returns true; each argument reads behind the call as it read before'; 0 by the template 'total and deterministic' (their statements: YtmbmmijdmdoalaaGreatTotals.lean).
  GIVEN WITH THE SEED: the statements are not yours to turn. If you find one false, say at which input.
  Laid BY PROGRAM, IN A SANDBOX (cutbox-rows.mjs): the forced cells as the released guide's own fill.sh prints them over the translation f15407ea5e54ed17… (all of the seat's roots in one cut). By AI agents, Wed Nov 11 2026. No macro, syntax, notation, axiom, sorry.
-/
import Derived.Test.YtmbmmijdmdoalaaGreatChecked
import GoSem.Claim
import GoSem.ClaimJoined
import GoSem.ClaimMapViews
import Derived.JoinedTies
import Derived.KernelRfl
namespace Go.Proofs.YtmbmmijdmdoalaaGreat
/- THE CELL 'sum', in the pinned program and in every row, IS THE sha256 OF THE DUMP (.gsa) THAT YtmbmmijdmdoalaaGreatProg.lean LOADS. Nothing in Lean hashes anything: it is a label: what it is worth is what the hold of that sum in a sandbox is worth. -/
noncomputable def Tryz.pinned : Pinned := { name := "ytmbmmijdmdoalaagreat", sum := "f15407ea5e54ed17118a4e530d3af88320ba18deeee74fd9b0d49bca4fa606ed", checked := Tryz.checked }
namespace Rows
def none {H : Type} : Left H := { results := [], args := [] }

/-- 'cutroomlaw23.TimelineUses': WHATEVER THE INPUT: true; the input reads as it did. -/
def timelineUsesSpec : ChangeSpec := { name := "timelineUses", fn := fun _ => fun
  | [d1, d2, d3, d4] => { results := [.lit (.bool true)], args := [d1, d2, d3, d4] }
  | _ => none }
def timelineUsesRow : OpenClaim := { program := "ytmbmmijdmdoalaagreat", sum := "f15407ea5e54ed17118a4e530d3af88320ba18deeee74fd9b0d49bca4fa606ed", func := "cutroom/cutroomlaw23.TimelineUses", spec := "timelineUses", inPlace := ["math/bits.Add64", "math/bits.Sub64"], unfollowed := true, recurses := true, named := ["math/bits.divideError", "math/bits.overflowError"], apart := false }
def TimelineUsesSaid : Prop := timelineUsesRow.holds Tryz.pinned (OpenSpec.ofChange timelineUsesSpec)

/-- ITS FALSE NEIGHBOUR: 'it returns false'. Refute it at one input. -/
def timelineUsesWrong : ChangeSpec := { name := "timelineUses", fn := fun _ => fun
  | [d1, d2, d3, d4] => { results := [.lit (.bool false)], args := [d1, d2, d3, d4] }
  | _ => none }
def TimelineUsesWrongFalsely : Prop := timelineUsesRow.holds Tryz.pinned (OpenSpec.ofChange timelineUsesWrong)

/-- 'cutroomlaw25.DenoteFilms': WHATEVER THE INPUT: true; the input reads as it did. -/
def denoteFilmsSpec : ChangeSpec := { name := "denoteFilms", fn := fun _ => fun
  | [d1, d2, d3, d4] => { results := [.lit (.bool true)], args := [d1, d2, d3, d4] }
  | _ => none }
def denoteFilmsRow : OpenClaim := { program := "ytmbmmijdmdoalaagreat", sum := "f15407ea5e54ed17118a4e530d3af88320ba18deeee74fd9b0d49bca4fa606ed", func := "cutroom/cutroomlaw25.DenoteFilms", spec := "denoteFilms", unfollowed := true, recurses := true, apart := false }
def DenoteFilmsSaid : Prop := denoteFilmsRow.holds Tryz.pinned (OpenSpec.ofChange denoteFilmsSpec)

/-- ITS FALSE NEIGHBOUR: 'it returns false'. Refute it at one input. -/
def denoteFilmsWrong : ChangeSpec := { name := "denoteFilms", fn := fun _ => fun
  | [d1, d2, d3, d4] => { results := [.lit (.bool false)], args := [d1, d2, d3, d4] }
  | _ => none }
def DenoteFilmsWrongFalsely : Prop := denoteFilmsRow.holds Tryz.pinned (OpenSpec.ofChange denoteFilmsWrong)

/-- 'cutroomlaw36.MediaResolves': WHATEVER THE INPUT: true; the input reads as it did. -/
def mediaResolvesSpec : ChangeSpec := { name := "mediaResolves", fn := fun _ => fun
  | [d1, d2, d3, d4, d5] => { results := [.lit (.bool true)], args := [d1, d2, d3, d4, d5] }
  | _ => none }
def mediaResolvesRow : OpenClaim := { program := "ytmbmmijdmdoalaagreat", sum := "f15407ea5e54ed17118a4e530d3af88320ba18deeee74fd9b0d49bca4fa606ed", func := "cutroom/cutroomlaw36.MediaResolves", spec := "mediaResolves", unfollowed := true, recurses := true, apart := false }
def MediaResolvesSaid : Prop := mediaResolvesRow.holds Tryz.pinned (OpenSpec.ofChange mediaResolvesSpec)

/-- ITS FALSE NEIGHBOUR: 'it returns false'. Refute it at one input. -/
def mediaResolvesWrong : ChangeSpec := { name := "mediaResolves", fn := fun _ => fun
  | [d1, d2, d3, d4, d5] => { results := [.lit (.bool false)], args := [d1, d2, d3, d4, d5] }
  | _ => none }
def MediaResolvesWrongFalsely : Prop := mediaResolvesRow.holds Tryz.pinned (OpenSpec.ofChange mediaResolvesWrong)

/-- 'cutroomlaw36.MediaUsable': WHATEVER THE INPUT: true; the input reads as it did. -/
def mediaUsableSpec : ChangeSpec := { name := "mediaUsable", fn := fun _ => fun
  | [d1, d2] => { results := [.lit (.bool true)], args := [d1, d2] }
  | _ => none }
def mediaUsableRow : OpenClaim := { program := "ytmbmmijdmdoalaagreat", sum := "f15407ea5e54ed17118a4e530d3af88320ba18deeee74fd9b0d49bca4fa606ed", func := "cutroom/cutroomlaw36.MediaUsable", spec := "mediaUsable", unfollowed := true, recurses := true, apart := false }
def MediaUsableSaid : Prop := mediaUsableRow.holds Tryz.pinned (OpenSpec.ofChange mediaUsableSpec)

/-- ITS FALSE NEIGHBOUR: 'it returns false'. Refute it at one input. -/
def mediaUsableWrong : ChangeSpec := { name := "mediaUsable", fn := fun _ => fun
  | [d1, d2] => { results := [.lit (.bool false)], args := [d1, d2] }
  | _ => none }
def MediaUsableWrongFalsely : Prop := mediaUsableRow.holds Tryz.pinned (OpenSpec.ofChange mediaUsableWrong)

/-- 'cutroomlaw36.MediaOthers': WHATEVER THE INPUT: true; the input reads as it did. -/
def mediaOthersSpec : ChangeSpec := { name := "mediaOthers", fn := fun _ => fun
  | [d1, d2, d3] => { results := [.lit (.bool true)], args := [d1, d2, d3] }
  | _ => none }
def mediaOthersRow : OpenClaim := { program := "ytmbmmijdmdoalaagreat", sum := "f15407ea5e54ed17118a4e530d3af88320ba18deeee74fd9b0d49bca4fa606ed", func := "cutroom/cutroomlaw36.MediaOthers", spec := "mediaOthers", unfollowed := true, recurses := true, apart := false }
def MediaOthersSaid : Prop := mediaOthersRow.holds Tryz.pinned (OpenSpec.ofChange mediaOthersSpec)

/-- ITS FALSE NEIGHBOUR: 'it returns false'. Refute it at one input. -/
def mediaOthersWrong : ChangeSpec := { name := "mediaOthers", fn := fun _ => fun
  | [d1, d2, d3] => { results := [.lit (.bool false)], args := [d1, d2, d3] }
  | _ => none }
def MediaOthersWrongFalsely : Prop := mediaOthersRow.holds Tryz.pinned (OpenSpec.ofChange mediaOthersWrong)

/-- 'cutroomlaw23.TimelineSwaps': WHATEVER THE INPUT: true; the input reads as it did. -/
def timelineSwapsSpec : ChangeSpec := { name := "timelineSwaps", fn := fun _ => fun
  | [d1, d2, d3, d4, d5] => { results := [.lit (.bool true)], args := [d1, d2, d3, d4, d5] }
  | _ => none }
def timelineSwapsRow : OpenClaim := { program := "ytmbmmijdmdoalaagreat", sum := "f15407ea5e54ed17118a4e530d3af88320ba18deeee74fd9b0d49bca4fa606ed", func := "cutroom/cutroomlaw23.TimelineSwaps", spec := "timelineSwaps", inPlace := ["math/bits.Add64", "math/bits.Sub64"], unfollowed := true, recurses := true, named := ["math/bits.divideError", "math/bits.overflowError"], apart := false }
def TimelineSwapsSaid : Prop := timelineSwapsRow.holds Tryz.pinned (OpenSpec.ofChange timelineSwapsSpec)

/-- ITS FALSE NEIGHBOUR: 'it returns false'. Refute it at one input. -/
def timelineSwapsWrong : ChangeSpec := { name := "timelineSwaps", fn := fun _ => fun
  | [d1, d2, d3, d4, d5] => { results := [.lit (.bool false)], args := [d1, d2, d3, d4, d5] }
  | _ => none }
def TimelineSwapsWrongFalsely : Prop := timelineSwapsRow.holds Tryz.pinned (OpenSpec.ofChange timelineSwapsWrong)

/-- 'cutroomlaw23.TimelineSwapBack': WHATEVER THE INPUT: true; the input reads as it did. -/
def timelineSwapBackSpec : ChangeSpec := { name := "timelineSwapBack", fn := fun _ => fun
  | [d] => { results := [.lit (.bool true)], args := [d] }
  | _ => none }
def timelineSwapBackRow : OpenClaim := { program := "ytmbmmijdmdoalaagreat", sum := "f15407ea5e54ed17118a4e530d3af88320ba18deeee74fd9b0d49bca4fa606ed", func := "cutroom/cutroomlaw23.TimelineSwapBack", spec := "timelineSwapBack", inPlace := ["math/bits.Add64", "math/bits.Sub64"], unfollowed := true, recurses := true, named := ["math/bits.divideError", "math/bits.overflowError"], apart := false }
def TimelineSwapBackSaid : Prop := timelineSwapBackRow.holds Tryz.pinned (OpenSpec.ofChange timelineSwapBackSpec)

/-- ITS FALSE NEIGHBOUR: 'it returns false'. Refute it at one input. -/
def timelineSwapBackWrong : ChangeSpec := { name := "timelineSwapBack", fn := fun _ => fun
  | [d] => { results := [.lit (.bool false)], args := [d] }
  | _ => none }
def TimelineSwapBackWrongFalsely : Prop := timelineSwapBackRow.holds Tryz.pinned (OpenSpec.ofChange timelineSwapBackWrong)

/-- 'cutroomlaw25.DenoteNested': WHATEVER THE INPUT: true; the input reads as it did. -/
def denoteNestedSpec : ChangeSpec := { name := "denoteNested", fn := fun _ => fun
  | [d1, d2, d3] => { results := [.lit (.bool true)], args := [d1, d2, d3] }
  | _ => none }
def denoteNestedRow : OpenClaim := { program := "ytmbmmijdmdoalaagreat", sum := "f15407ea5e54ed17118a4e530d3af88320ba18deeee74fd9b0d49bca4fa606ed", func := "cutroom/cutroomlaw25.DenoteNested", spec := "denoteNested", inPlace := ["math/bits.Add64", "math/bits.Sub64"], unfollowed := true, recurses := true, named := ["math/bits.divideError", "math/bits.overflowError"], apart := false }
def DenoteNestedSaid : Prop := denoteNestedRow.holds Tryz.pinned (OpenSpec.ofChange denoteNestedSpec)

/-- ITS FALSE NEIGHBOUR: 'it returns false'. Refute it at one input. -/
def denoteNestedWrong : ChangeSpec := { name := "denoteNested", fn := fun _ => fun
  | [d1, d2, d3] => { results := [.lit (.bool false)], args := [d1, d2, d3] }
  | _ => none }
def DenoteNestedWrongFalsely : Prop := denoteNestedRow.holds Tryz.pinned (OpenSpec.ofChange denoteNestedWrong)

/-- 'cutroomlaw25.DenoteFrames': WHATEVER THE INPUT: true; the input reads as it did. -/
def denoteFramesSpec : ChangeSpec := { name := "denoteFrames", fn := fun _ => fun
  | [d1, d2, d3, d4, d5] => { results := [.lit (.bool true)], args := [d1, d2, d3, d4, d5] }
  | _ => none }
def denoteFramesRow : OpenClaim := { program := "ytmbmmijdmdoalaagreat", sum := "f15407ea5e54ed17118a4e530d3af88320ba18deeee74fd9b0d49bca4fa606ed", func := "cutroom/cutroomlaw25.DenoteFrames", spec := "denoteFrames", inPlace := ["math/bits.Add64", "math/bits.Sub64"], unfollowed := true, recurses := true, named := ["math/bits.divideError", "math/bits.overflowError"], apart := false }
def DenoteFramesSaid : Prop := denoteFramesRow.holds Tryz.pinned (OpenSpec.ofChange denoteFramesSpec)

/-- ITS FALSE NEIGHBOUR: 'it returns false'. Refute it at one input. -/
def denoteFramesWrong : ChangeSpec := { name := "denoteFrames", fn := fun _ => fun
  | [d1, d2, d3, d4, d5] => { results := [.lit (.bool false)], args := [d1, d2, d3, d4, d5] }
  | _ => none }
def DenoteFramesWrongFalsely : Prop := denoteFramesRow.holds Tryz.pinned (OpenSpec.ofChange denoteFramesWrong)

/-- 'cutroomlaw25.DenoteTop': WHATEVER THE INPUT: true; the input reads as it did. -/
def denoteTopSpec : ChangeSpec := { name := "denoteTop", fn := fun _ => fun
  | [d] => { results := [.lit (.bool true)], args := [d] }
  | _ => none }
def denoteTopRow : OpenClaim := { program := "ytmbmmijdmdoalaagreat", sum := "f15407ea5e54ed17118a4e530d3af88320ba18deeee74fd9b0d49bca4fa606ed", func := "cutroom/cutroomlaw25.DenoteTop", spec := "denoteTop", inPlace := ["math/bits.Add64", "math/bits.Sub64"], unfollowed := true, recurses := true, named := ["math/bits.divideError", "math/bits.overflowError"], apart := false }
def DenoteTopSaid : Prop := denoteTopRow.holds Tryz.pinned (OpenSpec.ofChange denoteTopSpec)

/-- ITS FALSE NEIGHBOUR: 'it returns false'. Refute it at one input. -/
def denoteTopWrong : ChangeSpec := { name := "denoteTop", fn := fun _ => fun
  | [d] => { results := [.lit (.bool false)], args := [d] }
  | _ => none }
def DenoteTopWrongFalsely : Prop := denoteTopRow.holds Tryz.pinned (OpenSpec.ofChange denoteTopWrong)

/- THE SECOND FORM. 'bulk': how many values and letters a reading holds, each counted each time it is reached (what is shared counts as often as it is met; a slice's spare places count too). A statement '..UptoSaid' is the law's where the arguments, and the package variables that the reading takes, are together of bulk at most 1048576: NARROWER than '..Said'. Prove '..Said' where nothing that the law and all that it calls make is longer than what came in: it says more and counts as full. Else prove '..UptoSaid'. A law counts once. -/
mutual
def uptoBulk {H : Type} : DataW H → Nat
  | .lit (.string bytes) => bytes.length + 1
  | .lit _ => 1
  | .nil => 1
  | .ptr d => uptoBulk d + 1
  | .slice elems spare => uptoBulkAll elems + uptoBulkAll spare + 1
  | .agg parts => uptoBulkAll parts + 1
  | .iface _ d => uptoBulk d + 1
  | .map entries => uptoBulkEntries entries + 1
  | .held _ => 1
def uptoBulkAll {H : Type} : List (DataW H) → Nat
  | [] => 0
  | d :: r => uptoBulk d + uptoBulkAll r
def uptoBulkEntries {H : Type} : List (Lit × DataW H) → Nat
  | [] => 0
  | x :: r => uptoBulkEntry x + uptoBulkEntries r
def uptoBulkEntry {H : Type} : Lit × DataW H → Nat
  | (.string bytes, d) => bytes.length + uptoBulk d + 1
  | (_, d) => uptoBulk d + 1
 end
def uptoSmall : (H : Type) → List (DataW H) → Bool := fun _ ds => decide (uptoBulkAll ds ≤ 1048576)
def OpenSpec.upto (s : _root_.Go.ChangeSpec) : _root_.Go.OpenSpec := { _root_.Go.OpenSpec.ofChange s with cond := some uptoSmall }

/-- 'cutroomlaw23.TimelineUses', WHERE WHAT IT READS IS OF BULK AT MOST 1048576: true; the input reads as it did. -/
def timelineUsesUptoRow : OpenClaim := { program := "ytmbmmijdmdoalaagreat", sum := "f15407ea5e54ed17118a4e530d3af88320ba18deeee74fd9b0d49bca4fa606ed", func := "cutroom/cutroomlaw23.TimelineUses", spec := "timelineUses", inPlace := ["math/bits.Add64", "math/bits.Sub64"], unfollowed := true, recurses := true, named := ["math/bits.divideError", "math/bits.overflowError"], apart := false, narrowed := true }
def TimelineUsesUptoSaid : Prop := timelineUsesUptoRow.holds Tryz.pinned (OpenSpec.upto timelineUsesSpec)

/-- 'cutroomlaw25.DenoteFilms', WHERE WHAT IT READS IS OF BULK AT MOST 1048576: true; the input reads as it did. -/
def denoteFilmsUptoRow : OpenClaim := { program := "ytmbmmijdmdoalaagreat", sum := "f15407ea5e54ed17118a4e530d3af88320ba18deeee74fd9b0d49bca4fa606ed", func := "cutroom/cutroomlaw25.DenoteFilms", spec := "denoteFilms", unfollowed := true, recurses := true, apart := false, narrowed := true }
def DenoteFilmsUptoSaid : Prop := denoteFilmsUptoRow.holds Tryz.pinned (OpenSpec.upto denoteFilmsSpec)

/-- 'cutroomlaw36.MediaResolves', WHERE WHAT IT READS IS OF BULK AT MOST 1048576: true; the input reads as it did. -/
def mediaResolvesUptoRow : OpenClaim := { program := "ytmbmmijdmdoalaagreat", sum := "f15407ea5e54ed17118a4e530d3af88320ba18deeee74fd9b0d49bca4fa606ed", func := "cutroom/cutroomlaw36.MediaResolves", spec := "mediaResolves", unfollowed := true, recurses := true, apart := false, narrowed := true }
def MediaResolvesUptoSaid : Prop := mediaResolvesUptoRow.holds Tryz.pinned (OpenSpec.upto mediaResolvesSpec)

/-- 'cutroomlaw36.MediaUsable', WHERE WHAT IT READS IS OF BULK AT MOST 1048576: true; the input reads as it did. -/
def mediaUsableUptoRow : OpenClaim := { program := "ytmbmmijdmdoalaagreat", sum := "f15407ea5e54ed17118a4e530d3af88320ba18deeee74fd9b0d49bca4fa606ed", func := "cutroom/cutroomlaw36.MediaUsable", spec := "mediaUsable", unfollowed := true, recurses := true, apart := false, narrowed := true }
def MediaUsableUptoSaid : Prop := mediaUsableUptoRow.holds Tryz.pinned (OpenSpec.upto mediaUsableSpec)

/-- 'cutroomlaw36.MediaOthers', WHERE WHAT IT READS IS OF BULK AT MOST 1048576: true; the input reads as it did. -/
def mediaOthersUptoRow : OpenClaim := { program := "ytmbmmijdmdoalaagreat", sum := "f15407ea5e54ed17118a4e530d3af88320ba18deeee74fd9b0d49bca4fa606ed", func := "cutroom/cutroomlaw36.MediaOthers", spec := "mediaOthers", unfollowed := true, recurses := true, apart := false, narrowed := true }
def MediaOthersUptoSaid : Prop := mediaOthersUptoRow.holds Tryz.pinned (OpenSpec.upto mediaOthersSpec)

/-- 'cutroomlaw23.TimelineSwaps', WHERE WHAT IT READS IS OF BULK AT MOST 1048576: true; the input reads as it did. -/
def timelineSwapsUptoRow : OpenClaim := { program := "ytmbmmijdmdoalaagreat", sum := "f15407ea5e54ed17118a4e530d3af88320ba18deeee74fd9b0d49bca4fa606ed", func := "cutroom/cutroomlaw23.TimelineSwaps", spec := "timelineSwaps", inPlace := ["math/bits.Add64", "math/bits.Sub64"], unfollowed := true, recurses := true, named := ["math/bits.divideError", "math/bits.overflowError"], apart := false, narrowed := true }
def TimelineSwapsUptoSaid : Prop := timelineSwapsUptoRow.holds Tryz.pinned (OpenSpec.upto timelineSwapsSpec)

/-- 'cutroomlaw23.TimelineSwapBack', WHERE WHAT IT READS IS OF BULK AT MOST 1048576: true; the input reads as it did. -/
def timelineSwapBackUptoRow : OpenClaim := { program := "ytmbmmijdmdoalaagreat", sum := "f15407ea5e54ed17118a4e530d3af88320ba18deeee74fd9b0d49bca4fa606ed", func := "cutroom/cutroomlaw23.TimelineSwapBack", spec := "timelineSwapBack", inPlace := ["math/bits.Add64", "math/bits.Sub64"], unfollowed := true, recurses := true, named := ["math/bits.divideError", "math/bits.overflowError"], apart := false, narrowed := true }
def TimelineSwapBackUptoSaid : Prop := timelineSwapBackUptoRow.holds Tryz.pinned (OpenSpec.upto timelineSwapBackSpec)

/-- 'cutroomlaw25.DenoteNested', WHERE WHAT IT READS IS OF BULK AT MOST 1048576: true; the input reads as it did. -/
def denoteNestedUptoRow : OpenClaim := { program := "ytmbmmijdmdoalaagreat", sum := "f15407ea5e54ed17118a4e530d3af88320ba18deeee74fd9b0d49bca4fa606ed", func := "cutroom/cutroomlaw25.DenoteNested", spec := "denoteNested", inPlace := ["math/bits.Add64", "math/bits.Sub64"], unfollowed := true, recurses := true, named := ["math/bits.divideError", "math/bits.overflowError"], apart := false, narrowed := true }
def DenoteNestedUptoSaid : Prop := denoteNestedUptoRow.holds Tryz.pinned (OpenSpec.upto denoteNestedSpec)

/-- 'cutroomlaw25.DenoteFrames', WHERE WHAT IT READS IS OF BULK AT MOST 1048576: true; the input reads as it did. -/
def denoteFramesUptoRow : OpenClaim := { program := "ytmbmmijdmdoalaagreat", sum := "f15407ea5e54ed17118a4e530d3af88320ba18deeee74fd9b0d49bca4fa606ed", func := "cutroom/cutroomlaw25.DenoteFrames", spec := "denoteFrames", inPlace := ["math/bits.Add64", "math/bits.Sub64"], unfollowed := true, recurses := true, named := ["math/bits.divideError", "math/bits.overflowError"], apart := false, narrowed := true }
def DenoteFramesUptoSaid : Prop := denoteFramesUptoRow.holds Tryz.pinned (OpenSpec.upto denoteFramesSpec)

/-- 'cutroomlaw25.DenoteTop', WHERE WHAT IT READS IS OF BULK AT MOST 1048576: true; the input reads as it did. -/
def denoteTopUptoRow : OpenClaim := { program := "ytmbmmijdmdoalaagreat", sum := "f15407ea5e54ed17118a4e530d3af88320ba18deeee74fd9b0d49bca4fa606ed", func := "cutroom/cutroomlaw25.DenoteTop", spec := "denoteTop", inPlace := ["math/bits.Add64", "math/bits.Sub64"], unfollowed := true, recurses := true, named := ["math/bits.divideError", "math/bits.overflowError"], apart := false, narrowed := true }
def DenoteTopUptoSaid : Prop := denoteTopUptoRow.holds Tryz.pinned (OpenSpec.upto denoteTopSpec)

end Rows
end Go.Proofs.YtmbmmijdmdoalaaGreat
