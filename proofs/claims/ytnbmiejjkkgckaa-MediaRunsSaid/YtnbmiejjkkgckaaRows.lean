/-
  No cell of these rows narrows 'for every input' (looked for: loops, veiled, ifaces, maps, wideKeys, modest, calm, conditions, laid).
  DERIVED. THE GIVEN ROWS OF THIS SEAT. 6 by the template 'for every input the law returns true; each argument reads behind the call as it read before'; 0 by the template 'total and deterministic' (their statements: YtnbmiejjkkgckaaTotals.lean).
  GIVEN WITH THE SEED: the statements are not yours to turn. If you find one false, say at which input.
  Laid BY PROGRAM, IN A SANDBOX (cutbox-rows.mjs): the forced cells as the released guide's own fill.sh prints them over the translation e8b148afafeb0674… (all of the seat's roots in one cut). By AI agents, Wed Nov 11 2026. No macro, syntax, notation, axiom, sorry.
-/
import Derived.Test.YtnbmiejjkkgckaaChecked
import GoSem.Claim
import GoSem.ClaimJoined
import GoSem.ClaimMapViews
import Derived.JoinedTies
import Derived.KernelRfl
namespace Go.Proofs.Ytnbmiejjkkgckaa
/- THE CELL 'sum', in the pinned program and in every row, IS THE sha256 OF THE DUMP (.gsa) THAT YtnbmiejjkkgckaaProg.lean LOADS. Nothing in Lean hashes anything: it is a label: what it is worth is what the hold of that sum in a sandbox is worth. -/
noncomputable def Try.pinned : Pinned := { name := "ytnbmiejjkkgckaa", sum := "e8b148afafeb067475e416f0ab6f353840cf3a4b4d1e9102a78e8d93e587cc27", checked := Try.checked }
namespace Rows
def none {H : Type} : Left H := { results := [], args := [] }

/-- 'cutroomlaw36.MediaSums': WHATEVER THE INPUT: true; the input reads as it did. -/
def mediaSumsSpec : ChangeSpec := { name := "mediaSums", fn := fun _ => fun
  | [d] => { results := [.lit (.bool true)], args := [d] }
  | _ => none }
def mediaSumsRow : OpenClaim := { program := "ytnbmiejjkkgckaa", sum := "e8b148afafeb067475e416f0ab6f353840cf3a4b4d1e9102a78e8d93e587cc27", func := "cutroom/cutroomlaw36.MediaSums", spec := "mediaSums", unfollowed := true, recurses := true, apart := false }
def MediaSumsSaid : Prop := mediaSumsRow.holds Try.pinned (OpenSpec.ofChange mediaSumsSpec)

/-- ITS FALSE NEIGHBOUR: 'it returns false'. Refute it at one input. -/
def mediaSumsWrong : ChangeSpec := { name := "mediaSums", fn := fun _ => fun
  | [d] => { results := [.lit (.bool false)], args := [d] }
  | _ => none }
def MediaSumsWrongFalsely : Prop := mediaSumsRow.holds Try.pinned (OpenSpec.ofChange mediaSumsWrong)

/-- 'cutroomlaw36.MediaStates': WHATEVER THE INPUT: true; the input reads as it did. -/
def mediaStatesSpec : ChangeSpec := { name := "mediaStates", fn := fun _ => fun
  | [d1, d2, d3, d4] => { results := [.lit (.bool true)], args := [d1, d2, d3, d4] }
  | _ => none }
def mediaStatesRow : OpenClaim := { program := "ytnbmiejjkkgckaa", sum := "e8b148afafeb067475e416f0ab6f353840cf3a4b4d1e9102a78e8d93e587cc27", func := "cutroom/cutroomlaw36.MediaStates", spec := "mediaStates", unfollowed := true, recurses := true, apart := false }
def MediaStatesSaid : Prop := mediaStatesRow.holds Try.pinned (OpenSpec.ofChange mediaStatesSpec)

/-- ITS FALSE NEIGHBOUR: 'it returns false'. Refute it at one input. -/
def mediaStatesWrong : ChangeSpec := { name := "mediaStates", fn := fun _ => fun
  | [d1, d2, d3, d4] => { results := [.lit (.bool false)], args := [d1, d2, d3, d4] }
  | _ => none }
def MediaStatesWrongFalsely : Prop := mediaStatesRow.holds Try.pinned (OpenSpec.ofChange mediaStatesWrong)

/-- 'cutroomlaw36.MediaRuns': WHATEVER THE INPUT: true; the input reads as it did. -/
def mediaRunsSpec : ChangeSpec := { name := "mediaRuns", fn := fun _ => fun
  | [d1, d2, d3] => { results := [.lit (.bool true)], args := [d1, d2, d3] }
  | _ => none }
def mediaRunsRow : OpenClaim := { program := "ytnbmiejjkkgckaa", sum := "e8b148afafeb067475e416f0ab6f353840cf3a4b4d1e9102a78e8d93e587cc27", func := "cutroom/cutroomlaw36.MediaRuns", spec := "mediaRuns", unfollowed := true, recurses := true, apart := false }
def MediaRunsSaid : Prop := mediaRunsRow.holds Try.pinned (OpenSpec.ofChange mediaRunsSpec)

/-- ITS FALSE NEIGHBOUR: 'it returns false'. Refute it at one input. -/
def mediaRunsWrong : ChangeSpec := { name := "mediaRuns", fn := fun _ => fun
  | [d1, d2, d3] => { results := [.lit (.bool false)], args := [d1, d2, d3] }
  | _ => none }
def MediaRunsWrongFalsely : Prop := mediaRunsRow.holds Try.pinned (OpenSpec.ofChange mediaRunsWrong)

/-- 'cutroomlaw36.MediaReturns': WHATEVER THE INPUT: true; the input reads as it did. -/
def mediaReturnsSpec : ChangeSpec := { name := "mediaReturns", fn := fun _ => fun
  | [d1, d2, d3] => { results := [.lit (.bool true)], args := [d1, d2, d3] }
  | _ => none }
def mediaReturnsRow : OpenClaim := { program := "ytnbmiejjkkgckaa", sum := "e8b148afafeb067475e416f0ab6f353840cf3a4b4d1e9102a78e8d93e587cc27", func := "cutroom/cutroomlaw36.MediaReturns", spec := "mediaReturns", unfollowed := true, recurses := true, apart := false }
def MediaReturnsSaid : Prop := mediaReturnsRow.holds Try.pinned (OpenSpec.ofChange mediaReturnsSpec)

/-- ITS FALSE NEIGHBOUR: 'it returns false'. Refute it at one input. -/
def mediaReturnsWrong : ChangeSpec := { name := "mediaReturns", fn := fun _ => fun
  | [d1, d2, d3] => { results := [.lit (.bool false)], args := [d1, d2, d3] }
  | _ => none }
def MediaReturnsWrongFalsely : Prop := mediaReturnsRow.holds Try.pinned (OpenSpec.ofChange mediaReturnsWrong)

/-- 'cutroomlaw36.MediaReports': WHATEVER THE INPUT: true; the input reads as it did. -/
def mediaReportsSpec : ChangeSpec := { name := "mediaReports", fn := fun _ => fun
  | [d] => { results := [.lit (.bool true)], args := [d] }
  | _ => none }
def mediaReportsRow : OpenClaim := { program := "ytnbmiejjkkgckaa", sum := "e8b148afafeb067475e416f0ab6f353840cf3a4b4d1e9102a78e8d93e587cc27", func := "cutroom/cutroomlaw36.MediaReports", spec := "mediaReports", unfollowed := true, recurses := true, apart := false }
def MediaReportsSaid : Prop := mediaReportsRow.holds Try.pinned (OpenSpec.ofChange mediaReportsSpec)

/-- ITS FALSE NEIGHBOUR: 'it returns false'. Refute it at one input. -/
def mediaReportsWrong : ChangeSpec := { name := "mediaReports", fn := fun _ => fun
  | [d] => { results := [.lit (.bool false)], args := [d] }
  | _ => none }
def MediaReportsWrongFalsely : Prop := mediaReportsRow.holds Try.pinned (OpenSpec.ofChange mediaReportsWrong)

/-- 'cutroomlaw36.MediaFiles': WHATEVER THE INPUT: true; the input reads as it did. -/
def mediaFilesSpec : ChangeSpec := { name := "mediaFiles", fn := fun _ => fun
  | [d1, d2, d3, d4, d5] => { results := [.lit (.bool true)], args := [d1, d2, d3, d4, d5] }
  | _ => none }
def mediaFilesRow : OpenClaim := { program := "ytnbmiejjkkgckaa", sum := "e8b148afafeb067475e416f0ab6f353840cf3a4b4d1e9102a78e8d93e587cc27", func := "cutroom/cutroomlaw36.MediaFiles", spec := "mediaFiles", unfollowed := true, recurses := true, apart := false }
def MediaFilesSaid : Prop := mediaFilesRow.holds Try.pinned (OpenSpec.ofChange mediaFilesSpec)

/-- ITS FALSE NEIGHBOUR: 'it returns false'. Refute it at one input. -/
def mediaFilesWrong : ChangeSpec := { name := "mediaFiles", fn := fun _ => fun
  | [d1, d2, d3, d4, d5] => { results := [.lit (.bool false)], args := [d1, d2, d3, d4, d5] }
  | _ => none }
def MediaFilesWrongFalsely : Prop := mediaFilesRow.holds Try.pinned (OpenSpec.ofChange mediaFilesWrong)

/- THE SECOND FORM. 'bulk': how many values and letters a reading holds, each counted each time it is reached (what is shared counts as often as it is met; a slice's spare places count too). A statement '..UptoSaid' is the law's where the arguments, and the package variables that the reading takes, are together of bulk at most 1048576: NARROWER than '..Said'. Prove '..Said' where nothing that the law and all that it calls make is longer than what came in: it says more and counts as full. Else prove '..UptoSaid'. A law counts once. -/
mutual
def uptoBulk {H : Type} : DataW H → Nat
  | .lit (.string bytes) => bytes.length + 1
  | .lit _ => 1
  | .nil => 1
  | .ptr d => uptoBulk d + 1
  | .slice elems spare => uptoBulkAll elems + uptoBulkAll spare + 1
  | .agg parts => uptoBulkAll parts + 1
  | .iface _ d => uptoBulk d + 1
  | .map entries => uptoBulkEntries entries + 1
  | .held _ => 1
def uptoBulkAll {H : Type} : List (DataW H) → Nat
  | [] => 0
  | d :: r => uptoBulk d + uptoBulkAll r
def uptoBulkEntries {H : Type} : List (Lit × DataW H) → Nat
  | [] => 0
  | x :: r => uptoBulkEntry x + uptoBulkEntries r
def uptoBulkEntry {H : Type} : Lit × DataW H → Nat
  | (.string bytes, d) => bytes.length + uptoBulk d + 1
  | (_, d) => uptoBulk d + 1
 end
def uptoSmall : (H : Type) → List (DataW H) → Bool := fun _ ds => decide (uptoBulkAll ds ≤ 1048576)
def OpenSpec.upto (s : _root_.Go.ChangeSpec) : _root_.Go.OpenSpec := { _root_.Go.OpenSpec.ofChange s with cond := some uptoSmall }

/-- 'cutroomlaw36.MediaSums', WHERE WHAT IT READS IS OF BULK AT MOST 1048576: true; the input reads as it did. -/
def mediaSumsUptoRow : OpenClaim := { program := "ytnbmiejjkkgckaa", sum := "e8b148afafeb067475e416f0ab6f353840cf3a4b4d1e9102a78e8d93e587cc27", func := "cutroom/cutroomlaw36.MediaSums", spec := "mediaSums", unfollowed := true, recurses := true, apart := false, narrowed := true }
def MediaSumsUptoSaid : Prop := mediaSumsUptoRow.holds Try.pinned (OpenSpec.upto mediaSumsSpec)

/-- 'cutroomlaw36.MediaStates', WHERE WHAT IT READS IS OF BULK AT MOST 1048576: true; the input reads as it did. -/
def mediaStatesUptoRow : OpenClaim := { program := "ytnbmiejjkkgckaa", sum := "e8b148afafeb067475e416f0ab6f353840cf3a4b4d1e9102a78e8d93e587cc27", func := "cutroom/cutroomlaw36.MediaStates", spec := "mediaStates", unfollowed := true, recurses := true, apart := false, narrowed := true }
def MediaStatesUptoSaid : Prop := mediaStatesUptoRow.holds Try.pinned (OpenSpec.upto mediaStatesSpec)

/-- 'cutroomlaw36.MediaRuns', WHERE WHAT IT READS IS OF BULK AT MOST 1048576: true; the input reads as it did. -/
def mediaRunsUptoRow : OpenClaim := { program := "ytnbmiejjkkgckaa", sum := "e8b148afafeb067475e416f0ab6f353840cf3a4b4d1e9102a78e8d93e587cc27", func := "cutroom/cutroomlaw36.MediaRuns", spec := "mediaRuns", unfollowed := true, recurses := true, apart := false, narrowed := true }
def MediaRunsUptoSaid : Prop := mediaRunsUptoRow.holds Try.pinned (OpenSpec.upto mediaRunsSpec)

/-- 'cutroomlaw36.MediaReturns', WHERE WHAT IT READS IS OF BULK AT MOST 1048576: true; the input reads as it did. -/
def mediaReturnsUptoRow : OpenClaim := { program := "ytnbmiejjkkgckaa", sum := "e8b148afafeb067475e416f0ab6f353840cf3a4b4d1e9102a78e8d93e587cc27", func := "cutroom/cutroomlaw36.MediaReturns", spec := "mediaReturns", unfollowed := true, recurses := true, apart := false, narrowed := true }
def MediaReturnsUptoSaid : Prop := mediaReturnsUptoRow.holds Try.pinned (OpenSpec.upto mediaReturnsSpec)

/-- 'cutroomlaw36.MediaReports', WHERE WHAT IT READS IS OF BULK AT MOST 1048576: true; the input reads as it did. -/
def mediaReportsUptoRow : OpenClaim := { program := "ytnbmiejjkkgckaa", sum := "e8b148afafeb067475e416f0ab6f353840cf3a4b4d1e9102a78e8d93e587cc27", func := "cutroom/cutroomlaw36.MediaReports", spec := "mediaReports", unfollowed := true, recurses := true, apart := false, narrowed := true }
def MediaReportsUptoSaid : Prop := mediaReportsUptoRow.holds Try.pinned (OpenSpec.upto mediaReportsSpec)

/-- 'cutroomlaw36.MediaFiles', WHERE WHAT IT READS IS OF BULK AT MOST 1048576: true; the input reads as it did. -/
def mediaFilesUptoRow : OpenClaim := { program := "ytnbmiejjkkgckaa", sum := "e8b148afafeb067475e416f0ab6f353840cf3a4b4d1e9102a78e8d93e587cc27", func := "cutroom/cutroomlaw36.MediaFiles", spec := "mediaFiles", unfollowed := true, recurses := true, apart := false, narrowed := true }
def MediaFilesUptoSaid : Prop := mediaFilesUptoRow.holds Try.pinned (OpenSpec.upto mediaFilesSpec)

end Rows
end Go.Proofs.Ytnbmiejjkkgckaa
