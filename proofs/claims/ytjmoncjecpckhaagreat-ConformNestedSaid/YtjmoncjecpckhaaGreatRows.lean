/-
  No cell of these rows narrows 'for every input' (looked for: loops, veiled, ifaces, maps, wideKeys, modest, calm, conditions, laid).
  DERIVED. THE GIVEN ROWS OF THIS SEAT. 12 by the template 'for every input the law returns true; each argument reads behind the call as it read before'; 0 by the template 'total and deterministic' (their statements: YtjmoncjecpckhaaGreatTotals.lean).
  GIVEN WITH THE SEED: the statements are not yours to turn. If you find one false, say at which input.
  Laid BY PROGRAM, IN A SANDBOX (cutbox-rows.mjs): the forced cells as the released guide's own fill.sh prints them over the translation 8f18ebd95aaf1eb8… (all of the seat's roots in one cut). By AI agents, Wed Nov 11 2026. No macro, syntax, notation, axiom, sorry.
-/
import Derived.Test.YtjmoncjecpckhaaGreatChecked
import GoSem.Claim
import GoSem.ClaimJoined
import GoSem.ClaimMapViews
import Derived.JoinedTies
import Derived.KernelRfl
namespace Go.Proofs.YtjmoncjecpckhaaGreat
/- THE CELL 'sum', in the pinned program and in every row, IS THE sha256 OF THE DUMP (.gsa) THAT YtjmoncjecpckhaaGreatProg.lean LOADS. Nothing in Lean hashes anything: it is a label: what it is worth is what the hold of that sum in a sandbox is worth. -/
noncomputable def Tryz.pinned : Pinned := { name := "ytjmoncjecpckhaagreat", sum := "8f18ebd95aaf1eb8f5ef908a1db5bf96638aa0832c5d7670c2a085dff4a85e47", checked := Tryz.checked }
namespace Rows
def none {H : Type} : Left H := { results := [], args := [] }

/-- 'cutroomlaw27.ConformIdentity': WHATEVER THE INPUT: true; the input reads as it did. -/
def conformIdentitySpec : ChangeSpec := { name := "conformIdentity", fn := fun _ => fun
  | [d1, d2, d3, d4] => { results := [.lit (.bool true)], args := [d1, d2, d3, d4] }
  | _ => none }
def conformIdentityRow : OpenClaim := { program := "ytjmoncjecpckhaagreat", sum := "8f18ebd95aaf1eb8f5ef908a1db5bf96638aa0832c5d7670c2a085dff4a85e47", func := "cutroom/cutroomlaw27.ConformIdentity", spec := "conformIdentity", inPlace := ["math/bits.Add64", "math/bits.Sub64"], unfollowed := true, recurses := true, named := ["math/bits.divideError", "math/bits.overflowError"], apart := false }
def ConformIdentitySaid : Prop := conformIdentityRow.holds Tryz.pinned (OpenSpec.ofChange conformIdentitySpec)

/-- ITS FALSE NEIGHBOUR: 'it returns false'. Refute it at one input. -/
def conformIdentityWrong : ChangeSpec := { name := "conformIdentity", fn := fun _ => fun
  | [d1, d2, d3, d4] => { results := [.lit (.bool false)], args := [d1, d2, d3, d4] }
  | _ => none }
def ConformIdentityWrongFalsely : Prop := conformIdentityRow.holds Tryz.pinned (OpenSpec.ofChange conformIdentityWrong)

/-- 'cutroomlaw27.ConformRates': WHATEVER THE INPUT: true; the input reads as it did. -/
def conformRatesSpec : ChangeSpec := { name := "conformRates", fn := fun _ => fun
  | [d1, d2, d3] => { results := [.lit (.bool true)], args := [d1, d2, d3] }
  | _ => none }
def conformRatesRow : OpenClaim := { program := "ytjmoncjecpckhaagreat", sum := "8f18ebd95aaf1eb8f5ef908a1db5bf96638aa0832c5d7670c2a085dff4a85e47", func := "cutroom/cutroomlaw27.ConformRates", spec := "conformRates", inPlace := ["math/bits.Add64", "math/bits.Sub64"], unfollowed := true, recurses := true, named := ["math/bits.divideError", "math/bits.overflowError"], apart := false }
def ConformRatesSaid : Prop := conformRatesRow.holds Tryz.pinned (OpenSpec.ofChange conformRatesSpec)

/-- ITS FALSE NEIGHBOUR: 'it returns false'. Refute it at one input. -/
def conformRatesWrong : ChangeSpec := { name := "conformRates", fn := fun _ => fun
  | [d1, d2, d3] => { results := [.lit (.bool false)], args := [d1, d2, d3] }
  | _ => none }
def ConformRatesWrongFalsely : Prop := conformRatesRow.holds Tryz.pinned (OpenSpec.ofChange conformRatesWrong)

/-- 'cutroomlaw27.ConformPieces': WHATEVER THE INPUT: true; the input reads as it did. -/
def conformPiecesSpec : ChangeSpec := { name := "conformPieces", fn := fun _ => fun
  | [d1, d2, d3, d4] => { results := [.lit (.bool true)], args := [d1, d2, d3, d4] }
  | _ => none }
def conformPiecesRow : OpenClaim := { program := "ytjmoncjecpckhaagreat", sum := "8f18ebd95aaf1eb8f5ef908a1db5bf96638aa0832c5d7670c2a085dff4a85e47", func := "cutroom/cutroomlaw27.ConformPieces", spec := "conformPieces", inPlace := ["math/bits.Add64", "math/bits.Sub64"], unfollowed := true, recurses := true, named := ["math/bits.divideError", "math/bits.overflowError"], apart := false }
def ConformPiecesSaid : Prop := conformPiecesRow.holds Tryz.pinned (OpenSpec.ofChange conformPiecesSpec)

/-- ITS FALSE NEIGHBOUR: 'it returns false'. Refute it at one input. -/
def conformPiecesWrong : ChangeSpec := { name := "conformPieces", fn := fun _ => fun
  | [d1, d2, d3, d4] => { results := [.lit (.bool false)], args := [d1, d2, d3, d4] }
  | _ => none }
def ConformPiecesWrongFalsely : Prop := conformPiecesRow.holds Tryz.pinned (OpenSpec.ofChange conformPiecesWrong)

/-- 'cutroomlaw27.ConformTracks': WHATEVER THE INPUT: true; the input reads as it did. -/
def conformTracksSpec : ChangeSpec := { name := "conformTracks", fn := fun _ => fun
  | [d1, d2] => { results := [.lit (.bool true)], args := [d1, d2] }
  | _ => none }
def conformTracksRow : OpenClaim := { program := "ytjmoncjecpckhaagreat", sum := "8f18ebd95aaf1eb8f5ef908a1db5bf96638aa0832c5d7670c2a085dff4a85e47", func := "cutroom/cutroomlaw27.ConformTracks", spec := "conformTracks", inPlace := ["math/bits.Add64", "math/bits.Sub64"], unfollowed := true, recurses := true, named := ["math/bits.divideError", "math/bits.overflowError"], apart := false }
def ConformTracksSaid : Prop := conformTracksRow.holds Tryz.pinned (OpenSpec.ofChange conformTracksSpec)

/-- ITS FALSE NEIGHBOUR: 'it returns false'. Refute it at one input. -/
def conformTracksWrong : ChangeSpec := { name := "conformTracks", fn := fun _ => fun
  | [d1, d2] => { results := [.lit (.bool false)], args := [d1, d2] }
  | _ => none }
def ConformTracksWrongFalsely : Prop := conformTracksRow.holds Tryz.pinned (OpenSpec.ofChange conformTracksWrong)

/-- 'cutroomlaw27.ConformGains': WHATEVER THE INPUT: true; the input reads as it did. -/
def conformGainsSpec : ChangeSpec := { name := "conformGains", fn := fun _ => fun
  | [d1, d2, d3] => { results := [.lit (.bool true)], args := [d1, d2, d3] }
  | _ => none }
def conformGainsRow : OpenClaim := { program := "ytjmoncjecpckhaagreat", sum := "8f18ebd95aaf1eb8f5ef908a1db5bf96638aa0832c5d7670c2a085dff4a85e47", func := "cutroom/cutroomlaw27.ConformGains", spec := "conformGains", inPlace := ["math/bits.Add64", "math/bits.Sub64"], unfollowed := true, recurses := true, named := ["math/bits.divideError", "math/bits.overflowError"], apart := false }
def ConformGainsSaid : Prop := conformGainsRow.holds Tryz.pinned (OpenSpec.ofChange conformGainsSpec)

/-- ITS FALSE NEIGHBOUR: 'it returns false'. Refute it at one input. -/
def conformGainsWrong : ChangeSpec := { name := "conformGains", fn := fun _ => fun
  | [d1, d2, d3] => { results := [.lit (.bool false)], args := [d1, d2, d3] }
  | _ => none }
def ConformGainsWrongFalsely : Prop := conformGainsRow.holds Tryz.pinned (OpenSpec.ofChange conformGainsWrong)

/-- 'cutroomlaw27.ConformChannels': WHATEVER THE INPUT: true; the input reads as it did. -/
def conformChannelsSpec : ChangeSpec := { name := "conformChannels", fn := fun _ => fun
  | [d1, d2, d3, d4] => { results := [.lit (.bool true)], args := [d1, d2, d3, d4] }
  | _ => none }
def conformChannelsRow : OpenClaim := { program := "ytjmoncjecpckhaagreat", sum := "8f18ebd95aaf1eb8f5ef908a1db5bf96638aa0832c5d7670c2a085dff4a85e47", func := "cutroom/cutroomlaw27.ConformChannels", spec := "conformChannels", inPlace := ["math/bits.Add64", "math/bits.Sub64"], unfollowed := true, recurses := true, named := ["math/bits.divideError", "math/bits.overflowError"], apart := false }
def ConformChannelsSaid : Prop := conformChannelsRow.holds Tryz.pinned (OpenSpec.ofChange conformChannelsSpec)

/-- ITS FALSE NEIGHBOUR: 'it returns false'. Refute it at one input. -/
def conformChannelsWrong : ChangeSpec := { name := "conformChannels", fn := fun _ => fun
  | [d1, d2, d3, d4] => { results := [.lit (.bool false)], args := [d1, d2, d3, d4] }
  | _ => none }
def ConformChannelsWrongFalsely : Prop := conformChannelsRow.holds Tryz.pinned (OpenSpec.ofChange conformChannelsWrong)

/-- 'cutroomlaw27.ConformBackward': WHATEVER THE INPUT: true; the input reads as it did. -/
def conformBackwardSpec : ChangeSpec := { name := "conformBackward", fn := fun _ => fun
  | [d1, d2] => { results := [.lit (.bool true)], args := [d1, d2] }
  | _ => none }
def conformBackwardRow : OpenClaim := { program := "ytjmoncjecpckhaagreat", sum := "8f18ebd95aaf1eb8f5ef908a1db5bf96638aa0832c5d7670c2a085dff4a85e47", func := "cutroom/cutroomlaw27.ConformBackward", spec := "conformBackward", inPlace := ["math/bits.Add64", "math/bits.Sub64"], unfollowed := true, recurses := true, named := ["math/bits.divideError", "math/bits.overflowError"], apart := false }
def ConformBackwardSaid : Prop := conformBackwardRow.holds Tryz.pinned (OpenSpec.ofChange conformBackwardSpec)

/-- ITS FALSE NEIGHBOUR: 'it returns false'. Refute it at one input. -/
def conformBackwardWrong : ChangeSpec := { name := "conformBackward", fn := fun _ => fun
  | [d1, d2] => { results := [.lit (.bool false)], args := [d1, d2] }
  | _ => none }
def ConformBackwardWrongFalsely : Prop := conformBackwardRow.holds Tryz.pinned (OpenSpec.ofChange conformBackwardWrong)

/-- 'cutroomlaw27.ConformCrossfade': WHATEVER THE INPUT: true; the input reads as it did. -/
def conformCrossfadeSpec : ChangeSpec := { name := "conformCrossfade", fn := fun _ => fun
  | [d1, d2, d3, d4] => { results := [.lit (.bool true)], args := [d1, d2, d3, d4] }
  | _ => none }
def conformCrossfadeRow : OpenClaim := { program := "ytjmoncjecpckhaagreat", sum := "8f18ebd95aaf1eb8f5ef908a1db5bf96638aa0832c5d7670c2a085dff4a85e47", func := "cutroom/cutroomlaw27.ConformCrossfade", spec := "conformCrossfade", inPlace := ["math/bits.Add64", "math/bits.Sub64"], unfollowed := true, recurses := true, named := ["math/bits.divideError", "math/bits.overflowError"], apart := false }
def ConformCrossfadeSaid : Prop := conformCrossfadeRow.holds Tryz.pinned (OpenSpec.ofChange conformCrossfadeSpec)

/-- ITS FALSE NEIGHBOUR: 'it returns false'. Refute it at one input. -/
def conformCrossfadeWrong : ChangeSpec := { name := "conformCrossfade", fn := fun _ => fun
  | [d1, d2, d3, d4] => { results := [.lit (.bool false)], args := [d1, d2, d3, d4] }
  | _ => none }
def ConformCrossfadeWrongFalsely : Prop := conformCrossfadeRow.holds Tryz.pinned (OpenSpec.ofChange conformCrossfadeWrong)

/-- 'cutroomlaw27.ConformNested': WHATEVER THE INPUT: true; the input reads as it did. -/
def conformNestedSpec : ChangeSpec := { name := "conformNested", fn := fun _ => fun
  | [d1, d2, d3] => { results := [.lit (.bool true)], args := [d1, d2, d3] }
  | _ => none }
def conformNestedRow : OpenClaim := { program := "ytjmoncjecpckhaagreat", sum := "8f18ebd95aaf1eb8f5ef908a1db5bf96638aa0832c5d7670c2a085dff4a85e47", func := "cutroom/cutroomlaw27.ConformNested", spec := "conformNested", inPlace := ["math/bits.Add64", "math/bits.Sub64"], unfollowed := true, recurses := true, named := ["math/bits.divideError", "math/bits.overflowError"], apart := false }
def ConformNestedSaid : Prop := conformNestedRow.holds Tryz.pinned (OpenSpec.ofChange conformNestedSpec)

/-- ITS FALSE NEIGHBOUR: 'it returns false'. Refute it at one input. -/
def conformNestedWrong : ChangeSpec := { name := "conformNested", fn := fun _ => fun
  | [d1, d2, d3] => { results := [.lit (.bool false)], args := [d1, d2, d3] }
  | _ => none }
def ConformNestedWrongFalsely : Prop := conformNestedRow.holds Tryz.pinned (OpenSpec.ofChange conformNestedWrong)

/-- 'cutroomlaw27.ConformSilence': WHATEVER THE INPUT: true; the input reads as it did. -/
def conformSilenceSpec : ChangeSpec := { name := "conformSilence", fn := fun _ => fun
  | [d1, d2] => { results := [.lit (.bool true)], args := [d1, d2] }
  | _ => none }
def conformSilenceRow : OpenClaim := { program := "ytjmoncjecpckhaagreat", sum := "8f18ebd95aaf1eb8f5ef908a1db5bf96638aa0832c5d7670c2a085dff4a85e47", func := "cutroom/cutroomlaw27.ConformSilence", spec := "conformSilence", inPlace := ["math/bits.Add64", "math/bits.Sub64"], unfollowed := true, recurses := true, named := ["math/bits.divideError", "math/bits.overflowError"], apart := false }
def ConformSilenceSaid : Prop := conformSilenceRow.holds Tryz.pinned (OpenSpec.ofChange conformSilenceSpec)

/-- ITS FALSE NEIGHBOUR: 'it returns false'. Refute it at one input. -/
def conformSilenceWrong : ChangeSpec := { name := "conformSilence", fn := fun _ => fun
  | [d1, d2] => { results := [.lit (.bool false)], args := [d1, d2] }
  | _ => none }
def ConformSilenceWrongFalsely : Prop := conformSilenceRow.holds Tryz.pinned (OpenSpec.ofChange conformSilenceWrong)

/-- 'cutroomlaw27.ConformSync': WHATEVER THE INPUT: true; the input reads as it did. -/
def conformSyncSpec : ChangeSpec := { name := "conformSync", fn := fun _ => fun
  | [d1, d2] => { results := [.lit (.bool true)], args := [d1, d2] }
  | _ => none }
def conformSyncRow : OpenClaim := { program := "ytjmoncjecpckhaagreat", sum := "8f18ebd95aaf1eb8f5ef908a1db5bf96638aa0832c5d7670c2a085dff4a85e47", func := "cutroom/cutroomlaw27.ConformSync", spec := "conformSync", inPlace := ["math/bits.Add64", "math/bits.Sub64"], unfollowed := true, recurses := true, named := ["math/bits.divideError", "math/bits.overflowError"], apart := false }
def ConformSyncSaid : Prop := conformSyncRow.holds Tryz.pinned (OpenSpec.ofChange conformSyncSpec)

/-- ITS FALSE NEIGHBOUR: 'it returns false'. Refute it at one input. -/
def conformSyncWrong : ChangeSpec := { name := "conformSync", fn := fun _ => fun
  | [d1, d2] => { results := [.lit (.bool false)], args := [d1, d2] }
  | _ => none }
def ConformSyncWrongFalsely : Prop := conformSyncRow.holds Tryz.pinned (OpenSpec.ofChange conformSyncWrong)

/-- 'cutroomlaw27.ConformSplits': WHATEVER THE INPUT: true; the input reads as it did. -/
def conformSplitsSpec : ChangeSpec := { name := "conformSplits", fn := fun _ => fun
  | [d1, d2, d3, d4] => { results := [.lit (.bool true)], args := [d1, d2, d3, d4] }
  | _ => none }
def conformSplitsRow : OpenClaim := { program := "ytjmoncjecpckhaagreat", sum := "8f18ebd95aaf1eb8f5ef908a1db5bf96638aa0832c5d7670c2a085dff4a85e47", func := "cutroom/cutroomlaw27.ConformSplits", spec := "conformSplits", inPlace := ["math/bits.Add64", "math/bits.Sub64"], unfollowed := true, recurses := true, named := ["math/bits.divideError", "math/bits.overflowError"], apart := false }
def ConformSplitsSaid : Prop := conformSplitsRow.holds Tryz.pinned (OpenSpec.ofChange conformSplitsSpec)

/-- ITS FALSE NEIGHBOUR: 'it returns false'. Refute it at one input. -/
def conformSplitsWrong : ChangeSpec := { name := "conformSplits", fn := fun _ => fun
  | [d1, d2, d3, d4] => { results := [.lit (.bool false)], args := [d1, d2, d3, d4] }
  | _ => none }
def ConformSplitsWrongFalsely : Prop := conformSplitsRow.holds Tryz.pinned (OpenSpec.ofChange conformSplitsWrong)

/- THE SECOND FORM. 'bulk': how many values and letters a reading holds, each counted each time it is reached (what is shared counts as often as it is met; a slice's spare places count too). A statement '..UptoSaid' is the law's where the arguments, and the package variables that the reading takes, are together of bulk at most 1048576: NARROWER than '..Said'. Prove '..Said' where nothing that the law and all that it calls make is longer than what came in: it says more and counts as full. Else prove '..UptoSaid'. A law counts once. -/
mutual
def uptoBulk {H : Type} : DataW H → Nat
  | .lit (.string bytes) => bytes.length + 1
  | .lit _ => 1
  | .nil => 1
  | .ptr d => uptoBulk d + 1
  | .slice elems spare => uptoBulkAll elems + uptoBulkAll spare + 1
  | .agg parts => uptoBulkAll parts + 1
  | .iface _ d => uptoBulk d + 1
  | .map entries => uptoBulkEntries entries + 1
  | .held _ => 1
def uptoBulkAll {H : Type} : List (DataW H) → Nat
  | [] => 0
  | d :: r => uptoBulk d + uptoBulkAll r
def uptoBulkEntries {H : Type} : List (Lit × DataW H) → Nat
  | [] => 0
  | x :: r => uptoBulkEntry x + uptoBulkEntries r
def uptoBulkEntry {H : Type} : Lit × DataW H → Nat
  | (.string bytes, d) => bytes.length + uptoBulk d + 1
  | (_, d) => uptoBulk d + 1
 end
def uptoSmall : (H : Type) → List (DataW H) → Bool := fun _ ds => decide (uptoBulkAll ds ≤ 1048576)
def OpenSpec.upto (s : _root_.Go.ChangeSpec) : _root_.Go.OpenSpec := { _root_.Go.OpenSpec.ofChange s with cond := some uptoSmall }

/-- 'cutroomlaw27.ConformIdentity', WHERE WHAT IT READS IS OF BULK AT MOST 1048576: true; the input reads as it did. -/
def conformIdentityUptoRow : OpenClaim := { program := "ytjmoncjecpckhaagreat", sum := "8f18ebd95aaf1eb8f5ef908a1db5bf96638aa0832c5d7670c2a085dff4a85e47", func := "cutroom/cutroomlaw27.ConformIdentity", spec := "conformIdentity", inPlace := ["math/bits.Add64", "math/bits.Sub64"], unfollowed := true, recurses := true, named := ["math/bits.divideError", "math/bits.overflowError"], apart := false, narrowed := true }
def ConformIdentityUptoSaid : Prop := conformIdentityUptoRow.holds Tryz.pinned (OpenSpec.upto conformIdentitySpec)

/-- 'cutroomlaw27.ConformRates', WHERE WHAT IT READS IS OF BULK AT MOST 1048576: true; the input reads as it did. -/
def conformRatesUptoRow : OpenClaim := { program := "ytjmoncjecpckhaagreat", sum := "8f18ebd95aaf1eb8f5ef908a1db5bf96638aa0832c5d7670c2a085dff4a85e47", func := "cutroom/cutroomlaw27.ConformRates", spec := "conformRates", inPlace := ["math/bits.Add64", "math/bits.Sub64"], unfollowed := true, recurses := true, named := ["math/bits.divideError", "math/bits.overflowError"], apart := false, narrowed := true }
def ConformRatesUptoSaid : Prop := conformRatesUptoRow.holds Tryz.pinned (OpenSpec.upto conformRatesSpec)

/-- 'cutroomlaw27.ConformPieces', WHERE WHAT IT READS IS OF BULK AT MOST 1048576: true; the input reads as it did. -/
def conformPiecesUptoRow : OpenClaim := { program := "ytjmoncjecpckhaagreat", sum := "8f18ebd95aaf1eb8f5ef908a1db5bf96638aa0832c5d7670c2a085dff4a85e47", func := "cutroom/cutroomlaw27.ConformPieces", spec := "conformPieces", inPlace := ["math/bits.Add64", "math/bits.Sub64"], unfollowed := true, recurses := true, named := ["math/bits.divideError", "math/bits.overflowError"], apart := false, narrowed := true }
def ConformPiecesUptoSaid : Prop := conformPiecesUptoRow.holds Tryz.pinned (OpenSpec.upto conformPiecesSpec)

/-- 'cutroomlaw27.ConformTracks', WHERE WHAT IT READS IS OF BULK AT MOST 1048576: true; the input reads as it did. -/
def conformTracksUptoRow : OpenClaim := { program := "ytjmoncjecpckhaagreat", sum := "8f18ebd95aaf1eb8f5ef908a1db5bf96638aa0832c5d7670c2a085dff4a85e47", func := "cutroom/cutroomlaw27.ConformTracks", spec := "conformTracks", inPlace := ["math/bits.Add64", "math/bits.Sub64"], unfollowed := true, recurses := true, named := ["math/bits.divideError", "math/bits.overflowError"], apart := false, narrowed := true }
def ConformTracksUptoSaid : Prop := conformTracksUptoRow.holds Tryz.pinned (OpenSpec.upto conformTracksSpec)

/-- 'cutroomlaw27.ConformGains', WHERE WHAT IT READS IS OF BULK AT MOST 1048576: true; the input reads as it did. -/
def conformGainsUptoRow : OpenClaim := { program := "ytjmoncjecpckhaagreat", sum := "8f18ebd95aaf1eb8f5ef908a1db5bf96638aa0832c5d7670c2a085dff4a85e47", func := "cutroom/cutroomlaw27.ConformGains", spec := "conformGains", inPlace := ["math/bits.Add64", "math/bits.Sub64"], unfollowed := true, recurses := true, named := ["math/bits.divideError", "math/bits.overflowError"], apart := false, narrowed := true }
def ConformGainsUptoSaid : Prop := conformGainsUptoRow.holds Tryz.pinned (OpenSpec.upto conformGainsSpec)

/-- 'cutroomlaw27.ConformChannels', WHERE WHAT IT READS IS OF BULK AT MOST 1048576: true; the input reads as it did. -/
def conformChannelsUptoRow : OpenClaim := { program := "ytjmoncjecpckhaagreat", sum := "8f18ebd95aaf1eb8f5ef908a1db5bf96638aa0832c5d7670c2a085dff4a85e47", func := "cutroom/cutroomlaw27.ConformChannels", spec := "conformChannels", inPlace := ["math/bits.Add64", "math/bits.Sub64"], unfollowed := true, recurses := true, named := ["math/bits.divideError", "math/bits.overflowError"], apart := false, narrowed := true }
def ConformChannelsUptoSaid : Prop := conformChannelsUptoRow.holds Tryz.pinned (OpenSpec.upto conformChannelsSpec)

/-- 'cutroomlaw27.ConformBackward', WHERE WHAT IT READS IS OF BULK AT MOST 1048576: true; the input reads as it did. -/
def conformBackwardUptoRow : OpenClaim := { program := "ytjmoncjecpckhaagreat", sum := "8f18ebd95aaf1eb8f5ef908a1db5bf96638aa0832c5d7670c2a085dff4a85e47", func := "cutroom/cutroomlaw27.ConformBackward", spec := "conformBackward", inPlace := ["math/bits.Add64", "math/bits.Sub64"], unfollowed := true, recurses := true, named := ["math/bits.divideError", "math/bits.overflowError"], apart := false, narrowed := true }
def ConformBackwardUptoSaid : Prop := conformBackwardUptoRow.holds Tryz.pinned (OpenSpec.upto conformBackwardSpec)

/-- 'cutroomlaw27.ConformCrossfade', WHERE WHAT IT READS IS OF BULK AT MOST 1048576: true; the input reads as it did. -/
def conformCrossfadeUptoRow : OpenClaim := { program := "ytjmoncjecpckhaagreat", sum := "8f18ebd95aaf1eb8f5ef908a1db5bf96638aa0832c5d7670c2a085dff4a85e47", func := "cutroom/cutroomlaw27.ConformCrossfade", spec := "conformCrossfade", inPlace := ["math/bits.Add64", "math/bits.Sub64"], unfollowed := true, recurses := true, named := ["math/bits.divideError", "math/bits.overflowError"], apart := false, narrowed := true }
def ConformCrossfadeUptoSaid : Prop := conformCrossfadeUptoRow.holds Tryz.pinned (OpenSpec.upto conformCrossfadeSpec)

/-- 'cutroomlaw27.ConformNested', WHERE WHAT IT READS IS OF BULK AT MOST 1048576: true; the input reads as it did. -/
def conformNestedUptoRow : OpenClaim := { program := "ytjmoncjecpckhaagreat", sum := "8f18ebd95aaf1eb8f5ef908a1db5bf96638aa0832c5d7670c2a085dff4a85e47", func := "cutroom/cutroomlaw27.ConformNested", spec := "conformNested", inPlace := ["math/bits.Add64", "math/bits.Sub64"], unfollowed := true, recurses := true, named := ["math/bits.divideError", "math/bits.overflowError"], apart := false, narrowed := true }
def ConformNestedUptoSaid : Prop := conformNestedUptoRow.holds Tryz.pinned (OpenSpec.upto conformNestedSpec)

/-- 'cutroomlaw27.ConformSilence', WHERE WHAT IT READS IS OF BULK AT MOST 1048576: true; the input reads as it did. -/
def conformSilenceUptoRow : OpenClaim := { program := "ytjmoncjecpckhaagreat", sum := "8f18ebd95aaf1eb8f5ef908a1db5bf96638aa0832c5d7670c2a085dff4a85e47", func := "cutroom/cutroomlaw27.ConformSilence", spec := "conformSilence", inPlace := ["math/bits.Add64", "math/bits.Sub64"], unfollowed := true, recurses := true, named := ["math/bits.divideError", "math/bits.overflowError"], apart := false, narrowed := true }
def ConformSilenceUptoSaid : Prop := conformSilenceUptoRow.holds Tryz.pinned (OpenSpec.upto conformSilenceSpec)

/-- 'cutroomlaw27.ConformSync', WHERE WHAT IT READS IS OF BULK AT MOST 1048576: true; the input reads as it did. -/
def conformSyncUptoRow : OpenClaim := { program := "ytjmoncjecpckhaagreat", sum := "8f18ebd95aaf1eb8f5ef908a1db5bf96638aa0832c5d7670c2a085dff4a85e47", func := "cutroom/cutroomlaw27.ConformSync", spec := "conformSync", inPlace := ["math/bits.Add64", "math/bits.Sub64"], unfollowed := true, recurses := true, named := ["math/bits.divideError", "math/bits.overflowError"], apart := false, narrowed := true }
def ConformSyncUptoSaid : Prop := conformSyncUptoRow.holds Tryz.pinned (OpenSpec.upto conformSyncSpec)

/-- 'cutroomlaw27.ConformSplits', WHERE WHAT IT READS IS OF BULK AT MOST 1048576: true; the input reads as it did. -/
def conformSplitsUptoRow : OpenClaim := { program := "ytjmoncjecpckhaagreat", sum := "8f18ebd95aaf1eb8f5ef908a1db5bf96638aa0832c5d7670c2a085dff4a85e47", func := "cutroom/cutroomlaw27.ConformSplits", spec := "conformSplits", inPlace := ["math/bits.Add64", "math/bits.Sub64"], unfollowed := true, recurses := true, named := ["math/bits.divideError", "math/bits.overflowError"], apart := false, narrowed := true }
def ConformSplitsUptoSaid : Prop := conformSplitsUptoRow.holds Tryz.pinned (OpenSpec.upto conformSplitsSpec)

end Rows
end Go.Proofs.YtjmoncjecpckhaaGreat
