/-
  No cell of these rows narrows 'for every input' (looked for: loops, veiled, ifaces, maps, wideKeys, modest, calm, conditions, laid).
  DERIVED. THE GIVEN ROWS OF THIS SEAT. 3 by the template 'for every input the law returns true; each argument reads behind the call as it read before'; 0 by the template 'total and deterministic' (their statements: YtkjdkbmfaamhaaaGreatTotals.lean).
  GIVEN WITH THE SEED: the statements are not yours to turn. If you find one false, say at which input.
  Laid BY PROGRAM, IN A SANDBOX (cutbox-rows.mjs): the forced cells as the released guide's own fill.sh prints them over the translation e9f84b42f9144af3… (all of the seat's roots in one cut). By AI agents, Wed Nov 11 2026. No macro, syntax, notation, axiom, sorry.
-/
import Derived.Test.YtkjdkbmfaamhaaaGreatChecked
import GoSem.Claim
import GoSem.ClaimJoined
import GoSem.ClaimMapViews
import Derived.JoinedTies
import Derived.KernelRfl
namespace Go.Proofs.YtkjdkbmfaamhaaaGreat
/- THE CELL 'sum', in the pinned program and in every row, IS THE sha256 OF THE DUMP (.gsa) THAT YtkjdkbmfaamhaaaGreatProg.lean LOADS. Nothing in Lean hashes anything: it is a label: what it is worth is what the hold of that sum in a sandbox is worth. -/
noncomputable def Tryz.pinned : Pinned := { name := "ytkjdkbmfaamhaaagreat", sum := "e9f84b42f9144af3a48962ff9b3da2881349472154a5eb0af5607fbdf0ba3e9d", checked := Tryz.checked }
namespace Rows
def none {H : Type} : Left H := { results := [], args := [] }

/-- 'cutroomlaw27.ConformSounds': WHATEVER THE INPUT: true; the input reads as it did. -/
def conformSoundsSpec : ChangeSpec := { name := "conformSounds", fn := fun _ => fun
  | [d1, d2, d3, d4, d5] => { results := [.lit (.bool true)], args := [d1, d2, d3, d4, d5] }
  | _ => none }
def conformSoundsRow : OpenClaim := { program := "ytkjdkbmfaamhaaagreat", sum := "e9f84b42f9144af3a48962ff9b3da2881349472154a5eb0af5607fbdf0ba3e9d", func := "cutroom/cutroomlaw27.ConformSounds", spec := "conformSounds", inPlace := ["math/bits.Add64", "math/bits.Sub64"], unfollowed := true, recurses := true, named := ["math/bits.divideError", "math/bits.overflowError"], apart := false }
def ConformSoundsSaid : Prop := conformSoundsRow.holds Tryz.pinned (OpenSpec.ofChange conformSoundsSpec)

/-- ITS FALSE NEIGHBOUR: 'it returns false'. Refute it at one input. -/
def conformSoundsWrong : ChangeSpec := { name := "conformSounds", fn := fun _ => fun
  | [d1, d2, d3, d4, d5] => { results := [.lit (.bool false)], args := [d1, d2, d3, d4, d5] }
  | _ => none }
def ConformSoundsWrongFalsely : Prop := conformSoundsRow.holds Tryz.pinned (OpenSpec.ofChange conformSoundsWrong)

/-- 'cutroomlaw27.ConformRaw': WHATEVER THE INPUT: true; the input reads as it did. -/
def conformRawSpec : ChangeSpec := { name := "conformRaw", fn := fun _ => fun
  | [d1, d2, d3, d4, d5] => { results := [.lit (.bool true)], args := [d1, d2, d3, d4, d5] }
  | _ => none }
def conformRawRow : OpenClaim := { program := "ytkjdkbmfaamhaaagreat", sum := "e9f84b42f9144af3a48962ff9b3da2881349472154a5eb0af5607fbdf0ba3e9d", func := "cutroom/cutroomlaw27.ConformRaw", spec := "conformRaw", inPlace := ["math/bits.Add64", "math/bits.Sub64"], unfollowed := true, recurses := true, named := ["math/bits.divideError", "math/bits.overflowError"], apart := false }
def ConformRawSaid : Prop := conformRawRow.holds Tryz.pinned (OpenSpec.ofChange conformRawSpec)

/-- ITS FALSE NEIGHBOUR: 'it returns false'. Refute it at one input. -/
def conformRawWrong : ChangeSpec := { name := "conformRaw", fn := fun _ => fun
  | [d1, d2, d3, d4, d5] => { results := [.lit (.bool false)], args := [d1, d2, d3, d4, d5] }
  | _ => none }
def ConformRawWrongFalsely : Prop := conformRawRow.holds Tryz.pinned (OpenSpec.ofChange conformRawWrong)

/-- 'cutroomlaw27.ConformPieces': WHATEVER THE INPUT: true; the input reads as it did. -/
def conformPiecesSpec : ChangeSpec := { name := "conformPieces", fn := fun _ => fun
  | [d1, d2, d3, d4] => { results := [.lit (.bool true)], args := [d1, d2, d3, d4] }
  | _ => none }
def conformPiecesRow : OpenClaim := { program := "ytkjdkbmfaamhaaagreat", sum := "e9f84b42f9144af3a48962ff9b3da2881349472154a5eb0af5607fbdf0ba3e9d", func := "cutroom/cutroomlaw27.ConformPieces", spec := "conformPieces", inPlace := ["math/bits.Add64", "math/bits.Sub64"], unfollowed := true, recurses := true, named := ["math/bits.divideError", "math/bits.overflowError"], apart := false }
def ConformPiecesSaid : Prop := conformPiecesRow.holds Tryz.pinned (OpenSpec.ofChange conformPiecesSpec)

/-- ITS FALSE NEIGHBOUR: 'it returns false'. Refute it at one input. -/
def conformPiecesWrong : ChangeSpec := { name := "conformPieces", fn := fun _ => fun
  | [d1, d2, d3, d4] => { results := [.lit (.bool false)], args := [d1, d2, d3, d4] }
  | _ => none }
def ConformPiecesWrongFalsely : Prop := conformPiecesRow.holds Tryz.pinned (OpenSpec.ofChange conformPiecesWrong)

/- THE SECOND FORM. 'bulk': how many values and letters a reading holds, each counted each time it is reached (what is shared counts as often as it is met; a slice's spare places count too). A statement '..UptoSaid' is the law's where the arguments, and the package variables that the reading takes, are together of bulk at most 1048576: NARROWER than '..Said'. Prove '..Said' where nothing that the law and all that it calls make is longer than what came in: it says more and counts as full. Else prove '..UptoSaid'. A law counts once. -/
mutual
def uptoBulk {H : Type} : DataW H → Nat
  | .lit (.string bytes) => bytes.length + 1
  | .lit _ => 1
  | .nil => 1
  | .ptr d => uptoBulk d + 1
  | .slice elems spare => uptoBulkAll elems + uptoBulkAll spare + 1
  | .agg parts => uptoBulkAll parts + 1
  | .iface _ d => uptoBulk d + 1
  | .map entries => uptoBulkEntries entries + 1
  | .held _ => 1
def uptoBulkAll {H : Type} : List (DataW H) → Nat
  | [] => 0
  | d :: r => uptoBulk d + uptoBulkAll r
def uptoBulkEntries {H : Type} : List (Lit × DataW H) → Nat
  | [] => 0
  | x :: r => uptoBulkEntry x + uptoBulkEntries r
def uptoBulkEntry {H : Type} : Lit × DataW H → Nat
  | (.string bytes, d) => bytes.length + uptoBulk d + 1
  | (_, d) => uptoBulk d + 1
 end
def uptoSmall : (H : Type) → List (DataW H) → Bool := fun _ ds => decide (uptoBulkAll ds ≤ 1048576)
def OpenSpec.upto (s : _root_.Go.ChangeSpec) : _root_.Go.OpenSpec := { _root_.Go.OpenSpec.ofChange s with cond := some uptoSmall }

/-- 'cutroomlaw27.ConformSounds', WHERE WHAT IT READS IS OF BULK AT MOST 1048576: true; the input reads as it did. -/
def conformSoundsUptoRow : OpenClaim := { program := "ytkjdkbmfaamhaaagreat", sum := "e9f84b42f9144af3a48962ff9b3da2881349472154a5eb0af5607fbdf0ba3e9d", func := "cutroom/cutroomlaw27.ConformSounds", spec := "conformSounds", inPlace := ["math/bits.Add64", "math/bits.Sub64"], unfollowed := true, recurses := true, named := ["math/bits.divideError", "math/bits.overflowError"], apart := false, narrowed := true }
def ConformSoundsUptoSaid : Prop := conformSoundsUptoRow.holds Tryz.pinned (OpenSpec.upto conformSoundsSpec)

/-- 'cutroomlaw27.ConformRaw', WHERE WHAT IT READS IS OF BULK AT MOST 1048576: true; the input reads as it did. -/
def conformRawUptoRow : OpenClaim := { program := "ytkjdkbmfaamhaaagreat", sum := "e9f84b42f9144af3a48962ff9b3da2881349472154a5eb0af5607fbdf0ba3e9d", func := "cutroom/cutroomlaw27.ConformRaw", spec := "conformRaw", inPlace := ["math/bits.Add64", "math/bits.Sub64"], unfollowed := true, recurses := true, named := ["math/bits.divideError", "math/bits.overflowError"], apart := false, narrowed := true }
def ConformRawUptoSaid : Prop := conformRawUptoRow.holds Tryz.pinned (OpenSpec.upto conformRawSpec)

/-- 'cutroomlaw27.ConformPieces', WHERE WHAT IT READS IS OF BULK AT MOST 1048576: true; the input reads as it did. -/
def conformPiecesUptoRow : OpenClaim := { program := "ytkjdkbmfaamhaaagreat", sum := "e9f84b42f9144af3a48962ff9b3da2881349472154a5eb0af5607fbdf0ba3e9d", func := "cutroom/cutroomlaw27.ConformPieces", spec := "conformPieces", inPlace := ["math/bits.Add64", "math/bits.Sub64"], unfollowed := true, recurses := true, named := ["math/bits.divideError", "math/bits.overflowError"], apart := false, narrowed := true }
def ConformPiecesUptoSaid : Prop := conformPiecesUptoRow.holds Tryz.pinned (OpenSpec.upto conformPiecesSpec)

end Rows
end Go.Proofs.YtkjdkbmfaamhaaaGreat
