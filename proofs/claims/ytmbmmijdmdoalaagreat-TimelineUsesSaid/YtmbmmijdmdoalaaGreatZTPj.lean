/- Proved here: What the statement about valid projects computes, for use in the proofs of the given statements; conditions stand in each theorem. -/
import Derived.Test.YtmbmmijdmdoalaaGreatYH
import Derived.Test.YtmbmmijdmdoalaaGreatYD
import Derived.Test.YtmbmmijdmdoalaaGreatYG
import Derived.Test.YtmbmmijdmdoalaaGreatZN
set_option linter.unusedSimpArgs false
set_option linter.unusedVariables false
set_option linter.unusedSectionVars false
set_option linter.unnecessarySimpa false
namespace Go.Proofs.YtmbmmijdmdoalaaGreat
open Go.RowKit
set_option maxRecDepth 4000
theorem projT_sizes (L:List Int) : 1≤(projT L).media.length∧(projT L).media.length≤3∧1≤(projT L).seqs.length∧(projT L).seqs.length≤3 ∧ ∀ s∈(projT L).seqs,s.video.length≤8∧s.sound.length≤8∧s.cues.length≤64:=by
 obtain ⟨M,N,m1,m3,s1,s3,h1,h2,h3,h4⟩:=projT_parts L
 refine ⟨by omega,by omega,by omega,by omega,fun s hs=>?_⟩
 obtain ⟨i,hi,rfl⟩:=mem_at hs
 have:=(h4 i (by omega)).small
 unfold seqSmall at this
 simp only [Bool.and_eq_true,decide_eq_true_eq] at this
 omega
theorem cOddT (L K:List Int):CPure Tryz.prog 13 [vproj (projT L), .t (tints K)] (vproj (oddP (projT L) K)):=by
 obtain ⟨h1,h2,h3,h4,h5⟩:=projT_sizes L
 exact cOdd _ K h1 (by omega) h3 (by omega) fun s hs=>by have:=h5 s hs;omega
theorem oddT_fit (L K:List Int):(oddP (projT L) K).fit:=by
 obtain ⟨h1,h2,h3,h4,h5⟩:=projT_sizes L
 exact oddP_fit (projT_fit L) K h1 h3
end Go.Proofs.YtmbmmijdmdoalaaGreat
