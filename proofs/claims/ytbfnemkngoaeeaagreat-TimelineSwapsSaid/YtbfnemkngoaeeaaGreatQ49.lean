/- Proved here: What the statement about valid projects computes; conditions stand in each theorem. -/
import Derived.Test.YtbfnemkngoaeeaaGreatQ48
import Derived.Test.YtbfnemkngoaeeaaGreatQ31
import Derived.Test.YtbfnemkngoaeeaaGreatQ33
import Derived.Test.YtbfnemkngoaeeaaGreatQ21
import Derived.Test.YtbfnemkngoaeeaaGreatQ44
import Derived.Test.YtbfnemkngoaeeaaGreatQ46
import Derived.Test.YtbfnemkngoaeeaaGreatQ47
set_option linter.unusedSimpArgs false
set_option linter.unusedVariables false
set_option linter.unusedSectionVars false
set_option linter.unnecessarySimpa false
namespace Go.Proofs.YtbfnemkngoaeeaaGreat
open Go.RowKit
set_option maxRecDepth 4000
theorem Dz (L:List Int) : 1≤(dY L).media.length∧(dY L).media.length≤3∧1≤(dY L).seqs.length∧(dY L).seqs.length≤3 ∧ ∀ s∈(dY L).seqs,s.video.length≤8∧s.sound.length≤8∧s.cues.length≤64:=by
 obtain ⟨M,N,m1,m3,s1,s3,h1,h2,h3,h4⟩:=vF L;refine ⟨by omega,by omega,by omega,by omega,fun s hs=>?_⟩;obtain ⟨i,hi,rfl⟩:=Kb hs;have:=(h4 i (by omega)).small;unfold cR at this;simp only [Bool.and_eq_true,decide_eq_true_eq] at this;omega
theorem cOddT (L K:List Int):aN Tryz.prog 19 [eD (dY L), .t (bN K)] (eD (Tp (dY L) K)):=by
 obtain ⟨h1,h2,h3,h4,h5⟩:=Dz L;exact cOdd _ K h1 (by omega) h3 (by omega) fun s hs=>by have:=h5 s hs;omega
theorem aKu (L K:List Int):(Tp (dY L) K).fit:=by
 obtain ⟨h1,h2,h3,h4,h5⟩:=Dz L;exact aKw (aG1 L) K h1 h3
theorem Hf {p:ProjR} (f g:ByteArray) (h:p.fit):(eY p f g).1.media.length≤65536∧(eY p f g).1.seqs.length≤65536:=by
 unfold eY;split
 ·exact ⟨by simp,by simp⟩
 ·rename_i hv;have hsm:=Dg (p:=p) (by simpa using hv);split
  ·split
   ·exact ⟨by show p.media.length≤_;omega,by show (p.seqs.map _).length≤_;rw [List.length_map];omega⟩
   ·exact ⟨by simp,by simp⟩
  ·exact ⟨by simp,by simp⟩
def aJm (s:StateR):List T:=[.list 3 (FileR.c default) (s.files.map FileR.c), .list 4 (LinkR.c default) (s.links.map LinkR.c)]
@[go_sem] theorem stateC_t (s:StateR):(aJm s).map V.t = [.t (Cd s.files), .t (Cc s.links)]:=rfl
@[go_sem] theorem stateC_l (s:StateR):(aJm s).length=2:=rfl
theorem aL0 {α : Type} [Inhabited α] {l:List α} {k:Nat} (c : α → List T) (h:k<l.length) (d:List T):nth d (l.map c) k=c (l.getD k default):=by
 unfold nth;rw [List.getElem?_map,List.getElem?_eq_getElem h,aU h];rfl
end Go.Proofs.YtbfnemkngoaeeaaGreat
