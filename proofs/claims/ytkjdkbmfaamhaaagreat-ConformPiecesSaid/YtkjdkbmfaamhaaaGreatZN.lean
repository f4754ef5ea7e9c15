/- Proved here: The contract of the test that the law's functions are there, for use in the proofs of the given statements; conditions stand in each theorem. -/
import Derived.Test.YtkjdkbmfaamhaaaGreatZG
import Derived.Test.YtkjdkbmfaamhaaaGreatZM
import Derived.Test.YtkjdkbmfaamhaaaGreatZU
import Derived.Test.YtkjdkbmfaamhaaaGreatZS
set_option linter.unusedSimpArgs false
set_option linter.unusedVariables false
set_option linter.unusedSectionVars false
set_option linter.unnecessarySimpa false
namespace Go.Proofs.YtkjdkbmfaamhaaaGreat
open Go.RowKit
set_option maxRecDepth 4000
def bA:ByteArray:=⟨#[97]⟩
def awS1:SourceR:=⟨1,⟨#[97]⟩,⟨10,1⟩,⟨1,2⟩,false⟩
def awC1:ClipR:=⟨3,1,awS1,zSource,0,0,0,⟨#[]⟩,0,[]⟩
def awG (n:Int) (k:Int):ClipR:=⟨n,k,zSource,zSource,0,0,0,⟨#[]⟩,0,[]⟩
theorem i0:I64 0:=⟨by decide,by decide⟩
theorem zfit:zSource.fit:=⟨⟨by decide,by decide⟩,⟨⟨by decide,by decide⟩,⟨by decide,by decide⟩⟩,⟨⟨by decide,by decide⟩,⟨by decide,by decide⟩⟩⟩
end Go.Proofs.YtkjdkbmfaamhaaaGreat
