/- Proved here: The runs of a list of expressions, for use in the proofs of the given statements; conditions stand in each theorem. -/
import Derived.Test.YtkjdkbmfaamhaaaGreatY3
import Derived.Test.YtkjdkbmfaamhaaaGreatY6
set_option linter.unusedSimpArgs false
set_option linter.unusedVariables false
set_option linter.unusedSectionVars false
set_option linter.unnecessarySimpa false
namespace Go.Proofs.YtkjdkbmfaamhaaaGreat
open Go.RowKit
set_option maxRecDepth 4000
structure RunR where
 media:ByteArray
 film:Int
 start:Int
 len:Int
 deriving Inhabited
def RunR.c (r:RunR):List T:=[tstr r.media,ti r.film,ti r.start,ti r.len]
abbrev vrun (r:RunR):V := .agg [vstr r.media,vint r.film,vint r.start,vint r.len]
@[go_sem] theorem RunR.ct (r:RunR):(RunR.c r).map V.t = [vstr r.media,vint r.film,vint r.start,vint r.len]:=rfl
@[go_sem] theorem RunR.cl (r:RunR):(RunR.c r).length=4:=rfl
abbrev truns (l:List RunR):T := .list 4 (RunR.c default) (l.map RunR.c)
def mediaE:ExprR→ByteArray
 | .mk _ media .. => media
def frameE:ExprR→Int
 | .mk _ _ frame .. => frame
def srcB (e:ExprR):Bool:=opE e==1
def followsB (b e:ExprR):Bool:=opE b==1&&((mediaE b).toList==(mediaE e).toList)&&frameE e - 1==frameE b
def bump:List RunR→List RunR
 | []=>[]
 | [r]=>[{ r with len:=r.len+1 }]
 | r::s::l=>r::bump (s::l)
def joinB (l:List ExprR) (k:Nat):Bool:=decide (0<k)&&followsB (l.getD (k - 1) default) (l.getD k default)
def runsGo (l:List ExprR):Nat→List RunR
 | 0=>[]
 | k+1 =>
  if srcB (l.getD k default)=true then
   (if joinB l k=true then bump (runsGo l k) else runsGo l k ++ [⟨mediaE (l.getD k default),k,frameE (l.getD k default),1⟩])
  else runsGo l k
def runsE (l:List ExprR):List RunR:=runsGo l l.length
structure RunsInv (l:List ExprR) (k:Nat) (rs:List RunR):Prop where
 len:rs.length≤k
 all:∀ r∈rs,1≤r.len∧0≤r.film∧r.film+r.len≤(k:Int)
 last : 0<k→srcB (l.getD (k - 1) default)=true → ∃ i r,rs=i ++ [r]∧r.film+r.len=(k:Int)∧r.media.toList=(mediaE (l.getD (k - 1) default)).toList
 gap : 0<k→srcB (l.getD (k - 1) default)=false → ∀ r∈rs,r.film+r.len<(k:Int)
open Go.RowKit
set_option maxRecDepth 4000
def seq0:SequenceR:=⟨⟨#[97]⟩,⟨25,1⟩,16,16,[],[],[],0⟩
def proj0:ProjR:=⟨[],[seq0]⟩
abbrev zLay:List T:=[.lit (.slice none 0 0), .lit (.slice none 0 0), .lit (.slice none 0 0)]
abbrev ix0:V := .agg [.t (.map []), .t (.map [(.string ⟨#[97]⟩,false,[.list 3 zLay []])])]
open Go.RowKit
set_option maxRecDepth 4000
def still25 (n:Int):ExprR:=if (decide (n<0)||decide (n ≥ 30))=true then zeroE else .mk 1 ⟨#[97]⟩ n 0 0 0 ⟨#[]⟩ []
def RunR.eqb (s t:RunR):Bool:=(s.media.toList==t.media.toList)&&s.film==t.film&&s.start==t.start&&s.len==t.len
def exB:ExprR := .mk 2 ⟨#[]⟩ 0 1 2 0 ⟨#[]⟩ [zeroE,zeroE]
def stE (n:Int):ExprR := .mk 1 ⟨#[97]⟩ n 0 0 0 ⟨#[]⟩ []
end Go.Proofs.YtkjdkbmfaamhaaaGreat
