/- Proved here: The runs of a list of expressions; conditions stand in each theorem. -/
import Derived.Test.YtbfnemkngoaeeaaGreatQ15
import Derived.Test.YtbfnemkngoaeeaaGreatQ31
set_option linter.unusedSimpArgs false
set_option linter.unusedVariables false
set_option linter.unusedSectionVars false
set_option linter.unnecessarySimpa false
namespace Go.Proofs.YtbfnemkngoaeeaaGreat
open Go.RowKit
set_option maxRecDepth 4000
structure RunR where
 media:ByteArray
 film:Int
 start:Int
 len:Int
 deriving Inhabited
def RunR.c (r:RunR):List T:=[gJ r.media,ti r.film,ti r.start,ti r.len]
abbrev vrun (r:RunR):V := .agg [bM r.media,aC r.film,aC r.start,aC r.len]
@[go_sem] theorem RunR.ct (r:RunR):(RunR.c r).map V.t = [bM r.media,aC r.film,aC r.start,aC r.len]:=rfl
@[go_sem] theorem RunR.cl (r:RunR):(RunR.c r).length=4:=rfl
abbrev truns (l:List RunR):T := .list 4 (RunR.c default) (l.map RunR.c)
def aBb:ExprR→ByteArray
 | .mk _ media .. => media
def aKc:ExprR→Int
 | .mk _ _ frame .. => frame
def srcB (e:ExprR):Bool:=opE e==1
def aVb (b e:ExprR):Bool:=opE b==1&&((aBb b).toList==(aBb e).toList)&&aKc e - 1==aKc b
def bump:List RunR→List RunR
 | []=>[]
 | [r]=>[{ r with len:=r.len+1 }]
 | r::s::l=>r::bump (s::l)
def joinB (l:List ExprR) (k:Nat):Bool:=decide (0<k)&&aVb (l.getD (k - 1) default) (l.getD k default)
def aAp (l:List ExprR):Nat→List RunR
 | 0=>[]
 | k+1 =>
  if srcB (l.getD k default)=true then
   (if joinB l k=true then bump (aAp l k) else aAp l k ++ [⟨aBb (l.getD k default),k,aKc (l.getD k default),1⟩])
  else aAp l k
def runsE (l:List ExprR):List RunR:=aAp l l.length
structure RunsInv (l:List ExprR) (k:Nat) (rs:List RunR):Prop where
 len:rs.length≤k
 all:∀ r∈rs,1≤r.len∧0≤r.film∧r.film+r.len≤(k:Int)
 last : 0<k→srcB (l.getD (k - 1) default)=true → ∃ i r,rs=i ++ [r]∧r.film+r.len=(k:Int)∧r.media.toList=(aBb (l.getD (k - 1) default)).toList
 gap : 0<k→srcB (l.getD (k - 1) default)=false → ∀ r∈rs,r.film+r.len<(k:Int)
open Go.RowKit
set_option maxRecDepth 4000
def seq0:SequenceR:=⟨⟨#[97]⟩,⟨25,1⟩,16,16,[],[],[],0⟩
def proj0:ProjR:=⟨[],[seq0]⟩
abbrev zLay:List T:=[.lit (.slice none 0 0), .lit (.slice none 0 0), .lit (.slice none 0 0)]
abbrev ix0:V := .agg [.t (.map []), .t (.map [(.string ⟨#[97]⟩,false,[.list 3 zLay []])])]
theorem Ra:aHn Tryz.prog 93:=by
 refine ⟨Tryz.X93,fun cap w=>callsDIn_of_wpSIn Tryz.func93 rfl trivial fun c₀ cs hu=>?_⟩;have k1 : 2<cap.size+(5 - cap.size):=by omega
 have k2 : 3<cap.size+(5 - cap.size):=by omega
 have k3 : 2<max 5 cap.size:=by omega
 have k4 : 3<max 5 cap.size:=by omega
 apply wpSIn_seq;apply wpSIn_region;simp [wpOpsSIn,Fence.wide,go_sem,recoverD,hu,Tryz.ntmps93,Exit.thenS,k1,k2,k3,k4];refine wpSIn_cond (t:=false) (by simp [Act.eval,k2,k4]) ?_;refine wpSIn_of_wpIn rfl (wpIn_skip ?_);refine ⟨rfl, .returning,by rw [← hu], .tuple #[],?_,⟨_,rfl⟩,rfl,rfl⟩;simp [results,Tryz.results93,go_sem]
open Go.RowKit
set_option maxRecDepth 4000
def still25 (n:Int):ExprR:=if (decide (n<0)||decide (n ≥ 30))=true then zeroE else .mk 1 ⟨#[97]⟩ n 0 0 0 ⟨#[]⟩ []
theorem aJm (op:Int) (media:ByteArray) (frame num den param:Int) (text:ByteArray) {h:Heap}:vW (vex op media frame num den param text []) (.agg [aC op,bM media,aC frame,aC num,aC den,aC param,bM text, .t (.lit (.slice none 0 0))]) h :=
 rR (r' := .agg [aC op,bM media,aC frame,aC num,aC den,aC param,bM text, .t (.lit (.slice none 0 0))]) rfl rfl (jZ (by exact ⟨cC,cC,cC,cC,cC,cC,cC,eN,trivial⟩))
def RunR.eqb (s t:RunR):Bool:=(s.media.toList==t.media.toList)&&s.film==t.film&&s.start==t.start&&s.len==t.len
def exB:ExprR := .mk 2 ⟨#[]⟩ 0 1 2 0 ⟨#[]⟩ [zeroE,zeroE]
theorem aNx:zeroE.fit:=by
 simp only [zeroE,ExprR.fit,ExprR.fits,I64,and_true,true_and];omega
def stE (n:Int):ExprR := .mk 1 ⟨#[97]⟩ n 0 0 0 ⟨#[]⟩ []
end Go.Proofs.YtbfnemkngoaeeaaGreat
