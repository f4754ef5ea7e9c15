/- Proved here: Contracts of the functions that copy clips, for use in the proofs of the given statements; conditions stand in each theorem. -/
import Derived.Test.YtkjdkbmfaamhaaaGreatZK
import Derived.Test.YtkjdkbmfaamhaaaGreatZS
set_option linter.unusedSimpArgs false
set_option linter.unusedVariables false
set_option linter.unusedSectionVars false
set_option linter.unnecessarySimpa false
namespace Go.Proofs.YtkjdkbmfaamhaaaGreat
open Go.RowKit
set_option maxRecDepth 4000
open Go.RowKit
set_option maxRecDepth 4000
def zClip:ClipR:=⟨0,0,zSource,zSource,0,0,0,⟨#[]⟩,0,[]⟩
def shK (k:Int):Bool:=k==2||k==3
def advR (c:ClipR) (n:Int):ClipR := { c with len:=c.len - n,a:=movedS c.a n,b:=movedS c.b n,off:=if shK c.kind=true then c.off+n else c.off }
def advOk (c:ClipR) (n:Int):Bool:=vClip c&&decide (0≤n)&&decide (n<c.len)
def advC (c:ClipR) (n:Int):ClipR×Int:=if advOk c n=true then (if (placedOk (movedS c.a n)&&placedOk (movedS c.b n))=true then (advR c n,0) else (zClip,2)) else (zClip,1)
abbrev vce (r:ClipR×Int):V := .tup [vclip r.1,vint r.2]
def zVs:List V:=[vint 0,vint 0,vint 0,vstr ⟨#[]⟩,vint 0,vint 0,vint 0,vint 0,vbool false,vint 0,vstr ⟨#[]⟩,vint 0,vint 0,vint 0,vint 0,vbool false,vint 0,vint 0,vint 0,vstr ⟨#[]⟩,vint 0, .t (.lit (.slice none 0 0))]
open Go.RowKit
set_option maxRecDepth 4000
abbrev vcb (c:ClipR) (b:Bool):V := .tup [vclip c,vbool b]
def shiftR (c:ClipR) (n:Int):ClipR := { c with a:=movedS c.a n,b:=movedS c.b n,off:=if shK c.kind=true then c.off+n else c.off }
def headOk (c:ClipR) (n:Int):Bool:=vClip c&&decide (1≤n)&&decide (n≤c.len)
def headC (c:ClipR) (n:Int):ClipR×Int:=if headOk c n=true then ({ c with len:=n },0) else (zClip,1)
open Go.RowKit
set_option maxRecDepth 4000
def intsEq (a b:List Int):Bool:=a==b
def ClipR.eqb (a b:ClipR):Bool:=a.len==b.len&&a.kind==b.kind&&SourceR.eqb a.a b.a&&SourceR.eqb a.b b.b&&a.off==b.off&&a.total==b.total&&a.param==b.param&&(a.text.toList==b.text.toList)&&a.gain==b.gain&&(a.chan==b.chan)
theorem SourceR.eqb_iff {a b:SourceR}:a.eqb b=true ↔ a=b:=by
 unfold SourceR.eqb
 simp only [Bool.and_eq_true,beq_iff_eq]
 refine ⟨fun ⟨⟨⟨⟨⟨⟨h1,h2⟩,h3⟩,h4⟩,h5⟩,h6⟩,h7⟩=>?_,fun h=>by rw [h];exact ⟨⟨⟨⟨⟨⟨rfl,rfl⟩,rfl⟩,rfl⟩,rfl⟩,rfl⟩,rfl⟩⟩
 obtain ⟨k,n,⟨p1,p2⟩,⟨q1,q2⟩,m⟩:=a
 obtain ⟨k',n',⟨p1',p2'⟩,⟨q1',q2'⟩,m'⟩:=b
 simp only at h1 h2 h3 h4 h5 h6 h7
 rw [h1,bytes_inj h2,h3,h4,h5,h6,h7]
theorem ClipR.eqb_iff {a b:ClipR}:a.eqb b=true ↔ a=b:=by
 unfold ClipR.eqb
 simp only [Bool.and_eq_true,beq_iff_eq,SourceR.eqb_iff]
 refine ⟨fun ⟨⟨⟨⟨⟨⟨⟨⟨⟨h1,h2⟩,h3⟩,h4⟩,h5⟩,h6⟩,h7⟩,h8⟩,h9⟩,h10⟩=>?_,fun h=>by rw [h];exact ⟨⟨⟨⟨⟨⟨⟨⟨⟨rfl,rfl⟩,rfl⟩,rfl⟩,rfl⟩,rfl⟩,rfl⟩,rfl⟩,rfl⟩,rfl⟩⟩
 cases a;cases b
 simp only at h1 h2 h3 h4 h5 h6 h7 h8 h9 h10
 rw [h1,h2,h3,h4,h5,h6,h7,bytes_inj h8,h9,h10]
open Go.RowKit
set_option maxRecDepth 4000
structure Mild (c:ClipR):Prop where
 fit:c.fit
 chan:c.chan.length≤65536
 a:vSource c.a=true
 b:vSource c.b=true
 len : 0≤c.len∧c.len≤2147483647
 off:shK c.kind=true → -2147483648≤c.off∧c.off≤2147483648
def contC (p q:ClipR):Bool:=if (p.kind==0&&q.kind==0)=true then true else q.eqb { shiftR p p.len with len:=q.len }
end Go.Proofs.YtkjdkbmfaamhaaaGreat
