/- Proved here: The clips that a tape gives, as functions, for use in the proofs of the given statements; conditions stand in each theorem. -/
import Derived.Test.YtjmoncjecpckhaaGreatZO
import Derived.Test.YtjmoncjecpckhaaGreatZS
import Derived.Test.YtjmoncjecpckhaaGreatZN
set_option linter.unusedSimpArgs false
set_option linter.unusedVariables false
set_option linter.unusedSectionVars false
set_option linter.unnecessarySimpa false
namespace Go.Proofs.YtjmoncjecpckhaaGreat
open Go.RowKit
set_option maxRecDepth 4000
def srcAt (L:List Int) (k:Nat) (m s:Int):SourceR×Nat :=
 if (tapeN L k 8==0||m+s==0)=true then (zSource,k+1)
 else if ((tapeN L k 8==1||m==0)&&decide (s > 0))=true then
  (⟨2,nameB ⟨#[115]⟩ (tapeN L (k+5) s),ratAt L (k+1) 40,speedAt L (k+3),tapeN L (k+4) 5==0⟩,k+6)
 else if 0<m then (⟨1,nameB ⟨#[109]⟩ (tapeN L (k+5) m),ratAt L (k+1) 40,speedAt L (k+3),tapeN L (k+4) 5==0⟩,k+6)
 else (zSource,k+5)
def kinds:List Int:=[1,1,1,0,2,3,4,5]
def texts:List ByteArray:=[⟨#[65]⟩,⟨#[82,69,69,76,32,55]⟩,⟨#[116,104,101,32,101,110,100,46]⟩,⟨#[49,50,58,51,48]⟩]
def clipAt (L:List Int) (k:Nat) (m s:Int):ClipR×Nat :=
 let len:=1+tapeN L k 9
 let kind:=kinds.getD (tapeN L (k+1) 8).toNat 0
 if kind=0 then (⟨len,0,zSource,zSource,0,0,0,⟨#[]⟩,0,[]⟩,k+2)
 else
  let a:=srcAt L (k+2) m s
  if kind=2∨kind=3 then
   let b:=srcAt L a.2 m s
   let off:=tapeN L b.2 3
   let total:=off+len+tapeN L (b.2+1) 3
   if kind=3 then (⟨len,kind,a.1,b.1,off,total,tapeN L (b.2+2) 4,⟨#[]⟩,0,[]⟩,b.2+3)
   else (⟨len,kind,a.1,b.1,off,total,0,⟨#[]⟩,0,[]⟩,b.2+2)
  else if kind=4 then
   let b:=srcAt L a.2 m s
   (⟨len,kind,a.1,b.1,0,0,tapeN L b.2 256,⟨#[]⟩,0,[]⟩,b.2+1)
  else if kind=5 then (⟨len,kind,a.1,zSource,0,0,0,texts.getD (tapeN L a.2 4).toNat ⟨#[]⟩,0,[]⟩,a.2+1)
  else (⟨len,kind,a.1,zSource,0,0,0,⟨#[]⟩,0,[]⟩,a.2)
abbrev vclipZ (c:ClipR):V := .agg [vint c.len,vint c.kind,vint c.a.kind,vstr c.a.name,vint c.a.pos.num,vint c.a.pos.den,vint c.a.speed.num,vint c.a.speed.den,vbool c.a.smooth,
 vint c.b.kind,vstr c.b.name,vint c.b.pos.num,vint c.b.pos.den,vint c.b.speed.num,vint c.b.speed.den,vbool c.b.smooth,vint c.off,vint c.total,vint c.param,vstr c.text,vint c.gain, .t (.lit (.slice none 0 0))]
open Go.RowKit
set_option maxRecDepth 4000
def ratOk (r q:RatR):Bool:=vRat r&&vRat q&&vWith r 1099511627776&&vWith q 1024&&decide (Nat.lcm r.den.natAbs q.den.natAbs≤65536)&&decide (r.num.natAbs≤100000)&&decide (r.den.natAbs≤100000)&&decide (q.num.natAbs≤100000)&&decide (q.den.natAbs≤100000)
theorem zS_isZ:zSource.isZ=true:=by kernel_rfl
theorem zS_ok:vSource zSource=true:=by unfold vSource;rw [zS_isZ];rfl
end Go.Proofs.YtjmoncjecpckhaaGreat
