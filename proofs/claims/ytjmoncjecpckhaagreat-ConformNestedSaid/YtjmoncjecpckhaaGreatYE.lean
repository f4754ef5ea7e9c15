/- Proved here: The caption that a tape gives, for use in the proofs of the given statements; conditions stand in each theorem. -/
import Derived.Test.YtjmoncjecpckhaaGreatY8
import Derived.Test.YtjmoncjecpckhaaGreatZS
import Derived.Test.YtjmoncjecpckhaaGreatZQ
import Derived.Test.YtjmoncjecpckhaaGreatZR
set_option linter.unusedSimpArgs false
set_option linter.unusedVariables false
set_option linter.unusedSectionVars false
set_option linter.unnecessarySimpa false
namespace Go.Proofs.YtjmoncjecpckhaaGreat
open Go.RowKit
set_option maxRecDepth 4000
def cueLines:List ByteArray:=[⟨#[72,101,108,108,111,46]⟩,⟨#[111,110,101,32,116,119,111,32,116,104,114,101,101]⟩,⟨#[120]⟩,⟨#[45,32,87,104,97,116,63,32,45,32,78,111,116,104,105,110,103,44,32,110,111,116,104,105,110,103,32,97,116,32,97,108,108,46]⟩]
def cueLn (L:List Int) (k:Nat):ByteArray:=cueLines.getD (tapeN L k 4).toNat ⟨#[]⟩
def cueAt (L:List Int) (k:Nat):CueR×Nat :=
 if tapeN L (k+2) 2=0 then (⟨tapeN L k 50,tapeN L k 50+1+tapeN L (k+1) 20,[cueLn L (k+3)]⟩,k+4)
 else (⟨tapeN L k 50,tapeN L k 50+1+tapeN L (k+1) 20,[cueLn L (k+3),cueLn L (k+4)]⟩,k+5)
open Go.RowKit
set_option maxRecDepth 4000
def sKinds:List Int:=[1,1,0,2]
def sGains:List Int:=[4096,4096,2048,0,8192,5000]
def quiet (s:SourceR):SourceR := { s with smooth:=false }
def soundAt (L:List Int) (k:Nat) (m s:Int):ClipR×Nat :=
 let len:=1+tapeN L k 9
 let kind:=sKinds.getD (tapeN L (k+1) 4).toNat 0
 if kind=0 then (⟨len,0,zSource,zSource,0,0,0,⟨#[]⟩,0,[]⟩,k+2)
 else
  let a:=srcAt L (k+2) m s
  if kind=2 then
   let b:=srcAt L a.2 m s
   let off:=tapeN L b.2 3
   let total:=off+len+tapeN L (b.2+1) 3
   (⟨len,kind,quiet a.1,quiet b.1,off,total,0,⟨#[]⟩,sGains.getD (tapeN L (b.2+2) 6).toNat 0,[tapeN L (b.2+3) 4 - 1,tapeN L (b.2+4) 4 - 1]⟩,b.2+5)
  else (⟨len,kind,quiet a.1,zSource,0,0,0,⟨#[]⟩,sGains.getD (tapeN L a.2 6).toNat 0,[tapeN L (a.2+1) 4 - 1,tapeN L (a.2+2) 4 - 1]⟩,a.2+3)
def vclipN (c:ClipR):V:=if c.chan = [] then vclipZ c else vclip c
open Go.RowKit
set_option maxRecDepth 4000
def soundAt0 (L:List Int) (k:Nat) (m s:Int):ClipR×Nat :=
 let len:=1+tapeN L k 9
 let kind:=sKinds.getD (tapeN L (k+1) 4).toNat 0
 if kind=0 then (⟨len,0,zSource,zSource,0,0,0,⟨#[]⟩,0,[]⟩,k+2)
 else
  let a:=srcAt L (k+2) m s
  if kind=2 then
   let b:=srcAt L a.2 m s
   let off:=tapeN L b.2 3
   let total:=off+len+tapeN L (b.2+1) 3
   (⟨len,kind,quiet a.1,quiet b.1,off,total,0,⟨#[]⟩,sGains.getD (tapeN L (b.2+2) 6).toNat 0,[]⟩,b.2+3)
  else (⟨len,kind,quiet a.1,zSource,0,0,0,⟨#[]⟩,sGains.getD (tapeN L a.2 6).toNat 0,[]⟩,a.2+1)
def soundAt1 (L:List Int) (k:Nat) (m s:Int):ClipR×Nat :=
 let len:=1+tapeN L k 9
 let kind:=sKinds.getD (tapeN L (k+1) 4).toNat 0
 if kind=0 then (⟨len,0,zSource,zSource,0,0,0,⟨#[]⟩,0,[]⟩,k+2)
 else
  let a:=srcAt L (k+2) m s
  if kind=2 then
   let b:=srcAt L a.2 m s
   let off:=tapeN L b.2 3
   let total:=off+len+tapeN L (b.2+1) 3
   (⟨len,kind,quiet a.1,quiet b.1,off,total,0,⟨#[]⟩,sGains.getD (tapeN L (b.2+2) 6).toNat 0,[tapeN L (b.2+3) 4 - 1]⟩,b.2+4)
  else (⟨len,kind,quiet a.1,zSource,0,0,0,⟨#[]⟩,sGains.getD (tapeN L a.2 6).toNat 0,[tapeN L (a.2+1) 4 - 1]⟩,a.2+2)
def soundC (L:List Int) (k:Nat) (m s:Int) (ch:Int):ClipR×Nat:=if ch=0 then soundAt0 L k m s else if ch=1 then soundAt1 L k m s else soundAt L k m s
open Go.RowKit
set_option maxRecDepth 4000
end Go.Proofs.YtjmoncjecpckhaaGreat
