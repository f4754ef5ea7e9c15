/- Proved here: The contract of the function that cuts an interval out of a track, for use in the proofs of the given statements; conditions stand in each theorem. -/
import Derived.Test.YtkjdkbmfaamhaaaGreatWA
import Derived.Test.YtkjdkbmfaamhaaaGreatZQ
import Derived.Test.YtkjdkbmfaamhaaaGreatZL
set_option linter.unusedSimpArgs false
set_option linter.unusedVariables false
set_option linter.unusedSectionVars false
set_option linter.unnecessarySimpa false
namespace Go.Proofs.YtkjdkbmfaamhaaaGreat
open Go.RowKit
set_option maxRecDepth 4000
def gapC (n:Int):ClipR:=⟨n,0,zSource,zSource,0,0,0,⟨#[]⟩,0,[]⟩
def cutR:List ClipR→Int→List ClipR×Int
 | [],n=>([],n)
 | c::l,n=>if n=0 then ([],0) else ({ c with len:=min c.len n }::(cutR l (n - min c.len n)).1,(cutR l (n - min c.len n)).2)
def gapEnd (r:List ClipR×Int):List ClipR:=if 0<r.2 then r.1 ++ [gapC r.2] else r.1
def advD (D:List ClipR) (o:Int):List ClipR:=advR (D.getD 0 default) o::D.drop 1
def cutT (t:List ClipR) (a n:Int):List ClipR :=
 if ((findL t 0 a).2.2&&decide (0<n))=true then gapEnd (cutR (advD (t.drop (findL t 0 a).1.toNat) (findL t 0 a).2.1) n) else gapEnd ([],n)
open Go.RowKit
set_option maxRecDepth 4000
def one (c:ClipR) (k:Int):ClipR := { advR c k with len:=1 }
def frC (c:ClipR):List ClipR:=(List.range c.len.toNat).map fun k:Nat=>one c (k:Int)
def fr (l:List ClipR):List ClipR:=l.flatMap frC
theorem fr_cons (c:ClipR) (l:List ClipR):fr (c::l)=frC c++fr l:=rfl
theorem frC_len (c:ClipR):(frC c).length=c.len.toNat:=by unfold frC;simp
theorem fr_len:∀ {l:List ClipR},(∀ c∈l,1≤c.len)→((fr l).length:Int)=totL l
 | [],_=>rfl
 | c::l,h=>by
  have ih:=fr_len (l:=l) fun d hd=>h d (by simp [hd])
  have h1:=h c (by simp)
  rw [fr_cons,List.length_append,frC_len]
  simp only [totL]
  omega
structure Gd (m:Int) (c:ClipR):Prop where
 ok:vClip c=true
 fit:c.fit
 pl:∀ k,0≤k→k≤m→placedOk (movedS c.a k)=true∧placedOk (movedS c.b k)=true
end Go.Proofs.YtkjdkbmfaamhaaaGreat
