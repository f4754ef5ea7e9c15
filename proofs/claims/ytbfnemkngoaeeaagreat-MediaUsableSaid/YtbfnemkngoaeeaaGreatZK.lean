/- Proved here: Contracts of the functions that compute with wide numbers, within the bounds of positions, for use in the proofs of the given statements; conditions stand in each theorem. -/
import Derived.Test.YtbfnemkngoaeeaaGreatZX
import Derived.Laws.BitsAllLaws
import Derived.Laws.Bits64b
import Derived.Laws.Externs
import Derived.Test.YtbfnemkngoaeeaaGreatZI
set_option linter.unusedSimpArgs false
set_option linter.unusedVariables false
set_option linter.unusedSectionVars false
set_option linter.unnecessarySimpa false
namespace Go.Proofs.YtbfnemkngoaeeaaGreat
open Go.RowKit
set_option maxRecDepth 4000
abbrev vwide (z:Int):V := .agg [vbool (decide (z<0)),vu64 0,vu64 ((z.natAbs:Nat):Int)]
open Go.RowKit
set_option maxRecDepth 4000
def toQ (r:RatR):Rat:=mkRat r.num r.den.toNat
def ofQ (q:Rat):RatR:=⟨q.num,q.den⟩
open Go.RowKit
set_option maxRecDepth 4000
abbrev vqe (q:Rat):V := .tup [vrat (ofQ q),vint 0]
open Go.RowKit
set_option maxRecDepth 4000
def wayQ (s:SourceR) (n:Int):Rat:=toQ ⟨n,1⟩*toQ s.speed
def movedQ (s:SourceR) (n:Int):Rat:=toQ s.pos+wayQ s n
def movedS (s:SourceR) (n:Int):SourceR:=if s.isZ=true then s else { s with pos:=ofQ (movedQ s n) }
structure SrcOk (s:SourceR) (p d:Nat):Prop where
 kind:s.kind=1∨s.kind=2
 name:vName s.name=true
 pos:vRat s.pos=true
 speed:vRat s.speed=true
 wpos:vWith s.pos 1099511627776=true
 wspeed:vWith s.speed 1024=true
 hp:s.pos.den=p
 hd:s.speed.den=d
 p1 : 1≤p
 d1 : 1≤d
 lcm:Nat.lcm p d≤65536
 ple:p≤65536
 dle:d≤65536
 pnum:s.pos.num.natAbs≤1099511627776*p
 snum:s.speed.num.natAbs≤1024*d
theorem srcOk_of {s:SourceR} (hv:vSource s=true) (hz:s.isZ=false):∃ p d,SrcOk s p d:=by
 unfold vSource at hv
 rw [hz,Bool.false_or] at hv
 simp only [Bool.and_eq_true,Bool.or_eq_true,beq_iff_eq,decide_eq_true_eq] at hv
 obtain ⟨⟨⟨⟨⟨⟨h1,h2⟩,h3⟩,h4⟩,h5⟩,h6⟩,h7⟩:=hv
 have d1:=vRat_den h3
 have d2:=vRat_den h4
 obtain ⟨p,hp⟩:=nat_of (n:=s.pos.den) (by omega)
 obtain ⟨d,hd⟩:=nat_of (n:=s.speed.den) (by omega)
 have hl:=lcm_dens h3 h4 h7
 unfold lcmS at h7
 have h5':=h5
 have h6':=h6
 unfold vWith at h5' h6'
 simp only [decide_eq_true_eq] at h5' h6'
 rw [hp,hd] at h7
 simp only [Int.natAbs_natCast] at h7
 exact ⟨p,d,h1,h2,h3,h4,h5,h6,hp,hd,by omega,by omega,h7,by omega,by omega,by omega,by omega⟩
open Go.RowKit
set_option maxRecDepth 4000
def numB (s:SourceR) (n:Int) (p d:Nat):Int:=s.pos.num*((Nat.lcm p d / p:Nat):Int)+n*s.speed.num*((Nat.lcm p d / d:Nat):Int)
open Go.RowKit
set_option maxRecDepth 4000
def placedOk (s:SourceR):Bool:=s.isZ||vWith s.pos 1099511627776
end Go.Proofs.YtbfnemkngoaeeaaGreat
