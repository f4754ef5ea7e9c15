/- Proved here: A medium's cells, as one function, for use in the proofs of the given statements; conditions stand in each theorem. -/
import Derived.Test.YtmbmmijdmdoalaaZW
set_option linter.unusedSimpArgs false
set_option linter.unusedVariables false
set_option linter.unusedSectionVars false
set_option linter.unnecessarySimpa false
namespace Go.Proofs.Ytmbmmijdmdoalaa
open Go.RowKit
set_option maxRecDepth 4000
def mHead (m:MediumR):List T:=[tstr m.name,tu m.sum]++m.seq.c ++ [ti m.frames,ti m.channels,ti m.samples]
def vmedX (m:MediumR) (x:V):List V:=(mHead m).map V.t ++ [x]
@[go_sem] theorem vmedX_len (m:MediumR) (x:V):(vmedX m x).length=141:=rfl
@[go_sem] theorem vmedX_140 (m:MediumR) (x:V):(vmedX m x)[140]? = some x:=rfl
@[go_sem] theorem vmedX_all (m:MediumR) (x:V):List.take 141 (vmedX m x)=vmedX m x:=List.take_of_length_le (by rw [vmedX_len];exact Nat.le_refl _)
@[go_sem] theorem vmedX_put (m:MediumR) (x y:V):List.take 140 (vmedX m x) ++ [y]=vmedX m y:=rfl
@[go_sem] theorem vmedX_drop (m:MediumR) (x:V):List.drop 141 (vmedX m x) = []:=rfl
@[go_sem] theorem vmedX_put9 (m:MediumR) (x:V) (n:Int):List.take 139 (vmedX m x) ++ [.t (.lit (.int .i64 n))]++List.drop 140 (vmedX m x)=vmedX { m with samples:=n } x:=rfl
@[go_sem] theorem vmedX_cell (m:MediumR) (x:V):(vmedX m x).all V.isCell=V.isCell x:=by
 unfold vmedX
 rw [List.all_append]
 have:((mHead m).map V.t).all V.isCell=true:=by
  rw [List.all_eq_true]
  intro x hx
  obtain ⟨t,_,rfl⟩:=List.mem_map.1 hx
  rfl
 rw [this]
 simp
def lendX (m:MediumR) (o:Option T):Option (List T) :=
 match o with
 | some t=>some (mHead m ++ [t])
 | none=>none
attribute [go_sem] lendX
@[go_sem] theorem vmedX_tCellsT (m:MediumR) (t:T):Go.Proofs.Ytmbmmijdmdoalaa.tCells (vmedX m (.t t))=some (mHead m ++ [t]):=by
 unfold vmedX
 generalize mHead m=l
 induction l with
 | nil=>rfl
 | cons a l ih=>simp only [List.map_cons,List.cons_append,tCells,ih,Option.map_some]
theorem fillA (a b:Int):fillV (fun i=>[(0,1),(1,1),(2,2),(4,1),(5,1),(6,1),(7,64),(71,64)][i]?) (zeroV Try.z64) [(2, .agg [.t (.lit (.int .i64 a)), .t (.lit (.int .i64 b))])]=some (vseq ⟨0,0,⟨a,b⟩,false,0,0,fun _=>0⟩):=by
 rfl
theorem fillB (s:SeqR) (n:ByteArray) (f:Int):fillV (fun i=>[(0,1),(1,1),(2,135),(137,1),(138,1),(139,1),(140,1)][i]?) (zeroV Try.z67) [(0, .t (.lit (.string n))),(2, .agg (vseq s)),(3, .t (.lit (.int .i64 f)))]=some (vmedX ⟨n,0,s,f,0,0,[]⟩ (.t (.lit (.slice none 0 0)))):=by
 rfl
end Go.Proofs.Ytmbmmijdmdoalaa
