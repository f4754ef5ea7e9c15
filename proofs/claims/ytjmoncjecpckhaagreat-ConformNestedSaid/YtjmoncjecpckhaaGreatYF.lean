/- Proved here: A medium's cells, as one function, for use in the proofs of the given statements; conditions stand in each theorem. -/
import Derived.Test.YtjmoncjecpckhaaGreatZU
import Derived.Test.YtjmoncjecpckhaaGreatYE
set_option linter.unusedSimpArgs false
set_option linter.unusedVariables false
set_option linter.unusedSectionVars false
set_option linter.unnecessarySimpa false
namespace Go.Proofs.YtjmoncjecpckhaaGreat
open Go.RowKit
set_option maxRecDepth 4000
def mHead (m:MediumR):List T:=[tstr m.name,tu m.sum]++m.seq.c ++ [ti m.frames,ti m.channels,ti m.samples]
def vmedX (m:MediumR) (x:V):List V:=(mHead m).map V.t ++ [x]
@[go_sem] theorem vmedX_len (m:MediumR) (x:V):(vmedX m x).length=141:=rfl
@[go_sem] theorem vmedX_140 (m:MediumR) (x:V):(vmedX m x)[140]? = some x:=rfl
@[go_sem] theorem vmedX_put (m:MediumR) (x y:V):List.take 140 (vmedX m x) ++ [y]=vmedX m y:=rfl
@[go_sem] theorem vmedX_drop (m:MediumR) (x:V):List.drop 141 (vmedX m x) = []:=rfl
@[go_sem] theorem vmedX_put9 (m:MediumR) (x:V) (n:Int):List.take 139 (vmedX m x) ++ [.t (.lit (.int .i64 n))]++List.drop 140 (vmedX m x)=vmedX { m with samples:=n } x:=rfl
@[go_sem] theorem vmedX_cell (m:MediumR) (x:V):(vmedX m x).all V.isCell=V.isCell x:=by
 unfold vmedX
 rw [List.all_append]
 have:((mHead m).map V.t).all V.isCell=true:=by
  rw [List.all_eq_true]
  intro x hx
  obtain ⟨t,_,rfl⟩:=List.mem_map.1 hx
  rfl
 rw [this]
 simp
def lendX (m:MediumR) (o:Option T):Option (List T) :=
 match o with
 | some t=>some (mHead m ++ [t])
 | none=>none
attribute [go_sem] lendX
@[go_sem] theorem vmedX_tCellsT (m:MediumR) (t:T):Go.Proofs.YtjmoncjecpckhaaGreat.tCells (vmedX m (.t t))=some (mHead m ++ [t]):=by
 unfold vmedX
 generalize mHead m=l
 induction l with
 | nil=>rfl
 | cons a l ih=>simp only [List.map_cons,List.cons_append,tCells,ih,Option.map_some]
theorem fillA (a b:Int):fillV (fun i=>[(0,1),(1,1),(2,2),(4,1),(5,1),(6,1),(7,64),(71,64)][i]?) (zeroV Tryz.z56) [(2, .agg [.t (.lit (.int .i64 a)), .t (.lit (.int .i64 b))])]=some (vseq ⟨0,0,⟨a,b⟩,false,0,0,fun _=>0⟩):=by
 rfl
open Go.RowKit
set_option maxRecDepth 4000
def cuesAt (L:List Int):Nat→Nat→List CueR×Nat
 | 0,k=>([],k)
 | n+1,k=>((cueAt L k).1::(cuesAt L n (cueAt L k).2).1,(cuesAt L n (cueAt L k).2).2)
def rate3 (L:List Int) (k:Nat):RatR:=⟨(([(25,1),(24,1),(30000,1001)]:List (Int×Int)).getD (tapeN L k 3).toNat (0,0)).1,(([(25,1),(24,1),(30000,1001)]:List (Int×Int)).getD (tapeN L k 3).toNat (0,0)).2⟩
def headR (r:RatR):SeqR:=⟨16,16,r,false,400000,400000,fun _=>0⟩
def medAt (L:List Int) (i k:Nat):MediumR×Nat :=
 (⟨nameB ⟨#[109]⟩ i,IntKind.u64.wrap (tapeN L k 99),headR (rate3 L (k+1)),5+tapeN L (k+2) 40,tapeN L (k+3) 3,tapeN L (k+4) 20000,(cuesAt L (tapeN L (k+5) 3).toNat (k+6)).1⟩,(cuesAt L (tapeN L (k+5) 3).toNat (k+6)).2)
def medsAt (L:List Int):Nat→Nat→Nat→List MediumR×Nat
 | 0,_,k=>([],k)
 | n+1,i,k=>((medAt L i k).1::(medsAt L n (i+1) (medAt L i k).2).1,(medsAt L n (i+1) (medAt L i k).2).2)
abbrev RowQ (l:List CueR):Blk := .row 109 3 (CueR.c default) (tRows (l.map CueR.c))
def vidsAt (L:List Int) (m s:Int):Nat→Nat→List (List ClipR)×Nat
 | 0,k=>([],k)
 | n+1,k=>((trkAt L k m s 5).1::(vidsAt L m s n (trkAt L k m s 5).2).1,(vidsAt L m s n (trkAt L k m s 5).2).2)
def sclipsAt (L:List Int) (m s ch:Int):Nat→Nat→List ClipR×Nat
 | 0,k=>([],k)
 | n+1,k=>((soundC L k m s ch).1::(sclipsAt L m s ch n (soundC L k m s ch).2).1,(sclipsAt L m s ch n (soundC L k m s ch).2).2)
def stkAt (L:List Int) (m s ch:Int) (k:Nat):List ClipR×Nat:=sclipsAt L m s ch (tapeN L k 4).toNat (k+1)
def sndsAt (L:List Int) (m s ch:Int):Nat→Nat→List (List ClipR)×Nat
 | 0,k=>([],k)
 | n+1,k=>((stkAt L m s ch k).1::(sndsAt L m s ch n (stkAt L m s ch k).2).1,(sndsAt L m s ch n (stkAt L m s ch k).2).2)
def seqAt (L:List Int) (m:Int) (i k:Nat):SequenceR×Nat :=
 let ch:=tapeN L (k+1) 3
 let v:=vidsAt L m i (1+tapeN L (k+2) 2).toNat (k+3)
 let a:=sndsAt L m i ch (tapeN L v.2 3).toNat (v.2+1)
 let c:=cuesAt L (tapeN L a.2 3).toNat (a.2+1)
 (⟨nameB ⟨#[115]⟩ i,rate3 L k,16,16,v.1,a.1,c.1,ch⟩,c.2)
def seqsAt (L:List Int) (m:Int):Nat→Nat→Nat→List SequenceR×Nat
 | 0,_,k=>([],k)
 | n+1,i,k=>((seqAt L m i k).1::(seqsAt L m n (i+1) (seqAt L m i k).2).1,(seqsAt L m n (i+1) (seqAt L m i k).2).2)
def projT (L:List Int):ProjR :=
 ⟨(medsAt L (1+tapeN L 0 3).toNat 0 2).1,(seqsAt L (1+tapeN L 0 3).toNat (1+tapeN L 1 3).toNat 0 (medsAt L (1+tapeN L 0 3).toNat 0 2).2).1⟩
abbrev RowT (l:List (List ClipR)):Blk := .row 45 1 (trackC []) (tRows (l.map trackC))
abbrev RowSq (l:List SequenceR):Blk := .row 70 9 (SequenceR.c default) (tRows (l.map SequenceR.c))
abbrev RowM (l:List MediumR):Blk := .row 60 141 (MediumR.c default) (tRows (l.map MediumR.c))
end Go.Proofs.YtjmoncjecpckhaaGreat
