/- Proved here: A medium's cells, as one function, for use in the proofs of the given statements; conditions stand in each theorem. -/
import Derived.Test.YtkjdkbmfaamhaaaGreatZU
import Derived.Test.YtkjdkbmfaamhaaaGreatYE
set_option linter.unusedSimpArgs false
set_option linter.unusedVariables false
set_option linter.unusedSectionVars false
set_option linter.unnecessarySimpa false
namespace Go.Proofs.YtkjdkbmfaamhaaaGreat
open Go.RowKit
set_option maxRecDepth 4000
def mHead (m:MediumR):List T:=[tstr m.name,tu m.sum]++m.seq.c ++ [ti m.frames,ti m.channels,ti m.samples]
def vmedX (m:MediumR) (x:V):List V:=(mHead m).map V.t ++ [x]
@[go_sem] theorem vmedX_len (m:MediumR) (x:V):(vmedX m x).length=141:=rfl
@[go_sem] theorem vmedX_140 (m:MediumR) (x:V):(vmedX m x)[140]? = some x:=rfl
@[go_sem] theorem vmedX_all (m:MediumR) (x:V):List.take 141 (vmedX m x)=vmedX m x:=List.take_of_length_le (by rw [vmedX_len];exact Nat.le_refl _)
@[go_sem] theorem vmedX_put (m:MediumR) (x y:V):List.take 140 (vmedX m x) ++ [y]=vmedX m y:=rfl
@[go_sem] theorem vmedX_drop (m:MediumR) (x:V):List.drop 141 (vmedX m x) = []:=rfl
@[go_sem] theorem vmedX_put9 (m:MediumR) (x:V) (n:Int):List.take 139 (vmedX m x) ++ [.t (.lit (.int .i64 n))]++List.drop 140 (vmedX m x)=vmedX { m with samples:=n } x:=rfl
@[go_sem] theorem vmedX_cell (m:MediumR) (x:V):(vmedX m x).all V.isCell=V.isCell x:=by
 unfold vmedX
 rw [List.all_append]
 have:((mHead m).map V.t).all V.isCell=true:=by
  rw [List.all_eq_true]
  intro x hx
  obtain ⟨t,_,rfl⟩:=List.mem_map.1 hx
  rfl
 rw [this]
 simp
def lendX (m:MediumR) (o:Option T):Option (List T) :=
 match o with
 | some t=>some (mHead m ++ [t])
 | none=>none
@[go_sem] theorem vmedX_lend (h:Heap) (n:Nat) (m:MediumR) (x:V):Go.Proofs.YtkjdkbmfaamhaaaGreat.lendCs (lendC h n) (vmedX m x)=lendX m (lendC h n x):=by
 unfold vmedX
 cases e:lendC h n x with
 | some t=>exact lendCs_append (lendCs_t _ (lendC_t h n) _) (by unfold lendCs lendCs;rw [e])
 | none =>
  unfold lendX
  generalize mHead m=l
  induction l with
  | nil=>simp only [List.map_nil,List.nil_append,lendCs,e]
  | cons a l ih=>simp only [List.map_cons,List.cons_append,lendCs,ih,lendC_t]
@[go_sem] theorem vmedX_reach (h:Heap) (n:Nat) (m:MediumR) (x:V):Go.Proofs.YtkjdkbmfaamhaaaGreat.reachL (reach h n) (vmedX m x)=reach h n x:=by
 unfold vmedX
 generalize mHead m=l
 induction l with
 | nil=>simp only [List.map_nil,List.nil_append,reachL,List.append_nil]
 | cons a l ih=>simp only [List.map_cons,List.cons_append,reachL,ih,reach_t,List.nil_append]
attribute [go_sem] lendX
@[go_sem] theorem vmedX_tCells (m:MediumR) (i:Nat):Go.Proofs.YtkjdkbmfaamhaaaGreat.tCells (vmedX m (.own i))=none:=by
 unfold vmedX
 generalize mHead m=l
 induction l with
 | nil=>rfl
 | cons a l ih=>simp only [List.map_cons,List.cons_append,tCells,ih,Option.map_none]
@[go_sem] theorem vmedX_tCellsT (m:MediumR) (t:T):Go.Proofs.YtkjdkbmfaamhaaaGreat.tCells (vmedX m (.t t))=some (mHead m ++ [t]):=by
 unfold vmedX
 generalize mHead m=l
 induction l with
 | nil=>rfl
 | cons a l ih=>simp only [List.map_cons,List.cons_append,tCells,ih,Option.map_some]
@[go_sem] theorem lendRs_tApp (h:Heap) (n:Nat) (ys:List (List V)):∀ xs:List (List T),Go.Proofs.YtkjdkbmfaamhaaaGreat.lendRs (lendC h n) (tRows xs++ys)=match Go.Proofs.YtkjdkbmfaamhaaaGreat.lendRs (lendC h n) ys with | some ts=>some (xs++ts) | none=>none
 | []=>by
  simp only [tRows,List.map_nil,List.nil_append]
  cases lendRs (lendC h n) ys<;>rfl
 | x::xs=>by
  have ih:=lendRs_tApp h n ys xs
  unfold tRows at ih ⊢
  simp only [List.map_cons,List.cons_append,lendRs,ih,lendCs_t _ (lendC_t h n)]
  cases lendRs (lendC h n) ys<;>rfl
@[go_sem] theorem reachRs_tApp (h:Heap) (n:Nat) (ys:List (List V)):∀ xs:List (List T),Go.Proofs.YtkjdkbmfaamhaaaGreat.reachRs (reach h n) (tRows xs++ys)=Go.Proofs.YtkjdkbmfaamhaaaGreat.reachRs (reach h n) ys
 | []=>rfl
 | x::xs=>by
  have ih:=reachRs_tApp h n ys xs
  unfold tRows at ih ⊢
  simp only [List.map_cons,List.cons_append,reachRs,ih,reachL_t _ (reach_t h n),List.nil_append]
theorem vmedX_wk' {ρ : Ren} {h:Heap} {m:MediumR} {x y:V}:wkVs ρ h (vmedX m x) (vmedX m y) ↔ wkV ρ h x y:=by
 unfold vmedX
 generalize mHead m=l
 induction l with
 | nil=>simp only [List.map_nil,List.nil_append,wkVs,and_true]
 | cons a l ih =>
  simp only [List.map_cons,List.cons_append,wkVs,ih]
  exact ⟨fun q=>q.2,fun q=>⟨by simp only [wkV,wkT];exact wkE_refl _,q⟩⟩
@[go_sem] theorem vmedX_wk {ρ : Ren} {h:Heap} {m:MediumR} {x y:V}:Go.Proofs.YtkjdkbmfaamhaaaGreat.wkVs ρ h (vmedX m x) (vmedX m y)=wkV ρ h x y:=propext vmedX_wk'
theorem fillA (a b:Int):fillV (fun i=>[(0,1),(1,1),(2,2),(4,1),(5,1),(6,1),(7,64),(71,64)][i]?) (zeroV Tryz.z55) [(2, .agg [.t (.lit (.int .i64 a)), .t (.lit (.int .i64 b))])]=some (vseq ⟨0,0,⟨a,b⟩,false,0,0,fun _=>0⟩):=by
 rfl
open Go.RowKit
set_option maxRecDepth 4000
theorem cueAt_le (L:List Int) (k:Nat):(cueAt L k).2≤k+5:=by
 unfold cueAt
 split<;>simp
def cuesAt (L:List Int):Nat→Nat→List CueR×Nat
 | 0,k=>([],k)
 | n+1,k=>((cueAt L k).1::(cuesAt L n (cueAt L k).2).1,(cuesAt L n (cueAt L k).2).2)
def rate3 (L:List Int) (k:Nat):RatR:=⟨(([(25,1),(24,1),(30000,1001)]:List (Int×Int)).getD (tapeN L k 3).toNat (0,0)).1,(([(25,1),(24,1),(30000,1001)]:List (Int×Int)).getD (tapeN L k 3).toNat (0,0)).2⟩
def headR (r:RatR):SeqR:=⟨16,16,r,false,400000,400000,fun _=>0⟩
def medAt (L:List Int) (i k:Nat):MediumR×Nat :=
 (⟨nameB ⟨#[109]⟩ i,IntKind.u64.wrap (tapeN L k 99),headR (rate3 L (k+1)),5+tapeN L (k+2) 40,tapeN L (k+3) 3,tapeN L (k+4) 20000,(cuesAt L (tapeN L (k+5) 3).toNat (k+6)).1⟩,(cuesAt L (tapeN L (k+5) 3).toNat (k+6)).2)
def medsAt (L:List Int):Nat→Nat→Nat→List MediumR×Nat
 | 0,_,k=>([],k)
 | n+1,i,k=>((medAt L i k).1::(medsAt L n (i+1) (medAt L i k).2).1,(medsAt L n (i+1) (medAt L i k).2).2)
abbrev RowQ (l:List CueR):Blk := .row 71 3 (CueR.c default) (tRows (l.map CueR.c))
def vidsAt (L:List Int) (m s:Int):Nat→Nat→List (List ClipR)×Nat
 | 0,k=>([],k)
 | n+1,k=>((trkAt L k m s 5).1::(vidsAt L m s n (trkAt L k m s 5).2).1,(vidsAt L m s n (trkAt L k m s 5).2).2)
def sclipsAt (L:List Int) (m s ch:Int):Nat→Nat→List ClipR×Nat
 | 0,k=>([],k)
 | n+1,k=>((soundC L k m s ch).1::(sclipsAt L m s ch n (soundC L k m s ch).2).1,(sclipsAt L m s ch n (soundC L k m s ch).2).2)
def stkAt (L:List Int) (m s ch:Int) (k:Nat):List ClipR×Nat:=sclipsAt L m s ch (tapeN L k 4).toNat (k+1)
def sndsAt (L:List Int) (m s ch:Int):Nat→Nat→List (List ClipR)×Nat
 | 0,k=>([],k)
 | n+1,k=>((stkAt L m s ch k).1::(sndsAt L m s ch n (stkAt L m s ch k).2).1,(sndsAt L m s ch n (stkAt L m s ch k).2).2)
def seqAt (L:List Int) (m:Int) (i k:Nat):SequenceR×Nat :=
 let ch:=tapeN L (k+1) 3
 let v:=vidsAt L m i (1+tapeN L (k+2) 2).toNat (k+3)
 let a:=sndsAt L m i ch (tapeN L v.2 3).toNat (v.2+1)
 let c:=cuesAt L (tapeN L a.2 3).toNat (a.2+1)
 (⟨nameB ⟨#[115]⟩ i,rate3 L k,16,16,v.1,a.1,c.1,ch⟩,c.2)
def seqsAt (L:List Int) (m:Int):Nat→Nat→Nat→List SequenceR×Nat
 | 0,_,k=>([],k)
 | n+1,i,k=>((seqAt L m i k).1::(seqsAt L m n (i+1) (seqAt L m i k).2).1,(seqsAt L m n (i+1) (seqAt L m i k).2).2)
def projT (L:List Int):ProjR :=
 ⟨(medsAt L (1+tapeN L 0 3).toNat 0 2).1,(seqsAt L (1+tapeN L 0 3).toNat (1+tapeN L 1 3).toNat 0 (medsAt L (1+tapeN L 0 3).toNat 0 2).2).1⟩
theorem trkStep_le (L:List Int) (k:Nat) (m s:Int) (hm:m≤9) (hs:s≤9):(trkStep L k m s).2≤k+19:=by
 have h:=trkStep_facts L k m s hm hs
 omega
theorem trkGo_le (L:List Int) (m s:Int) (hm:m≤9) (hs:s≤9):∀ (n k:Nat),(trkGo L m s n k).2≤k+19*n
 | 0,k=>by simp [trkGo]
 | n+1,k=>by
  have h1:=trkStep_le L k m s hm hs
  have h2:=trkGo_le L m s hm hs n (trkStep L k m s).2
  simp only [trkGo]
  omega
theorem trkAt_le (L:List Int) (k:Nat) (m s:Int) (hm:m≤9) (hs:s≤9):(trkAt L k m s 5).2≤k+150:=by
 have t:=tapeN_lt (L:=L) (k:=k) (n:=5+1) (by omega)
 have h:=trkGo_le L m s hm hs (tapeN L k (5+1)).toNat (k+1)
 unfold trkAt
 omega
theorem soundC_le (L:List Int) (k:Nat) (m s ch:Int):(soundC L k m s ch).2≤k+19:=by
 have h1:=srcAt_le L (k+2) m s
 have h2:=srcAt_le L (srcAt L (k+2) m s).2 m s
 unfold soundC
 split
 ·unfold soundAt0
  simp only
  split
  ·simp
  ·split<;>simp only<;>omega
 ·split
  ·unfold soundAt1
   simp only
   split
   ·simp
   ·split<;>simp only<;>omega
  ·unfold soundAt
   simp only
   split
   ·simp
   ·split<;>simp only<;>omega
abbrev RowT (l:List (List ClipR)):Blk := .row 68 1 (trackC []) (tRows (l.map trackC))
abbrev RowSq (l:List SequenceR):Blk := .row 61 9 (SequenceR.c default) (tRows (l.map SequenceR.c))
abbrev RowM (l:List MediumR):Blk := .row 58 141 (MediumR.c default) (tRows (l.map MediumR.c))
theorem fill70 (a b:Int):fillV (fun i=>[(0,1),(1,1),(2,2),(4,1),(5,1),(6,1),(7,64),(71,64)][i]?) (zeroV Tryz.z55) [(0, .t (.lit (.int .i64 16))),(1, .t (.lit (.int .i64 16))),(2, .agg [.t (.lit (.int .i64 a)), .t (.lit (.int .i64 b))]),(4, .t (.lit (.int .i64 400000))),(5, .t (.lit (.int .i64 400000)))]=some (vseq (headR ⟨a,b⟩)):=by
 rfl
theorem fill73 (s:SeqR) (n:ByteArray) (u f c:Int):fillV (fun i=>[(0,1),(1,1),(2,135),(137,1),(138,1),(139,1),(140,1)][i]?) (zeroV Tryz.z58) [(0, .t (.lit (.string n))),(1, .t (.lit (.int .u64 u))),(2, .agg (vseq s)),(3, .t (.lit (.int .i64 f))),(4, .t (.lit (.int .i64 c)))]=some (vmedX ⟨n,u,s,f,c,0,[]⟩ (.t (.lit (.slice none 0 0)))):=by
 rfl
set_option maxHeartbeats 8000000 in
theorem cProject (L:List Int):CPure Tryz.prog 7 [.t (tints L)] (vproj (projT L)):=by
 refine cpure_of Tryz.xen7 Tryz.func7 rfl Tryz.ntmps7 (by rw [Tryz.results7]) (aw_ok _ ?_)
 simp only [go_sem,simprocAttr]
 refine icall_box (cNext L 0 3 (by omega) (by omega) (by omega)) rfl rfl rfl ?_
 have n1:=tapeN_lt (L:=L) (k:=0) (n:=3) (by omega)
 simp only [go_sem,simprocAttr,wrap64 (x:=1+tapeN L 0 3) (by omega) (by omega)]
 refine icall_box (cNext L 1 3 (by omega) (by omega) (by omega)) rfl rfl rfl ?_
 have n2:=tapeN_lt (L:=L) (k:=1) (n:=3) (by omega)
 simp only [go_sem,simprocAttr,wrap64 (x:=1+tapeN L 1 3) (by omega) (by omega)]
 obtain ⟨M,hM⟩:∃ M:Nat,1+tapeN L 0 3=M:=⟨(1+tapeN L 0 3).toNat,by omega⟩
 obtain ⟨N,hN⟩:∃ N:Nat,1+tapeN L 1 3=N:=⟨(1+tapeN L 1 3).toNat,by omega⟩
 rw [hM,hN]
 refine awp_loop_f (fun (x:Nat×List MediumR×Nat) σ => { fr:=(deadS [9,10,11,12,13,14,15,16,17,18,19,20,21,22,23,24,25,26,27,28,29,30,31,32,33,34,35,36,37,38,39,40,41,42,43,44,45,46,47,48,49,50,51,52,53,54,55,56,57,58,59,60,61,62,63,64,65,66,67,68,69,70,71,72,73,74,75,76,77,78] σ).fr.set 8 (vint x.1),h:=[(4,RowM x.2.1),(3, .row 52 2 [.lit (.int .i64 0), .lit (.int .i64 0)] (tRows [[.lit (.int .i64 25), .lit (.int .i64 1)],[.lit (.int .i64 24), .lit (.int .i64 1)],[.lit (.int .i64 30000), .lit (.int .i64 1001)]])),(2, .box [.own 4, .t (.lit (.slice none 0 0))]),(1, .box [.t (tints L),vint x.2.2]),(0, .box [.t (.lit (.slice none 0 0)), .t (.lit (.slice none 0 0))])],nx:=5 })
  (fun x=>x.1≤M∧x.2.1.length=x.1∧x.2.2≤2+20*x.1∧x.2.1++(medsAt L (M - x.1) x.1 x.2.2).1=(medsAt L M 0 2).1∧(medsAt L (M - x.1) x.1 x.2.2).2=(medsAt L M 0 2).2) (fun x=>M - x.1) (0,[],2) (weak_of [(4,none),(3,some 3),(2,some 2),(1,some 1),(0,some 0)] ?_) ⟨Nat.zero_le _,rfl,Nat.le_refl _,rfl,rfl⟩ ?_
 ·simp only [go_sem,simprocAttr]<;>simp [tRows]
 ·rintro ⟨i,ms,q⟩ ⟨hi,hms,hq,he1,he2⟩
  simp only at hi hms hq he1 he2
  refine aw_ok _ ?_
  simp only [go_sem,simprocAttr]
  refine ⟨fun hlt=>?_,fun hge=>?_⟩
  ·simp only [bxx] at hlt
   unfold awS
   simp only [go_sem,simprocAttr]
   refine drawC_of 19 .done rfl (by kernel_rfl) (by kernel_rfl) (by decide) ?_
   simp only [go_sem,simprocAttr]
   refine ⟨_,cName ⟨#[109]⟩ i (by omega) (by omega) (by decide),?_⟩
   simp only [go_sem,simprocAttr]
   refine bcall (cNext L q 99 (by omega) (by omega) (by omega)) rfl rfl rfl ?_
   have c99:=tapeN_lt (L:=L) (k:=q) (n:=99) (by omega)
   simp only [go_sem,simprocAttr]
   refine bcall (cNext L (q+1) 3 (by omega) (by omega) (by omega)) rfl rfl rfl ?_
   have c3:=tapeN_lt (L:=L) (k:=q+1) (n:=3) (by omega)
   simp only [go_sem,simprocAttr,↓fill70]
   refine ⟨⟨by omega,by omega⟩,by omega,?_⟩
   refine bcall (cNext L (q+1+1) 40 (by omega) (by omega) (by omega)) rfl rfl rfl ?_
   have c40:=tapeN_lt (L:=L) (k:=q+1+1) (n:=40) (by omega)
   simp only [go_sem,simprocAttr,wrap64 (x:=5+tapeN L (q+1+1) 40) (by omega) (by omega)]
   refine bcall (cNext L (q+1+1+1) 3 (by omega) (by omega) (by omega)) rfl rfl rfl ?_
   have d3:=tapeN_lt (L:=L) (k:=q+1+1+1) (n:=3) (by omega)
   simp only [go_sem,simprocAttr,↓fill73]
   refine ⟨by kernel_rfl,?_⟩
   refine icall_box (cNext L (q+1+1+1+1) 20000 (by omega) (by omega) (by omega)) rfl rfl rfl ?_
   simp only [go_sem,simprocAttr]
   refine icall_box (cNext L (q+1+1+1+1+1) 3 (by omega) (by omega) (by omega)) rfl rfl rfl ?_
   have e3:=tapeN_lt (L:=L) (k:=q+1+1+1+1+1) (n:=3) (by omega)
   simp only [go_sem,simprocAttr]
   obtain ⟨m0,hm0⟩:∃ m0:MediumR,m0=⟨nameB ⟨#[109]⟩ i,IntKind.u64.wrap (tapeN L q 99),headR (rate3 L (q+1)),5+tapeN L (q+1+1) 40,tapeN L (q+1+1+1) 3,tapeN L (q+1+1+1+1) 20000,[]⟩:=⟨_,rfl⟩
   obtain ⟨C,hC⟩:∃ C:Nat,tapeN L (q+1+1+1+1+1) 3=C:=⟨(tapeN L (q+1+1+1+1+1) 3).toNat,by omega⟩
   have hmed:medAt L i q=({ m0 with cues:=(cuesAt L C (q+6)).1 },(cuesAt L C (q+6)).2):=by
    unfold medAt
    rw [hm0,show (tapeN L (q+5) 3).toNat=C by rw [show q+5=q+1+1+1+1+1 by omega,hC];rfl]
   generalize hhd:headR _=hd
   have hhd':hd=headR (rate3 L (q+1)):=by rw [← hhd];rfl
   rw [← hhd'] at hm0
   rw [← hm0,hC]
   refine awp_loop_f (fun (x:Nat×List CueR×Nat) σ => { fr:=((deadS [36,37,38,39,40,41,42,43,44,45,46,47,48,49,50,51,52,53,54,55,56,57,58,59,60,61,62,63,64,65,66,67,68,69,70,71,72,73,74,75,76,77,78] σ).fr.set 9 (.own 5)).set 10 (vint x.1),h:=[(6,RowQ x.2.1),(5, .box (vmedX m0 (.own 6))),(4,RowM ms),(3, .row 52 2 [.lit (.int .i64 0), .lit (.int .i64 0)] (tRows [[.lit (.int .i64 25), .lit (.int .i64 1)],[.lit (.int .i64 24), .lit (.int .i64 1)],[.lit (.int .i64 30000), .lit (.int .i64 1001)]])),(2, .box [.own 4, .t (.lit (.slice none 0 0))]),(1, .box [.t (tints L),vint x.2.2]),(0, .box [.t (.lit (.slice none 0 0)), .t (.lit (.slice none 0 0))])],nx:=7 })
    (fun x=>x.2.1.length+x.1≤3∧x.2.2+5*x.1≤q+16∧x.2.1++(cuesAt L x.1 x.2.2).1=(cuesAt L C (q+6)).1∧(cuesAt L x.1 x.2.2).2=(cuesAt L C (q+6)).2) (fun x=>x.1) (C,[],q+6) (weak_of [(6,none),(5,some 22),(4,some 4),(3,some 3),(2,some 2),(1,some 1),(0,some 0)] ?_) ⟨by simp only [List.length_nil];omega,by simp only;omega,rfl,rfl⟩ ?_
   ·simp only [go_sem,simprocAttr]<;>simp [tRows]
   ·rintro ⟨c,es,q'⟩ ⟨hc,hq',hf1,hf2⟩
    simp only at hc hq' hf1 hf2
    refine aw_ok _ ?_
    simp only [go_sem,simprocAttr]
    refine ⟨fun hlt2=>?_,fun hge2=>?_⟩
    ·simp only [bxx] at hlt2
     obtain ⟨c,rfl⟩:∃ c',c=c'+1:=⟨c - 1,by omega⟩
     simp only [cuesAt] at hf1 hf2
     unfold awS
     simp only [go_sem,simprocAttr]
     refine drawC_of 8 .done rfl (by kernel_rfl) (by kernel_rfl) (by decide) ?_
     simp only [go_sem,simprocAttr]
     refine bcall (cCue L q' (by omega)) rfl rfl rfl ?_
     have hle:=cueAt_le L q'
     simp only [go_sem,simprocAttr]
     have wc:IntKind.i64.wrap (((c+1:Nat):Int) - 1)=(c:Int):=by rw [wrap64 (by omega) (by omega)];omega
     refine ⟨⟨by unfold maxLen;omega,by omega⟩,by kernel_rfl,(c,es ++ [(cueAt L q').1],(cueAt L q').2),weak_of [(6,some 12),(5,some 5),(4,some 4),(3,some 3),(2,some 2),(1,some 1),(0,some 0)] ?_,⟨by simp only [List.length_append,List.length_cons,List.length_nil];omega,by simp only;omega,by rw [← hf1];simp,hf2⟩,by simp only;omega⟩
     simp only [go_sem,simprocAttr,wc]<;>simp
     rfl
    ·simp only [bxx] at hge2
     have:c=0:=by omega
     subst this
     simp only [cuesAt,List.append_nil] at hf1 hf2
     unfold awS
     simp only [go_sem,simprocAttr]
     refine ⟨⟨by unfold maxLen;omega,by omega⟩,(i+1,ms ++ [{ m0 with cues:=es }],q'),weak_of [(4,some 8),(3,some 3),(2,some 2),(1,some 1),(0,some 0)] ?_,⟨by simp only;omega,by simp only [List.length_append,List.length_cons,List.length_nil];omega,by simp only;omega,?_,?_⟩,by simp only;omega⟩
     ·simp only [go_sem,simprocAttr]
      have e:List.map MediumR.c ms ++ [mHead m0 ++ [T.list 3 (CueR.c default) (List.map CueR.c es)]]=List.map MediumR.c (ms ++ [{ m0 with cues:=es }]):=by rw [List.map_append];rfl
      rw [e]
      simp [wrap1 (show i<9223372036854775807 by omega)]
     ·have hM1:M - i=(M - (i+1))+1:=by omega
      rw [hM1] at he1
      simp only [medsAt,hmed, ← hf1] at he1
      simp only
      rw [← he1,hf2]
      simp
     ·have hM1:M - i=(M - (i+1))+1:=by omega
      rw [hM1] at he2
      simp only [medsAt,hmed] at he2
      simp only
      rw [← he2,hf2]
  ·simp only [bxx] at hge
   have:i=M:=by omega
   subst this
   simp only [Nat.sub_self,medsAt,List.append_nil] at he1 he2
   unfold awS
   simp only [go_sem,simprocAttr]
   refine awp_loop_f (fun (x:Nat×List SequenceR×Nat) σ => { fr:=(deadS [9,10,12,13,14,15,16,17,18,19,20,21,22,23,24,25,26,27,28,29,30,31,32,33,34,35,36,37,38,39,40,41,42,43,44,45,46,47,48,49,50,51,52,53,54,55,56,57,58,59,60,61,62,63,64,65,66,67,68,69,70,71,72,73,74,75,76,77,78,79,80,81,82,83,84,85,86,87,88,89,90,91,92,93,94,95,96,97,98,99,100,101,102,103,104,105,106,107,108,109,110,111,112,113,114,115,116,117,118,119,120,121,122,123,124,125,126,127,128,129,130,131,132,133,134,135,136,137,138,139,140,141,142,143,144,145,146,147,148,149,150,151] σ).fr.set 11 (vint x.1),h:=[(5,RowSq x.2.1),(4,RowM ms),(3, .row 52 2 [.lit (.int .i64 0), .lit (.int .i64 0)] (tRows [[.lit (.int .i64 25), .lit (.int .i64 1)],[.lit (.int .i64 24), .lit (.int .i64 1)],[.lit (.int .i64 30000), .lit (.int .i64 1001)]])),(2, .box [.own 4, .own 5]),(1, .box [.t (tints L),vint x.2.2]),(0, .box [.t (.lit (.slice none 0 0)), .t (.lit (.slice none 0 0))])],nx:=6 })
    (fun x=>x.1≤N∧x.2.1.length=x.1∧x.2.2≤q+1000*x.1∧x.2.1++(seqsAt L i (N - x.1) x.1 x.2.2).1=(seqsAt L i N 0 q).1∧(seqsAt L i (N - x.1) x.1 x.2.2).2=(seqsAt L i N 0 q).2) (fun x=>N - x.1) (0,[],q) (weak_of [(5,none),(4,some 4),(3,some 3),(2,some 2),(1,some 1),(0,some 0)] ?_) ⟨Nat.zero_le _,rfl,by simp only;omega,rfl,rfl⟩ ?_
   ·simp only [go_sem,simprocAttr]<;>simp [tRows]
   ·rintro ⟨j,ss,k⟩ ⟨hj,hss,hk,hg1,hg2⟩
    simp only at hj hss hk hg1 hg2
    refine aw_ok _ ?_
    simp only [go_sem,simprocAttr]
    refine ⟨fun hlt=>?_,fun hge=>?_⟩
    ·simp only [bxx] at hlt
     unfold awS
     simp only [go_sem,simprocAttr]
     refine drawC_of 12 .done rfl (by kernel_rfl) (by kernel_rfl) (by decide) ?_
     simp only [go_sem,simprocAttr]
     refine ⟨_,cName ⟨#[115]⟩ j (by omega) (by omega) (by decide),?_⟩
     simp only [go_sem,simprocAttr]
     refine bcall (cNext L k 3 (by omega) (by omega) (by omega)) rfl rfl rfl ?_
     have c3:=tapeN_lt (L:=L) (k:=k) (n:=3) (by omega)
     simp only [go_sem,simprocAttr]
     refine ⟨⟨by omega,by omega⟩,by omega,?_⟩
     refine bcall (cNext L (k+1) 3 (by omega) (by omega) (by omega)) rfl rfl rfl ?_
     have d3:=tapeN_lt (L:=L) (k:=k+1) (n:=3) (by omega)
     simp only [go_sem,simprocAttr]
     refine ⟨by kernel_rfl,?_⟩
     refine icall_box (cNext L (k+1+1) 2 (by omega) (by omega) (by omega)) rfl rfl rfl ?_
     have c2:=tapeN_lt (L:=L) (k:=k+1+1) (n:=2) (by omega)
     simp only [go_sem,simprocAttr,wrap64 (x:=1+tapeN L (k+1+1) 2) (by omega) (by omega)]
     obtain ⟨Vn,hV⟩:∃ Vn:Nat,1+tapeN L (k+1+1) 2=Vn:=⟨(1+tapeN L (k+1+1) 2).toNat,by omega⟩
     rw [hV]
     refine awp_loop_f (fun (x:Nat×List (List ClipR)×Nat) σ => { fr:=((deadS [80,81,82,83,84,85,86,87,88,89,90,91,92,93,94,95,96,97,98,99,100,101,102,103,104,105,106,107,108,109,110,111,112,113,114,115,116,117,118,119,120,121,122,123,124,125,126,127,128,129,130,131,132,133,134,135,136,137,138,139,140,141,142,143,144,145,146,147,148,149,150,151] σ).fr.set 12 (.own 6)).set 13 (vint x.1),h:=[(7,RowT x.2.1),(6, .box [vstr (nameB ⟨#[115]⟩ j),vint (rate3 L k).num,vint (rate3 L k).den,vint 16,vint 16, .own 7, .t (.lit (.slice none 0 0)), .t (.lit (.slice none 0 0)),vint (tapeN L (k+1) 3)]),(5,RowSq ss),(4,RowM ms),(3, .row 52 2 [.lit (.int .i64 0), .lit (.int .i64 0)] (tRows [[.lit (.int .i64 25), .lit (.int .i64 1)],[.lit (.int .i64 24), .lit (.int .i64 1)],[.lit (.int .i64 30000), .lit (.int .i64 1001)]])),(2, .box [.own 4, .own 5]),(1, .box [.t (tints L),vint x.2.2]),(0, .box [.t (.lit (.slice none 0 0)), .t (.lit (.slice none 0 0))])],nx:=8 })
      (fun x=>x.2.1.length+x.1≤3∧x.2.2+150*x.1≤k+303∧x.2.1++(vidsAt L i j x.1 x.2.2).1=(vidsAt L i j Vn (k+3)).1∧(vidsAt L i j x.1 x.2.2).2=(vidsAt L i j Vn (k+3)).2) (fun x=>x.1) (Vn,[],k+3) (weak_of [(7,none),(6,some 16),(5,some 5),(4,some 4),(3,some 3),(2,some 2),(1,some 1),(0,some 0)] ?_) ⟨by simp only [List.length_nil];omega,by simp only;omega,rfl,rfl⟩ ?_
     ·simp only [go_sem,simprocAttr]
      simp [tRows]
      exact ⟨rfl,rfl⟩
     ·rintro ⟨c,vs,q'⟩ ⟨hc,hq',hf1,hf2⟩
      simp only at hc hq' hf1 hf2
      refine aw_ok _ ?_
      simp only [go_sem,simprocAttr]
      refine ⟨fun hlt2=>?_,fun hge2=>?_⟩
      ·simp only [bxx] at hlt2
       obtain ⟨c,rfl⟩:∃ c',c=c'+1:=⟨c - 1,by omega⟩
       simp only [vidsAt] at hf1 hf2
       have wc:IntKind.i64.wrap (((c+1:Nat):Int) - 1)=(c:Int):=by rw [wrap64 (by omega) (by omega)];omega
       have hle:=trkAt_le L q' i j (by omega) (by omega)
       unfold awS
       simp only [go_sem,simprocAttr]
       refine drawC_of 10 .done rfl (by kernel_rfl) (by kernel_rfl) (by decide) ?_
       simp only [go_sem,simprocAttr]
       refine bcall (cTrackB L q' i j 5 (by omega) (by omega) (by omega) (by omega) (by omega)) rfl rfl rfl ?_
       simp only [go_sem,simprocAttr]
       refine ⟨⟨by unfold maxLen;omega,by omega⟩,by kernel_rfl,(c,vs ++ [(trkAt L q' i j 5).1],(trkAt L q' i j 5).2),weak_of [(7,some 15),(6,some 6),(5,some 5),(4,some 4),(3,some 3),(2,some 2),(1,some 1),(0,some 0)] ?_,⟨by simp only [List.length_append,List.length_cons,List.length_nil];omega,by simp only;omega,by rw [← hf1];simp,hf2⟩,by simp only;omega⟩
       simp only [go_sem,simprocAttr,wc]<;>simp
       rfl
      ·simp only [bxx] at hge2
       have:c=0:=by omega
       subst this
       simp only [vidsAt,List.append_nil] at hf1 hf2
       unfold awS
       simp only [go_sem,simprocAttr]
       refine icall_box (cNext L q' 3 (by omega) (by omega) (by omega)) rfl rfl rfl ?_
       have s3:=tapeN_lt (L:=L) (k:=q') (n:=3) (by omega)
       simp only [go_sem,simprocAttr]
       obtain ⟨Sn,hSn⟩:∃ Sn:Nat,tapeN L q' 3=Sn:=⟨(tapeN L q' 3).toNat,by omega⟩
       rw [hSn]
       refine awp_loop_f (fun (x:Nat×List (List ClipR)×Nat) σ => { fr:=((deadS [15,16,97,98,99,100,101,102,103,104,105,106,107,108,109,110,111,112,113,114,115,116,117,118,119,120,121,122,123,124,125,126,127,128,129,130,131,132,133,134,135,136,137,138,139,140,141,142,143,144,145,146,147,148,149,150,151] σ).fr.set 12 (.own 6)).set 14 (vint x.1),h:=[(8,RowT x.2.1),(7,RowT vs),(6, .box [vstr (nameB ⟨#[115]⟩ j),vint (rate3 L k).num,vint (rate3 L k).den,vint 16,vint 16, .own 7, .own 8, .t (.lit (.slice none 0 0)),vint (tapeN L (k+1) 3)]),(5,RowSq ss),(4,RowM ms),(3, .row 52 2 [.lit (.int .i64 0), .lit (.int .i64 0)] (tRows [[.lit (.int .i64 25), .lit (.int .i64 1)],[.lit (.int .i64 24), .lit (.int .i64 1)],[.lit (.int .i64 30000), .lit (.int .i64 1001)]])),(2, .box [.own 4, .own 5]),(1, .box [.t (tints L),vint x.2.2]),(0, .box [.t (.lit (.slice none 0 0)), .t (.lit (.slice none 0 0))])],nx:=9 })
        (fun x=>x.2.1.length+x.1≤3∧x.2.2+60*x.1≤q'+200∧x.2.1++(sndsAt L i j (tapeN L (k+1) 3) x.1 x.2.2).1=(sndsAt L i j (tapeN L (k+1) 3) Sn (q'+1)).1∧(sndsAt L i j (tapeN L (k+1) 3) x.1 x.2.2).2=(sndsAt L i j (tapeN L (k+1) 3) Sn (q'+1)).2) (fun x=>x.1) (Sn,[],q'+1) (weak_of [(8,none),(7,some 7),(6,some 6),(5,some 5),(4,some 4),(3,some 3),(2,some 2),(1,some 1),(0,some 0)] ?_) ⟨by simp only [List.length_nil];omega,by simp only;omega,rfl,rfl⟩ ?_
       ·simp only [go_sem,simprocAttr]<;>simp [tRows]
       ·rintro ⟨c,as1,q2⟩ ⟨hc,hq2,hh1,hh2⟩
        simp only at hc hq2 hh1 hh2
        refine aw_ok _ ?_
        simp only [go_sem,simprocAttr]
        refine ⟨fun hlt3=>?_,fun hge3=>?_⟩
        ·simp only [bxx] at hlt3
         obtain ⟨c,rfl⟩:∃ c',c=c'+1:=⟨c - 1,by omega⟩
         simp only [sndsAt] at hh1 hh2
         have wc:IntKind.i64.wrap (((c+1:Nat):Int) - 1)=(c:Int):=by rw [wrap64 (by omega) (by omega)];omega
         unfold awS
         simp only [go_sem,simprocAttr]
         refine icall_box (cNext L q2 4 (by omega) (by omega) (by omega)) rfl rfl rfl ?_
         have s4:=tapeN_lt (L:=L) (k:=q2) (n:=4) (by omega)
         simp only [go_sem,simprocAttr]
         obtain ⟨Tn,hTn⟩:∃ Tn:Nat,tapeN L q2 4=Tn:=⟨(tapeN L q2 4).toNat,by omega⟩
         have hstk:stkAt L i j (tapeN L (k+1) 3) q2=sclipsAt L i j (tapeN L (k+1) 3) Tn (q2+1):=by unfold stkAt;rw [hTn];rfl
         rw [hstk] at hh1 hh2
         rw [hTn]
         refine awp_loop_f (fun (x:Nat×List ClipR×Nat) σ => { fr:=(((deadS [114,115,116,117,118,119,120,121,122,123,124,125,126,127,128,129,130,131,132,133,134,135,136,137,138,139,140,141,142,143,144,145,146,147,148,149,150,151] σ).fr.set 12 (.own 6)).set 15 (.own 9)).set 16 (vint x.1),h:=[(9,RowC x.2.1),(8,RowT as1),(7,RowT vs),(6, .box [vstr (nameB ⟨#[115]⟩ j),vint (rate3 L k).num,vint (rate3 L k).den,vint 16,vint 16, .own 7, .own 8, .t (.lit (.slice none 0 0)),vint (tapeN L (k+1) 3)]),(5,RowSq ss),(4,RowM ms),(3, .row 52 2 [.lit (.int .i64 0), .lit (.int .i64 0)] (tRows [[.lit (.int .i64 25), .lit (.int .i64 1)],[.lit (.int .i64 24), .lit (.int .i64 1)],[.lit (.int .i64 30000), .lit (.int .i64 1001)]])),(2, .box [.own 4, .own 5]),(1, .box [.t (tints L),vint x.2.2]),(0, .box [.t (.lit (.slice none 0 0)), .t (.lit (.slice none 0 0))])],nx:=10 })
          (fun x=>x.2.1.length+x.1≤4∧x.2.2+19*x.1≤q2+58∧x.2.1++(sclipsAt L i j (tapeN L (k+1) 3) x.1 x.2.2).1=(sclipsAt L i j (tapeN L (k+1) 3) Tn (q2+1)).1∧(sclipsAt L i j (tapeN L (k+1) 3) x.1 x.2.2).2=(sclipsAt L i j (tapeN L (k+1) 3) Tn (q2+1)).2) (fun x=>x.1) (Tn,[],q2+1) (weak_of [(9,none),(8,some 8),(7,some 7),(6,some 6),(5,some 5),(4,some 4),(3,some 3),(2,some 2),(1,some 1),(0,some 0)] ?_) ⟨by simp only [List.length_nil];omega,by simp only;omega,rfl,rfl⟩ ?_
         ·simp only [go_sem,simprocAttr]<;>simp [tRows]
         ·rintro ⟨d,cs,q4⟩ ⟨hd,hq4,hk1,hk2⟩
          simp only at hd hq4 hk1 hk2
          refine aw_ok _ ?_
          simp only [go_sem,simprocAttr]
          refine ⟨fun hlt4=>?_,fun hge4=>?_⟩
          ·simp only [bxx] at hlt4
           obtain ⟨d,rfl⟩:∃ d',d=d'+1:=⟨d - 1,by omega⟩
           simp only [sclipsAt] at hk1 hk2
           have wd:IntKind.i64.wrap (((d+1:Nat):Int) - 1)=(d:Int):=by rw [wrap64 (by omega) (by omega)];omega
           have hle:=soundC_le L q4 i j (tapeN L (k+1) 3)
           unfold awS
           simp only [go_sem,simprocAttr]
           refine icall_box (cSoundC L q4 i j (tapeN L (k+1) 3) (by omega) (by omega) (by omega) (by omega)) rfl rfl rfl ?_
           simp only [go_sem,simprocAttr]
           refine ⟨⟨by unfold maxLen;omega,by omega⟩,(d,cs ++ [(soundC L q4 i j (tapeN L (k+1) 3)).1],(soundC L q4 i j (tapeN L (k+1) 3)).2),weak_of [(9,some 11),(8,some 8),(7,some 7),(6,some 6),(5,some 5),(4,some 4),(3,some 3),(2,some 2),(1,some 1),(0,some 0)] ?_,⟨by simp only [List.length_append,List.length_cons,List.length_nil];omega,by simp only;omega,by rw [← hk1];simp,hk2⟩,by simp only;omega⟩
           simp only [go_sem,simprocAttr,wd]<;>simp
           rfl
          ·simp only [bxx] at hge4
           have:d=0:=by omega
           subst this
           simp only [sclipsAt,List.append_nil] at hk1 hk2
           unfold awS
           simp only [go_sem,simprocAttr]
           refine ⟨⟨by unfold maxLen;omega,by omega⟩,(c,as1 ++ [cs],q4),weak_of [(8,some 11),(7,some 7),(6,some 6),(5,some 5),(4,some 4),(3,some 3),(2,some 2),(1,some 1),(0,some 0)] ?_,⟨by simp only [List.length_append,List.length_cons,List.length_nil];omega,by simp only;omega,by rw [← hh1, ← hk1,hk2];simp,by rw [← hh2,hk2]⟩,by simp only;omega⟩
           simp only [go_sem,simprocAttr,wc]
           have e:List.map trackC as1 ++ [[T.list 22 (ClipR.c default) (List.map ClipR.c cs)]]=List.map trackC (as1 ++ [cs]):=by rw [List.map_append];rfl
           rw [e]
           simp
        ·simp only [bxx] at hge3
         have:c=0:=by omega
         subst this
         simp only [sndsAt,List.append_nil] at hh1 hh2
         unfold awS
         simp only [go_sem,simprocAttr]
         refine icall_box (cNext L q2 3 (by omega) (by omega) (by omega)) rfl rfl rfl ?_
         have u3:=tapeN_lt (L:=L) (k:=q2) (n:=3) (by omega)
         simp only [go_sem,simprocAttr]
         obtain ⟨Qn,hQn⟩:∃ Qn:Nat,tapeN L q2 3=Qn:=⟨(tapeN L q2 3).toNat,by omega⟩
         rw [hQn]
         refine awp_loop_f (fun (x:Nat×List CueR×Nat) σ => { fr:=((deadS [15,16,108,109,110,111,112,113,114,115,116,117,118,119,120,121,122,123,124,125,126,127,128,129,130,131,132,133,134,135,136,137,138,139,140,141,142,143,144,145,146,147,148,149,150,151] σ).fr.set 12 (.own 6)).set 17 (vint x.1),h:=[(9,RowQ x.2.1),(8,RowT as1),(7,RowT vs),(6, .box [vstr (nameB ⟨#[115]⟩ j),vint (rate3 L k).num,vint (rate3 L k).den,vint 16,vint 16, .own 7, .own 8, .own 9,vint (tapeN L (k+1) 3)]),(5,RowSq ss),(4,RowM ms),(3, .row 52 2 [.lit (.int .i64 0), .lit (.int .i64 0)] (tRows [[.lit (.int .i64 25), .lit (.int .i64 1)],[.lit (.int .i64 24), .lit (.int .i64 1)],[.lit (.int .i64 30000), .lit (.int .i64 1001)]])),(2, .box [.own 4, .own 5]),(1, .box [.t (tints L),vint x.2.2]),(0, .box [.t (.lit (.slice none 0 0)), .t (.lit (.slice none 0 0))])],nx:=10 })
          (fun x=>x.2.1.length+x.1≤3∧x.2.2+5*x.1≤q2+11∧x.2.1++(cuesAt L x.1 x.2.2).1=(cuesAt L Qn (q2+1)).1∧(cuesAt L x.1 x.2.2).2=(cuesAt L Qn (q2+1)).2) (fun x=>x.1) (Qn,[],q2+1) (weak_of [(9,none),(8,some 8),(7,some 7),(6,some 6),(5,some 5),(4,some 4),(3,some 3),(2,some 2),(1,some 1),(0,some 0)] ?_) ⟨by simp only [List.length_nil];omega,by simp only;omega,rfl,rfl⟩ ?_
         ·simp only [go_sem,simprocAttr]<;>simp [tRows]
         ·rintro ⟨d,es,q4⟩ ⟨hd,hq4,hk1,hk2⟩
          simp only at hd hq4 hk1 hk2
          refine aw_ok _ ?_
          simp only [go_sem,simprocAttr]
          refine ⟨fun hlt4=>?_,fun hge4=>?_⟩
          ·simp only [bxx] at hlt4
           obtain ⟨d,rfl⟩:∃ d',d=d'+1:=⟨d - 1,by omega⟩
           simp only [cuesAt] at hk1 hk2
           have wd:IntKind.i64.wrap (((d+1:Nat):Int) - 1)=(d:Int):=by rw [wrap64 (by omega) (by omega)];omega
           have hle:=cueAt_le L q4
           unfold awS
           simp only [go_sem,simprocAttr]
           refine drawC_of 8 .done rfl (by kernel_rfl) (by kernel_rfl) (by decide) ?_
           simp only [go_sem,simprocAttr]
           refine bcall (cCue L q4 (by omega)) rfl rfl rfl ?_
           simp only [go_sem,simprocAttr]
           refine ⟨⟨by unfold maxLen;omega,by omega⟩,by kernel_rfl,(d,es ++ [(cueAt L q4).1],(cueAt L q4).2),weak_of [(9,some 15),(8,some 8),(7,some 7),(6,some 6),(5,some 5),(4,some 4),(3,some 3),(2,some 2),(1,some 1),(0,some 0)] ?_,⟨by simp only [List.length_append,List.length_cons,List.length_nil];omega,by simp only;omega,by rw [← hk1];simp,hk2⟩,by simp only;omega⟩
           simp only [go_sem,simprocAttr,wd]<;>simp
           rfl
          ·simp only [bxx] at hge4
           have:d=0:=by omega
           subst this
           simp only [cuesAt,List.append_nil] at hk1 hk2
           have hseq:seqAt L i j k=(⟨nameB ⟨#[115]⟩ j,rate3 L k,16,16,vs,as1,es,(tapeN L (k+1) 3)⟩,q4):=by
            have e1:(1+tapeN L (k+2) 2).toNat=Vn:=by rw [show k+2=k+1+1 from rfl,hV];rfl
            unfold seqAt
            simp only [e1, ← hf1, ← hf2,hSn,Int.toNat_natCast, ← hh1, ← hh2,hQn, ← hk1, ← hk2]
           unfold awS
           simp only [go_sem,simprocAttr]
           refine ⟨⟨by unfold maxLen;omega,by omega⟩,(j+1,ss ++ [(seqAt L i j k).1],q4),weak_of [(5,some 11),(4,some 4),(3,some 3),(2,some 2),(1,some 1),(0,some 0)] ?_,⟨by simp only;omega,by simp only [List.length_append,List.length_cons,List.length_nil];omega,by simp only;omega,?_,?_⟩,by simp only;omega⟩
           ·simp only [go_sem,simprocAttr]
            rw [hseq]
            have e:List.map SequenceR.c ss ++ [[T.lit (Value.string (nameB ⟨#[115]⟩ j)),T.lit (Value.int IntKind.i64 (rate3 L k).num),T.lit (Value.int IntKind.i64 (rate3 L k).den),T.lit (Value.int IntKind.i64 16),T.lit (Value.int IntKind.i64 16),T.list 1 (trackC []) (List.map trackC vs),T.list 1 (trackC []) (List.map trackC as1),T.list 3 (CueR.c default) (List.map CueR.c es),T.lit (Value.int IntKind.i64 (tapeN L (k+1) 3))]]=List.map SequenceR.c (ss ++ [⟨nameB ⟨#[115]⟩ j,rate3 L k,16,16,vs,as1,es,tapeN L (k+1) 3⟩]):=by rw [List.map_append];rfl
            simp only
            rw [e]
            simp [wrap1 (show j<9223372036854775807 by omega)]
           ·have hN1:N - j=(N - (j+1))+1:=by omega
            rw [hN1] at hg1
            simp only [seqsAt] at hg1
            simp only
            rw [← hg1,hseq]
            simp
           ·have hN1:N - j=(N - (j+1))+1:=by omega
            rw [hN1] at hg2
            simp only [seqsAt,hseq] at hg2
            simp only
            rw [← hg2]
    ·simp only [bxx] at hge
     have:j=N:=by omega
     subst this
     simp only [Nat.sub_self,seqsAt,List.append_nil] at hg1 hg2
     unfold awS
     simp only [go_sem,simprocAttr]
     have hp:projT L=⟨ms,ss⟩:=by
      unfold projT
      simp only [hM,hN,Int.toNat_natCast, ← he1, ← he2, ← hg1]
     rw [hp]
end Go.Proofs.YtkjdkbmfaamhaaaGreat
