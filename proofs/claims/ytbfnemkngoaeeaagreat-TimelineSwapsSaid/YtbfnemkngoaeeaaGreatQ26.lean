/- Proved here: A medium's cells, as one function; conditions stand in each theorem. -/
import Derived.Test.YtbfnemkngoaeeaaGreatQ15
import Derived.Test.YtbfnemkngoaeeaaGreatQ25
set_option linter.unusedSimpArgs false
set_option linter.unusedVariables false
set_option linter.unusedSectionVars false
set_option linter.unnecessarySimpa false
namespace Go.Proofs.YtbfnemkngoaeeaaGreat
open Go.RowKit
set_option maxRecDepth 4000
def Ef (m:MediumR):List T:=[eX m.name,tu m.sum]++m.seq.c ++ [ti m.frames,ti m.channels,ti m.samples]
def fG (m:MediumR) (x:V):List V:=(Ef m).map V.t ++ [x]
@[go_sem] theorem aFe (m:MediumR) (x:V):(fG m x).length=141:=rfl
@[go_sem] theorem vmedX_140 (m:MediumR) (x:V):(fG m x)[140]? = some x:=rfl
@[go_sem] theorem vmedX_all (m:MediumR) (x:V):List.take 141 (fG m x)=fG m x:=List.take_of_length_le (by rw [aFe];exact Nat.le_refl _)
@[go_sem] theorem vmedX_put (m:MediumR) (x y:V):List.take 140 (fG m x) ++ [y]=fG m y:=rfl
@[go_sem] theorem vmedX_drop (m:MediumR) (x:V):List.drop 141 (fG m x) = []:=rfl
@[go_sem] theorem vmedX_put9 (m:MediumR) (x:V) (n:Int):List.take 139 (fG m x) ++ [.t (.lit (.int .i64 n))]++List.drop 140 (fG m x)=fG { m with samples:=n } x:=rfl
@[go_sem] theorem vmedX_cell (m:MediumR) (x:V):(fG m x).all V.isCell=V.isCell x:=by
 unfold fG;rw [List.all_append];have:((Ef m).map V.t).all V.isCell=true:=by
  rw [List.all_eq_true];intro x hx;obtain ⟨t,_,rfl⟩:=List.mem_map.1 hx;rfl
 rw [this];simp
def aLf (m:MediumR) (o:Option T):Option (List T) :=
 match o with
 | some t=>some (Ef m ++ [t])
 | none=>none
@[go_sem] theorem vmedX_lend (h:Heap) (n:Nat) (m:MediumR) (x:V):Go.Proofs.YtbfnemkngoaeeaaGreat.lendCs (aR h n) (fG m x)=aLf m (aR h n x):=by
 unfold fG;cases e:aR h n x with
 | some t=>exact rQ (sL _ (fF h n) _) (by unfold lendCs lendCs;rw [e])
 | none =>
  unfold aLf;generalize Ef m=l
  induction l with
  | nil=>simp only [List.map_nil,List.nil_append,lendCs,e]
  | cons a l ih=>simp only [List.map_cons,List.cons_append,lendCs,ih,fF]
@[go_sem] theorem vmedX_reach (h:Heap) (n:Nat) (m:MediumR) (x:V):Go.Proofs.YtbfnemkngoaeeaaGreat.reachL (gQ h n) (fG m x)=gQ h n x:=by
 unfold fG;generalize Ef m=l
 induction l with
 | nil=>simp only [List.map_nil,List.nil_append,reachL,List.append_nil]
 | cons a l ih=>simp only [List.map_cons,List.cons_append,reachL,ih,wU,List.nil_append]
attribute [go_sem] aLf
@[go_sem] theorem vmedX_tCells (m:MediumR) (i:Nat):Go.Proofs.YtbfnemkngoaeeaaGreat.tCells (fG m (.own i))=none:=by
 unfold fG;generalize Ef m=l
 induction l with
 | nil=>rfl
 | cons a l ih=>simp only [List.map_cons,List.cons_append,tCells,ih,Option.map_none]
@[go_sem] theorem Yr (h:Heap) (n:Nat) (ys:List (List V)):∀ xs:List (List T),Go.Proofs.YtbfnemkngoaeeaaGreat.lendRs (aR h n) (aK xs++ys)=match Go.Proofs.YtbfnemkngoaeeaaGreat.lendRs (aR h n) ys with | some ts=>some (xs++ts) | none=>none
 | []=>by
  simp only [aK,List.map_nil,List.nil_append];cases lendRs (aR h n) ys<;>rfl
 | x::xs=>by
  have ih:=Yr h n ys xs;unfold aK at ih ⊢;simp only [List.map_cons,List.cons_append,lendRs,ih,sL _ (fF h n)];cases lendRs (aR h n) ys<;>rfl
@[go_sem] theorem Ta (h:Heap) (n:Nat) (ys:List (List V)):∀ xs:List (List T),Go.Proofs.YtbfnemkngoaeeaaGreat.reachRs (gQ h n) (aK xs++ys)=Go.Proofs.YtbfnemkngoaeeaaGreat.reachRs (gQ h n) ys
 | []=>rfl
 | x::xs=>by
  have ih:=Ta h n ys xs;unfold aK at ih ⊢;simp only [List.map_cons,List.cons_append,reachRs,ih,vD _ (wU h n),List.nil_append]
theorem aFd {ρ : Ren} {h:Heap} {m:MediumR} {x y:V}:wkVs ρ h (fG m x) (fG m y) ↔ wkV ρ h x y:=by
 unfold fG;generalize Ef m=l
 induction l with
 | nil=>simp only [List.map_nil,List.nil_append,wkVs,and_true]
 | cons a l ih =>
  simp only [List.map_cons,List.cons_append,wkVs,ih];exact ⟨fun q=>q.2,fun q=>⟨by simp only [wkV,wkT];exact Gu _,q⟩⟩
@[go_sem] theorem vmedX_wk {ρ : Ren} {h:Heap} {m:MediumR} {x y:V}:Go.Proofs.YtbfnemkngoaeeaaGreat.wkVs ρ h (fG m x) (fG m y)=wkV ρ h x y:=propext aFd
open Go.RowKit
set_option maxRecDepth 4000
theorem aA0 (L:List Int) (k:Nat):(kF L k).2≤k+5:=by
 unfold kF;split<;>simp
def dQ (L:List Int):Nat→Nat→List CueR×Nat
 | 0,k=>([],k)
 | n+1,k=>((kF L k).1::(dQ L n (kF L k).2).1,(dQ L n (kF L k).2).2)
def jE (L:List Int) (k:Nat):RatR:=⟨(([(25,1),(24,1),(30000,1001)]:List (Int×Int)).getD (aB L k 3).toNat (0,0)).1,(([(25,1),(24,1),(30000,1001)]:List (Int×Int)).getD (aB L k 3).toNat (0,0)).2⟩
def Qw (r:RatR):SeqR:=⟨16,16,r,false,400000,400000,fun _=>0⟩
def pU (L:List Int) (i k:Nat):MediumR×Nat :=
 (⟨dZ ⟨#[109]⟩ i,IntKind.u64.wrap (aB L k 99),Qw (jE L (k+1)),5+aB L (k+2) 40,aB L (k+3) 3,aB L (k+4) 20000,(dQ L (aB L (k+5) 3).toNat (k+6)).1⟩,(dQ L (aB L (k+5) 3).toNat (k+6)).2)
def gS (L:List Int):Nat→Nat→Nat→List MediumR×Nat
 | 0,_,k=>([],k)
 | n+1,i,k=>((pU L i k).1::(gS L n (i+1) (pU L i k).2).1,(gS L n (i+1) (pU L i k).2).2)
abbrev RowQ (l:List CueR):Blk := .row 110 3 (CueR.c default) (aK (l.map CueR.c))
def fW (L:List Int) (m s:Int):Nat→Nat→List (List ClipR)×Nat
 | 0,k=>([],k)
 | n+1,k=>((mU L k m s 5).1::(fW L m s n (mU L k m s 5).2).1,(fW L m s n (mU L k m s 5).2).2)
def eN (L:List Int) (m s ch:Int):Nat→Nat→List ClipR×Nat
 | 0,k=>([],k)
 | n+1,k=>((jM L k m s ch).1::(eN L m s ch n (jM L k m s ch).2).1,(eN L m s ch n (jM L k m s ch).2).2)
def Hg (L:List Int) (m s ch:Int) (k:Nat):List ClipR×Nat:=eN L m s ch (aB L k 4).toNat (k+1)
def jN (L:List Int) (m s ch:Int):Nat→Nat→List (List ClipR)×Nat
 | 0,k=>([],k)
 | n+1,k=>((Hg L m s ch k).1::(jN L m s ch n (Hg L m s ch k).2).1,(jN L m s ch n (Hg L m s ch k).2).2)
def yG (L:List Int) (m:Int) (i k:Nat):SequenceR×Nat :=
 let ch:=aB L (k+1) 3
 let v:=fW L m i (1+aB L (k+2) 2).toNat (k+3)
 let a:=jN L m i ch (aB L v.2 3).toNat (v.2+1)
 let c:=dQ L (aB L a.2 3).toNat (a.2+1)
 (⟨dZ ⟨#[115]⟩ i,jE L k,16,16,v.1,a.1,c.1,ch⟩,c.2)
def jQ (L:List Int) (m:Int):Nat→Nat→Nat→List SequenceR×Nat
 | 0,_,k=>([],k)
 | n+1,i,k=>((yG L m i k).1::(jQ L m n (i+1) (yG L m i k).2).1,(jQ L m n (i+1) (yG L m i k).2).2)
def dY (L:List Int):ProjR :=
 ⟨(gS L (1+aB L 0 3).toNat 0 2).1,(jQ L (1+aB L 0 3).toNat (1+aB L 1 3).toNat 0 (gS L (1+aB L 0 3).toNat 0 2).2).1⟩
theorem aAw (L:List Int) (k:Nat) (m s:Int) (hm:m≤9) (hs:s≤9):(dU L k m s).2≤k+19:=by
 have h:=rH L k m s hm hs;omega
theorem Vs (L:List Int) (m s:Int) (hm:m≤9) (hs:s≤9):∀ (n k:Nat),(kL L m s n k).2≤k+19*n
 | 0,k=>by simp [kL]
 | n+1,k=>by
  have h1:=aAw L k m s hm hs;have h2:=Vs L m s hm hs n (dU L k m s).2;simp only [kL];omega
theorem aJd (L:List Int) (k:Nat) (m s:Int) (hm:m≤9) (hs:s≤9):(mU L k m s 5).2≤k+150:=by
 have t:=aE (L:=L) (k:=k) (n:=5+1) (by omega);have h:=Vs L m s hm hs (aB L k (5+1)).toNat (k+1);unfold mU;omega
theorem aFp (L:List Int) (k:Nat) (m s ch:Int):(jM L k m s ch).2≤k+19:=by
 have h1:=eJ L (k+2) m s;have h2:=eJ L (bB L (k+2) m s).2 m s;unfold jM;split
 ·unfold eL;simp only;split
  ·simp
  ·split<;>simp only<;>omega
 ·split
  ·unfold eK;simp only;split
   ·simp
   ·split<;>simp only<;>omega
  ·unfold fU;simp only;split
   ·simp
   ·split<;>simp only<;>omega
abbrev Vb (l:List (List ClipR)):Blk := .row 27 1 (bS []) (aK (l.map bS))
abbrev Ry (l:List SequenceR):Blk := .row 114 9 (SequenceR.c default) (aK (l.map SequenceR.c))
abbrev qR (l:List MediumR):Blk := .row 82 141 (MediumR.c default) (aK (l.map MediumR.c))
theorem fill70 (a b:Int):nR (fun i=>[(0,1),(1,1),(2,2),(4,1),(5,1),(6,1),(7,64),(71,64)][i]?) (nQ Tryz.z79) [(0, .t (.lit (.int .i64 16))),(1, .t (.lit (.int .i64 16))),(2, .agg [.t (.lit (.int .i64 a)), .t (.lit (.int .i64 b))]),(4, .t (.lit (.int .i64 400000))),(5, .t (.lit (.int .i64 400000)))]=some (aAp (Qw ⟨a,b⟩)):=by
 rfl
theorem fill73 (s:SeqR) (n:ByteArray) (u f c:Int):nR (fun i=>[(0,1),(1,1),(2,135),(137,1),(138,1),(139,1),(140,1)][i]?) (nQ Tryz.z82) [(0, .t (.lit (.string n))),(1, .t (.lit (.int .u64 u))),(2, .agg (aAp s)),(3, .t (.lit (.int .i64 f))),(4, .t (.lit (.int .i64 c)))]=some (fG ⟨n,u,s,f,c,0,[]⟩ (.t (.lit (.slice none 0 0)))):=by
 rfl
set_option maxHeartbeats 8000000 in
theorem aMy (L:List Int):aN Tryz.prog 13 [.t (bN L)] (eD (dY L)):=by
 refine aH Tryz.X13 Tryz.func13 rfl Tryz.ntmps13 (by rw [Tryz.results13]) (aD _ ?_);simp only [go_sem,simprocAttr];refine aL (bG L 0 3 (by omega) (by omega) (by omega)) rfl rfl rfl ?_;have n1:=aE (L:=L) (k:=0) (n:=3) (by omega);simp only [go_sem,simprocAttr,wrap64 (x:=1+aB L 0 3) (by omega) (by omega)];refine aL (bG L 1 3 (by omega) (by omega) (by omega)) rfl rfl rfl ?_;have n2:=aE (L:=L) (k:=1) (n:=3) (by omega);simp only [go_sem,simprocAttr,wrap64 (x:=1+aB L 1 3) (by omega) (by omega)];obtain ⟨M,hM⟩:∃ M:Nat,1+aB L 0 3=M:=⟨(1+aB L 0 3).toNat,by omega⟩
 obtain ⟨N,hN⟩:∃ N:Nat,1+aB L 1 3=N:=⟨(1+aB L 1 3).toNat,by omega⟩
 rw [hM,hN];refine aF (fun (x:Nat×List MediumR×Nat) σ => { fr:=(aX [9,10,11,12,13,14,15,16,17,18,19,20,21,22,23,24,25,26,27,28,29,30,31,32,33,34,35,36,37,38,39,40,41,42,43,44,45,46,47,48,49,50,51,52,53,54,55,56,57,58,59,60,61,62,63,64,65,66,67,68,69,70,71,72,73,74,75,76,77,78] σ).fr.set 8 (aC x.1),h:=[(4,qR x.2.1),(3, .row 30 2 [.lit (.int .i64 0), .lit (.int .i64 0)] (aK [[.lit (.int .i64 25), .lit (.int .i64 1)],[.lit (.int .i64 24), .lit (.int .i64 1)],[.lit (.int .i64 30000), .lit (.int .i64 1001)]])),(2, .box [.own 4, .t (.lit (.slice none 0 0))]),(1, .box [.t (bN L),aC x.2.2]),(0, .box [.t (.lit (.slice none 0 0)), .t (.lit (.slice none 0 0))])],nx:=5 })
  (fun x=>x.1≤M∧x.2.1.length=x.1∧x.2.2≤2+20*x.1∧x.2.1++(gS L (M - x.1) x.1 x.2.2).1=(gS L M 0 2).1∧(gS L (M - x.1) x.1 x.2.2).2=(gS L M 0 2).2) (fun x=>M - x.1) (0,[],2) (aW [(4,none),(3,some 3),(2,some 2),(1,some 1),(0,some 0)] ?_) ⟨Nat.zero_le _,rfl,Nat.le_refl _,rfl,rfl⟩ ?_
 ·simp only [go_sem,simprocAttr]<;>simp [aK]
 ·rintro ⟨i,ms,q⟩ ⟨hi,hms,hq,he1,he2⟩;simp only at hi hms hq he1 he2;refine aD _ ?_;simp only [go_sem,simprocAttr];refine ⟨fun hlt=>?_,fun hge=>?_⟩
  ·simp only [bxx] at hlt;unfold awS;simp only [go_sem,simprocAttr];refine aV 19 .done rfl (by kernel_rfl) (by kernel_rfl) (by decide) ?_;simp only [go_sem,simprocAttr];refine ⟨_,Mf ⟨#[109]⟩ i (by omega) (by omega) (by decide),?_⟩;simp only [go_sem,simprocAttr];refine fL (bG L q 99 (by omega) (by omega) (by omega)) rfl rfl rfl ?_;have c99:=aE (L:=L) (k:=q) (n:=99) (by omega);simp only [go_sem,simprocAttr];refine fL (bG L (q+1) 3 (by omega) (by omega) (by omega)) rfl rfl rfl ?_;have c3:=aE (L:=L) (k:=q+1) (n:=3) (by omega);simp only [go_sem,simprocAttr,↓fill70];refine ⟨⟨by omega,by omega⟩,by omega,?_⟩;refine fL (bG L (q+1+1) 40 (by omega) (by omega) (by omega)) rfl rfl rfl ?_;have c40:=aE (L:=L) (k:=q+1+1) (n:=40) (by omega);simp only [go_sem,simprocAttr,wrap64 (x:=5+aB L (q+1+1) 40) (by omega) (by omega)];refine fL (bG L (q+1+1+1) 3 (by omega) (by omega) (by omega)) rfl rfl rfl ?_;have d3:=aE (L:=L) (k:=q+1+1+1) (n:=3) (by omega);simp only [go_sem,simprocAttr,↓fill73];refine ⟨by kernel_rfl,?_⟩;refine aL (bG L (q+1+1+1+1) 20000 (by omega) (by omega) (by omega)) rfl rfl rfl ?_;simp only [go_sem,simprocAttr];refine aL (bG L (q+1+1+1+1+1) 3 (by omega) (by omega) (by omega)) rfl rfl rfl ?_;have e3:=aE (L:=L) (k:=q+1+1+1+1+1) (n:=3) (by omega);simp only [go_sem,simprocAttr];obtain ⟨m0,hm0⟩:∃ m0:MediumR,m0=⟨dZ ⟨#[109]⟩ i,IntKind.u64.wrap (aB L q 99),Qw (jE L (q+1)),5+aB L (q+1+1) 40,aB L (q+1+1+1) 3,aB L (q+1+1+1+1) 20000,[]⟩:=⟨_,rfl⟩
   obtain ⟨C,hC⟩:∃ C:Nat,aB L (q+1+1+1+1+1) 3=C:=⟨(aB L (q+1+1+1+1+1) 3).toNat,by omega⟩
   have hmed:pU L i q=({ m0 with cues:=(dQ L C (q+6)).1 },(dQ L C (q+6)).2):=by
    unfold pU;rw [hm0,show (aB L (q+5) 3).toNat=C by rw [show q+5=q+1+1+1+1+1 by omega,hC];rfl]
   generalize hhd:Qw _=hd;have hhd':hd=Qw (jE L (q+1)):=by rw [← hhd];rfl
   rw [← hhd'] at hm0;rw [← hm0,hC];refine aF (fun (x:Nat×List CueR×Nat) σ => { fr:=((aX [36,37,38,39,40,41,42,43,44,45,46,47,48,49,50,51,52,53,54,55,56,57,58,59,60,61,62,63,64,65,66,67,68,69,70,71,72,73,74,75,76,77,78] σ).fr.set 9 (.own 5)).set 10 (aC x.1),h:=[(6,RowQ x.2.1),(5, .box (fG m0 (.own 6))),(4,qR ms),(3, .row 30 2 [.lit (.int .i64 0), .lit (.int .i64 0)] (aK [[.lit (.int .i64 25), .lit (.int .i64 1)],[.lit (.int .i64 24), .lit (.int .i64 1)],[.lit (.int .i64 30000), .lit (.int .i64 1001)]])),(2, .box [.own 4, .t (.lit (.slice none 0 0))]),(1, .box [.t (bN L),aC x.2.2]),(0, .box [.t (.lit (.slice none 0 0)), .t (.lit (.slice none 0 0))])],nx:=7 })
    (fun x=>x.2.1.length+x.1≤3∧x.2.2+5*x.1≤q+16∧x.2.1++(dQ L x.1 x.2.2).1=(dQ L C (q+6)).1∧(dQ L x.1 x.2.2).2=(dQ L C (q+6)).2) (fun x=>x.1) (C,[],q+6) (aW [(6,none),(5,some 22),(4,some 4),(3,some 3),(2,some 2),(1,some 1),(0,some 0)] ?_) ⟨by simp only [List.length_nil];omega,by simp only;omega,rfl,rfl⟩ ?_
   ·simp only [go_sem,simprocAttr]<;>simp [aK]
   ·rintro ⟨c,es,q'⟩ ⟨hc,hq',hf1,hf2⟩;simp only at hc hq' hf1 hf2;refine aD _ ?_;simp only [go_sem,simprocAttr];refine ⟨fun hlt2=>?_,fun hge2=>?_⟩
    ·simp only [bxx] at hlt2;obtain ⟨c,rfl⟩:∃ c',c=c'+1:=⟨c - 1,by omega⟩
     simp only [dQ] at hf1 hf2;unfold awS;simp only [go_sem,simprocAttr];refine aV 8 .done rfl (by kernel_rfl) (by kernel_rfl) (by decide) ?_;simp only [go_sem,simprocAttr];refine fL (cCue L q' (by omega)) rfl rfl rfl ?_;have hle:=aA0 L q';simp only [go_sem,simprocAttr];have wc:IntKind.i64.wrap (((c+1:Nat):Int) - 1)=(c:Int):=by rw [wrap64 (by omega) (by omega)];omega
     refine ⟨⟨by unfold maxLen;omega,by omega⟩,by kernel_rfl,(c,es ++ [(kF L q').1],(kF L q').2),aW [(6,some 12),(5,some 5),(4,some 4),(3,some 3),(2,some 2),(1,some 1),(0,some 0)] ?_,⟨by simp only [List.length_append,List.length_cons,List.length_nil];omega,by simp only;omega,by rw [← hf1];simp,hf2⟩,by simp only;omega⟩;simp only [go_sem,simprocAttr,wc]<;>simp
     rfl
    ·simp only [bxx] at hge2;have:c=0:=by omega
     subst this;simp only [dQ,List.append_nil] at hf1 hf2;unfold awS;simp only [go_sem,simprocAttr];refine ⟨⟨by unfold maxLen;omega,by omega⟩,(i+1,ms ++ [{ m0 with cues:=es }],q'),aW [(4,some 8),(3,some 3),(2,some 2),(1,some 1),(0,some 0)] ?_,⟨by simp only;omega,by simp only [List.length_append,List.length_cons,List.length_nil];omega,by simp only;omega,?_,?_⟩,by simp only;omega⟩
     ·simp only [go_sem,simprocAttr];have e:List.map MediumR.c ms ++ [Ef m0 ++ [T.list 3 (CueR.c default) (List.map CueR.c es)]]=List.map MediumR.c (ms ++ [{ m0 with cues:=es }]):=by rw [List.map_append];rfl
      rw [e];simp [bJ (show i<9223372036854775807 by omega)]
     ·have hM1:M - i=(M - (i+1))+1:=by omega
      rw [hM1] at he1;simp only [gS,hmed, ← hf1] at he1;simp only;rw [← he1,hf2];simp
     ·have hM1:M - i=(M - (i+1))+1:=by omega
      rw [hM1] at he2;simp only [gS,hmed] at he2;simp only;rw [← he2,hf2]
  ·simp only [bxx] at hge;have:i=M:=by omega
   subst this;simp only [Nat.sub_self,gS,List.append_nil] at he1 he2;unfold awS;simp only [go_sem,simprocAttr];refine aF (fun (x:Nat×List SequenceR×Nat) σ => { fr:=(aX [9,10,12,13,14,15,16,17,18,19,20,21,22,23,24,25,26,27,28,29,30,31,32,33,34,35,36,37,38,39,40,41,42,43,44,45,46,47,48,49,50,51,52,53,54,55,56,57,58,59,60,61,62,63,64,65,66,67,68,69,70,71,72,73,74,75,76,77,78,79,80,81,82,83,84,85,86,87,88,89,90,91,92,93,94,95,96,97,98,99,100,101,102,103,104,105,106,107,108,109,110,111,112,113,114,115,116,117,118,119,120,121,122,123,124,125,126,127,128,129,130,131,132,133,134,135,136,137,138,139,140,141,142,143,144,145,146,147,148,149,150,151] σ).fr.set 11 (aC x.1),h:=[(5,Ry x.2.1),(4,qR ms),(3, .row 30 2 [.lit (.int .i64 0), .lit (.int .i64 0)] (aK [[.lit (.int .i64 25), .lit (.int .i64 1)],[.lit (.int .i64 24), .lit (.int .i64 1)],[.lit (.int .i64 30000), .lit (.int .i64 1001)]])),(2, .box [.own 4, .own 5]),(1, .box [.t (bN L),aC x.2.2]),(0, .box [.t (.lit (.slice none 0 0)), .t (.lit (.slice none 0 0))])],nx:=6 })
    (fun x=>x.1≤N∧x.2.1.length=x.1∧x.2.2≤q+1000*x.1∧x.2.1++(jQ L i (N - x.1) x.1 x.2.2).1=(jQ L i N 0 q).1∧(jQ L i (N - x.1) x.1 x.2.2).2=(jQ L i N 0 q).2) (fun x=>N - x.1) (0,[],q) (aW [(5,none),(4,some 4),(3,some 3),(2,some 2),(1,some 1),(0,some 0)] ?_) ⟨Nat.zero_le _,rfl,by simp only;omega,rfl,rfl⟩ ?_
   ·simp only [go_sem,simprocAttr]<;>simp [aK]
   ·rintro ⟨j,ss,k⟩ ⟨hj,hss,hk,hg1,hg2⟩;simp only at hj hss hk hg1 hg2;refine aD _ ?_;simp only [go_sem,simprocAttr];refine ⟨fun hlt=>?_,fun hge=>?_⟩
    ·simp only [bxx] at hlt;unfold awS;simp only [go_sem,simprocAttr];refine aV 12 .done rfl (by kernel_rfl) (by kernel_rfl) (by decide) ?_;simp only [go_sem,simprocAttr];refine ⟨_,Mf ⟨#[115]⟩ j (by omega) (by omega) (by decide),?_⟩;simp only [go_sem,simprocAttr];refine fL (bG L k 3 (by omega) (by omega) (by omega)) rfl rfl rfl ?_;have c3:=aE (L:=L) (k:=k) (n:=3) (by omega);simp only [go_sem,simprocAttr];refine ⟨⟨by omega,by omega⟩,by omega,?_⟩;refine fL (bG L (k+1) 3 (by omega) (by omega) (by omega)) rfl rfl rfl ?_;have d3:=aE (L:=L) (k:=k+1) (n:=3) (by omega);simp only [go_sem,simprocAttr];refine ⟨by kernel_rfl,?_⟩;refine aL (bG L (k+1+1) 2 (by omega) (by omega) (by omega)) rfl rfl rfl ?_;have c2:=aE (L:=L) (k:=k+1+1) (n:=2) (by omega);simp only [go_sem,simprocAttr,wrap64 (x:=1+aB L (k+1+1) 2) (by omega) (by omega)];obtain ⟨Vn,hV⟩:∃ Vn:Nat,1+aB L (k+1+1) 2=Vn:=⟨(1+aB L (k+1+1) 2).toNat,by omega⟩
     rw [hV];refine aF (fun (x:Nat×List (List ClipR)×Nat) σ => { fr:=((aX [80,81,82,83,84,85,86,87,88,89,90,91,92,93,94,95,96,97,98,99,100,101,102,103,104,105,106,107,108,109,110,111,112,113,114,115,116,117,118,119,120,121,122,123,124,125,126,127,128,129,130,131,132,133,134,135,136,137,138,139,140,141,142,143,144,145,146,147,148,149,150,151] σ).fr.set 12 (.own 6)).set 13 (aC x.1),h:=[(7,Vb x.2.1),(6, .box [bP (dZ ⟨#[115]⟩ j),aC (jE L k).num,aC (jE L k).den,aC 16,aC 16, .own 7, .t (.lit (.slice none 0 0)), .t (.lit (.slice none 0 0)),aC (aB L (k+1) 3)]),(5,Ry ss),(4,qR ms),(3, .row 30 2 [.lit (.int .i64 0), .lit (.int .i64 0)] (aK [[.lit (.int .i64 25), .lit (.int .i64 1)],[.lit (.int .i64 24), .lit (.int .i64 1)],[.lit (.int .i64 30000), .lit (.int .i64 1001)]])),(2, .box [.own 4, .own 5]),(1, .box [.t (bN L),aC x.2.2]),(0, .box [.t (.lit (.slice none 0 0)), .t (.lit (.slice none 0 0))])],nx:=8 })
      (fun x=>x.2.1.length+x.1≤3∧x.2.2+150*x.1≤k+303∧x.2.1++(fW L i j x.1 x.2.2).1=(fW L i j Vn (k+3)).1∧(fW L i j x.1 x.2.2).2=(fW L i j Vn (k+3)).2) (fun x=>x.1) (Vn,[],k+3) (aW [(7,none),(6,some 16),(5,some 5),(4,some 4),(3,some 3),(2,some 2),(1,some 1),(0,some 0)] ?_) ⟨by simp only [List.length_nil];omega,by simp only;omega,rfl,rfl⟩ ?_
     ·simp only [go_sem,simprocAttr];simp [aK];exact ⟨rfl,rfl⟩
     ·rintro ⟨c,vs,q'⟩ ⟨hc,hq',hf1,hf2⟩;simp only at hc hq' hf1 hf2;refine aD _ ?_;simp only [go_sem,simprocAttr];refine ⟨fun hlt2=>?_,fun hge2=>?_⟩
      ·simp only [bxx] at hlt2;obtain ⟨c,rfl⟩:∃ c',c=c'+1:=⟨c - 1,by omega⟩
       simp only [fW] at hf1 hf2;have wc:IntKind.i64.wrap (((c+1:Nat):Int) - 1)=(c:Int):=by rw [wrap64 (by omega) (by omega)];omega
       have hle:=aJd L q' i j (by omega) (by omega);unfold awS;simp only [go_sem,simprocAttr];refine aV 10 .done rfl (by kernel_rfl) (by kernel_rfl) (by decide) ?_;simp only [go_sem,simprocAttr];refine fL (cTrackB L q' i j 5 (by omega) (by omega) (by omega) (by omega) (by omega)) rfl rfl rfl ?_;simp only [go_sem,simprocAttr];refine ⟨⟨by unfold maxLen;omega,by omega⟩,by kernel_rfl,(c,vs ++ [(mU L q' i j 5).1],(mU L q' i j 5).2),aW [(7,some 15),(6,some 6),(5,some 5),(4,some 4),(3,some 3),(2,some 2),(1,some 1),(0,some 0)] ?_,⟨by simp only [List.length_append,List.length_cons,List.length_nil];omega,by simp only;omega,by rw [← hf1];simp,hf2⟩,by simp only;omega⟩;simp only [go_sem,simprocAttr,wc]<;>simp
       rfl
      ·simp only [bxx] at hge2;have:c=0:=by omega
       subst this;simp only [fW,List.append_nil] at hf1 hf2;unfold awS;simp only [go_sem,simprocAttr];refine aL (bG L q' 3 (by omega) (by omega) (by omega)) rfl rfl rfl ?_;have s3:=aE (L:=L) (k:=q') (n:=3) (by omega);simp only [go_sem,simprocAttr];obtain ⟨Sn,hSn⟩:∃ Sn:Nat,aB L q' 3=Sn:=⟨(aB L q' 3).toNat,by omega⟩
       rw [hSn];refine aF (fun (x:Nat×List (List ClipR)×Nat) σ => { fr:=((aX [15,16,97,98,99,100,101,102,103,104,105,106,107,108,109,110,111,112,113,114,115,116,117,118,119,120,121,122,123,124,125,126,127,128,129,130,131,132,133,134,135,136,137,138,139,140,141,142,143,144,145,146,147,148,149,150,151] σ).fr.set 12 (.own 6)).set 14 (aC x.1),h:=[(8,Vb x.2.1),(7,Vb vs),(6, .box [bP (dZ ⟨#[115]⟩ j),aC (jE L k).num,aC (jE L k).den,aC 16,aC 16, .own 7, .own 8, .t (.lit (.slice none 0 0)),aC (aB L (k+1) 3)]),(5,Ry ss),(4,qR ms),(3, .row 30 2 [.lit (.int .i64 0), .lit (.int .i64 0)] (aK [[.lit (.int .i64 25), .lit (.int .i64 1)],[.lit (.int .i64 24), .lit (.int .i64 1)],[.lit (.int .i64 30000), .lit (.int .i64 1001)]])),(2, .box [.own 4, .own 5]),(1, .box [.t (bN L),aC x.2.2]),(0, .box [.t (.lit (.slice none 0 0)), .t (.lit (.slice none 0 0))])],nx:=9 })
        (fun x=>x.2.1.length+x.1≤3∧x.2.2+60*x.1≤q'+200∧x.2.1++(jN L i j (aB L (k+1) 3) x.1 x.2.2).1=(jN L i j (aB L (k+1) 3) Sn (q'+1)).1∧(jN L i j (aB L (k+1) 3) x.1 x.2.2).2=(jN L i j (aB L (k+1) 3) Sn (q'+1)).2) (fun x=>x.1) (Sn,[],q'+1) (aW [(8,none),(7,some 7),(6,some 6),(5,some 5),(4,some 4),(3,some 3),(2,some 2),(1,some 1),(0,some 0)] ?_) ⟨by simp only [List.length_nil];omega,by simp only;omega,rfl,rfl⟩ ?_
       ·simp only [go_sem,simprocAttr]<;>simp [aK]
       ·rintro ⟨c,as1,q2⟩ ⟨hc,hq2,hh1,hh2⟩;simp only at hc hq2 hh1 hh2;refine aD _ ?_;simp only [go_sem,simprocAttr];refine ⟨fun hlt3=>?_,fun hge3=>?_⟩
        ·simp only [bxx] at hlt3;obtain ⟨c,rfl⟩:∃ c',c=c'+1:=⟨c - 1,by omega⟩
         simp only [jN] at hh1 hh2;have wc:IntKind.i64.wrap (((c+1:Nat):Int) - 1)=(c:Int):=by rw [wrap64 (by omega) (by omega)];omega
         unfold awS;simp only [go_sem,simprocAttr];refine aL (bG L q2 4 (by omega) (by omega) (by omega)) rfl rfl rfl ?_;have s4:=aE (L:=L) (k:=q2) (n:=4) (by omega);simp only [go_sem,simprocAttr];obtain ⟨Tn,hTn⟩:∃ Tn:Nat,aB L q2 4=Tn:=⟨(aB L q2 4).toNat,by omega⟩
         have hstk:Hg L i j (aB L (k+1) 3) q2=eN L i j (aB L (k+1) 3) Tn (q2+1):=by unfold Hg;rw [hTn];rfl
         rw [hstk] at hh1 hh2;rw [hTn];refine aF (fun (x:Nat×List ClipR×Nat) σ => { fr:=(((aX [114,115,116,117,118,119,120,121,122,123,124,125,126,127,128,129,130,131,132,133,134,135,136,137,138,139,140,141,142,143,144,145,146,147,148,149,150,151] σ).fr.set 12 (.own 6)).set 15 (.own 9)).set 16 (aC x.1),h:=[(9,qS x.2.1),(8,Vb as1),(7,Vb vs),(6, .box [bP (dZ ⟨#[115]⟩ j),aC (jE L k).num,aC (jE L k).den,aC 16,aC 16, .own 7, .own 8, .t (.lit (.slice none 0 0)),aC (aB L (k+1) 3)]),(5,Ry ss),(4,qR ms),(3, .row 30 2 [.lit (.int .i64 0), .lit (.int .i64 0)] (aK [[.lit (.int .i64 25), .lit (.int .i64 1)],[.lit (.int .i64 24), .lit (.int .i64 1)],[.lit (.int .i64 30000), .lit (.int .i64 1001)]])),(2, .box [.own 4, .own 5]),(1, .box [.t (bN L),aC x.2.2]),(0, .box [.t (.lit (.slice none 0 0)), .t (.lit (.slice none 0 0))])],nx:=10 })
          (fun x=>x.2.1.length+x.1≤4∧x.2.2+19*x.1≤q2+58∧x.2.1++(eN L i j (aB L (k+1) 3) x.1 x.2.2).1=(eN L i j (aB L (k+1) 3) Tn (q2+1)).1∧(eN L i j (aB L (k+1) 3) x.1 x.2.2).2=(eN L i j (aB L (k+1) 3) Tn (q2+1)).2) (fun x=>x.1) (Tn,[],q2+1) (aW [(9,none),(8,some 8),(7,some 7),(6,some 6),(5,some 5),(4,some 4),(3,some 3),(2,some 2),(1,some 1),(0,some 0)] ?_) ⟨by simp only [List.length_nil];omega,by simp only;omega,rfl,rfl⟩ ?_
         ·simp only [go_sem,simprocAttr]<;>simp [aK]
         ·rintro ⟨d,cs,q4⟩ ⟨hd,hq4,hk1,hk2⟩;simp only at hd hq4 hk1 hk2;refine aD _ ?_;simp only [go_sem,simprocAttr];refine ⟨fun hlt4=>?_,fun hge4=>?_⟩
          ·simp only [bxx] at hlt4;obtain ⟨d,rfl⟩:∃ d',d=d'+1:=⟨d - 1,by omega⟩
           simp only [eN] at hk1 hk2;have wd:IntKind.i64.wrap (((d+1:Nat):Int) - 1)=(d:Int):=by rw [wrap64 (by omega) (by omega)];omega
           have hle:=aFp L q4 i j (aB L (k+1) 3);unfold awS;simp only [go_sem,simprocAttr];refine aL (cSoundC L q4 i j (aB L (k+1) 3) (by omega) (by omega) (by omega) (by omega)) rfl rfl rfl ?_;simp only [go_sem,simprocAttr];refine ⟨⟨by unfold maxLen;omega,by omega⟩,(d,cs ++ [(jM L q4 i j (aB L (k+1) 3)).1],(jM L q4 i j (aB L (k+1) 3)).2),aW [(9,some 11),(8,some 8),(7,some 7),(6,some 6),(5,some 5),(4,some 4),(3,some 3),(2,some 2),(1,some 1),(0,some 0)] ?_,⟨by simp only [List.length_append,List.length_cons,List.length_nil];omega,by simp only;omega,by rw [← hk1];simp,hk2⟩,by simp only;omega⟩;simp only [go_sem,simprocAttr,wd]<;>simp
           rfl
          ·simp only [bxx] at hge4;have:d=0:=by omega
           subst this;simp only [eN,List.append_nil] at hk1 hk2;unfold awS;simp only [go_sem,simprocAttr];refine ⟨⟨by unfold maxLen;omega,by omega⟩,(c,as1 ++ [cs],q4),aW [(8,some 11),(7,some 7),(6,some 6),(5,some 5),(4,some 4),(3,some 3),(2,some 2),(1,some 1),(0,some 0)] ?_,⟨by simp only [List.length_append,List.length_cons,List.length_nil];omega,by simp only;omega,by rw [← hh1, ← hk1,hk2];simp,by rw [← hh2,hk2]⟩,by simp only;omega⟩;simp only [go_sem,simprocAttr,wc];have e:List.map bS as1 ++ [[T.list 22 (ClipR.c default) (List.map ClipR.c cs)]]=List.map bS (as1 ++ [cs]):=by rw [List.map_append];rfl
           rw [e];simp
        ·simp only [bxx] at hge3;have:c=0:=by omega
         subst this;simp only [jN,List.append_nil] at hh1 hh2;unfold awS;simp only [go_sem,simprocAttr];refine aL (bG L q2 3 (by omega) (by omega) (by omega)) rfl rfl rfl ?_;have u3:=aE (L:=L) (k:=q2) (n:=3) (by omega);simp only [go_sem,simprocAttr];obtain ⟨Qn,hQn⟩:∃ Qn:Nat,aB L q2 3=Qn:=⟨(aB L q2 3).toNat,by omega⟩
         rw [hQn];refine aF (fun (x:Nat×List CueR×Nat) σ => { fr:=((aX [15,16,108,109,110,111,112,113,114,115,116,117,118,119,120,121,122,123,124,125,126,127,128,129,130,131,132,133,134,135,136,137,138,139,140,141,142,143,144,145,146,147,148,149,150,151] σ).fr.set 12 (.own 6)).set 17 (aC x.1),h:=[(9,RowQ x.2.1),(8,Vb as1),(7,Vb vs),(6, .box [bP (dZ ⟨#[115]⟩ j),aC (jE L k).num,aC (jE L k).den,aC 16,aC 16, .own 7, .own 8, .own 9,aC (aB L (k+1) 3)]),(5,Ry ss),(4,qR ms),(3, .row 30 2 [.lit (.int .i64 0), .lit (.int .i64 0)] (aK [[.lit (.int .i64 25), .lit (.int .i64 1)],[.lit (.int .i64 24), .lit (.int .i64 1)],[.lit (.int .i64 30000), .lit (.int .i64 1001)]])),(2, .box [.own 4, .own 5]),(1, .box [.t (bN L),aC x.2.2]),(0, .box [.t (.lit (.slice none 0 0)), .t (.lit (.slice none 0 0))])],nx:=10 })
          (fun x=>x.2.1.length+x.1≤3∧x.2.2+5*x.1≤q2+11∧x.2.1++(dQ L x.1 x.2.2).1=(dQ L Qn (q2+1)).1∧(dQ L x.1 x.2.2).2=(dQ L Qn (q2+1)).2) (fun x=>x.1) (Qn,[],q2+1) (aW [(9,none),(8,some 8),(7,some 7),(6,some 6),(5,some 5),(4,some 4),(3,some 3),(2,some 2),(1,some 1),(0,some 0)] ?_) ⟨by simp only [List.length_nil];omega,by simp only;omega,rfl,rfl⟩ ?_
         ·simp only [go_sem,simprocAttr]<;>simp [aK]
         ·rintro ⟨d,es,q4⟩ ⟨hd,hq4,hk1,hk2⟩;simp only at hd hq4 hk1 hk2;refine aD _ ?_;simp only [go_sem,simprocAttr];refine ⟨fun hlt4=>?_,fun hge4=>?_⟩
          ·simp only [bxx] at hlt4;obtain ⟨d,rfl⟩:∃ d',d=d'+1:=⟨d - 1,by omega⟩
           simp only [dQ] at hk1 hk2;have wd:IntKind.i64.wrap (((d+1:Nat):Int) - 1)=(d:Int):=by rw [wrap64 (by omega) (by omega)];omega
           have hle:=aA0 L q4;unfold awS;simp only [go_sem,simprocAttr];refine aV 8 .done rfl (by kernel_rfl) (by kernel_rfl) (by decide) ?_;simp only [go_sem,simprocAttr];refine fL (cCue L q4 (by omega)) rfl rfl rfl ?_;simp only [go_sem,simprocAttr];refine ⟨⟨by unfold maxLen;omega,by omega⟩,by kernel_rfl,(d,es ++ [(kF L q4).1],(kF L q4).2),aW [(9,some 15),(8,some 8),(7,some 7),(6,some 6),(5,some 5),(4,some 4),(3,some 3),(2,some 2),(1,some 1),(0,some 0)] ?_,⟨by simp only [List.length_append,List.length_cons,List.length_nil];omega,by simp only;omega,by rw [← hk1];simp,hk2⟩,by simp only;omega⟩;simp only [go_sem,simprocAttr,wd]<;>simp
           rfl
          ·simp only [bxx] at hge4;have:d=0:=by omega
           subst this;simp only [dQ,List.append_nil] at hk1 hk2;have hseq:yG L i j k=(⟨dZ ⟨#[115]⟩ j,jE L k,16,16,vs,as1,es,(aB L (k+1) 3)⟩,q4):=by
            have e1:(1+aB L (k+2) 2).toNat=Vn:=by rw [show k+2=k+1+1 from rfl,hV];rfl
            unfold yG;simp only [e1, ← hf1, ← hf2,hSn,Int.toNat_natCast, ← hh1, ← hh2,hQn, ← hk1, ← hk2]
           unfold awS;simp only [go_sem,simprocAttr];refine ⟨⟨by unfold maxLen;omega,by omega⟩,(j+1,ss ++ [(yG L i j k).1],q4),aW [(5,some 11),(4,some 4),(3,some 3),(2,some 2),(1,some 1),(0,some 0)] ?_,⟨by simp only;omega,by simp only [List.length_append,List.length_cons,List.length_nil];omega,by simp only;omega,?_,?_⟩,by simp only;omega⟩
           ·simp only [go_sem,simprocAttr];rw [hseq];have e:List.map SequenceR.c ss ++ [[T.lit (Value.string (dZ ⟨#[115]⟩ j)),T.lit (Value.int IntKind.i64 (jE L k).num),T.lit (Value.int IntKind.i64 (jE L k).den),T.lit (Value.int IntKind.i64 16),T.lit (Value.int IntKind.i64 16),T.list 1 (bS []) (List.map bS vs),T.list 1 (bS []) (List.map bS as1),T.list 3 (CueR.c default) (List.map CueR.c es),T.lit (Value.int IntKind.i64 (aB L (k+1) 3))]]=List.map SequenceR.c (ss ++ [⟨dZ ⟨#[115]⟩ j,jE L k,16,16,vs,as1,es,aB L (k+1) 3⟩]):=by rw [List.map_append];rfl
            simp only;rw [e];simp [bJ (show j<9223372036854775807 by omega)]
           ·have hN1:N - j=(N - (j+1))+1:=by omega
            rw [hN1] at hg1;simp only [jQ] at hg1;simp only;rw [← hg1,hseq];simp
           ·have hN1:N - j=(N - (j+1))+1:=by omega
            rw [hN1] at hg2;simp only [jQ,hseq] at hg2;simp only;rw [← hg2]
    ·simp only [bxx] at hge;have:j=N:=by omega
     subst this;simp only [Nat.sub_self,jQ,List.append_nil] at hg1 hg2;unfold awS;simp only [go_sem,simprocAttr];have hp:dY L=⟨ms,ss⟩:=by
      unfold dY;simp only [hM,hN,Int.toNat_natCast, ← he1, ← he2, ← hg1]
     rw [hp]
end Go.Proofs.YtbfnemkngoaeeaaGreat
