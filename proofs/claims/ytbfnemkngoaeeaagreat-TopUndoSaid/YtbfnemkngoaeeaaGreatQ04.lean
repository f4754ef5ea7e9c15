/- Proved here: Picks from a slice whose elements are given, on the abstract machine. -/
import Derived.Test.YtbfnemkngoaeeaaGreatQ03
import Derived.ProofKit
import Derived.OpenShut
import Derived.ShutString
import Derived.Test.YtbfnemkngoaeeaaGreatProg
set_option linter.unusedSimpArgs false
set_option linter.unusedVariables false
set_option linter.unusedSectionVars false
set_option linter.unnecessarySimpa false
namespace Go.Proofs.YtbfnemkngoaeeaaGreat
open Go.RowKit
@[go_sem] theorem dec_str {l:List UInt8}:decide ((⟨l⟩:Array UInt8).size≤maxLen)=decide (l.length≤maxLen):=rfl
theorem Cm {n:Nat} (h:n≤65536):n≤maxLen:=by unfold maxLen;omega
@[go_sem] theorem dec_len0:decide (0≤maxLen)=true:=decide_eq_true (Cm (by omega))
@[go_sem] theorem dec_len1:decide (1≤maxLen)=true:=decide_eq_true (Cm (by omega))
@[go_sem] theorem dec_len3:decide (3≤maxLen)=true:=decide_eq_true (Cm (by omega))
@[go_sem] theorem dec_len5:decide (5≤maxLen)=true:=decide_eq_true (Cm (by omega))
@[go_sem] theorem dec_len6:decide (6≤maxLen)=true:=decide_eq_true (Cm (by omega))
@[go_sem] theorem dec_len8:decide (8≤maxLen)=true:=decide_eq_true (Cm (by omega))
@[go_sem] theorem dec_len13:decide (13≤maxLen)=true:=decide_eq_true (Cm (by omega))
@[go_sem] theorem nth_ii3 {kd ke:IntKind} {d e a0 a1 a2 b0 b1 b2:Int} {n:Nat}:nth [.lit (.int kd d), .lit (.int ke e)] [[.lit (.int kd a0), .lit (.int ke b0)],[.lit (.int kd a1), .lit (.int ke b1)],[.lit (.int kd a2), .lit (.int ke b2)]] n = [.lit (.int kd ([(a0,b0),(a1,b1),(a2,b2)].getD n (d,e)).1), .lit (.int ke ([(a0,b0),(a1,b1),(a2,b2)].getD n (d,e)).2)]:=wJ (fun x:Int×Int=>[.lit (.int kd x.1), .lit (.int ke x.2)]) (d,e) [(a0,b0),(a1,b1),(a2,b2)] n
@[go_sem] theorem nth_i4 {kd:IntKind} {d a0 a1 a2 a3:Int} {n:Nat}:nth [.lit (.int kd d)] [[.lit (.int kd a0)],[.lit (.int kd a1)],[.lit (.int kd a2)],[.lit (.int kd a3)]] n = [.lit (.int kd ([a0,a1,a2,a3].getD n d))]:=wJ (fun x=>[.lit (.int kd x)]) d [a0,a1,a2,a3] n
@[go_sem] theorem nth_s4 {d a0 a1 a2 a3:ByteArray} {n:Nat}:nth [.lit (.string d)] [[.lit (.string a0)],[.lit (.string a1)],[.lit (.string a2)],[.lit (.string a3)]] n = [.lit (.string ([a0,a1,a2,a3].getD n d))]:=wJ (fun x=>[.lit (.string x)]) d [a0,a1,a2,a3] n
@[go_sem] theorem nth_i6 {kd:IntKind} {d a0 a1 a2 a3 a4 a5:Int} {n:Nat}:nth [.lit (.int kd d)] [[.lit (.int kd a0)],[.lit (.int kd a1)],[.lit (.int kd a2)],[.lit (.int kd a3)],[.lit (.int kd a4)],[.lit (.int kd a5)]] n = [.lit (.int kd ([a0,a1,a2,a3,a4,a5].getD n d))]:=wJ (fun x=>[.lit (.int kd x)]) d [a0,a1,a2,a3,a4,a5] n
@[go_sem] theorem nth_i8 {kd:IntKind} {d a0 a1 a2 a3 a4 a5 a6 a7:Int} {n:Nat}:nth [.lit (.int kd d)] [[.lit (.int kd a0)],[.lit (.int kd a1)],[.lit (.int kd a2)],[.lit (.int kd a3)],[.lit (.int kd a4)],[.lit (.int kd a5)],[.lit (.int kd a6)],[.lit (.int kd a7)]] n = [.lit (.int kd ([a0,a1,a2,a3,a4,a5,a6,a7].getD n d))]:=wJ (fun x=>[.lit (.int kd x)]) d [a0,a1,a2,a3,a4,a5,a6,a7] n
@[go_sem] theorem nth_ii9 {kd ke:IntKind} {d e a0 a1 a2 a3 a4 a5 a6 a7 a8 b0 b1 b2 b3 b4 b5 b6 b7 b8:Int} {n:Nat}:nth [.lit (.int kd d), .lit (.int ke e)] [[.lit (.int kd a0), .lit (.int ke b0)],[.lit (.int kd a1), .lit (.int ke b1)],[.lit (.int kd a2), .lit (.int ke b2)],[.lit (.int kd a3), .lit (.int ke b3)],[.lit (.int kd a4), .lit (.int ke b4)],[.lit (.int kd a5), .lit (.int ke b5)],[.lit (.int kd a6), .lit (.int ke b6)],[.lit (.int kd a7), .lit (.int ke b7)],[.lit (.int kd a8), .lit (.int ke b8)]] n = [.lit (.int kd ([(a0,b0),(a1,b1),(a2,b2),(a3,b3),(a4,b4),(a5,b5),(a6,b6),(a7,b7),(a8,b8)].getD n (d,e)).1), .lit (.int ke ([(a0,b0),(a1,b1),(a2,b2),(a3,b3),(a4,b4),(a5,b5),(a6,b6),(a7,b7),(a8,b8)].getD n (d,e)).2)]:=wJ (fun x:Int×Int=>[.lit (.int kd x.1), .lit (.int ke x.2)]) (d,e) [(a0,b0),(a1,b1),(a2,b2),(a3,b3),(a4,b4),(a5,b5),(a6,b6),(a7,b7),(a8,b8)] n
open Go.RowKit
def CMk (P:Program) (f:FuncId) (args:List V) (r:V) (cs:List V):Prop :=
 P.enters f=true ∧ ∀ (w:World) (S:Nat→Prop) (vs:List Value),(∀ x,S x→x<w.heap.size)→RdVs w (gW S) args vs →
  Calls P f vs.toArray w fun e w' => ∃ v0 b S' ty cells,e = .returned (.tuple #[v0, .pointer (some ⟨b,0,none⟩)])∧w.heap.size≤b∧(∀ x,S x→S' x)∧(∀ x,S' x→S x∨w.heap.size≤x) ∧
   (∀ x,S' x→x<w'.heap.size)∧RdV w' (gW S') r v0∧w'.heap[b]? = some (.cells cells ty (0,0))∧RdVs w' (gW S') cs cells.toList∧cells.toList.all (·.oneCell')=true∧Below w.heap.size w w' ∧ ¬ S' b
def mkK (r:V) (cs':List V) (x:V) (σ : St):Prop :=
 match x with
 | .tup [y, .own i]=>y.lend (σ.h.del i)=r∧r.pure=true∧aK1 (σ.h.look i) (σ.h.del i) cs'
 | _=>False
theorem aNj {w:World} {E:Env} {a b:V} {vs:Array Value} (h:RdVs w E [a,b] vs.toList):∃ x y,vs = #[x,y]∧RdV w E a x∧RdV w E b y:=by
 obtain ⟨l⟩:=vs;rcases l with _ | ⟨x,_ | ⟨y,_ | ⟨z,l⟩⟩⟩<;>simp only [RdVs,and_false,and_true] at h
 exact ⟨x,y,rfl,h⟩
attribute [go_sem] mkK
open Go.RowKit
@[go_sem] def idRen:Heap→Ren
 | []=>[]
 | (i,_)::r=>(i,some i)::idRen r
theorem aE {n0:Nat} {σ σ':St} (hok:wkOk n0 (idRen σ'.h) σ σ'):aE3 n0 σ σ':=aT _ hok
def Sa (b:Option Blk) (x:V):V :=
 match b with
 | some _=>x
 | none => .dead
mutual
def aFy (h:Heap):V→V
 | .own i=>Sa (h.look i) (.own i)
 | .ptr i o=>Sa (h.look i) (.ptr i o)
 | .rptr i k n j=>Sa (h.look i) (.rptr i k n j)
 | .rsl i k n j=>Sa (h.look i) (.rsl i k n j)
 | .agg cs => .agg (Ar h cs)
 | .tup cs => .tup (Ar h cs)
 | .cond g x => .cond g (aFy h x)
 | .clo f cs => .clo f (Ar h cs)
 | .t x => .t x
 | .elem k d xs i j => .elem k d xs i j
 | .dead => .dead
def Ar (h:Heap):List V→List V
 | []=>[]
 | x::xs=>aFy h x::Ar h xs
end
def eH (σ : St):St := { σ with fr:=Ar σ.h σ.fr }
def dD:List Nat→St→St
 | [], σ => σ
 | i::r, σ => dD r (dW i .dead σ)
attribute [go_sem] dD Sa aFy Ar eH
open Go.RowKit
def Kb:List Nat→Nat→Nat→Option Nat
 | [],_,_=>none
 | a::r,i,k=>if i=a then some k else Kb r i (k+1)
def Ay (is:List Nat) (nx j:Nat):Nat :=
 match is[j]? with
 | some i=>i
 | none=>nx+(j - is.length)
def wF (m:Nat) (g:Nat→Nat):Heap→Heap
 | []=>[]
 | (j,b)::r=>if j<m then wF m g r else (g j,b.ren g)::wF m g r
def aC2 (i:Nat) (g:Nat→Nat) (b:Option Blk) (r:Heap):Heap :=
 match b with
 | some b=>(i,b.ren g)::r
 | none=>r
def outP (i:Nat) (old:Blk) (g:Nat→Nat) (h':Heap) (p:Option Nat) (r:Heap):Heap :=
 match p with
 | some j=>aC2 i g (h'.look j) r
 | none=>(i,old)::r
def Fy (is:List Nat) (g:Nat→Nat) (h':Heap):Heap→Heap
 | []=>[]
 | (i,b)::r=>outP i b g h' (Kb is i 0) (Fy is g h' r)
def inH (m:Nat) (g:Nat→Nat) (H:Heap):Heap→Prop
 | []=>True
 | (j,b)::r=>(j<m∧xM m b.ment=true∧H.look (g j)=some (b.ren g))∧inH m g H r
def allB (m:Nat) (h:Heap):Bool:=(List.range m).all fun j=>(h.look j).isSome
def Qf (n:Nat) (h:Heap):Bool:=h.all fun p=>decide (p.1<n)
theorem Pr (i:Nat):∀ (a b:Heap),Heap.look (a++b) i=match Heap.look a i with | some x=>some x | none=>Heap.look b i
 | [],b=>rfl
 | (j,x)::r,b=>by
  simp only [List.cons_append,Heap.look];split
  ·rfl
  ·exact Pr i r b
theorem Vr:∀ {is:List Nat} {i k:Nat},i ∉ is→Kb is i k=none
 | [],_,_,_=>rfl
 | a::r,i,k,h=>by
  simp only [List.mem_cons,not_or] at h;rw [Kb,if_neg h.1,Vr h.2]
theorem aHe:∀ {is:List Nat} {j k:Nat} (h:j<is.length),is.Nodup→Kb is is[j] k=some (k+j)
 | a::r,0,k,h,_=>by simp [Kb]
 | a::r,j+1,k,h,hn=>by
  rw [List.nodup_cons] at hn;simp only [List.getElem_cons_succ,Kb];rw [if_neg (fun e=>hn.1 (by rw [← e];exact List.getElem_mem _)),aHe (by simpa using h) hn.2];congr 1;omega
section
variable {m n':Nat} {g:Nat→Nat} (hinj:∀ i j,i<n'→j<n'→g i=g j→i=j)
include hinj
theorem Vu {j:Nat} (hj:j<n'):∀ {h:Heap},Qf n' h=true→(wF m g h).look (g j)=if j<m then none else (h.look j).map (Blk.ren g)
 | [],_=>by simp [wF,Heap.look]
 | (k,b)::r,hk=>by
  simp only [Qf,List.all_cons,Bool.and_eq_true,decide_eq_true_eq] at hk;have ih:=Vu hj (h:=r) (by simpa [Qf] using hk.2);unfold wF
  by_cases hkm:k<m
  ·rw [if_pos hkm,ih];split
   ·rfl
   ·rename_i hjm;rw [Heap.look,if_neg (by omega)]
  ·rw [if_neg hkm,Heap.look]
   by_cases hjk:j=k
   ·subst hjk;rw [if_pos rfl,if_neg hkm,Heap.look,if_pos rfl];rfl
   ·rw [if_neg (fun e=>hjk (hinj _ _ hj hk.1 e)),ih,Heap.look,if_neg hjk]
end
theorem Nz {m n':Nat} {g:Nat→Nat} {i:Nat} (hi:∀ j,j<n'→g j≠i):∀ {h:Heap},Qf n' h=true→(wF m g h).look i=none
 | [],_=>rfl
 | (k,b)::r,hk=>by
  simp only [Qf,List.all_cons,Bool.and_eq_true,decide_eq_true_eq] at hk;have ih:=Nz hi (m:=m) (h:=r) (by simpa [Qf] using hk.2);unfold wF;split
  ·exact ih
  ·rw [Heap.look,if_neg (fun e=>hi k hk.1 e.symm),ih]
theorem zY {is:List Nat} {g:Nat→Nat} {h':Heap} {i:Nat}:∀ {H:Heap},(Fy is g h' H).look i=match Kb is i 0 with | some j=>(match H.look i with | some _=>(h'.look j).map (Blk.ren g) | none=>none) | none=>H.look i
 | []=>by
  simp only [Fy,Heap.look];split<;>rfl
 | (k,b)::r=>by
  have ih:=zY (is:=is) (g:=g) (h':=h') (i:=i) (H:=r);unfold Fy outP
  by_cases hik:i=k
  ·subst hik;cases hp:Kb is i 0 with
   | none=>simp only [Heap.look,if_true]
   | some j =>
    simp only [Heap.look,if_true];rw [hp] at ih;simp only at ih;unfold aC2;cases hl:Heap.look h' j with
    | none=>simp only [Option.map_none];rw [ih,hl];split<;>rfl
    | some b'=>simp only [Heap.look,if_true,Option.map_some]
  ·have hne:∀ r',(match Kb is k 0 with | some j=>aC2 k g (Heap.look h' j) r' | none=>(k,b)::r').look i=Heap.look r' i:=fun r'=>by
    cases Kb is k 0 with
    | none=>simp only [Heap.look,if_neg hik]
    | some j =>
     simp only [aC2];cases Heap.look h' j with
     | none=>rfl
     | some b'=>simp only [Heap.look,if_neg hik]
   rw [hne,ih];simp only [Heap.look,if_neg hik]
theorem aJ4 {m:Nat} {g:Nat→Nat} {H:Heap}:∀ {h:Heap},inH m g H h → ∀ j blk,h.look j=some blk→j<m∧xM m blk.ment=true∧H.look (g j)=some (blk.ren g)
 | [],_,j,blk,hl=>by simp [Heap.look] at hl
 | (k,b)::r,hi,j,blk,hl=>by
  rw [Heap.look] at hl;split at hl
  ·rename_i e;subst e;injection hl with hl;subst hl;exact hi.1
  ·exact aJ4 hi.2 j blk hl
theorem aTh {m:Nat} {h:Heap} (ha:allB m h=true):∀ j,j<m → ∃ blk,h.look j=some blk:=by
 intro j hj;simp only [allB,List.all_eq_true,List.mem_range] at ha;have:=ha j hj;cases hl:h.look j with
 | none=>rw [hl] at this;cases this
 | some b=>exact ⟨b,rfl⟩
theorem wH {is:List Nat} {nx j:Nat} (h:j<is.length):Ay is nx j=is[j]:=by unfold Ay;rw [List.getElem?_eq_getElem h]
theorem Ac {is:List Nat} {nx j:Nat} (h:is.length≤j):Ay is nx j=nx+(j - is.length):=by unfold Ay;rw [List.getElem?_eq_none h]
theorem cQ {P:Program} {σ : St} {d:Option Tmp} {f:FuncId} {m n':Nat} {h h':Heap} {args xs:List V} {r:V} {K:St→Prop} (hc:CIO P f m h args r h' n') (is:List Nat) (hlen:is.length=m) (hmn:m≤n') (hnd:is.Nodup)
  (hin:inH m (Ay is σ.nx) σ.h h) (hall:allB m h=true) (hkeys:Qf n' h'=true) (hargs:xM m (V.ments args)=true) (hxs:xs=V.rens (Ay is σ.nx) args)
  (hK:K (({ σ with h:=wF m (Ay is σ.nx) h'++Fy is (Ay is σ.nx) h' σ.h,nx := σ.nx+(n' - m) }:St).put d (r.ren (Ay is σ.nx)))):ICall P σ d f xs K:=by
 subst hlen;refine qQ hc.1 (fun E w vs hr hbd hvs=>?_);have hlow:=aJ4 hin;have hal:=aTh hall;have hold:∀ j (hj:j<is.length),E.U is[j]∧is[j] < σ.nx ∧ ∃ blk, σ.h.look is[j]=some blk:=fun j hj=>by
  obtain ⟨blk,hb⟩:=hal j hj;have h2:=(hlow j blk hb).2.2;rw [wH hj] at h2;have h3:=hr.uses h2;exact ⟨h3,hbd _ h3,_,h2⟩
 have hinj:∀ i j,i<n'→j<n'→Ay is σ.nx i=Ay is σ.nx j→i=j:=fun i j hi hj he=>by
  by_cases hi1:i<is.length
  ·by_cases hj1:j<is.length
   ·rw [wH hi1,wH hj1] at he;exact (List.getElem_inj hnd).1 he
   ·rw [wH hi1,Ac (by omega)] at he;have:=(hold i hi1).2.1;omega
  ·by_cases hj1:j<is.length
   ·rw [wH hj1,Ac (by omega)] at he;have:=(hold j hj1).2.1;omega
   ·rw [Ac (by omega),Ac (by omega)] at he;omega
 have hnew:∀ j,is.length≤j→j<n' → ¬ E.U (Ay is σ.nx j):=fun j h1 h2 hU=>by
  rw [Ac h1] at hU;have:=hbd _ hU;omega
 subst hxs;refine (aJk hc hmn hinj hlow hal hargs hr hnew hvs).mono ?_;rintro e w' ⟨v,E',rfl,h1,h2,h3,h4⟩;refine ⟨v,_,_,_,E',rfl,h1 _ (fun j hj=>?_) (fun i hi=>?_),fun q hq=>?_,h2,h3,hK⟩
 ·rw [Pr,Vu hinj hj hkeys]
  by_cases hjm:j<is.length
  ·rw [if_pos hjm];simp only;rw [zY,wH hjm,aHe hjm hnd,Nat.zero_add];obtain ⟨_,_,blk,hb⟩:=hold j hjm;simp only [hb]
  ·rw [if_neg hjm];cases hl:(Heap.look h' j).map (Blk.ren (Ay is σ.nx)) with
   | some x=>rfl
   | none =>
    simp only;have hno : σ.h.look (Ay is σ.nx j)=none:=by
     cases hl2 : σ.h.look (Ay is σ.nx j) with
     | none=>rfl
     | some b=>exact (hnew j (by omega) hj (hr.uses hl2)).elim
    rw [zY,hno];split<;>rfl
 ·rw [Pr,Nz hi hkeys];simp only;rw [zY,Vr];intro hmem;obtain ⟨j,hj,he⟩:=List.mem_iff_getElem.1 hmem;exact hi j (by omega) (by rw [wH hj];exact he)
 ·rcases h4 q hq with h4 | ⟨j,h5,h6,rfl⟩
  ·have:=hbd q h4;show q < σ.nx+(n' - is.length)
   omega
  ·rw [Ac h5];show _ < σ.nx+(n' - is.length)
   omega
attribute [go_sem] Kb Ay wF aC2 outP Fy inH xM V.ment V.ments Dz Pk Blk.ment ioK
open Go.RowKit
set_option maxRecDepth 4000
def semS (P:Program) (ops:List Oper) (Q:Exit→St→Prop) (l:List Oper) (σ : St):Prop :=
 ∀ E a w,RelF E σ a w → ∀ E0 w0,Ext E0 w0 E w→wpListIn (Wd E.ro) 0 P ops.toArray (tC E0 w0 Q) l a w
open Go.RowKit
set_option maxRecDepth 4000
def Blk.res (h:Heap):Blk→Blk
 | .row e k d xs => .row e k d (xs.map (V.ress h))
 | .box cs => .box (V.ress h cs)
 | .map es => .map es
 | .shr t => .shr t
 | .loop st pend tmps ps c d => .loop st pend (V.ress h tmps) ps c d
 | .defd => .defd
def Heap.res (h:Heap):Heap→Heap
 | []=>[]
 | (i,b)::r=>(i,b.res h)::Heap.res h r
theorem Heap.look_res (h:Heap) (i:Nat):∀ h2:Heap,(Heap.res h h2).look i=(h2.look i).map (Blk.res h)
 | []=>rfl
 | (j,b)::r=>by
  simp only [Heap.res,Heap.look];split
  ·rfl
  ·exact Heap.look_res h i r
theorem aBe (h:Heap):∀ xs:List V,(V.ress h xs).length=xs.length
 | []=>rfl
 | x::xs=>by simp only [V.ress,List.length_cons,aBe h xs]
theorem Hn (h:Heap):∀ xs ys:List V,V.ress h (xs++ys)=V.ress h xs++V.ress h ys
 | [],ys=>rfl
 | x::xs,ys=>by simp only [List.cons_append,V.ress,Hn h xs ys]
theorem Dq (h:Heap):∀ xs:List (List V),(xs.map (V.ress h)).flatten=V.ress h xs.flatten
 | []=>rfl
 | x::xs=>by simp only [List.map_cons,List.flatten_cons,Hn,Dq h xs]
theorem Blk.rel_res {w:World} {E:Env} {h:Heap} (hr:Rel w E h) {b:Blk} {hv:Value} (hb:BlkRel w E b hv):BlkRel w E (b.res h) hv:=by
 cases b with
 | row e k d xs =>
  obtain ⟨cells,h1,h2,h3,h4⟩:=hb;refine ⟨cells,by rw [List.length_map];exact h1,by rw [Dq];exact RdVs.res hr _ h2,fun x hx=>?_,h4⟩;obtain ⟨y,hy,rfl⟩:=List.mem_map.1 hx;rw [aBe];exact h3 y hy
 | box cs =>
  obtain ⟨b,vs,ty,h1,h2,h3,h4⟩:=hb;exact ⟨b,vs,ty,h1,h2,RdVs.res hr _ h3,h4⟩
 | map es=>exact hb
 | shr t=>exact hb
 | loop st pend tmps ps c d =>
  obtain ⟨l,rec,h1,h2,h3,h4,h5,h6,h7,h8⟩:=hb;exact ⟨l,rec,h1,h2,h3,h4,h5,h6,h7,RdVs.res hr _ h8⟩
 | defd=>exact hb
theorem Blk.at_res {E:Env} {h:Heap} {i:Nat} {b:Blk}:E.at (b.res h) i=E.at b i:=by cases b<;>rfl
theorem Rel.res {w:World} {E:Env} {h:Heap} (hr:Rel w E h):Rel w E (Heap.res h h):=by
 refine ⟨fun i blk hl=>?_,fun i hv hB=>?_,hr.domF,hr.own,hr.apart,hr.slt,hr.dlt⟩
 ·rw [Heap.look_res] at hl;obtain ⟨b,hb,rfl⟩:=Option.map_eq_some_iff.1 hl;obtain ⟨hv,h1,h2⟩:=hr.has i b hb;exact ⟨hv,by rw [Blk.at_res];exact h1,Blk.rel_res hr h2⟩
 ·obtain ⟨h1,b,h2⟩:=hr.dom i hv hB;exact ⟨h1,_,by rw [Heap.look_res,h2];rfl⟩
def giveA (P:Program) (n0:Nat) (c:Code) (Q:Exit→St→Prop) (σ : St) (o:Option Heap):Prop :=
 match o with
 | some h=>AWP P n0 c Q { σ with h:=Heap.res h h,fr:=V.ress h σ.fr }
 | none=>False
def Zr (Q:Exit→St→Prop) (e:Exit) (σ : St) (o:Option Heap):Prop :=
 match o with
 | some h=>Q e { σ with h:=Heap.res h h,fr:=V.ress h σ.fr }
 | none=>False
def aR7 (is:List Nat) (Q:Exit→St→Prop) (e:Exit) (σ : St):Prop:=Zr Q e σ (giveL is σ.h)
@[go_sem] theorem giveQ_eq {is:List Nat} {Q:Exit→St→Prop} {e:Exit} {fr:List V} {h:Heap} {nx:Nat} {df:List Dfr}:aR7 is Q e ⟨fr,h,nx,df⟩=Zr Q e ⟨fr,h,nx,df⟩ (giveL is h):=rfl
theorem Au {P:Program} {n0:Nat} {c:Code} {Q:Exit→St→Prop} {σ : St} (is:List Nat) (h:AWP P n0 c (aR7 is Q) σ):AWP P n0 c Q σ := by
 intro E a w hr E0 w0 hU hE;refine wpIn_mono (h E a w hr E0 w0 hU hE) ?_;rintro e a' w' ⟨σ',E',h1,h2,h3⟩;unfold aR7 Zr at h3;split at h3
 ·rename_i h' hg;obtain ⟨E1,r1,r2,r3⟩:=RelF.giveL (σ := σ') is (h := σ'.h) h1 hg;exact ⟨{ σ' with h:=Heap.res h' h',fr:=V.ress h' σ'.fr },E1,⟨Rel.res r1.rel,r1.bound,RdVs.res r1.rel _ r1.fr,r1.defers⟩,h2.trans r2,h3⟩
 ·exact h3.elim
@[go_sem] theorem aPe (h:Heap):∀ l:List T,V.ress h (l.map .t)=l.map .t
 | []=>rfl
 | x::r=>by simp only [List.map_cons,V.ress,V.res,aPe h r]
@[go_sem] theorem aEs (h:Heap):∀ l:List (List T),(aS l).map (V.ress h)=aS l
 | []=>rfl
 | x::r=>by
  have:=aEs h r;unfold aS at this ⊢;simp only [List.map_cons,aPe,this]
attribute [go_sem] giveA Zr Blk.res Heap.res
open Go.RowKit Go.ChangeShapes Go.WideShapes
def aGf (w:World):Nat→Prop:=fun b=>b<w.heap.size
def Opens {α : Type} (P:Program) (t:TypeId) (c : α → List T):Prop :=
 ∀ {H:Type} (enc:TypeId×Value→H) (w:World) (spare:Nat→Bool) (held:Bool) (n:Nat) (cs:List Value) (x:DataW H×List MemPlace),DataW.trod enc P w 0 spare held n t cs=some x → ∃ a,RdTs w (aGf w) (c a) cs
section
variable {P:Program} {t:TypeId} {α β : Type}
theorem Opens.map {c : α → List T} {c' : β → List T} (g : α → β) (h:∀ a,c' (g a)=c a) (ho:Opens P t c):Opens P t c':=by
 intro H enc w spare held n cs x hx;obtain ⟨a,ha⟩:=ho enc w spare held n cs x hx;exact ⟨g a,by rw [h];exact ha⟩
theorem aLg {k:IntKind} (ht:P.underlying t=some (.int k)):Opens P t fun n:Int=>[.lit (.int k n)]:=by
 intro H enc w spare held n cs x hx;obtain ⟨b,rfl,_⟩:=DataW.trod_int ht hx;exact ⟨b, .lit _ rfl trivial,trivial⟩
theorem Jr {Q:Nat → α → Prop}:∀ (n:Nat),(∀ i,i<n → ∃ a,Q i a) → ∃ al:List α,al.length=n ∧ ∀ i a,al[i]? = some a→Q i a
 | 0,_=>⟨[],rfl,by simp⟩
 | n+1,h=>by
  obtain ⟨al,h1,h2⟩:=Jr n fun i hi=>h i (by omega)
  obtain ⟨a,ha⟩:=h n (by omega);refine ⟨al ++ [a],by simp [h1],fun i b hb=>?_⟩
  by_cases hi:i<n
  ·rw [List.getElem?_append_left (by omega)] at hb;exact h2 i b hb
  ·have hi2:i<(al ++ [a]).length:=(List.getElem?_eq_some_iff.1 hb).1;have:i=n:=by simp [h1] at hi2;omega
   subst this;rw [List.getElem?_append_right (by omega),h1] at hb;simp at hb;subst hb;exact ha
theorem aMn {w:World} {a:Addr} {v:Value} (h:w.cell? a=some v):a.spot=none:=by
 unfold World.cell? at h;split at h
 ·cases hs:a.spot with
  | none=>rfl
  | some x=>rw [hs] at h;simp at h
 ·cases h
theorem aSd {w:World} {a:Addr} {v:Value} (h:w.cell? a=some v):a.block<w.heap.size:=by
 unfold World.cell? at h;split at h
 ·rename_i hh;exact (Array.getElem?_eq_some_iff.1 hh).1
 ·cases h
theorem aH8 {w:World} {S:Nat→Prop}:∀ {xs:List T} {vs:List Value} {j:Nat} {x:T} {v:Value},RdTs w S xs vs→xs[j]? = some x→vs[j]? = some v→RdT w S x v
 | x::xs,v::vs,0,_,_,h,hx,hv=>by simp at hx hv;subst hx hv;exact h.1
 | x::xs,v::vs,j+1,_,_,h,hx,hv=>aH8 (j:=j) h.2 (by simpa using hx) (by simpa using hv)
 | [],_,_,_,_,_,hx,_=>by simp at hx
 | _::_,[],_,_,_,h,_,_=>h.elim
theorem aC3 {e:TypeId} {c : α → List T} {k:Nat} (d:List T) (ht:P.underlying t=some (.slice e)) (he:Opens P e c) (hk:P.cellsOf e=k) (hc:∀ a,(c a).length=k) (hpos : 0<k) :
  Opens P t fun al:List α => [.list k d (al.map c)]:=by
 subst hk;intro H enc w spare held n cs x hx;rcases DataW.trod_slice ht hx with ⟨rfl,_⟩ | ⟨a,len,cap,elems,rest,m,rfl,rfl,rfl,hb,hl,hm,hlen,hel,_,_⟩
 ·exact ⟨[], .list _ _ _ none 0 (Nat.zero_le _) (Nat.zero_le _) (fun _=>rfl) (by simp) (by simp) (by simp),trivial⟩
 ·obtain ⟨al,h1,h2⟩:=Jr (Q:=fun i x => ∃ cs,w.cells? 0 (a.add (i*P.cellsOf e)) (P.cellsOf e)=some cs∧RdTs w (aGf w) (c x) cs) len fun i hi=>by
   have h3:=hel i hi;rw [List.getElem?_eq_getElem (by omega)] at h3;obtain ⟨cs,h4,h5⟩:=Option.bind_eq_some_iff.1 h3;obtain ⟨y,hy⟩:=he enc w spare held m cs _ h5;exact ⟨y,cs,h4,hy⟩
  refine ⟨al,?_,trivial⟩;have hlen':(al.map c).length=len:=by simp [h1]
  rw [← hlen'];have key:∀ i y,al[i]? = some y → ∃ cs,RdTs w (aGf w) (c y) cs∧cs.length=P.cellsOf e∧a.spot=none∧a.block<w.heap.size ∧ ∀ j,j<P.cellsOf e→w.cell? ⟨a.block,a.off+i*P.cellsOf e+j,none⟩=cs[j]? := by
   intro i y hy;obtain ⟨cs,h3,h4⟩:=h2 i y hy;obtain ⟨_,h5,h6⟩:=World.cells?_some h3;have h0:=h6 0 hpos;rw [List.getElem?_eq_getElem (by omega)] at h0;have hlt:=aSd h0;have hsp:a.spot=none:=by
    have hl0 : 0<al.length:=by have:=(List.getElem?_eq_some_iff.1 hy).1;omega
    obtain ⟨cs0,g3,g4⟩:=h2 0 _ (List.getElem?_eq_getElem hl0);obtain ⟨_,g5,g6⟩:=World.cells?_some g3;have g0:=g6 0 hpos;rw [List.getElem?_eq_getElem (by omega),Nat.zero_mul] at g0;have e0:(a.add 0).add 0=a:=by simp [Addr.add]
    rw [e0] at g0;exact aMn g0
   obtain ⟨b,off,sp⟩:=a;have hsp':sp=none:=hsp;subst hsp';rw [Addr.add_lit,Addr.add_lit] at hlt;refine ⟨cs,h4,h5,rfl,hlt,fun j hj=>?_⟩;have:=h6 j hj;rw [Addr.add_lit,Addr.add_lit] at this;exact this
  refine .list _ _ _ (some a) cap (by omega) (by omega) (fun h=>by cases h) ?_ ?_ ?_
  ·intro y hy;obtain ⟨z,_,rfl⟩:=List.mem_map.1 hy;exact hc z
  ·intro i y hy;rw [List.getElem?_map,Option.map_eq_some_iff] at hy;obtain ⟨z,hz,rfl⟩:=hy;obtain ⟨cs,k1,k2,k3,k4,k5⟩:=key i z hz;obtain ⟨b,off,sp⟩:=a;have k3':sp=none:=k3;subst k3';refine ⟨b,off,rfl,k4,fun j x hx=>?_⟩;have hj:j<P.cellsOf e:=by rw [← hc z];exact (List.getElem?_eq_some_iff.1 hx).1
   exact ⟨cs[j]'(by omega),by rw [k5 j hj,List.getElem?_eq_getElem (by omega)]⟩
  ·intro i y j x' b off u hy hx' hA hu;rw [List.getElem?_map,Option.map_eq_some_iff] at hy;obtain ⟨z,hz,rfl⟩:=hy;obtain ⟨cs,k1,k2,k3,k4,k5⟩:=key i z hz;injection hA with hA;subst hA;have hj:j<P.cellsOf e:=by rw [← hc z];exact (List.getElem?_eq_some_iff.1 hx').1
   rw [k5 j hj] at hu;exact aH8 k1 hx' hu
def laysF (P:Program):List Field→Nat→Option Nat
 | [],o=>some o
 | f::r,o=>if f.offset=o then laysF P r (o+P.cellsOf f.type) else none
def OpensF (P:Program) (fs:List Field) (c : α → List T):Prop :=
 ∀ {H:Type} (enc:TypeId×Value→H) (w:World) (spare:Nat→Bool) (held:Bool) (n:Nat) (cs:List Value),(∀ f∈fs, ∃ x,DataW.trod enc P w 0 spare held n f.type ((cs.drop f.offset).take (P.cellsOf f.type))=some x) →
  ∀ o e,laysF P fs o=some e → ∃ a,RdTs w (aGf w) (c a) ((cs.drop o).take (e - o))
end
def aGj {α : Type} (P:Program) (t:TypeId) (v : α → V):Prop :=
 ∀ {H:Type} (enc:TypeId×Value→H) (w:World) (spare:Nat→Bool) (held:Bool) (val:Value) (d:DataW H) (p:List MemPlace),Value.okWide P w .any 0 t val→DataW.Trod enc P w 0 spare held t val d p → ∃ a,RdV w (gW (aGf w)) (v a) val
section
variable {P:Program} {t:TypeId} {α β : Type}
theorem aQ6 {w:World} {S:Nat→Prop} {x:T} {u:Value} {l:List Value} (hl:l = [u]) (h:RdTs w S [x] l):RdV w (gW S) (.t x) u:=by
 subst hl;simp only [RdV];exact h.1
theorem Yt {e:TypeId} {x : α → T} (ht:P.underlying t=some (.slice e)) (ho:Opens P t fun a=>[x a]):aGj P t fun a => .t (x a):=by
 rintro H enc w spare held val d p hv ⟨n,hn⟩;obtain ⟨A,l,c,rfl⟩:=okWide_slice ht hv;obtain ⟨a,ha⟩:=ho enc w spare held n _ _ hn;exact ⟨a,aQ6 rfl ha⟩
def Lg (P:Program) (ts:List TypeId) (vs : α → List V):Prop :=
 ∀ {H:Type} (enc:TypeId×Value→H) (w:World) (spare:Nat→Bool) (held:Bool) (args:List Value) (ds:List (DataW H)) (p:List MemPlace),(∀ (j:Nat) t v,ts[j]? = some t→args[j]? = some v→Value.okWide P w .any 0 t v) →
  DataW.TrodAll enc P w 0 spare held ts args ds p → ∃ a,RdVs w (gW (aGf w)) (vs a) args
theorem aC4:Lg P [] fun _:Unit=>[]:=by
 intro H enc w spare held args ds p hv h;cases args with
 | nil=>exact ⟨(),by simp [RdVs]⟩
 | cons _ _=>cases ds<;>exact h.elim
theorem Dw {ts:List TypeId} {v : α → V} {vs : β → List V} (h1:aGj P t v) (h2:Lg P ts vs):Lg P (t::ts) fun x : α × β => v x.1::vs x.2:=by
 intro H enc w spare held args ds p hv h;cases args with
 | nil=>cases ds<;>exact h.elim
 | cons u us =>
  cases ds with
  | nil=>exact h.elim
  | cons d ds =>
   obtain ⟨p1,p2,k1,k2,rfl⟩:=h;obtain ⟨a,ha⟩:=h1 enc w spare held u d p1 (hv 0 t u rfl rfl) k1;obtain ⟨b,hb⟩:=h2 enc w spare held us ds p2 (fun j t v ht hv'=>hv (j+1) t v (by simpa using ht) (by simpa using hv')) k2;exact ⟨(a,b),by simp only [RdVs];exact ⟨ha,hb⟩⟩
def aFc (P:Program) (ts:List TypeId):Bool:=ts.all fun t=>P.readableRec t&&decide (t<P.types.size)
theorem Dc {H:Type} {enc:TypeId×Value→H} (hl:laidOutB P=true) {W W':World} (hb:Below W.heap.size W W'):∀ {ts:List TypeId} {vs:List Value} {ds:List (DataW H)} {p:List MemPlace},aFc P ts=true →
  DataW.TrodAll enc P W 0 (fun _=>true) true ts vs ds p→DataW.TrodAll enc P W' 0 (fun b=>decide (b<W.heap.size)) true ts vs ds p
 | [],[],[],_,_,h=>h
 | t::ts,v::vs,d::ds,p,hk,h=>by
  obtain ⟨p1,p2,k1,k2,rfl⟩:=h;simp only [aFc,List.all_cons,Bool.and_eq_true,decide_eq_true_eq] at hk;refine ⟨p1,p2,Below.trod hl hk.1.1 hk.1.2 k1 hb ?_,Dc hl hb (by simpa [aFc] using hk.2) k2,rfl⟩;obtain ⟨m,hm⟩:=k1;exact DataW.trod_lt m _ _ _ hm
 | [],_::_,_,_,_,h=>h.elim
 | [],[],_::_,_,_,h=>h.elim
 | _::_,[],_,_,_,h=>h.elim
 | _::_,_::_,[],_,_,h=>h.elim
end
open Go.RowKit
theorem aLv {P:Program} {f:FuncId} {fn:Func} {s:ChangeSpec} {c:OpenClaim}
  (k1:c.wf (OpenSpec.ofChange s)=true) (k2:laidOutB P=true) (k3:mapsRowed P=true) (k4:fn.params.all (P.readableRec ·)=true) (k5:namedTie P c.named s.vars=true)
  (k6:(c.inPlace==P.inPlace f)=true) (k7:(c.unfollowed==P.unfollowed f)=true) (k8:(c.recurses==P.recurses f)=true) (k9:(c.named==P.varsNamed f)=true)
  (k10:(c.plainKeys==P.plainKeys)=true) (k11:P.stopsHeard=true) (k12:P.mayEnter=true) (k13:(c.lifted==P.liftsFinal)=true) (k14:(P.make==some c.make)=true) (k15:(c.pinned==c.pinnedBy)=true)
  (r1:((c.stops == [])&&(P.stops == [])&&(c.knobs == [])&&(P.stopKnobs == []))=true)
  (r2:(c.maps==(fn.params.toList++s.plain.varTypes P).any (P.mapsRec ·))=true) (r3:(c.ifaces==(fn.params.toList++s.plain.varTypes P).any (P.ifacesRec ·))=true) (r4:(c.mapsOut==P.mapsAmong fn.resultTypes.toList)=true)
  (r5:(c.loops==(fn.params.toList++s.plain.varTypes P).any (P.loopsFrom ·))=true) (r6:(c.wideKeys==(fn.params.toList++s.plain.varTypes P++fn.resultTypes.toList).any (P.wideKeysFrom ·))=true)
  (r7:s.vars.all (P.varReadable ·)=true) (r8:fn.resultTypes.all (fun t=>P.readableRec t&&decide (t<P.types.size))=true) (r9:(c.ifacesOut==fn.resultTypes.toList.any (P.ifacesRec ·))=true) (r10:(c.loopsOut==fn.resultTypes.toList.any (P.loopsFrom ·))=true)
  (r11:c.shortTexts.isNone=true) (r12:(c.kinds==(if c.domain.isEmpty then [] else fn.params.toList.map fun t=>match P.underlying t with | some (.int k)=>some k | _=>none))=true)
  (r13:(c.veiled==(fn.params.toList++s.plain.varTypes P++fn.resultTypes.toList).any (P.veiledRec ·))=true) (r14:c.veiledFits P fn.params.toList (fn.params.toList++s.plain.varTypes P++fn.resultTypes.toList)=true) :
  joinedFacts P f fn s c=true:=by
 simp only [Bool.and_eq_true] at r1;unfold joinedFacts;rw [k1,k2,k3,k4,k5,k6,k7,k8,k9,k10,k11,k12,k13,k14,k15,r1.1.1.1,r1.1.1.2,r1.1.2,r1.2,r2,r3,r4,r5,r6,r7,r8,r9,r10,r11,r13,r14];simp only [Bool.true_and,Bool.and_true];exact r12
open Go.RowKit
set_option maxRecDepth 4000
def SAny (P:Program) (ops:Array Oper) (Q:Exit→St→Prop) (f:Nat) (listed:Array Bool) (σ : St):Prop :=
 ∀ E a w,RelF E σ a w → ∀ E0 w0,Ext E0 w0 E w→wpAnyIn (Wd E.ro) 0 P .any ops (tC E0 w0 Q) f listed a w
section
variable {P:Program} {l:List Oper} {Q:Exit→St→Prop} {n0 m:Nat} {L:Log} {σT σ0:St} {rs:List Rec} {fT:Nat}
theorem aMp (hS:Jy P l n0 L σT 0 (l.take m) rs σ0) (hn : σ0.nx=n0+m) (hc:Tx l n0 L=true) (hk:aG0 l m=true) (hm:m≤l.length)
  (hT:∀ listed:Array Bool,listed.size=l.length→(∀ i,i<l.length→listed.getD i false=decide (i<m))→SAny P l.toArray Q fT listed σT) :
  ∀ (fuel:Nat) (todo:List Nat) (listed:Array Bool) (σX:St) (E:Env) (a:Act) (w:World),fuel=todo.length+fT→todo.Nodup→(∀ i,i∈todo ↔ i<m∧listed.getD i false=false)→(∀ i,m≤i→listed.getD i false=false) →
   HeadInv .any l.toArray l.toArray.size listed → σX.fr=frX (fun j=>listed.getD j false) 0 rs σ0.fr→(∀ q, σX.h.look q=lkX n0 (fun j=>listed.getD j false) q 0 rs (σ0.h.look q)) → σX.nx=n0+m → σX.df = σ0.df→RelF E σX a w →
   (∀ q,E.U q→q<n0 ∨ ∃ j,listed.getD j false=true∧q=n0+j) → ∀ E0 w0,Ext E0 w0 E w→wpAnyIn (Wd E.ro) 0 P .any l.toArray (tC E0 w0 Q) fuel listed a w:=by
 obtain ⟨hlen,hendf,hendh,hendn,hendd⟩:=Fp _ _ _ _ hS;have hlen':rs.length=m:=by rw [hlen,List.length_take];omega
 simp only [aG0,Bool.and_eq_true] at hk;obtain ⟨⟨⟨kd,kr⟩,kb⟩,kt⟩:=hk;intro fuel
 induction fuel with
 | zero =>
  intro todo listed σX E a w hf hnd htodo htail inv hfr hlk hnx hdf hr hU E0 w0 hE;have h0:todo = []:=List.length_eq_zero_iff.1 (by omega);have hf0:fT=0:=by omega
  subst hf0;have hall:∀ i,i<m→listed.getD i false=true:=fun i hi=>by
   cases h:listed.getD i false with
   | true=>rfl
   | false=>have:=(htodo i).2 ⟨hi,h⟩;rw [h0] at this;cases this
  have hrT:RelF E σT a w:=hr.like (by rw [hendf,hfr];exact vP _ _ _ fun j hj=>by rw [Nat.zero_add,hall j (by omega)]) (fun q=>by
   rw [hendh q,hlk q];exact qM _ _ _ fun j r hj _=>by
    have:=(List.getElem?_eq_some_iff.1 hj).1;rw [Nat.zero_add,hall j (by omega)]) (by rw [hendn,hn,hnx]) (by rw [hendd,hdf])
  exact (hT listed (by simpa using inv.size) fun i hi=>by
   by_cases h:i<m
   ·rw [hall i h];simp [h]
   ·rw [htail i (by omega)];simp [h]) E a w hrT E0 w0 hE
 | succ fuel ih =>
  intro todo listed σX E a w hf hnd htodo htail inv hfr hlk hnx hdf hr hU E0 w0 hE
  by_cases h0:todo = []
  ·have hall:∀ i,i<m→listed.getD i false=true:=fun i hi=>by
    cases h:listed.getD i false with
    | true=>rfl
    | false=>have:=(htodo i).2 ⟨hi,h⟩;rw [h0] at this;cases this
   have hrT:RelF E σT a w:=hr.like (by rw [hendf,hfr];exact vP _ _ _ fun j hj=>by rw [Nat.zero_add,hall j (by omega)]) (fun q=>by
    rw [hendh q,hlk q];exact qM _ _ _ fun j r hj _=>by
     have:=(List.getElem?_eq_some_iff.1 hj).1;rw [Nat.zero_add,hall j (by omega)]) (by rw [hendn,hn,hnx]) (by rw [hendd,hdf])
   have hfT:fuel+1=fT:=by rw [h0] at hf;simpa using hf
   rw [hfT];exact (hT listed (by simpa using inv.size) fun i hi=>by
    by_cases h:i<m
    ·rw [hall i h];simp [h]
    ·rw [htail i (by omega)];simp [h]) E a w hrT E0 w0 hE
  ·have hsz:listed.size=l.length:=by simpa using inv.size
   have wait:∀ i j,tJ l i j=true→(∀ o,l[i]? = some o → ∀ e∈o.after,Region.binds .any e=true→listed.getD e.on false=true)→listed.getD j false=true:=fun i j hw h =>
    kC inv 16 i hw fun oj hoj e he hb=>h oj (by simpa using hoj) e he hb
   have waitl:∀ i j,tJ l i j=true→listed.getD i false=true→listed.getD j false=true:=fun i j hw hl =>
    kC inv 16 i hw fun oj hoj e he hb=>inv.closed i oj hoj hl e he hb
   refine ⟨fun hr0=>?_,fun i hi=>?_⟩
   ·exfalso;obtain ⟨i,hi,hmin⟩:=wX todo h0;obtain ⟨him,hiu⟩:=(htodo i).1 hi;have hil:i<l.length:=by omega
    have:i∈Region.ready .any l.toArray listed:=by
     refine mem_ready.2 ⟨getD_in (by omega) hiu,l[i],by simp [hil],fun e he hb=>?_⟩;have h1:=eS kb hil;rw [List.getElem?_eq_getElem hil] at h1;have h2:=(List.all_eq_true.1 h1) e (by simpa using he);rw [hb,Bool.not_true,Bool.false_or] at h2;have h2:=of_decide_eq_true h2;cases h3:listed.getD e.on false with
     | true=>rfl
     | false =>
      have:=hmin e.on ((htodo e.on).2 ⟨by omega,h3⟩);omega
    rw [hr0] at this;cases this
   ·obtain ⟨hiu,o,ho,hall⟩:=mem_ready.1 hi;have hil:i<l.length:=by simpa using (Array.getElem?_eq_some_iff.1 ho).1
    have hou:l[i]? = some o:=by simpa using ho
    have hiu':=getD_both hiu;have hall':∀ o',l[i]? = some o' → ∀ e∈o'.after,Region.binds .any e=true→listed.getD e.on false=true:=fun o' ho' e he hb=>by
     rw [hou] at ho';injection ho' with ho';subst ho';exact hall e he hb
    have him:i<m:=by
     rcases Nat.lt_or_ge i m with h | h
     ·exact h
     ·exfalso;have h1:=eS kt hil;rw [decide_eq_false (by omega),Bool.false_or] at h1;obtain ⟨j,hj⟩:=List.exists_mem_of_ne_nil _ h0;obtain ⟨hjm,hju⟩:=(htodo j).1 hj;have:=wait i j (eS h1 hjm) hall';rw [hju] at this;cases this
    obtain ⟨r, σk,M,hri,hV,hM,hkf,hkh,hkn⟩:=Mh _ _ _ _ hS i o (by rw [List.getElem?_take,if_pos him];exact hou);rw [Nat.zero_add] at hV hM hkf hkh;have hwr:∀ t,t∈o.looksAt l.toArray → σX.fr.getD t .dead = σk.fr.getD t .dead:=fun t ht=>by
     rw [hfr,hkf];refine Qt _ _ _ _ (fun j r' hj hd=>?_) rfl rfl;rw [Nat.zero_add];obtain ⟨oj,hoj,hdj,_⟩:=jY _ _ _ _ hS j r' hj;have hjm:j<m:=by have:=(List.getElem?_eq_some_iff.1 hj).1;omega
     rw [List.getElem?_take,if_pos hjm] at hoj;have h1:=eS kr him;rw [hou] at h1;have h2:=eS ((List.all_eq_true.1 h1) t ht) hjm;have h3:dR l j=some t:=by unfold dR;rw [hoj];dsimp only;rw [← hdj];exact hd
     rw [h3] at h2;simp only [bne_self_eq_false,Bool.false_or] at h2
     by_cases hji:j<i
     ·rw [if_pos hji] at h2;rw [wait i j h2 hall'];simp [hji]
     ·rw [if_neg hji] at h2;simp only [Bool.or_eq_true,beq_iff_eq] at h2;rcases h2 with h2 | h2
      ·subst h2;simp only [hiu'];simp
      ·have:listed.getD j false=false:=by
        cases h4:listed.getD j false with
        | false=>rfl
        | true=>have:=waitl j i h2 h4;rw [hiu'] at this;cases this
       simp only [this];simp [hji]
    have hce:∀ e∈L,aG1 l n0 L e=true:=List.all_eq_true.1 hc;have htc:∀ q u,(i,q,u)∈L → ∀ j r',rs[j]? = some r'→tch n0 j r'.e q≠none→listed.getD j false=decide (j<i):=fun q u hq j r' hj ht=>by
     have h1:=hce _ hq;simp only [aG1,Bool.and_eq_true,Bool.or_eq_true] at h1;obtain ⟨h1,h2⟩:=h1;have hju:∀ h:(j<i→tJ l i j=true)∧(i<j→tJ l j i=true) ,listed.getD j false=decide (j<i):=fun h=>by
      rcases Nat.lt_trichotomy j i with h3 | h3 | h3
      ·rw [wait i j (h.1 h3) hall'];simp [h3]
      ·subst h3;rw [hiu'];simp
      ·have:listed.getD j false=false:=by
        cases h4:listed.getD j false with
        | false=>rfl
        | true=>have:=waitl j i (h.2 h3) h4;rw [hiu'] at this;cases this
       rw [this];simp;omega
     obtain ⟨oj,hoj,hdj,hupd⟩:=jY _ _ _ _ hS j r' hj;rcases tch_inv ht with hqj | ⟨t,blk,he,hqt⟩
     ·rcases h2 with h2 | h2
      ·have:=of_decide_eq_true h2;omega
      ·obtain ⟨h3,h4⟩:=h2;have h3':=of_decide_eq_true h3;have:q - n0=j:=by omega
       rw [this] at h3' h4;exact hju ⟨fun _=>h4,fun h=>by omega⟩
     ·have hjL:=hupd t blk he;rw [Nat.zero_add] at hjL;have h3:=(List.all_eq_true.1 h1) _ hjL;simp only [hqt,beq_self_eq_true,Bool.and_self,Bool.not_true,Bool.false_or,Bool.or_eq_true,beq_iff_eq] at h3;refine hju ⟨fun h=>?_,fun h=>?_⟩
      ·rcases h3 with h3 | h3
       ·omega
       ·rwa [if_pos h] at h3
      ·rcases h3 with h3 | h3
       ·omega
       ·rwa [if_neg (by omega)] at h3
    have hgL:o.looksAt l.toArray=(o.op.operands.toList.filterMap fun | .tmp t=>some t | _=>none)++(match o.guard with | some (g,_)=>((l.toArray[g]?).bind (·.dst)).toList | none=>[]):=rfl;have hmain:=hV.run σX (by rw [hnx,hkn,hn]) (fun y hy=>by
     cases y with
     | tmp t=>exact hwr t (by rw [hgL];exact List.mem_append.2 (.inl (List.mem_filterMap.2 ⟨_,hy,rfl⟩)))
     | _=>rfl) (fun q b hq hb=>by
     obtain ⟨e,he,rfl⟩:=List.mem_map.1 hq;have:=hM e he;rw [hkh] at hb;rw [hlk, ← hb];refine qM _ _ _ fun j r' hj ht=>?_
     rw [Nat.zero_add] at ht ⊢;exact htc e.1 e.2 this j r' hj ht) (fun j w' hg t ht=>by
     refine hwr t ?_;rw [hgL,hg];refine List.mem_append.2 (.inr ?_);dsimp only;unfold dR at ht;have e1:l.toArray[j]? = l[j]? := by simp
     rw [e1];split at ht
     ·rename_i o' ho';rw [ho'];simp [ht]
     ·cases ht) E a w (wpAnyIn (Wd E.ro) 0 P .any l.toArray (tC E0 w0 Q) fuel (listed.setIfInBounds i true)) (tC E0 w0 Q) hr (by rw [hkn,hn];omega) (fun hu=>by
     rcases hU _ hu with h | ⟨j,hj,h⟩
     ·omega
     ·have:j=i:=by omega
      subst this;rw [hiu'] at hj;cases hj) ?_
    ·unfold wpOpIn;rw [ho];dsimp only;unfold OW at hmain;split
     ·rename_i hw;rw [if_pos (by simpa using hw)] at hmain;exact rU (.inr hmain.2) hmain.1
     ·rename_i hw;rw [if_neg (by simpa using hw)] at hmain;exact ⟨fun _ _=>trivial,hmain⟩
    ·intro a' w' E' σ'' hf2 hh2 hn2 hd2 hr2 hE2 hU2;rw [← hE2.ro];have hX':=aHt (listed:=listed) (i:=i) (by omega);refine ih (todo.erase i) (listed.setIfInBounds i true) σ'' E' a' w' ?_ (hnd.erase i) (fun j=>?_) (fun j hj=>?_) (inv.set hi (by simpa using hil)) ?_ (fun q=>?_) (hn2.trans hnx) (hd2.trans hdf) hr2 (fun q hq=>?_) E0 w0 (hE.trans hE2)
     ·have hit:i∈todo:=(htodo i).2 ⟨him,hiu'⟩;have h1:=List.length_erase_of_mem hit;have h2:=List.length_pos_of_mem hit;omega
     ·rw [hnd.mem_erase_iff,htodo j];constructor
      ·rintro ⟨h1,h2,h3⟩;exact ⟨h2,by rw [getD_set_ne false (Ne.symm h1)];exact h3⟩
      ·rintro ⟨h1,h2⟩;have:j≠i:=fun h=>by
        subst h;have h3:=congrFun hX' j;simp only [tF,beq_self_eq_true,Bool.or_true] at h3;rw [h3] at h2;cases h2
       exact ⟨this,h1,by rw [getD_set_ne false (Ne.symm this)] at h2;exact h2⟩
     ·rw [getD_set_ne false (by omega)];exact htail j hj
     ·rw [hf2,hfr,hX'];refine (Zy (X:=fun j=>listed.getD j false) hiu' rs 0 σ0.fr (Nat.zero_le _) (by simpa using hri) fun j r' hj hne _ t ht1 ht2=>?_).symm;rw [Nat.zero_add] at hne;obtain ⟨oj,hoj,hdj,_⟩:=jY _ _ _ _ hS j r' hj;have hjm:j<m:=by have:=(List.getElem?_eq_some_iff.1 hj).1;omega
      rw [List.getElem?_take,if_pos hjm] at hoj;have h1:=eS (eS kd him) hjm;have h2:dR l i=some t:=by unfold dR;rw [hou];dsimp only;rw [← hV.d];exact ht2
      have h3:dR l j=some t:=by unfold dR;rw [hoj];dsimp only;rw [← hdj];exact ht1
      rw [h2,h3] at h1;simp at h1;exact hne h1.symm
     ·rw [hh2,hlk,hX'];refine (Zb (X:=fun j=>listed.getD j false) hiu' rs 0 _ (Nat.zero_le _) (by simpa using hri) fun ht j r' hj hlt hX=>?_).symm;rw [Nat.zero_add] at hlt hX ⊢;cases htj:tch n0 j r'.e q with
      | none=>rfl
      | some blk =>
       exfalso;have htj':tch n0 j r'.e q≠none:=by rw [htj];simp
       rcases tch_inv ht with hqi | ⟨t,blk',hei,hqt⟩
       ·rcases tch_inv htj' with hqj | ⟨t,blk2,hej,hqt⟩
        ·omega
        ·obtain ⟨oj,hoj,hdj,hupd⟩:=jY _ _ _ _ hS j r' hj;have hjL:=hupd t blk2 hej;rw [Nat.zero_add] at hjL;have h1:=hce _ hjL;simp only [aG1,Bool.and_eq_true,Bool.or_eq_true] at h1;rcases h1.2 with h2 | ⟨h2,h3⟩
         ·have:=of_decide_eq_true h2;omega
         ·have:t - n0=i:=by omega
          rw [this] at h3;have:=waitl j i h3 hX;rw [hiu'] at this;cases this
       ·have h1:=htc q true (by rw [hqt];exact hM _ (hV.u t blk' hei)) j r' hj htj';rw [hX] at h1;have:=of_decide_eq_true h1.symm;omega
     ·rcases hU2 q hq with h | h
      ·rcases hU q h with h | ⟨j,hj,h⟩
       ·exact .inl h
       ·refine .inr ⟨j,getD_set_true hj,h⟩
      ·refine .inr ⟨i,?_,h⟩;have h3:=congrFun hX' i;simp only [tF,beq_self_eq_true,Bool.or_true] at h3;exact h3
end
inductive RS where
 | op (i:Nat)
 | give (is:List Nat)
def RS.tree:List RS→OT
 | [] => .done
 | .op i::r => .step i (RS.tree r)
 | .give _::r=>RS.tree r
def Wh (K:St→Prop) (σ : St) (o:Option Heap):Prop :=
 match o with
 | some h=>K { σ with h:=Heap.res h h,fr:=V.ress h σ.fr }
 | none=>False
def opR (P:Program) (o:Option Oper) (σ : St) (K:St→Prop):Prop :=
 match o with
 | some o=>opG P o o.guard σ K
 | none=>False
where
 opG (P:Program) (o:Oper) (g:Option (Nat×Bool)) (σ : St) (K:St→Prop):Prop :=
  match g with
  | none=>uS P σ o.dst o.op K
  | some _=>False
def qW (P:Program) (l:List Oper) (K:St→Prop):List RS→St→Prop
 | [], σ => K σ
 | .op i::r, σ => opR P (l[i]?) σ (qW P l K r)
 | .give is::r, σ => Wh (qW P l K r) σ (giveL is σ.h)
theorem Ft {P:Program} {l:List Oper} {Q:Exit→St→Prop}:∀ (rs:List RS) (f:Nat) (listed:Array Bool) (σ : St),qF l.toArray f listed (RS.tree rs) true=true→qW P l (Q .normal) rs σ → SAny P l.toArray Q f listed σ
 | [],f,listed, σ,hB,h=>by
  intro E a w hr E0 w0 hE;cases f with
  | zero =>
   unfold qF at hB;simp only [Bool.and_eq_true,beq_iff_eq] at hB;exact ⟨hB.2, σ,E,hr,hE,h⟩
  | succ f =>
   simp only [RS.tree] at hB;unfold qF at hB;simp only [Bool.not_true,Bool.false_or,beq_iff_eq] at hB;exact ⟨fun _=>⟨σ,E,hr,hE,h⟩,fun i hi=>by rw [hB] at hi;cases hi⟩
 | .give is::r,f,listed, σ,hB,h=>by
  intro E a w hr E0 w0 hE;simp only [qW] at h;unfold Wh at h;split at h
  ·rename_i h' hg;obtain ⟨E1,r1,r2,r3⟩:=RelF.giveL is (h := σ.h) hr hg;have:=Ft r f listed _ hB h E1 a w ⟨Rel.res r1.rel,r1.bound,RdVs.res r1.rel _ r1.fr,r1.defers⟩ E0 w0 (hE.trans r2);rwa [r2.ro] at this
  ·exact h.elim
 | .op i::r,f,listed, σ,hB,h=>by
  intro E a w hr E0 w0 hE;simp only [qW] at h;simp only [RS.tree] at hB;cases f with
  | zero =>
   unfold qF at hB;simp [OT.heads] at hB
  | succ f =>
   unfold qF at hB;simp only [Bool.and_eq_true,Bool.not_true,Bool.false_or,beq_iff_eq] at hB;obtain ⟨⟨h1,h2⟩,h3⟩:=hB;obtain ⟨o,ho⟩:=Option.isSome_iff_exists.1 h2;have ho':l[i]? = some o:=by simpa using ho
   rw [ho'] at h;have h':opR.opG P o o.guard σ (qW P l (Q .normal) r):=h;unfold opR.opG at h';split at h'
   ·rename_i hg;refine ⟨fun h0=>(by rw [h1] at h0;cases h0),fun j hj=>?_⟩;rw [h1] at hj;simp only [List.mem_singleton] at hj;subst hj;have hw:Region.wanted o (yielded l.toArray a.tmps)=true:=by simp [Region.wanted,hg]
    unfold wpOpIn;rw [ho];dsimp only;rw [if_pos (by simpa using hw)];exact Gn h' E a w hr _ _ fun a' w' E' σ' q1 q2 q3=>by
     have:=Ft r f _ σ' h3 q3 E' a' w' q1 E0 w0 (hE.trans q2);rwa [q2.ro] at this
   ·exact h'.elim
theorem vQ {P:Program} {n0 id:Nat} {l:List Oper} {Q:Exit→St→Prop} {σ : St} (m:Nat) (rl:List RS) (hm:P.follows .mixedOrders=true) (hS:aG0 l m=true)
  (hT:qF l.toArray (l.length - m) (gL (List.range m) (Array.replicate l.length false)) (RS.tree rl) true=true) (hlen:m≤l.length)
  (h:aDs P l σ.nx (qW P l (Q .normal) rl) 0 (l.take m) [] { σ with nx := σ.nx+m }):Xn P n0 id l.toArray Q σ := by
 intro E a w hr E0 w0 hU hE;refine wpIn_region_any hm ?_;have inv:HeadInv .any l.toArray l.toArray.size (Array.replicate l.length false):=by
  have:=pY (ops:=l.toArray) (md := .any);simpa using this
 obtain ⟨L,rs, σT,_,hSt,hc,hf⟩:=mB _ _ _ _ h;have hdr:RelF E σ a { w with drawn:=w.drawn+1 }∧Ext E0 w0 E { w with drawn:=w.drawn+1 }:=by
  have hb:Below w.heap.size w { w with drawn:=w.drawn+1 }:=⟨rfl,rfl,rfl,Nat.le_refl _,fun _ _=>rfl⟩
  obtain ⟨k1,k2⟩:=hr.later hb (fun _ h=>h) (fun b hb => .inl hb) (fun b hb'=>hr.rel.slt b hb');exact ⟨k1,hE.trans k2⟩
 obtain ⟨hr1,hE1⟩:=hdr;have hr2:RelF E { σ with nx := σ.nx+m } a { w with drawn:=w.drawn+1 }:=⟨hr1.rel,fun i hi=>by have:=hr1.bound i hi;show i < σ.nx+m;omega,hr1.fr,hr1.defers⟩
 have hlenT:(l.take m).length=m:=by rw [List.length_take];omega
 have:=aMp (Q:=Q) (fT:=l.length - m) hSt rfl hc hS hlen (fun listed hs hl=>by
  rw [wR hs hl];exact Ft rl _ _ σT hT hf) l.length (List.range m) (Array.replicate l.length false) { σ with nx := σ.nx+m } E a _ (by simp;omega) List.nodup_range (fun i=>by
   rw [List.mem_range,getD_replicate_false];simp) (fun i _=>getD_replicate_false _ _) inv (by
   rw [Em];intro j hj;exact getD_replicate_false _ _) (fun q=>by
   rw [Ag];intro j r hj hX;rw [getD_replicate_false] at hX;cases hX) rfl rfl hr2 (fun q hq => .inl (hr1.bound q hq)) E0 w0 hE1
 simpa using this
@[go_sem] theorem rsteps_nil {P:Program} {l:List Oper} {K:St→Prop} {σ : St}:qW P l K [] σ = K σ := rfl
@[go_sem] theorem rsteps_op {P:Program} {l:List Oper} {K:St→Prop} {σ : St} {i:Nat} {r:List RS}:qW P l K (.op i::r) σ = opR P (l[i]?) σ (qW P l K r):=rfl
@[go_sem] theorem rsteps_give {P:Program} {l:List Oper} {K:St→Prop} {σ : St} {is:List Nat} {r:List RS}:qW P l K (.give is::r) σ = Wh (qW P l K r) σ (giveL is σ.h):=rfl
attribute [go_sem] Wh opR opR.opG
open Go.RowKit
set_option maxRecDepth 4000
theorem aH7 {w:World} {E:Env}:∀ {xs:List T} {vs:List Value},RdVs w E (xs.map V.t) vs→RdTs w E.S xs vs
 | [],[],_=>trivial
 | x::xs,v::vs,h=>by
  simp only [List.map_cons,RdVs] at h;exact ⟨by have:=h.1;simpa only [RdV] using this,aH7 h.2⟩
 | [],_::_,h=>by simp only [List.map_nil,RdVs] at h
 | _::_,[],h=>by simp only [List.map_cons,RdVs] at h
def rowsT:List (List V)→Option (List (List T))
 | []=>some []
 | x::r=>rowsU (tCells x) (rowsT r)
where
 rowsU (a:Option (List T)) (b:Option (List (List T))):Option (List (List T)) :=
  match a,b with
  | some a,some b=>some (a::b)
  | _,_=>none
theorem Mf:∀ {x:List V} {a:List T},tCells x=some a→x=a.map V.t
 | [],a,h=>by
  simp only [tCells] at h;injection h with h;subst h;rfl
 | v::x,a,h=>by
  cases v with
  | t y =>
   simp only [tCells] at h;cases e:tCells x with
   | none=>rw [e] at h;cases h
   | some b =>
    rw [e] at h;injection h with h;subst h;rw [List.map_cons,Mf e]
  | _=>simp only [tCells] at h;cases h
theorem Va:∀ {xs:List (List V)} {rows:List (List T)},rowsT xs=some rows→xs=aS rows
 | [],rows,h=>by
  injection h with h;subst h;rfl
 | x::xs,rows,h=>by
  unfold rowsT rowsT.rowsU at h;split at h
  ·rename_i a b h1 h2;injection h with h;subst h;rw [Mf h1,Va h2];rfl
  ·cases h
def bsQ (k:Nat) (d:List T) (σ : St) (dst:Option Tmp) (K:St→Prop) (r:Option (List (List T))):Prop :=
 match r with
 | some rows=>K (σ.put dst (.t (.list k d rows)))
 | none=>False
def bsB (σ : St) (dst:Option Tmp) (K:St→Prop) (b:Blk):Prop :=
 match b with
 | .row _ k d xs=>bsQ k d σ dst K (rowsT xs)
 | _=>False
def bsG (l:List Oper) (σ : St) (g:Option (Nat×Bool)):Prop :=
 match g with
 | none=>True
 | some (j,want)=>kP l σ j want=some true
def bsC (P:Program) (l:List Oper) (σ : St) (o:Oper) (K:St→Prop):Prop:=bsG l σ o.guard∧kR (yH P σ o.op) (bsB σ o.dst K)
theorem bsC_inv {P:Program} {l:List Oper} {σ : St} {o:Oper} {K:St→Prop} (h:bsC P l σ o K):∃ p e k d rows,yH P σ o.op=some (p, .row e k d (aS rows))∧p∧bsG l σ o.guard∧K (σ.put o.dst (.t (.list k d rows))):=by
 obtain ⟨hg,h⟩:=h;cases hr:yH P σ o.op with
 | none=>rw [hr] at h;exact h.elim
 | some pb =>
  obtain ⟨p,b⟩:=pb;rw [hr] at h;obtain ⟨hp,h⟩:=h;unfold bsB at h;split at h
  ·rename_i e k d xs;unfold bsQ at h;split at h
   ·rename_i rows hx;rw [Va hx];exact ⟨p,e,k,d,rows,rfl,hp,hg,h⟩
   ·exact h.elim
  ·exact h.elim
theorem vld_bs {P:Program} {ops:List Oper} {n0 i:Nat} {o:Oper} {σ : St} {p:Prop} {e k:Nat} {d:List T} {rows:List (List T)} (hg:bsG ops σ o.guard) (h:yH P σ o.op=some (p, .row e k d (aS rows))) (hp:p) {M:List (Nat×Bool)} :
  Vld P ops n0 i o σ ⟨o.dst, .t (.list k d rows), .none⟩ M:=by
 refine ⟨rfl,fun t blk h=>(by rcases h with h | ⟨_,h⟩<;>cases h),fun σ' hnx hev hh hgs E a w next Q hr hlt hnU hn=>?_⟩;have h2:=aHp (o:=o) (σ := σ') (by rw [Vx hev];exact h) hp;have hw:Region.wanted o (yielded ops.toArray a.tmps)=true:=by
  cases hgd:o.guard with
  | none=>simp [Region.wanted,hgd]
  | some jw =>
   obtain ⟨j,want⟩:=jw;rw [hgd] at hg;refine Ef hr hgd ?_;rw [← show kP ops σ j want=some true from hg];unfold kP;split
   ·rename_i t ht;have:=hgs j want hgd t ht;simp only [St.ev] at this;rw [this]
   ·rfl
 unfold OW;rw [if_pos hw];obtain ⟨hv,w',hrun,hb,hone,hnew,hblk⟩:=h2.2 E a w hr;obtain ⟨k1,k2⟩:=hr.later (S':=fun b=>E.S b∨aV hv=some b) hb (fun _ h => .inl h) (fun b hb=>hb.imp id fun q=>(hnew b q).1) (fun b hb'=>by
  rcases hb' with hb' | hb'
  ·exact Nat.lt_of_lt_of_le (hr.rel.slt b hb') hb.size
  ·exact (hnew b hb').2)
 have hT:RdT w' (fun b=>E.S b∨aV hv=some b) (.list k d rows) hv:=by
  obtain ⟨cells,q1,q2,q3,q4⟩:=hblk _ k2;have e1:(aS rows).flatten=rows.flatten.map V.t:=by
   unfold aS;rw [List.map_flatten]
  rw [e1] at q2;refine Dt (S:=fun b=>E.S b∨aV hv=some b) (e:=e) (by simpa [aS] using q1) (aH7 q2) (fun x hx=>?_) (fun _ h=>h) (fun b hb => .inr hb);have:=q3 (x.map V.t) (by unfold aS;exact List.mem_map_of_mem hx);rwa [List.length_map] at this
 refine ⟨?_,fun c hc=>by rw [hc] at h;simp [yH] at h⟩;unfold Oper.wp;rw [hrun];exact hn _ w' _ (σ'.put o.dst (.t (.list k d rows))) fR (fun q=>by rw [mK];rfl) gK nE (k1.put o.dst (by simp only [RdV];exact hT)) k2 fun q hq => .inl hq
def Uv (P:Program) (l:List Oper) (n0 i:Nat) (σ : St) (o:Oper) (b:Bool) (K:CK→St→Prop):Prop :=
 match b with
 | true=>bsC P l σ o (K .new)
 | false=>Br P l n0 i σ o.dst o.op o.guard (ckind P o.op o.guard) (K (ckind P o.op o.guard))
def Sj (P:Program) (pu:List Nat) (l:List Oper) (n0:Nat) (fin:St→Prop):Nat→List Oper→Log→St→Prop
 | _,[],L, σ => Tx l n0 L=true∧fin σ
 | i,o::os,L, σ => Uv P l n0 i σ o (pu.contains i) (fun k=>Sj P pu l n0 fin (i+1) os (gD i σ k (nW o.op) L))
theorem jV {P:Program} {pu:List Nat} {l:List Oper} {n0:Nat} {fin:St→Prop}:∀ (os:List Oper) (i:Nat) (L0:Log) (σ : St),Sj P pu l n0 fin i os L0 σ → ∃ L rs σ',(∀ e∈L0,e∈L)∧Jy P l n0 L σ' i os rs σ ∧ Tx l n0 L=true∧fin σ'
 | [],i,L0, σ,h=>⟨L0,[], σ,fun _ h=>h,⟨rfl,rfl⟩,h.1,h.2⟩
 | o::os,i,L0, σ,h=>by
  have h:Uv P l n0 i σ o (pu.contains i) (fun k=>Sj P pu l n0 fin (i+1) os (gD i σ k (nW o.op) L0)):=h;unfold Uv at h;split at h
  ·obtain ⟨p,e,k,d,rows,hr,hp,hg,hK⟩:=bsC_inv h;obtain ⟨L,rs, σ',hsub,hS,hc,hf⟩:=jV os (i+1) _ _ hK;exact ⟨L,_, σ',fun e he=>hsub e (nG he),⟨_,rs, σ.put o.dst (.t (.list k d rows)),jB i L,rfl,vld_bs hg hr hp,fun e he=>dA.1 he,fR,fun q=>by rw [mK];rfl,gK,nE,hS⟩,hc,hf⟩
  unfold Br at h;cases hk:ckind P o.op o.guard with
  | bad=>rw [hk] at h;exact h.elim
  | look =>
   rw [hk] at h;dsimp only at h;have hm:=Sc hk;obtain ⟨y,hK,hst⟩:=wG hm h;obtain ⟨L,rs, σ',hsub,hS,hc,hf⟩:=jV os (i+1) _ _ hK;have h2:eQ P l σ o.dst o.op o.guard (fun s=>s = σ.put o.dst y):=hst σ (fun _ _=>rfl) (fun _ _ _ _ _ h=>h) (fun _ _ _ _ _=>rfl) _ rfl;obtain ⟨y',hy',hV⟩:=aAg (n0:=n0) (i:=i) (M:=jB i L) hm h2 (aQh hm hsub);refine ⟨L,_, σ',fun e he=>hsub e (nG he),⟨_,rs, σ.put o.dst y',jB i L,rfl,hV,fun e he=>dA.1 he,fR,fun q=>by rw [mK];rfl,gK,nE,?_⟩,hc,hf⟩;rw [hy'];exact hS
  | new =>
   rw [hk] at h;dsimp only at h;have hg:=Wx hk;cases hr:yH P σ o.op with
   | none=>rw [hr] at h;exact h.elim
   | some pb =>
    obtain ⟨p,blk⟩:=pb;rw [hr] at h;obtain ⟨hp,hK⟩:=h;obtain ⟨L,rs, σ',hsub,hS,hc,hf⟩:=jV os (i+1) _ _ hK;have hV:Vld P l n0 i o σ ⟨o.dst, .own (n0+i), .new blk⟩ (jB i L):=aGr hg hr hp;refine ⟨L,_, σ',fun e he=>hsub e (nG he),⟨_,rs,({ σ with h:=(n0+i,blk) :: σ.h }:St).put o.dst (.own (n0+i)),jB i L,rfl,hV,fun e he=>dA.1 he,fR,fun q=>?_,gK,nE,hS⟩,hc,hf⟩;rw [mK];simp only [Heap.look,tch];split<;>rfl
  | box =>
   rw [hk] at h;dsimp only at h;have hg:=Wy hk;obtain ⟨f,args,tys,ho⟩:∃ f args tys,o.op = .call { callee := .value (.func f),args:=args,argTypes:=tys }:=by
    unfold boxC at h;split at h
    ·rename_i ho;exact ⟨_,_,_,ho⟩
    ·exact h.elim
   rw [ho] at h;have h:eW true (args.toList.map σ.ev) fun xs=>Tg P (n0+i) σ o.dst f xs _:=h
   obtain ⟨ys,h1,hys⟩:=mG h;obtain ⟨t,cs,al,y,e,h2,hxs,hl,hp,ha,hB,hK⟩:=h1;obtain ⟨L,rs, σ',hsub,hS,hc,hf⟩:=jV os (i+1) _ _ hK;have hsub':∀ e∈gD i σ .box (nW o.op) L0,e∈L:=by rw [ho];exact hsub
   have h3:eW true (args.toList.map σ.ev) fun xs=>Tg P (n0+i) σ o.dst f xs (fun s=>s=(({ σ with h:=h2 }:St).put o.dst y)):=hys _ ⟨t,cs,al,y,e,h2,hxs,hl,hp,ha,hB,rfl⟩
   obtain ⟨y',e',h2',hy',hlk,hV⟩:=aGs (n0:=n0) (i:=i) (M:=jB i L) (ops:=l) hg ho h3 (fun x rr hal q hq=>by
    refine dA.2 (hsub' _ ?_);obtain ⟨t,rfl,ht⟩:=wM hq;have:nW o.op = .tmp t::rr:=by rw [ho];exact hal
    rw [this,aHv];exact bX _ _ (.inr ⟨t,by simp,q,ht,rfl⟩))
   refine ⟨L,_, σ',fun e he=>hsub e (nG he),⟨_,rs,({ σ with h:=h2' }:St).put o.dst y',jB i L,rfl,hV,fun e he=>dA.1 he,fR,fun q=>?_,gK,nE,by rw [hy'];exact hS⟩,hc,hf⟩;rw [mK];exact hlk q
  | store =>
   rw [hk] at h;dsimp only at h;have hg:=Jq hk;obtain ⟨t,p,x,ho,hd⟩:∃ t p x,o.op = .store t p x∧o.dst=none:=by
    unfold storeC at h;split at h
    ·rename_i ho hd;exact ⟨_,_,_,ho,hd⟩
    ·exact h.elim
   rw [ho,hd] at h;have h:kR (uH P σ t p x) (storeC.kSt σ _):=h;cases hr:uH P σ t p x with
   | none=>rw [hr] at h;exact h.elim
   | some pb =>
    obtain ⟨pp,ib⟩:=pb;rw [hr] at h;obtain ⟨hp,hK⟩:=h;obtain ⟨L,rs, σ',hsub,hS,hc,hf⟩:=jV os (i+1) _ _ hK;have hsub':∀ e∈gD i σ .store [p] L0,e∈L:=hsub;obtain ⟨⟨old,hold⟩,hV⟩:=Ud (n0:=n0) (i:=i) (ops:=l) (M:=jB i L) hg hd ho hr hp (fun q hq=>by
     refine dA.2 (hsub' _ ?_);obtain ⟨t,rfl,ht⟩:=wM hq;rw [Wb];exact bX _ _ (.inr ⟨t,by simp,q,ht,rfl⟩))
    refine ⟨L,_, σ',fun e he=>hsub' e (nG he),⟨_,rs, { σ with h := σ.h.set ib.1 ib.2 },jB i L,rfl,hV,fun e he=>dA.1 he,rfl,fun q=>?_,rfl,rfl,hS⟩,hc,hf⟩;show (σ.h.set ib.1 ib.2).look q=_
    rw [Heap.look_set _ _ _ hold];simp only [tch];split<;>rfl
  | app =>
   rw [hk] at h;dsimp only at h;have hg:=Wz hk;obtain ⟨s,x,t,t2,ht2,ho⟩:∃ s x t t2,uD P t t2∧o.op = .call { callee := .builtin .append,args := #[s,x],argTypes := #[t,t2] }:=by
    unfold appC at h;split at h
    ·rename_i args tys ho;unfold appC.apL at h;split at h
     ·rename_i s x t t' hx ht;obtain ⟨ht2,_⟩:=h;have ha:args = #[s,x]:=by apply Array.ext';simpa using hx
      have hb:tys = #[t,t']:=by apply Array.ext';simpa using ht
      exact ⟨s,x,t,t',ht2,by rw [ho,ha,hb]⟩
     ·exact h.elim
    ·exact h.elim
   rw [ho] at h;have h:uD P t t2∧kR (aDx P σ (P.elemT t) s x) (appC.kApp n0 i σ o.dst _):=h;cases hr:aDx P σ (P.elemT t) s x with
   | none=>rw [hr] at h;exact h.2.elim
   | some pb =>
    obtain ⟨pp,tb⟩:=pb;rw [hr] at h;obtain ⟨_,hp,hK⟩:=h;obtain ⟨L,rs, σ',hsub,hS,hc,hf⟩:=jV os (i+1) _ _ hK;have hsub':∀ e∈gD i σ .app [s,x] L0,e∈L:=hsub;have hV:Vld P l n0 i o σ ⟨o.dst, .own (n0+i),aA2 tb.1 tb.2⟩ (jB i L):=aGt hg ht2 ho hr hp (fun q hq=>by
     refine dA.2 (hsub' _ ?_);obtain ⟨t,rfl,ht⟩:=wM hq;rw [aHw];exact bX _ _ (.inr ⟨t,by simp,q,ht,rfl⟩)) (fun q hq=>by
     obtain ⟨u,hu⟩:=Pt (k := .app) (L:=L0) (l:=[s,x]) (by simp:x ∈ [s,x]) hq (i:=i);exact List.mem_map.2 ⟨(q,u),dA.2 (hsub' _ hu),rfl⟩)
    refine ⟨L,_, σ',fun e he=>hsub' e (nG he),⟨_,rs,({ σ with h:=(n0+i,tb.2)::Kg σ.h tb.1 }:St).put o.dst (.own (n0+i)),jB i L,rfl,hV,fun e he=>dA.1 he,fR,fun q=>?_,gK,nE,hS⟩,hc,hf⟩;rw [mK];simp only [Heap.look];cases htb:tb.1 with
    | none =>
     simp only [aA2,tch,Kg];split<;>rfl
    | some q' =>
     simp only [aA2,tch,Kg];rw [Heap.look_del];split
     ·rfl
     ·split<;>rfl
theorem aDc {P:Program} {n0 id:Nat} {l:List Oper} {Q:Exit→St→Prop} {σ : St} (pu:List Nat) (m:Nat) (t:OT) (hm:P.follows .mixedOrders=true) (hS:aG0 l m=true)
  (hT:qF l.toArray (l.length - m) (gL (List.range m) (Array.replicate l.length false)) t true=true) (hlen:m≤l.length)
  (h:Sj P pu l σ.nx (kJ P l (Q .normal) t) 0 (l.take m) [] { σ with nx := σ.nx+m }):Xn P n0 id l.toArray Q σ := by
 intro E a w hr E0 w0 hU hE;refine wpIn_region_any hm ?_;have inv:HeadInv .any l.toArray l.toArray.size (Array.replicate l.length false):=by
  have:=pY (ops:=l.toArray) (md := .any);simpa using this
 obtain ⟨L,rs, σT,_,hSt,hc,hf⟩:=jV _ _ _ _ h;have hdr:RelF E σ a { w with drawn:=w.drawn+1 }∧Ext E0 w0 E { w with drawn:=w.drawn+1 }:=by
  have hb:Below w.heap.size w { w with drawn:=w.drawn+1 }:=⟨rfl,rfl,rfl,Nat.le_refl _,fun _ _=>rfl⟩
  obtain ⟨k1,k2⟩:=hr.later hb (fun _ h=>h) (fun b hb => .inl hb) (fun b hb'=>hr.rel.slt b hb');exact ⟨k1,hE.trans k2⟩
 obtain ⟨hr1,hE1⟩:=hdr;have hr2:RelF E { σ with nx := σ.nx+m } a { w with drawn:=w.drawn+1 }:=⟨hr1.rel,fun i hi=>by have:=hr1.bound i hi;show i < σ.nx+m;omega,hr1.fr,hr1.defers⟩
 have hlenT:(l.take m).length=m:=by rw [List.length_take];omega
 have:=aDr (Q:=Q) (fT:=l.length - m) hSt rfl hc hS hlen (fun listed hs hl=>by
  rw [wR hs hl];exact (zL _ t _ σT true hT hf).2 rfl) l.length (List.range m) (Array.replicate l.length false) { σ with nx := σ.nx+m } E a _ (by simp;omega) List.nodup_range (fun i=>by
   rw [List.mem_range,getD_replicate_false];simp) (fun i _=>getD_replicate_false _ _) inv (by
   rw [Em];intro j hj;exact getD_replicate_false _ _) (fun q=>by
   rw [Ag];intro j r hj hX;rw [getD_replicate_false] at hX;cases hX) rfl rfl hr2 (fun q hq => .inl (hr1.bound q hq)) E0 w0 hE1
 simpa using this
section
variable {P:Program} {pu:List Nat} {l:List Oper} {n0 i:Nat} {fin:St→Prop} {L:Log} {σ : St}
@[go_sem] theorem cRunP_nil:Sj P pu l n0 fin i [] L σ = (Tx l n0 L=true∧fin σ):=rfl
@[go_sem] theorem cRunP_cons {o:Oper} {os:List Oper}:Sj P pu l n0 fin i (o::os) L σ = Uv P l n0 i σ o (pu.contains i) (fun k=>Sj P pu l n0 fin (i+1) os (gD i σ k (nW o.op) L)):=rfl
@[go_sem] theorem stepP_true {o:Oper} {K:CK→St→Prop}:Uv P l n0 i σ o true K=bsC P l σ o (K .new):=rfl
@[go_sem] theorem stepP_false {o:Oper} {K:CK→St→Prop}:Uv P l n0 i σ o false K=Br P l n0 i σ o.dst o.op o.guard (ckind P o.op o.guard) (K (ckind P o.op o.guard)):=rfl
@[go_sem] theorem rowsT_t (xs:List (List T)):rowsT (aS xs)=some xs:=by
 induction xs with
 | nil=>rfl
 | cons x xs ih =>
  unfold aS at ih ⊢;rw [List.map_cons,rowsT,ih];have:∀ x:List T,tCells (x.map V.t)=some x:=fun x=>by
   induction x with
   | nil=>rfl
   | cons a x ih=>rw [List.map_cons];simp only [tCells,ih,Option.map_some]
  rw [this];rfl
end
attribute [go_sem] bsC bsG bsB bsQ rowsT rowsT.rowsU List.contains_cons List.contains_nil
open Go.RowKit
set_option maxRecDepth 4000
open Go.RowKit
set_option maxRecDepth 4000
def gopR (P:Program) (l:List Oper) (o:Option Oper) (σ : St) (K:St→Prop):Prop :=
 match o with
 | some o=>gopG P l o o.guard σ K
 | none=>False
where
 gopG (P:Program) (l:List Oper) (o:Oper) (g:Option (Nat×Bool)) (σ : St) (K:St→Prop):Prop :=
  match g with
  | none=>uS P σ o.dst o.op K
  | some (j,want)=>kP l σ j want=some true∧uS P σ o.dst o.op K
def Cr (P:Program) (l:List Oper) (K:St→Prop):List RS→St→Prop
 | [], σ => K σ
 | .op i::r, σ => gopR P l (l[i]?) σ (Cr P l K r)
 | .give is::r, σ => Wh (Cr P l K r) σ (giveL is σ.h)
@[go_sem] theorem gsteps_nil {P:Program} {l:List Oper} {K:St→Prop} {σ : St}:Cr P l K [] σ = K σ := rfl
@[go_sem] theorem gsteps_op {P:Program} {l:List Oper} {K:St→Prop} {σ : St} {i:Nat} {r:List RS}:Cr P l K (.op i::r) σ = gopR P l (l[i]?) σ (Cr P l K r):=rfl
@[go_sem] theorem gsteps_give {P:Program} {l:List Oper} {K:St→Prop} {σ : St} {is:List Nat} {r:List RS}:Cr P l K (.give is::r) σ = Wh (Cr P l K r) σ (giveL is σ.h):=rfl
attribute [go_sem] gopR gopR.gopG
open Go.RowKit
set_option maxRecDepth 4000
def apC (P:Program) (l:List Oper) (n0 i:Nat) (σ : St) (o:Oper) (K:St→Prop):Prop :=
 bsG l σ o.guard∧apO P n0 i σ o.dst o.op K
where
 apT (n0 i:Nat) (σ : St) (d:Option Tmp) (K:St→Prop) (old:Option Nat) (k:Nat) (dd:List T) (r:Option (List (List T))):Prop :=
  match r with
  | some rows=>K (({ σ with h:=(n0+i, .shr (.list k dd rows))::Kg σ.h old }:St).put d (.t (.list k dd rows)))
  | none=>False
 apB (n0 i:Nat) (σ : St) (d:Option Tmp) (K:St→Prop) (old:Option Nat) (b:Blk):Prop :=
  match b with
  | .row _ k dd xs=>apT n0 i σ d K old k dd (rowsT xs)
  | _=>False
 apP (n0 i:Nat) (σ : St) (d:Option Tmp) (K:St→Prop) (tb:Option Nat×Blk):Prop:=apB n0 i σ d K tb.1 tb.2
 apL (P:Program) (n0 i:Nat) (σ : St) (d:Option Tmp) (args:List Operand) (tys:List TypeId) (K:St→Prop):Prop :=
  match args,tys with
  | [s,x],[t,t']=>uD P t t'∧kR (aDx P σ (P.elemT t) s x) (apP n0 i σ d K)
  | _,_=>False
 apO (P:Program) (n0 i:Nat) (σ : St) (d:Option Tmp) (op:Op) (K:St→Prop):Prop :=
  match op with
  | .call { callee := .builtin .append,args,argTypes }=>apL P n0 i σ d args.toList argTypes.toList K
  | _=>False
def aQf (pu pa:List Nat) (i:Nat):Nat:=if pu.contains i=true then 1 else if pa.contains i=true then 2 else 0
def aAy (P:Program) (l:List Oper) (n0 i:Nat) (σ : St) (o:Oper) (m:Nat) (K:CK→St→Prop):Prop :=
 match m with
 | 1=>bsC P l σ o (K .new)
 | 2=>apC P l n0 i σ o (K .app)
 | _=>Br P l n0 i σ o.dst o.op o.guard (ckind P o.op o.guard) (K (ckind P o.op o.guard))
def aJp (P:Program) (pu pa:List Nat) (l:List Oper) (n0:Nat) (fin:St→Prop):Nat→List Oper→Log→St→Prop
 | _,[],L, σ => Tx l n0 L=true∧fin σ
 | i,o::os,L, σ => aAy P l n0 i σ o (aQf pu pa i) (fun k=>aJp P pu pa l n0 fin (i+1) os (gD i σ k (nW o.op) L))
section
variable {P:Program} {pu pa:List Nat} {l:List Oper} {n0 i:Nat} {fin:St→Prop} {L:Log} {σ : St}
@[go_sem] theorem cRunQ_nil:aJp P pu pa l n0 fin i [] L σ = (Tx l n0 L=true∧fin σ):=rfl
@[go_sem] theorem cRunQ_cons {o:Oper} {os:List Oper}:aJp P pu pa l n0 fin i (o::os) L σ = aAy P l n0 i σ o (aQf pu pa i) (fun k=>aJp P pu pa l n0 fin (i+1) os (gD i σ k (nW o.op) L)):=rfl
@[go_sem] theorem stepQ_1 {o:Oper} {K:CK→St→Prop}:aAy P l n0 i σ o 1 K=bsC P l σ o (K .new):=rfl
@[go_sem] theorem stepQ_2 {o:Oper} {K:CK→St→Prop}:aAy P l n0 i σ o 2 K=apC P l n0 i σ o (K .app):=rfl
@[go_sem] theorem stepQ_0 {o:Oper} {K:CK→St→Prop}:aAy P l n0 i σ o 0 K=Br P l n0 i σ o.dst o.op o.guard (ckind P o.op o.guard) (K (ckind P o.op o.guard)):=rfl
end
attribute [go_sem] aQf apC apC.apO apC.apL apC.apP apC.apB apC.apT
open Go.RowKit
set_option maxRecDepth 4000
def copyE (P:Program) (σ : St) (t:TypeId) (s x:V) (K:St→V→Prop):Prop :=
 copyA (P.elemT t)
where
 copyC (i kk lo hi e k:Nat) (blk:Option Blk) (src:Option (List T×List (List V))):Prop :=
  match blk,src with
  | some (.row e' k' d xs),some (_,ys)=>e'=e∧k'=k∧kk=k∧0<ys.length∧lo+ys.length≤hi∧K { σ with h := σ.h.set i (.row e' k' d (xs.take lo++ys++xs.drop (lo+ys.length))) } (aA ys.length)
  | _,_=>False
 copyS (e k:Nat) (s:V):Prop :=
  match s with
  | .rsl i kk lo hi=>copyC i kk lo hi e k (σ.h.look i) (Bv σ.h k x)
  | _=>False
 copyB (e:Nat) (k:Option Nat):Prop :=
  match k with
  | some k=>copyS e k s
  | none=>False
 copyA (e:Option TypeId):Prop :=
  match e with
  | some e=>copyB e (P.szT e)
  | none=>False
def lastC (P:Program) (o:Option Oper) (σ : St) (K:St→Prop):Prop :=
 match o with
 | some o=>lastG o o.guard o.op
 | none=>False
where
 lastL (o:Oper) (args:List Operand) (tys:List TypeId):Prop :=
  match args,tys with
  | [s,x],[t,_]=>dF true (σ.ev s) fun s'=>dF true (σ.ev x) fun x'=>copyE P σ t s' x' fun σ' v=>K (σ'.put o.dst v)
  | _,_=>False
 lastO (o:Oper) (op:Op):Prop :=
  match op with
  | .call { callee := .builtin .copy,args,argTypes }=>lastL o args.toList argTypes.toList
  | _=>False
 lastG (o:Oper) (g:Option (Nat×Bool)) (op:Op):Prop :=
  match g with
  | none=>lastO o op
  | some _=>False
attribute [go_sem] lastC lastC.lastG lastC.lastO lastC.lastL copyE copyE.copyA copyE.copyB copyE.copyS copyE.copyC
open Go.RowKit
set_option maxRecDepth 4000
theorem RelF.giveT2 {w:World} {E:Env} {σ : St} {a:Act} {i:Nat} {blk:Blk} {hv:Value} {t:T} (hr:RelF E σ a w) (hl : σ.h.look i=some blk) (hB:E.B i=some hv) (hT:RdT w (fun b=>E.S b∨aV hv=some b) t hv) :
  ∃ E',RelF E' { σ with h := σ.h.set i (.shr t) } a w∧Ext E w E' w∧(∀ q,E'.U q→E.U q)∧E'.F i=some hv ∧ ∀ b,E.S b∨aV hv=some b→E'.S b:=by
 let E':Env := { S:=fun b=>E.S b∨aV hv=some b,B:=fun j=>if j=i then none else E.B j,U:=E.U,D:=E.D,F:=fun j=>if j=i then some hv else E.F j,ro:=E.ro }
 have hUi:E.U i:=(hr.rel.dom i hv hB).1;have hE:Ext E w E' w:=by
  refine ⟨rfl,rfl,rfl,Nat.le_refl _,fun _ _=>rfl,fun b hb => .inl hb,fun b hb=>?_,fun _ => .rfl,fun _ h=>h,fun j hj v hv'=>?_,fun j hj v hv'=>?_,rfl⟩
  ·rcases hb with hb | hb
   ·exact .inl hb
   ·exact .inr (hr.rel.own i hv b hB hb).2.2
  ·simp only [E'] at hv';split at hv'
   ·cases hv'
   ·exact hv'
  ·simp only [E',Env.Is] at hv'
   by_cases hji:j=i
   ·subst hji;simp only [if_true,reduceCtorEq,false_or,Option.some.injEq] at hv';subst hv';exact .inl hB
   ·simp only [if_neg hji] at hv';exact hv'
 refine ⟨E',⟨⟨fun j blk hlj=>?_,fun j v hBj=>?_,fun j v hFj=>?_,fun j v b hBj hbk=>?_,fun p q vp vq b hBp hBq hbp hbq=>?_,fun b hb=>?_,hr.rel.dlt⟩,hr.bound,hE.rdVs _ hr.fr,hE.defs hr.defers⟩,hE,fun _ h=>h,by simp [E'],fun b hb=>hb⟩
 ·rw [Heap.look_set _ _ _ hl] at hlj;split at hlj
  ·rename_i hji;injection hlj with hlj;subst hlj;exact ⟨hv,by simp [E',Env.at,hji],hT⟩
  ·rename_i hji;obtain ⟨v,hat,hrel⟩:=hr.rel.has j blk hlj;refine ⟨v,?_,hrel.keep hE fun _ _=>rfl⟩;cases blk<;>simpa [E',Env.at,hji] using hat
 ·simp only [E'] at hBj;split at hBj
  ·cases hBj
  ·rename_i hji;obtain ⟨q1,q2⟩:=hr.rel.dom j v hBj;refine ⟨q1,?_⟩;rw [Heap.look_set _ _ _ hl,if_neg hji];exact q2
 ·simp only [E'] at hFj ⊢
  by_cases hji:j=i
  ·subst hji;exact ⟨hUi,by simp⟩
  ·simp only [if_neg hji] at hFj ⊢;exact hr.rel.domF j v hFj
 ·simp only [E'] at hBj ⊢;split at hBj
  ·cases hBj
  ·rename_i hji;obtain ⟨q1,q2,q3⟩:=hr.rel.own j v b hBj hbk;refine ⟨q1,fun hs=>?_,q3⟩;rcases hs with hs | hs
   ·exact q2 hs
   ·exact hji (hr.rel.apart j i v hv b hBj hB hbk hs)
 ·simp only [E'] at hBp hBq;split at hBp
  ·cases hBp
  ·split at hBq
   ·cases hBq
   ·exact hr.rel.apart p q vp vq b hBp hBq hbp hbq
 ·rcases hb with hb | hb
  ·exact hr.rel.slt b hb
  ·exact (hr.rel.own i hv b hB hb).1
mutual
def V.gbx (i:Nat) (ts:List T):V→V
 | .own j=>if j=i then .elem ts.length ts [ts] 0 0 else .own j
 | .ptr j off=>if j=i then .elem ts.length ts [ts] 0 off else .ptr j off
 | .agg cs => .agg (V.gbxs i ts cs)
 | .tup cs => .tup (V.gbxs i ts cs)
 | .clo f cs => .clo f (V.gbxs i ts cs)
 | x=>x
def V.gbxs (i:Nat) (ts:List T):List V→List V
 | []=>[]
 | x::xs=>V.gbx i ts x::V.gbxs i ts xs
end
def GbOk (w:World) (E:Env) (i:Nat) (ts:List T):Prop := ∃ b,(∀ hv,E.Is i hv→hv = .pointer (some ⟨b,0,none⟩))∧(∃ hv,E.Is i hv)∧RdT w E.S (.list ts.length ts [ts]) (.slice (some ⟨b,0,none⟩) 1 1)
mutual
theorem RdV.gbx {w:World} {E:Env} {i:Nat} {ts:List T} (hg:GbOk w E i ts):∀ (x:V) {v:Value},RdV w E x v→RdV w E (x.gbx i ts) v
 | .own j,v,hx=>by
  unfold V.gbx;split
  ·rename_i hji;subst hji;obtain ⟨b,h1,⟨hv,h2⟩,h3⟩:=hg;simp only [RdV] at hx ⊢;have e1:=hx.2.2 hv h2;have e2:=h1 hv h2;subst e1 e2;exact ⟨b,0,1,h3,by simp,by simp⟩
  ·exact hx
 | .ptr j off,v,hx=>by
  unfold V.gbx;split
  ·rename_i hji;subst hji;obtain ⟨b,h1,⟨hv,h2⟩,h3⟩:=hg;simp only [RdV] at hx ⊢;obtain ⟨b',e1,e2⟩:=hx.2.2 hv h2;have e3:=h1 hv h2;rw [e3] at e1;injection e1 with e1;injection e1 with e1;injection e1 with e1;subst e1 e2;exact ⟨b,0,1,h3,by simp,by simp⟩
  ·exact hx
 | .agg cs,v,hx=>by
  simp only [V.gbx,RdV] at hx ⊢;obtain ⟨vs,hv,h1,h2⟩:=hx;exact ⟨vs,hv,RdVs.gbx hg cs h1,h2⟩
 | .tup cs,v,hx=>by
  simp only [V.gbx,RdV] at hx ⊢;obtain ⟨vs,hv,h1⟩:=hx;exact ⟨vs,hv,RdVs.gbx hg cs h1⟩
 | .clo f cs,v,hx=>by
  simp only [V.gbx,RdV] at hx ⊢;obtain ⟨vs,hv,h1⟩:=hx;exact ⟨vs,hv,RdVs.gbx hg cs h1⟩
 | .t x,v,hx=>by simpa only [V.gbx] using hx
 | .rptr i k n j,v,hx=>by simpa only [V.gbx] using hx
 | .rsl i k n j,v,hx=>by simpa only [V.gbx] using hx
 | .elem k d xs i j,v,hx=>by simpa only [V.gbx] using hx
 | .cond g x,v,hx=>by simpa only [V.gbx] using hx
 | .dead,v,hx=>by simpa only [V.gbx] using hx
theorem RdVs.gbx {w:World} {E:Env} {i:Nat} {ts:List T} (hg:GbOk w E i ts):∀ (xs:List V) {vs:List Value},RdVs w E xs vs→RdVs w E (V.gbxs i ts xs) vs
 | [],[],_=>by simp only [V.gbxs,RdVs]
 | x::xs,v::vs,hx=>by
  simp only [V.gbxs,RdVs] at hx ⊢;exact ⟨RdV.gbx hg x hx.1,RdVs.gbx hg xs hx.2⟩
 | [],_::_,h=>by simp only [RdVs] at h
 | _::_,[],h=>by simp only [RdVs] at h
end
def gbxT (h:Heap) (b:Option Blk):Option (List T) :=
 match b with
 | some (.box cs)=>lendCs (nH h) cs
 | _=>none
theorem RelF.gbx {w:World} {E:Env} {σ : St} {a:Act} {i:Nat} {ts:List T} (hr:RelF E σ a w) (hg:gbxT σ.h (σ.h.look i)=some ts) :
  ∃ E',RelF E' { σ with h := σ.h.del i,fr:=V.gbxs i ts σ.fr } a w∧Ext E w E' w ∧ ∀ q,E'.U q→E.U q:=by
 unfold gbxT at hg;split at hg
 ·rename_i cs hlk;obtain ⟨hv,hB,b,vs,ty,rfl,hh,h1,h2⟩:=hr.rel.has i _ hlk;have hT:RdTs w E.S ts vs.toList:=vM (fun x t v h1 h2=>Pv hr.rel x t v h1 h2) hg h1;obtain ⟨E',r1,r2,r3,r4,r5⟩:=hr.giveT2 (t := .opq) hlk hB (.opq _ rfl);have hlen:=RdTs.len hT;have hcell:∀ (j:Nat) x,ts[j]? = some x → ∃ u,w.cell? ⟨b,0+0*ts.length+j,none⟩=some u∧vs.toList[j]? = some u:=by
   intro j x hj;have hjl:j<vs.toList.length:=by rw [← hlen];exact (List.getElem?_eq_some_iff.1 hj).1
   refine ⟨vs.toList[j],?_,List.getElem?_eq_getElem hjl⟩;simp only [World.cell?,hh,Nat.zero_mul,Nat.zero_add];simp
  have hg:GbOk w E' i ts:=by
   refine ⟨b,fun hv hI=>?_,⟨_, .inr r4⟩, .list ts.length ts [ts] (some ⟨b,0,none⟩) 1 (by simp [maxLen]) (by simp) (by simp) (by simp) ?_ ?_⟩
   ·exact r1.rel.isF r4 hI
   ·intro i' e he;cases i' with
    | zero =>
     simp at he;subst he;exact ⟨b,0,rfl,r5 b (.inr rfl),fun j x hj=>by obtain ⟨u,hu,_⟩:=hcell j x hj;exact ⟨u,hu⟩⟩
    | succ i'=>simp at he
   ·intro i' e j x b' off u he hj hA hu;cases i' with
    | zero =>
     simp at he;subst he;injection hA with hA;injection hA with hA1 hA2;subst hA1 hA2;obtain ⟨u',hu',hv'⟩:=hcell j x hj;rw [hu] at hu';injection hu' with hu';subst hu';exact (RdTs.nth j hT hj hv').mono r2.S fun _ _=>rfl
    | succ i'=>simp at he
  refine ⟨E',⟨⟨fun j blk hl=>?_,fun j hv hB'=>?_,r1.rel.domF,r1.rel.own,r1.rel.apart,r1.rel.slt,r1.rel.dlt⟩,r1.bound,RdVs.gbx hg _ r1.fr,r1.defers⟩,r2,r3⟩
  ·have hl0:(σ.h.del i).look j=some blk:=hl;rw [Heap.look_del] at hl0;split at hl0
   ·cases hl0
   ·rename_i hji;exact r1.rel.has j blk (by show (σ.h.set i (.shr .opq)).look j=_;rw [Heap.look_set _ _ _ hlk,if_neg hji];exact hl0)
  ·obtain ⟨q1,blk,q2⟩:=r1.rel.dom j hv hB';have hji:j≠i:=fun e=>by
    subst e;rw [(r1.rel.domF j _ r4).2] at hB';cases hB'
   refine ⟨q1,blk,?_⟩;show (σ.h.del i).look j=_
   rw [Heap.look_del,if_neg hji];have q3:(σ.h.set i (.shr .opq)).look j=some blk:=q2;rw [Heap.look_set _ _ _ hlk,if_neg hji] at q3;exact q3
 ·cases hg
def gbxA (P:Program) (n0:Nat) (c:Code) (Q:Exit→St→Prop) (σ : St) (i:Nat) (o:Option (List T)):Prop :=
 match o with
 | some ts=>AWP P n0 c Q { σ with h := σ.h.del i,fr:=V.gbxs i ts σ.fr }
 | none=>False
attribute [go_sem] gbxA gbxT V.gbx V.gbxs
open Go.RowKit
set_option maxRecDepth 4000
def rmE (k:Value):List (Value×V)→List (Value×V)
 | []=>[]
 | e::es=>if tD k e.1=true then es else e::rmE k es
def mapDelR (P:Program) (h:Heap) (u:Option (TypeId×TypeId)) (m k:V):RO Heap :=
 match u,m,k with
 | some (kt,_), .own i, .t (.lit kv)=>mdA (P.underlying kt) h i kv (h.look i)
 | _,_,_=>none
where
 mdA (d:Option TypeDesc) (h:Heap) (i:Nat) (kv:Value) (b:Option Blk):RO Heap :=
  match d,b with
  | some d,some (.map es)=>some (gT d kv=true∧kN d es=true,h.set i (.map (rmE kv es)))
  | _,_=>none
section
variable {P:Program} {σ : St} {o:Oper} {K:St→Prop}
end
attribute [go_sem] mapDelR mapDelR.mdA
open Go.RowKit
set_option maxRecDepth 4000
def IStep (P:Program) (o:Oper) (σ : St) (K:St→Prop):Prop:=o.guard=none∧OpI P o σ K
theorem IStep.mono {P:Program} {o:Oper} {σ : St} {K K':St→Prop} (hk:∀ σ,K σ → K' σ) (h:IStep P o σ K):IStep P o σ K' :=
 ⟨h.1,fun E a w hr next Q hn=>h.2 E a w hr next Q fun a' w' E' σ' h1 h2 h3=>hn a' w' E' σ' h1 h2 (hk _ h3)⟩
def dAnyI (P:Program) (ops:Array Oper) (K:St→Prop):Nat→Array Bool→St→Prop
 | 0,listed, σ => Region.ready .any ops listed = []∧K σ
 | f+1,listed, σ => (Region.ready .any ops listed = []→K σ) ∧ ∀ i∈Region.ready .any ops listed, ∃ o,ops[i]? = some o∧IStep P o σ (dAnyI P ops K f (listed.setIfInBounds i true))
def aFd (P:Program) (o:Option Oper) (σ : St) (K:St→Prop):Prop :=
 match o with
 | some o=>o.guard=none∧uS P σ o.dst o.op K
 | none=>False
def wU (P:Program) (l:List Oper) (K:St→Prop):OT→St→Prop
 | .done, σ => K σ
 | .step i t, σ => aFd P (l[i]?) σ (wU P l K t)
 | .alt a b, σ => wU P l K a σ ∧ wU P l K b σ
@[go_sem] theorem isteps_done {P:Program} {l:List Oper} {K:St→Prop} {σ : St}:wU P l K .done σ = K σ := rfl
@[go_sem] theorem isteps_step {P:Program} {l:List Oper} {K:St→Prop} {σ : St} {i:Nat} {t:OT}:wU P l K (.step i t) σ = aFd P (l[i]?) σ (wU P l K t):=rfl
@[go_sem] theorem isteps_alt {P:Program} {l:List Oper} {K:St→Prop} {σ : St} {a b:OT}:wU P l K (.alt a b) σ = (wU P l K a σ ∧ wU P l K b σ):=rfl
theorem aCu {P:Program} {σ : St} {o:Oper} {K:St→Prop}:aFd P (some o) σ K=(o.guard=none∧uS P σ o.dst o.op K):=rfl
attribute [go_sem] aCu
open Go.RowKit
def aHq (ops:Array Oper):Nat→Nat→Nat→Bool
 | 0,_,_=>false
 | d+1,j,i=>match ops[j]? with
  | some oj=>(oj.after.any fun e=>Region.binds .any e&&e.on==i)||oj.after.any fun e=>Region.binds .any e&&aHq ops d e.on i
  | none=>false
def chkEQ (l:List Oper) (n0:Nat) (L:Log) (e:Nat×Nat×Bool):Bool :=
 (L.all fun f => !(f.2.2&&f.2.1==e.2.1)||f.1==e.1||(if f.1<e.1 then aHq l.toArray 16 e.1 f.1 else aHq l.toArray 16 f.1 e.1))&&(decide (e.2.1<n0)||(decide (e.2.1 - n0<e.1)&&aHq l.toArray 16 e.1 (e.2.1 - n0)))
def chkLQ (l:List Oper) (n0:Nat) (L:Log):Bool:=L.all (chkEQ l n0 L)
open Go.RowKit
set_option maxRecDepth 4000
def Mt (x y:V):Prop :=
 match y with
 | .dead=>True
 | .t b=>match x with
  | .t a=>wkE a b
  | _=>False
 | y=>x=y
def aP5:List V→List V→Prop
 | [],[]=>True
 | x::xs,y::ys=>Mt x y∧aP5 xs ys
 | _,_=>False
def nilRow (i e k:Nat) (d:List T) (σ : St):St := { σ with fr := σ.fr.set i (.own σ.nx),h:=(σ.nx, .row e k d []) :: σ.h,nx := σ.nx+1 }
def nilBox (b i e k:Nat) (d:List T) (cs:List V) (σ : St):St := { σ with h:=(σ.nx, .row e k d []) :: σ.h.set b (.box (cs.set i (.own σ.nx))),nx := σ.nx+1 }
@[go_sem] theorem Heap.set_set (h:Heap) (i:Nat) (a b:Blk):(h.set i a).set i b=h.set i b:=by
 induction h with
 | nil=>rfl
 | cons x r ih =>
  obtain ⟨k,c⟩:=x;simp only [Heap.set];split
  ·rename_i hk;simp only [Heap.set,if_pos hk]
  ·rename_i hk;simp only [Heap.set,if_neg hk,ih]
attribute [go_sem] aP5 nilRow nilBox
section
variable {x:V}
@[go_sem] theorem sameV_dead:Mt x .dead=True:=rfl
@[go_sem] theorem sameV_t {b:T}:Mt x (.t b)=match x with | .t a=>wkE a b | _=>False:=rfl
@[go_sem] theorem sameV_own {i:Nat}:Mt x (.own i)=(x = .own i):=rfl
@[go_sem] theorem sameV_agg {l:List V}:Mt x (.agg l)=(x = .agg l):=rfl
@[go_sem] theorem sameV_tup {l:List V}:Mt x (.tup l)=(x = .tup l):=rfl
@[go_sem] theorem sameV_ptr {i o:Nat}:Mt x (.ptr i o)=(x = .ptr i o):=rfl
end
open Go.RowKit
set_option maxRecDepth 4000
def XCall (P:Program) (σ : St) (d:Option Tmp) (f:FuncId) (xs:List V) (K:St→Prop):Prop :=
 ICall P σ d f xs fun s=>(Lh σ.h s.h∧WFh s ∧ σ.nx≤s.nx)∧K s
theorem XCall.mono {P:Program} {σ : St} {d:Option Tmp} {f:FuncId} {xs:List V} {K K':St→Prop} (hk:∀ σ,K σ → K' σ) (h:XCall P σ d f xs K):XCall P σ d f xs K' :=
 ICall.mono (fun s hs=>⟨hs.1,hk s hs.2⟩) h
def aN7 (P:Program) (o:Oper) (σ : St) (K:St→Prop):Prop :=
 o.guard=none∧match o.op with
 | .call { callee := .value (.func f),args, .. }=>eW true (args.toList.map σ.ev) fun xs=>XCall P σ o.dst f xs K
 | _=>False
def stepX (P:Program) (ops:Array Oper) (b:Bool) (o:Oper) (σ : St) (K:St→Prop):Prop :=
 match b with
 | true=>aN7 P o σ K
 | false=>eQ P ops.toList σ o.dst o.op o.guard K
def dAnyX (P:Program) (ops:Array Oper) (xs:List Nat) (K:St→Prop):Nat→Array Bool→St→Prop
 | 0,listed, σ => Region.ready .any ops listed = []∧K σ
 | f+1,listed, σ => (Region.ready .any ops listed = []→K σ) ∧ ∀ i∈Region.ready .any ops listed, ∃ o,ops[i]? = some o∧stepX P ops (xs.contains i) o σ (dAnyX P ops xs K f (listed.setIfInBounds i true))
def planBX (P:Program) (ops:Array Oper) (xs:List Nat):List Nat→Array Bool→Bool
 | [],_=>true
 | i::r,listed=>(Region.ready .any ops listed).contains i&&Region.free .any ops listed i&&(ops[i]?).any (fV P ·.op) && !xs.contains i &&
   ((List.range ops.size).all fun j => !(ops[j]?).any (Jg P ·.op)||(xs.contains j||Bg .any ops 16 j i))&&planBX P ops xs r (listed.setIfInBounds i true)
def zH (P:Program) (l:List Oper) (b:Bool) (o:Option Oper) (σ : St) (K:St→Prop):Prop :=
 match o with
 | some o=>stepX P l.toArray b o σ K
 | none=>False
def vT (P:Program) (l:List Oper) (xs:List Nat) (K:St→Prop):OT→St→Prop
 | .done, σ => K σ
 | .step i t, σ => zH P l (xs.contains i) (l[i]?) σ (vT P l xs K t)
 | .alt a b, σ => vT P l xs K a σ ∧ vT P l xs K b σ
inductive PT where
 | done
 | look (i:Nat) (t:PT)
 | step (i:Nat) (t:PT)
def lookB (P:Program) (ops:Array Oper) (xs:List Nat) (listed:Array Bool) (i:Nat):Bool :=
 (Region.ready .any ops listed).contains i&&Region.free .any ops listed i&&(ops[i]?).any (fV P ·.op) && !xs.contains i &&
  ((List.range ops.size).all fun j => !(ops[j]?).any (Jg P ·.op)||(xs.contains j||Bg .any ops 16 j i))
def ptB (P:Program) (ops:Array Oper) (xs:List Nat):Nat→Array Bool→Bool→PT→Bool
 | 0,listed,_, .done=>Region.ready .any ops listed == []
 | 0,_,_,_=>false
 | _+1,listed,_, .done=>Region.ready .any ops listed == []
 | f+1,listed,w, .look i t=>w&&lookB P ops xs listed i&&ptB P ops xs f (listed.setIfInBounds i true) w t
 | f+1,listed,w, .step i t=>Region.ready .any ops listed == [i]&&(ops[i]?).isSome&&ptB P ops xs f (listed.setIfInBounds i true) (w&&xs.contains i) t
def wC (P:Program) (l:List Oper) (xs:List Nat) (K:St→Prop):PT→St→Prop
 | .done, σ => K σ
 | .look i t, σ => psteps.pstepsO P l (l[i]?) σ (wC P l xs K t)
 | .step i t, σ => zH P l (xs.contains i) (l[i]?) σ (wC P l xs K t)
section
variable {P:Program} {l:List Oper} {xs:List Nat} {K:St→Prop} {σ : St}
@[go_sem] theorem ptsteps_done:wC P l xs K .done σ = K σ := rfl
@[go_sem] theorem ptsteps_look {i:Nat} {t:PT}:wC P l xs K (.look i t) σ = psteps.pstepsO P l (l[i]?) σ (wC P l xs K t):=rfl
@[go_sem] theorem ptsteps_step {i:Nat} {t:PT}:wC P l xs K (.step i t) σ = zH P l (xs.contains i) (l[i]?) σ (wC P l xs K t):=rfl
end
section
variable {P:Program} {l:List Oper} {xs:List Nat} {K:St→Prop} {σ : St}
@[go_sem] theorem xsteps_done:vT P l xs K .done σ = K σ := rfl
@[go_sem] theorem xsteps_step {i:Nat} {t:OT}:vT P l xs K (.step i t) σ = zH P l (xs.contains i) (l[i]?) σ (vT P l xs K t):=rfl
@[go_sem] theorem xsteps_alt {a b:OT}:vT P l xs K (.alt a b) σ = (vT P l xs K a σ ∧ vT P l xs K b σ):=rfl
@[go_sem] theorem xstepsO_false {o:Oper}:zH P l false (some o) σ K=eQ P l σ o.dst o.op o.guard K:=rfl
@[go_sem] theorem xstepsO_true {o:Oper}:zH P l true (some o) σ K=aN7 P o σ K:=rfl
end
attribute [go_sem] aN7
theorem bxx:(∀ (p:Prop) [Decidable p],(decide p=true)=p)∧(∀ (p:Prop) [Decidable p],(decide p=false) ↔ ¬p)∧(∀ (α : Type) [BEq α] [LawfulBEq α] (a b : α),((a==b)=true) ↔ a=b)∧(∀ (α : Type) [BEq α] [LawfulBEq α] (a b : α),((a != b)=true) ↔ a≠b)∧(∀ (α : Sort 1) (a b : α),(a≠b) = ¬(a=b))∧(∀ (α : Type) [BEq α] [LawfulBEq α] (a b : α),((a==b)=false) ↔ a≠b)∧(∀ b:Bool,((!b)=true)=(b=false))∧(∀ b:Bool,(¬(b=true))=(b=false))∧(∀ b:Bool,((!b)=false)=(b=true))∧(∀ a b:Bool,((a||b)=true)=(a=true∨b=true))∧(∀ a b:Bool,((a&&b)=true)=(a=true∧b=true))∧(∀ a b:Bool,((a||b)=false)=(a=false∧b=false))∧(∀ a b:Bool,((a&&b)=false)=(a=false∨b=false))∧((false=true)=False)∧(∀ a b:Bool,((!a)=b)=(a = !b))∧((!true)=false)∧((!false)=true) :=
 ⟨fun _ _=>decide_eq_true_eq,fun _ _=>decide_eq_false_iff_not,fun _ _ _ _ _=>beq_iff_eq,fun _ _ _ _ _=>bne_iff_ne,fun _ _ _=>rfl,fun _ _ _ _ _=>beq_eq_false_iff_ne,by decide,by decide,by decide,by decide,by decide,by decide,by decide,by decide,by decide,rfl,rfl⟩
theorem dtf:(∀ h:Decidable True,@decide True h=true)∧(∀ h:Decidable False,@decide False h=false):=⟨fun h=>decide_true h,fun h=>decide_false h⟩
theorem bff:(∀ b:Bool,(b||false)=b)∧(∀ b:Bool,(false||b)=b)∧(∀ b:Bool,(b||true)=true)∧(∀ b:Bool,(true||b)=true)∧(∀ b:Bool,(b&&true)=b)∧(∀ b:Bool,(true&&b)=b)∧(∀ b:Bool,(b&&false)=false)∧(∀ b:Bool,(false&&b)=false):=⟨Bool.or_false,Bool.false_or,Bool.or_true,Bool.true_or,Bool.and_true,Bool.true_and,Bool.and_false,Bool.false_and⟩
abbrev ti (n:Int):T := .lit (.int .i64 n)
abbrev tu (n:Int):T := .lit (.int .u64 n)
abbrev fZ (s:ByteArray):T := .lit (.string s)
abbrev tbl (b:Bool):T := .lit (.bool b)
abbrev eP (n:Int):V := .t (.lit (.int .u64 n))
def sS (n:Int):List T:=[ti n]
def aNq (s:ByteArray):List T:=[fZ s]
@[go_sem] abbrev bS (l:List Int):T := .list 1 (sS 0) (l.map sS)
@[go_sem] abbrev aAm (l:List ByteArray):T := .list 1 (aNq ⟨#[]⟩) (l.map aNq)
@[go_sem] theorem intC_t (n:Int):(sS n).map V.t = [aA n]:=rfl
@[go_sem] theorem strC_t (n:ByteArray):(aNq n).map V.t = [bY n]:=rfl
@[go_sem] theorem intC_l (n:Int):(sS n).length=1:=rfl
@[go_sem] theorem strC_l (n:ByteArray):(aNq n).length=1:=rfl
structure RatR where
 num:Int
 den:Int
 deriving Inhabited
structure SourceR where
 kind:Int
 name:ByteArray
 pos:RatR
 speed:RatR
 smooth:Bool
 deriving Inhabited
structure ClipR where
 len:Int
 kind:Int
 a:SourceR
 b:SourceR
 off:Int
 total:Int
 param:Int
 text:ByteArray
 gain:Int
 chan:List Int
 deriving Inhabited
def RatR.c (r:RatR):List T:=[ti r.num,ti r.den]
def SourceR.c (s:SourceR):List T:=[ti s.kind,fZ s.name,ti s.pos.num,ti s.pos.den,ti s.speed.num,ti s.speed.den,tbl s.smooth]
def ClipR.c (c:ClipR):List T:=[ti c.len,ti c.kind,ti c.a.kind,fZ c.a.name,ti c.a.pos.num,ti c.a.pos.den,ti c.a.speed.num,ti c.a.speed.den,tbl c.a.smooth,
 ti c.b.kind,fZ c.b.name,ti c.b.pos.num,ti c.b.pos.den,ti c.b.speed.num,ti c.b.speed.den,tbl c.b.smooth,ti c.off,ti c.total,ti c.param,fZ c.text,ti c.gain,bS c.chan]
abbrev Ax (r:RatR):V := .agg [aA r.num,aA r.den]
abbrev kW (s:SourceR):V := .agg [aA s.kind,bY s.name,aA s.pos.num,aA s.pos.den,aA s.speed.num,aA s.speed.den,aX s.smooth]
abbrev mF (c:ClipR):V := .agg [aA c.len,aA c.kind,aA c.a.kind,bY c.a.name,aA c.a.pos.num,aA c.a.pos.den,aA c.a.speed.num,aA c.a.speed.den,aX c.a.smooth,
 aA c.b.kind,bY c.b.name,aA c.b.pos.num,aA c.b.pos.den,aA c.b.speed.num,aA c.b.speed.den,aX c.b.smooth,aA c.off,aA c.total,aA c.param,bY c.text,aA c.gain, .t (bS c.chan)]
@[go_sem] theorem RatR.ct (r:RatR):(RatR.c r).map V.t = [aA r.num,aA r.den]:=rfl
@[go_sem] theorem SourceR.ct (s:SourceR):(SourceR.c s).map V.t = [aA s.kind,bY s.name,aA s.pos.num,aA s.pos.den,aA s.speed.num,aA s.speed.den,aX s.smooth]:=rfl
@[go_sem] theorem ClipR.ct (c:ClipR):(ClipR.c c).map V.t = [aA c.len,aA c.kind,aA c.a.kind,bY c.a.name,aA c.a.pos.num,aA c.a.pos.den,aA c.a.speed.num,aA c.a.speed.den,aX c.a.smooth,
 aA c.b.kind,bY c.b.name,aA c.b.pos.num,aA c.b.pos.den,aA c.b.speed.num,aA c.b.speed.den,aX c.b.smooth,aA c.off,aA c.total,aA c.param,bY c.text,aA c.gain, .t (bS c.chan)]:=rfl
@[go_sem] theorem RatR.cl (r:RatR):(RatR.c r).length=2:=rfl
@[go_sem] theorem SourceR.cl (r:SourceR):(SourceR.c r).length=7:=rfl
@[go_sem] theorem ClipR.cl (r:ClipR):(ClipR.c r).length=22:=rfl
@[go_sem] abbrev aM (l:List ClipR):T := .list 22 (ClipR.c default) (l.map ClipR.c)
theorem aU {α : Type} [Inhabited α] {xs:List α} {k:Nat} (h:k<xs.length):xs.getD k default=xs[k]:=by simp [List.getD_eq_getElem?_getD,h]
theorem brW {B b:Bool} {A C:Prop} (h:B=b) (k:(b=true→A)∧(b=false→C)):(B=true→A)∧(B=false→C):=by rw [h];exact k
theorem nt {b:Bool} (h:(!b)=true):b=false:=by cases b<;>simp_all
theorem nf {b:Bool} (h:(!b)=false):b=true:=by cases b<;>simp_all
@[go_sem] theorem bne_f {b:Bool}:(b != false)=b:=by cases b<;>rfl
def I64 (n:Int):Prop := -9223372036854775808≤n∧n≤9223372036854775807
theorem wrap64 {x:Int} (h1 : -9223372036854775808≤x) (h2:x≤9223372036854775807):IntKind.i64.wrap x=x:=by
 have e1:(2:Int) ^ IntKind.i64.bits=18446744073709551616:=by decide
 have e2:(2:Int) ^ (IntKind.i64.bits - 1)=9223372036854775808:=by decide
 unfold IntKind.wrap;simp only [IntKind.signed,e1,e2,Bool.true_and,decide_eq_true_eq];split<;>omega
theorem gE {n:Nat} (h:n≤9223372036854775807):IntKind.i64.wrap (n:Int)=n:=wrap64 (by omega) (by omega)
theorem dC {k:Nat} (h:k<9223372036854775807):IntKind.i64.wrap ((k:Int)+1)=(k:Int)+1:=wrap64 (by omega) (by omega)
theorem Kh {x:Int} (h1 : 0≤x) (h2:x≤18446744073709551615):IntKind.u64.wrap x=x:=by
 have e1:(2:Int) ^ IntKind.u64.bits=18446744073709551616:=by decide
 unfold IntKind.wrap;simp only [IntKind.signed,e1,Bool.false_and,Bool.false_eq_true,if_false];omega
theorem xP {x:Int} (h1 : -18446744073709551616≤x) (h2:x<0):IntKind.u64.wrap x=x+18446744073709551616:=by
 have e1:(2:Int) ^ IntKind.u64.bits=18446744073709551616:=by decide
 unfold IntKind.wrap;simp only [IntKind.signed,e1,Bool.false_and,Bool.false_eq_true,if_false];omega
structure RatR.fit (r:RatR):Prop where
 num:I64 r.num
 den:I64 r.den
structure SourceR.fit (s:SourceR):Prop where
 kind:I64 s.kind
 pos:s.pos.fit
 speed:s.speed.fit
structure ClipR.fit (c:ClipR):Prop where
 len:I64 c.len
 kind:I64 c.kind
 a:c.a.fit
 b:c.b.fit
 off:I64 c.off
 total:I64 c.total
 param:I64 c.param
 gain:I64 c.gain
def nmI (n:Int):Bool:=(decide (97≤n)&&decide (n≤122))||(decide (48≤n)&&decide (n≤57))||n==45||n==95||n==46
def lnI (n:Int):Bool:=decide (32≤n)&&decide (n≤126)
def vS (p:Int→Bool) (s:ByteArray):Bool:=s.data.toList.all fun c=>p c.toNat
def uU (s:ByteArray) (k:Nat):Int:=(s.data.toList.getD k 0).toNat
theorem Xg (s:ByteArray):s.data.toList.length=s.size:=Array.length_toList
theorem Xh {p:Int→Bool} {s:ByteArray} {k:Nat} (h:k<s.size) (hp:p (uU s k)=false):vS p s=false:=by
 have hl:k<s.data.toList.length:=by rw [Xg];exact h
 unfold uU at hp;rw [List.getD_eq_getElem?_getD,List.getElem?_eq_getElem hl] at hp;unfold vS;rw [Bool.eq_false_iff,ne_eq,List.all_eq_true];intro h';have:=h' _ (List.getElem_mem hl);simp only [Option.getD_some] at hp;rw [hp] at this;cases this
theorem Sw {p:Int→Bool} {s:ByteArray} (h:∀ k,k<s.size→p (uU s k)=true):vS p s=true:=by
 unfold vS;rw [List.all_eq_true];intro c hc;obtain ⟨k,hk,rfl⟩:=List.mem_iff_getElem.1 hc;have:=h k (by rw [← Xg];exact hk);unfold uU at this;rw [List.getD_eq_getElem?_getD,List.getElem?_eq_getElem hk] at this;exact this
def dS (s:ByteArray):Bool:=decide (1≤s.size)&&decide (s.size≤32)&&vS nmI s
def nU (s:ByteArray):Bool:=decide (1≤s.size)&&decide (s.size≤64)&&vS lnI s
open Go.RowKit
@[go_sem] theorem Tryz.xzk1:bV [Value.nilFunc]=true:=by kernel_rfl
@[go_sem] theorem Tryz.xsz2:Tryz.prog.szT 2=some 1:=by kernel_rfl
@[go_sem] theorem Tryz.xag2:Tryz.prog.aggT 2=some false:=by kernel_rfl
@[go_sem] theorem Tryz.xby2:Tryz.prog.bytesT 2=some 8:=by kernel_rfl
@[go_sem] theorem Tryz.xze2:Tryz.prog.zeroT 2=some [Value.int IntKind.i64 0]:=by kernel_rfl
@[go_sem] theorem Tryz.xzk2:bV [Value.int IntKind.i64 0]=true:=by kernel_rfl
@[go_sem] theorem Tryz.xsz3:Tryz.prog.szT 3=some 1:=by kernel_rfl
@[go_sem] theorem Tryz.xag3:Tryz.prog.aggT 3=some false:=by kernel_rfl
@[go_sem] theorem Tryz.xby3:Tryz.prog.bytesT 3=some 8:=by kernel_rfl
@[go_sem] theorem Tryz.xze3:Tryz.prog.zeroT 3=some [Value.int IntKind.i64 0]:=by kernel_rfl
@[go_sem] theorem Tryz.xsz4:Tryz.prog.szT 4=some 1:=by kernel_rfl
@[go_sem] theorem Tryz.xag4:Tryz.prog.aggT 4=some false:=by kernel_rfl
@[go_sem] theorem Tryz.xze4:Tryz.prog.zeroT 4=some [Value.bool false]:=by kernel_rfl
@[go_sem] theorem Tryz.xzk4:bV [Value.bool false]=true:=by kernel_rfl
@[go_sem] theorem Tryz.xag5:Tryz.prog.aggT 5=some false:=by kernel_rfl
@[go_sem] theorem Tryz.xsz9:Tryz.prog.szT 9=some 1:=by kernel_rfl
@[go_sem] theorem Tryz.xag9:Tryz.prog.aggT 9=some false:=by kernel_rfl
@[go_sem] theorem Tryz.xby9:Tryz.prog.bytesT 9=some 16:=by kernel_rfl
@[go_sem] theorem Tryz.xze9:Tryz.prog.zeroT 9=some [Value.string ⟨#[]⟩]:=by kernel_rfl
@[go_sem] theorem Tryz.xzk9:bV [Value.string ⟨#[]⟩]=true:=by kernel_rfl
@[go_sem] theorem Tryz.xsz22:Tryz.prog.szT 22=some 1:=by kernel_rfl
@[go_sem] theorem Tryz.xag22:Tryz.prog.aggT 22=some false:=by kernel_rfl
@[go_sem] theorem Tryz.xel22:Tryz.prog.elemT 22=some 3:=by kernel_rfl
@[go_sem] theorem Tryz.xzk22:bV [Value.slice none 0 0]=true:=by kernel_rfl
@[go_sem] theorem Tryz.xzk24:bV [Value.slice none 0 0,Value.int IntKind.i64 0]=true:=by kernel_rfl
@[go_sem] theorem Tryz.xpl25:Tryz.prog.plT 25=some [(0,1),(1,1)]:=by kernel_rfl
@[go_sem] theorem Tryz.xze25:Tryz.prog.zeroT 25=some [Value.slice none 0 0,Value.int IntKind.i64 0]:=by kernel_rfl
@[go_sem] theorem Tryz.xfl25_0:Tryz.prog.fldT 25 0=some (0,22):=by kernel_rfl
@[go_sem] theorem Tryz.xfl25_1:Tryz.prog.fldT 25 1=some (1,3):=by kernel_rfl
@[go_sem] theorem Tryz.xsz26:Tryz.prog.szT 26=some 1:=by kernel_rfl
@[go_sem] theorem Tryz.xag26:Tryz.prog.aggT 26=some false:=by kernel_rfl
@[go_sem] theorem Tryz.xel26:Tryz.prog.elemT 26=some 103:=by kernel_rfl
@[go_sem] theorem Tryz.xsz27:Tryz.prog.szT 27=some 1:=by kernel_rfl
@[go_sem] theorem Tryz.xag27:Tryz.prog.aggT 27=some false:=by kernel_rfl
@[go_sem] theorem Tryz.xel27:Tryz.prog.elemT 27=some 103:=by kernel_rfl
@[go_sem] theorem Tryz.xby27:Tryz.prog.bytesT 27=some 24:=by kernel_rfl
@[go_sem] theorem Tryz.xze27:Tryz.prog.zeroT 27=some [Value.slice none 0 0]:=by kernel_rfl
@[go_sem] theorem Tryz.xzk29:bV [Value.int IntKind.i64 0,Value.int IntKind.i64 0]=true:=by kernel_rfl
@[go_sem] theorem Tryz.xsz30:Tryz.prog.szT 30=some 2:=by kernel_rfl
@[go_sem] theorem Tryz.xag30:Tryz.prog.aggT 30=some true:=by kernel_rfl
@[go_sem] theorem Tryz.xpl30:Tryz.prog.plT 30=some [(0,1),(1,1)]:=by kernel_rfl
@[go_sem] theorem Tryz.xze30:Tryz.prog.zeroT 30=some [Value.int IntKind.i64 0,Value.int IntKind.i64 0]:=by kernel_rfl
@[go_sem] theorem Tryz.xfl30_0:Tryz.prog.fldT 30 0=some (0,2):=by kernel_rfl
@[go_sem] theorem Tryz.xfl30_1:Tryz.prog.fldT 30 1=some (1,2):=by kernel_rfl
@[go_sem] theorem Tryz.xzk31:bV [Value.int IntKind.i64 0,Value.int IntKind.i64 0,Value.int IntKind.i64 0,Value.int IntKind.i64 0,Value.int IntKind.i64 0,Value.int IntKind.i64 0,Value.int IntKind.i64 0,Value.slice none 0 0]=true:=by kernel_rfl
@[go_sem] theorem Tryz.xsz32:Tryz.prog.szT 32=some 8:=by kernel_rfl
@[go_sem] theorem Tryz.xag32:Tryz.prog.aggT 32=some true:=by kernel_rfl
@[go_sem] theorem Tryz.xpl32:Tryz.prog.plT 32=some [(0,1),(1,1),(2,1),(3,1),(4,1),(5,2),(7,1)]:=by kernel_rfl
@[go_sem] theorem Tryz.xze32:Tryz.prog.zeroT 32=some [Value.int IntKind.i64 0,Value.int IntKind.i64 0,Value.int IntKind.i64 0,Value.int IntKind.i64 0,Value.int IntKind.i64 0,Value.int IntKind.i64 0,Value.int IntKind.i64 0,Value.slice none 0 0]:=by kernel_rfl
@[go_sem] theorem Tryz.xfl32_0:Tryz.prog.fldT 32 0=some (0,3):=by kernel_rfl
@[go_sem] theorem Tryz.xfl32_1:Tryz.prog.fldT 32 1=some (1,2):=by kernel_rfl
@[go_sem] theorem Tryz.xfl32_2:Tryz.prog.fldT 32 2=some (2,2):=by kernel_rfl
@[go_sem] theorem Tryz.xfl32_3:Tryz.prog.fldT 32 3=some (3,3):=by kernel_rfl
@[go_sem] theorem Tryz.xfl32_4:Tryz.prog.fldT 32 4=some (4,2):=by kernel_rfl
@[go_sem] theorem Tryz.xfl32_5:Tryz.prog.fldT 32 5=some (5,30):=by kernel_rfl
@[go_sem] theorem Tryz.xfl32_6:Tryz.prog.fldT 32 6=some (7,26):=by kernel_rfl
@[go_sem] theorem Tryz.xsz35:Tryz.prog.szT 35=some 1:=by kernel_rfl
@[go_sem] theorem Tryz.xag35:Tryz.prog.aggT 35=some false:=by kernel_rfl
@[go_sem] theorem Tryz.xel35:Tryz.prog.elemT 35=some 82:=by kernel_rfl
@[go_sem] theorem Tryz.xsz36:Tryz.prog.szT 36=some 1:=by kernel_rfl
@[go_sem] theorem Tryz.xag36:Tryz.prog.aggT 36=some false:=by kernel_rfl
@[go_sem] theorem Tryz.xel36:Tryz.prog.elemT 36=some 114:=by kernel_rfl
@[go_sem] theorem Tryz.xzk37:bV [Value.slice none 0 0,Value.slice none 0 0]=true:=by kernel_rfl
@[go_sem] theorem Tryz.xsz38:Tryz.prog.szT 38=some 2:=by kernel_rfl
@[go_sem] theorem Tryz.xag38:Tryz.prog.aggT 38=some true:=by kernel_rfl
@[go_sem] theorem Tryz.xze38:Tryz.prog.zeroT 38=some [Value.slice none 0 0,Value.slice none 0 0]:=by kernel_rfl
@[go_sem] theorem Tryz.xfl38_0:Tryz.prog.fldT 38 0=some (0,35):=by kernel_rfl
@[go_sem] theorem Tryz.xfl38_1:Tryz.prog.fldT 38 1=some (1,36):=by kernel_rfl
@[go_sem] theorem Tryz.xsz40:Tryz.prog.szT 40=some 1:=by kernel_rfl
@[go_sem] theorem Tryz.xag40:Tryz.prog.aggT 40=some false:=by kernel_rfl
@[go_sem] theorem Tryz.xze40:Tryz.prog.zeroT 40=some [Value.int IntKind.i64 0]:=by kernel_rfl
@[go_sem] theorem Tryz.xsz43:Tryz.prog.szT 43=some 1:=by kernel_rfl
@[go_sem] theorem Tryz.xag43:Tryz.prog.aggT 43=some false:=by kernel_rfl
@[go_sem] theorem Tryz.xel43:Tryz.prog.elemT 43=some 92:=by kernel_rfl
@[go_sem] theorem Tryz.xze43:Tryz.prog.zeroT 43=some [Value.slice none 0 0]:=by kernel_rfl
@[go_sem] theorem Tryz.xsz57:Tryz.prog.szT 57=some 1:=by kernel_rfl
@[go_sem] theorem Tryz.xag57:Tryz.prog.aggT 57=some false:=by kernel_rfl
@[go_sem] theorem Tryz.xel57:Tryz.prog.elemT 57=some 9:=by kernel_rfl
@[go_sem] theorem Tryz.xsz67:Tryz.prog.szT 67=some 1:=by kernel_rfl
@[go_sem] theorem Tryz.xag67:Tryz.prog.aggT 67=some false:=by kernel_rfl
def Tryz.z78:List Value:=[Value.int IntKind.i64 0,Value.int IntKind.i64 0,Value.int IntKind.i64 0,Value.int IntKind.i64 0,Value.bool false,Value.int IntKind.i64 0,Value.int IntKind.i64 0]++List.replicate 128 (Value.int IntKind.u8 0)
@[go_sem] theorem Tryz.zok78:bV Tryz.z78=true:=by kernel_rfl
@[go_sem] theorem Tryz.zlen78:Tryz.z78.length=135:=by kernel_rfl
@[go_sem] theorem Tryz.xsz79:Tryz.prog.szT 79=some 135:=by kernel_rfl
@[go_sem] theorem Tryz.xpl79:Tryz.prog.plT 79=some [(0,1),(1,1),(2,2),(4,1),(5,1),(6,1),(7,64),(71,64)]:=by kernel_rfl
def Tryz.z79:List Value:=[Value.int IntKind.i64 0,Value.int IntKind.i64 0,Value.int IntKind.i64 0,Value.int IntKind.i64 0,Value.bool false,Value.int IntKind.i64 0,Value.int IntKind.i64 0]++List.replicate 128 (Value.int IntKind.u8 0)
@[go_sem] theorem Tryz.xze79:Tryz.prog.zeroT 79=some Tryz.z79:=by kernel_rfl
@[go_sem] theorem Tryz.zok79:bV Tryz.z79=true:=by kernel_rfl
@[go_sem] theorem Tryz.zlen79:Tryz.z79.length=135:=by kernel_rfl
@[go_sem] theorem Tryz.xfl79_2:Tryz.prog.fldT 79 2=some (2,30):=by kernel_rfl
@[go_sem] theorem Tryz.xsz80:Tryz.prog.szT 80=some 1:=by kernel_rfl
@[go_sem] theorem Tryz.xag80:Tryz.prog.aggT 80=some false:=by kernel_rfl
@[go_sem] theorem Tryz.xel80:Tryz.prog.elemT 80=some 110:=by kernel_rfl
def Tryz.z81:List Value:=[Value.string ⟨#[]⟩,Value.int IntKind.u64 0,Value.int IntKind.i64 0,Value.int IntKind.i64 0,Value.int IntKind.i64 0,Value.int IntKind.i64 0,Value.bool false,Value.int IntKind.i64 0,Value.int IntKind.i64 0]++List.replicate 128 (Value.int IntKind.u8 0) ++ [Value.int IntKind.i64 0,Value.int IntKind.i64 0,Value.int IntKind.i64 0,Value.slice none 0 0]
@[go_sem] theorem Tryz.zok81:bV Tryz.z81=true:=by kernel_rfl
@[go_sem] theorem Tryz.zlen81:Tryz.z81.length=141:=by kernel_rfl
@[go_sem] theorem Tryz.xsz82:Tryz.prog.szT 82=some 141:=by kernel_rfl
@[go_sem] theorem Tryz.xag82:Tryz.prog.aggT 82=some true:=by kernel_rfl
@[go_sem] theorem Tryz.xby82:Tryz.prog.bytesT 82=some 256:=by kernel_rfl
@[go_sem] theorem Tryz.xpl82:Tryz.prog.plT 82=some [(0,1),(1,1),(2,135),(137,1),(138,1),(139,1),(140,1)]:=by kernel_rfl
def Tryz.z82:List Value:=[Value.string ⟨#[]⟩,Value.int IntKind.u64 0,Value.int IntKind.i64 0,Value.int IntKind.i64 0,Value.int IntKind.i64 0,Value.int IntKind.i64 0,Value.bool false,Value.int IntKind.i64 0,Value.int IntKind.i64 0]++List.replicate 128 (Value.int IntKind.u8 0) ++ [Value.int IntKind.i64 0,Value.int IntKind.i64 0,Value.int IntKind.i64 0,Value.slice none 0 0]
@[go_sem] theorem Tryz.xze82:Tryz.prog.zeroT 82=some Tryz.z82:=by kernel_rfl
@[go_sem] theorem Tryz.zok82:bV Tryz.z82=true:=by kernel_rfl
@[go_sem] theorem Tryz.zlen82:Tryz.z82.length=141:=by kernel_rfl
@[go_sem] theorem Tryz.xfl82_0:Tryz.prog.fldT 82 0=some (0,9):=by kernel_rfl
@[go_sem] theorem Tryz.xfl82_2:Tryz.prog.fldT 82 2=some (2,79):=by kernel_rfl
@[go_sem] theorem Tryz.xfl82_3:Tryz.prog.fldT 82 3=some (137,2):=by kernel_rfl
@[go_sem] theorem Tryz.xfl82_4:Tryz.prog.fldT 82 4=some (138,3):=by kernel_rfl
@[go_sem] theorem Tryz.xfl82_5:Tryz.prog.fldT 82 5=some (139,2):=by kernel_rfl
@[go_sem] theorem Tryz.xfl82_6:Tryz.prog.fldT 82 6=some (140,80):=by kernel_rfl
@[go_sem] theorem Tryz.xzk91:bV [Value.int IntKind.i64 0,Value.string ⟨#[]⟩,Value.int IntKind.i64 0,Value.int IntKind.i64 0,Value.int IntKind.i64 0,Value.int IntKind.i64 0,Value.string ⟨#[]⟩,Value.slice none 0 0]=true:=by kernel_rfl
@[go_sem] theorem Tryz.xsz92:Tryz.prog.szT 92=some 8:=by kernel_rfl
@[go_sem] theorem Tryz.xag92:Tryz.prog.aggT 92=some true:=by kernel_rfl
@[go_sem] theorem Tryz.xby92:Tryz.prog.bytesT 92=some 96:=by kernel_rfl
@[go_sem] theorem Tryz.xpl92:Tryz.prog.plT 92=some [(0,1),(1,1),(2,1),(3,1),(4,1),(5,1),(6,1),(7,1)]:=by kernel_rfl
@[go_sem] theorem Tryz.xze92:Tryz.prog.zeroT 92=some [Value.int IntKind.i64 0,Value.string ⟨#[]⟩,Value.int IntKind.i64 0,Value.int IntKind.i64 0,Value.int IntKind.i64 0,Value.int IntKind.i64 0,Value.string ⟨#[]⟩,Value.slice none 0 0]:=by kernel_rfl
@[go_sem] theorem Tryz.xfl92_0:Tryz.prog.fldT 92 0=some (0,3):=by kernel_rfl
@[go_sem] theorem Tryz.xfl92_1:Tryz.prog.fldT 92 1=some (1,9):=by kernel_rfl
@[go_sem] theorem Tryz.xfl92_2:Tryz.prog.fldT 92 2=some (2,2):=by kernel_rfl
@[go_sem] theorem Tryz.xfl92_3:Tryz.prog.fldT 92 3=some (3,2):=by kernel_rfl
@[go_sem] theorem Tryz.xfl92_4:Tryz.prog.fldT 92 4=some (4,2):=by kernel_rfl
@[go_sem] theorem Tryz.xfl92_5:Tryz.prog.fldT 92 5=some (5,3):=by kernel_rfl
@[go_sem] theorem Tryz.xfl92_6:Tryz.prog.fldT 92 6=some (6,9):=by kernel_rfl
@[go_sem] theorem Tryz.xfl92_7:Tryz.prog.fldT 92 7=some (7,43):=by kernel_rfl
@[go_sem] theorem Tryz.xzk100:bV [Value.int IntKind.i64 0,Value.string ⟨#[]⟩,Value.int IntKind.i64 0,Value.int IntKind.i64 0,Value.int IntKind.i64 0,Value.int IntKind.i64 0,Value.bool false]=true:=by kernel_rfl
@[go_sem] theorem Tryz.xsz101:Tryz.prog.szT 101=some 7:=by kernel_rfl
@[go_sem] theorem Tryz.xag101:Tryz.prog.aggT 101=some true:=by kernel_rfl
@[go_sem] theorem Tryz.xpl101:Tryz.prog.plT 101=some [(0,1),(1,1),(2,2),(4,2),(6,1)]:=by kernel_rfl
@[go_sem] theorem Tryz.xze101:Tryz.prog.zeroT 101=some [Value.int IntKind.i64 0,Value.string ⟨#[]⟩,Value.int IntKind.i64 0,Value.int IntKind.i64 0,Value.int IntKind.i64 0,Value.int IntKind.i64 0,Value.bool false]:=by kernel_rfl
@[go_sem] theorem Tryz.xfl101_0:Tryz.prog.fldT 101 0=some (0,3):=by kernel_rfl
@[go_sem] theorem Tryz.xfl101_1:Tryz.prog.fldT 101 1=some (1,9):=by kernel_rfl
@[go_sem] theorem Tryz.xfl101_2:Tryz.prog.fldT 101 2=some (2,30):=by kernel_rfl
@[go_sem] theorem Tryz.xfl101_3:Tryz.prog.fldT 101 3=some (4,30):=by kernel_rfl
@[go_sem] theorem Tryz.xfl101_4:Tryz.prog.fldT 101 4=some (6,4):=by kernel_rfl
@[go_sem] theorem Tryz.xzk102:bV [Value.int IntKind.i64 0,Value.int IntKind.i64 0,Value.int IntKind.i64 0,Value.string ⟨#[]⟩,Value.int IntKind.i64 0,Value.int IntKind.i64 0,Value.int IntKind.i64 0,Value.int IntKind.i64 0,Value.bool false,Value.int IntKind.i64 0,Value.string ⟨#[]⟩,Value.int IntKind.i64 0,Value.int IntKind.i64 0,Value.int IntKind.i64 0,Value.int IntKind.i64 0,Value.bool false,Value.int IntKind.i64 0,Value.int IntKind.i64 0,Value.int IntKind.i64 0,Value.string ⟨#[]⟩,Value.int IntKind.i64 0,Value.slice none 0 0]=true:=by kernel_rfl
@[go_sem] theorem Tryz.xsz103:Tryz.prog.szT 103=some 22:=by kernel_rfl
@[go_sem] theorem Tryz.xag103:Tryz.prog.aggT 103=some true:=by kernel_rfl
@[go_sem] theorem Tryz.xby103:Tryz.prog.bytesT 103=some 216:=by kernel_rfl
@[go_sem] theorem Tryz.xpl103:Tryz.prog.plT 103=some [(0,1),(1,1),(2,7),(9,7),(16,1),(17,1),(18,1),(19,1),(20,1),(21,1)]:=by kernel_rfl
@[go_sem] theorem Tryz.xze103:Tryz.prog.zeroT 103=some [Value.int IntKind.i64 0,Value.int IntKind.i64 0,Value.int IntKind.i64 0,Value.string ⟨#[]⟩,Value.int IntKind.i64 0,Value.int IntKind.i64 0,Value.int IntKind.i64 0,Value.int IntKind.i64 0,Value.bool false,Value.int IntKind.i64 0,Value.string ⟨#[]⟩,Value.int IntKind.i64 0,Value.int IntKind.i64 0,Value.int IntKind.i64 0,Value.int IntKind.i64 0,Value.bool false,Value.int IntKind.i64 0,Value.int IntKind.i64 0,Value.int IntKind.i64 0,Value.string ⟨#[]⟩,Value.int IntKind.i64 0,Value.slice none 0 0]:=by kernel_rfl
@[go_sem] theorem Tryz.xfl103_0:Tryz.prog.fldT 103 0=some (0,2):=by kernel_rfl
@[go_sem] theorem Tryz.xfl103_1:Tryz.prog.fldT 103 1=some (1,3):=by kernel_rfl
@[go_sem] theorem Tryz.xfl103_2:Tryz.prog.fldT 103 2=some (2,101):=by kernel_rfl
@[go_sem] theorem Tryz.xfl103_3:Tryz.prog.fldT 103 3=some (9,101):=by kernel_rfl
@[go_sem] theorem Tryz.xfl103_4:Tryz.prog.fldT 103 4=some (16,2):=by kernel_rfl
@[go_sem] theorem Tryz.xfl103_5:Tryz.prog.fldT 103 5=some (17,2):=by kernel_rfl
@[go_sem] theorem Tryz.xfl103_6:Tryz.prog.fldT 103 6=some (18,3):=by kernel_rfl
@[go_sem] theorem Tryz.xfl103_7:Tryz.prog.fldT 103 7=some (19,9):=by kernel_rfl
@[go_sem] theorem Tryz.xfl103_8:Tryz.prog.fldT 103 8=some (20,3):=by kernel_rfl
@[go_sem] theorem Tryz.xfl103_9:Tryz.prog.fldT 103 9=some (21,22):=by kernel_rfl
@[go_sem] theorem Tryz.xel107:Tryz.prog.elemT 107=some 30:=by kernel_rfl
@[go_sem] theorem Tryz.xzk109:bV [Value.int IntKind.i64 0,Value.int IntKind.i64 0,Value.slice none 0 0]=true:=by kernel_rfl
@[go_sem] theorem Tryz.xsz110:Tryz.prog.szT 110=some 3:=by kernel_rfl
@[go_sem] theorem Tryz.xag110:Tryz.prog.aggT 110=some true:=by kernel_rfl
@[go_sem] theorem Tryz.xby110:Tryz.prog.bytesT 110=some 40:=by kernel_rfl
@[go_sem] theorem Tryz.xpl110:Tryz.prog.plT 110=some [(0,1),(1,1),(2,1)]:=by kernel_rfl
@[go_sem] theorem Tryz.xze110:Tryz.prog.zeroT 110=some [Value.int IntKind.i64 0,Value.int IntKind.i64 0,Value.slice none 0 0]:=by kernel_rfl
@[go_sem] theorem Tryz.xfl110_0:Tryz.prog.fldT 110 0=some (0,2):=by kernel_rfl
@[go_sem] theorem Tryz.xfl110_1:Tryz.prog.fldT 110 1=some (1,2):=by kernel_rfl
@[go_sem] theorem Tryz.xfl110_2:Tryz.prog.fldT 110 2=some (2,57):=by kernel_rfl
@[go_sem] theorem Tryz.xsz112:Tryz.prog.szT 112=some 1:=by kernel_rfl
@[go_sem] theorem Tryz.xag112:Tryz.prog.aggT 112=some false:=by kernel_rfl
@[go_sem] theorem Tryz.xel112:Tryz.prog.elemT 112=some 27:=by kernel_rfl
@[go_sem] theorem Tryz.xze112:Tryz.prog.zeroT 112=some [Value.slice none 0 0]:=by kernel_rfl
@[go_sem] theorem Tryz.xzk113:bV [Value.string ⟨#[]⟩,Value.int IntKind.i64 0,Value.int IntKind.i64 0,Value.int IntKind.i64 0,Value.int IntKind.i64 0,Value.slice none 0 0,Value.slice none 0 0,Value.slice none 0 0,Value.int IntKind.i64 0]=true:=by kernel_rfl
@[go_sem] theorem Tryz.xsz114:Tryz.prog.szT 114=some 9:=by kernel_rfl
@[go_sem] theorem Tryz.xag114:Tryz.prog.aggT 114=some true:=by kernel_rfl
@[go_sem] theorem Tryz.xby114:Tryz.prog.bytesT 114=some 128:=by kernel_rfl
@[go_sem] theorem Tryz.xpl114:Tryz.prog.plT 114=some [(0,1),(1,2),(3,1),(4,1),(5,1),(6,1),(7,1),(8,1)]:=by kernel_rfl
@[go_sem] theorem Tryz.xze114:Tryz.prog.zeroT 114=some [Value.string ⟨#[]⟩,Value.int IntKind.i64 0,Value.int IntKind.i64 0,Value.int IntKind.i64 0,Value.int IntKind.i64 0,Value.slice none 0 0,Value.slice none 0 0,Value.slice none 0 0,Value.int IntKind.i64 0]:=by kernel_rfl
@[go_sem] theorem Tryz.xfl114_0:Tryz.prog.fldT 114 0=some (0,9):=by kernel_rfl
@[go_sem] theorem Tryz.xfl114_1:Tryz.prog.fldT 114 1=some (1,30):=by kernel_rfl
@[go_sem] theorem Tryz.xfl114_2:Tryz.prog.fldT 114 2=some (3,3):=by kernel_rfl
@[go_sem] theorem Tryz.xfl114_3:Tryz.prog.fldT 114 3=some (4,3):=by kernel_rfl
@[go_sem] theorem Tryz.xfl114_4:Tryz.prog.fldT 114 4=some (5,112):=by kernel_rfl
@[go_sem] theorem Tryz.xfl114_5:Tryz.prog.fldT 114 5=some (6,112):=by kernel_rfl
@[go_sem] theorem Tryz.xfl114_6:Tryz.prog.fldT 114 6=some (7,80):=by kernel_rfl
@[go_sem] theorem Tryz.xfl114_7:Tryz.prog.fldT 114 7=some (8,3):=by kernel_rfl
@[go_sem] theorem Tryz.xzk127:bV [Value.map none]=true:=by kernel_rfl
@[go_sem] theorem Tryz.xsz142:Tryz.prog.szT 142=some 1:=by kernel_rfl
@[go_sem] theorem Tryz.xag142:Tryz.prog.aggT 142=some false:=by kernel_rfl
@[go_sem] theorem Tryz.xmt142:Tryz.prog.mapT 142=some (9,82):=by kernel_rfl
@[go_sem] theorem Tryz.xz182:Tryz.prog.zero1 82=some (Value.agg #[Value.string ⟨#[]⟩,Value.int IntKind.u64 0,Value.int IntKind.i64 0,Value.int IntKind.i64 0,Value.int IntKind.i64 0,Value.int IntKind.i64 0,Value.bool false,Value.int IntKind.i64 0,Value.int IntKind.i64 0,Value.int IntKind.u8 0,Value.int IntKind.u8 0,Value.int IntKind.u8 0,Value.int IntKind.u8 0,Value.int IntKind.u8 0,Value.int IntKind.u8 0,Value.int IntKind.u8 0,Value.int IntKind.u8 0,Value.int IntKind.u8 0,Value.int IntKind.u8 0,Value.int IntKind.u8 0,Value.int IntKind.u8 0,Value.int IntKind.u8 0,Value.int IntKind.u8 0,Value.int IntKind.u8 0,Value.int IntKind.u8 0,Value.int IntKind.u8 0,Value.int IntKind.u8 0,Value.int IntKind.u8 0,Value.int IntKind.u8 0,Value.int IntKind.u8 0,Value.int IntKind.u8 0,Value.int IntKind.u8 0,Value.int IntKind.u8 0,Value.int IntKind.u8 0,Value.int IntKind.u8 0,Value.int IntKind.u8 0,Value.int IntKind.u8 0,Value.int IntKind.u8 0,Value.int IntKind.u8 0,Value.int IntKind.u8 0,Value.int IntKind.u8 0,Value.int IntKind.u8 0,Value.int IntKind.u8 0,Value.int IntKind.u8 0,Value.int IntKind.u8 0,Value.int IntKind.u8 0,Value.int IntKind.u8 0,Value.int IntKind.u8 0,Value.int IntKind.u8 0,Value.int IntKind.u8 0,Value.int IntKind.u8 0,Value.int IntKind.u8 0,Value.int IntKind.u8 0,Value.int IntKind.u8 0,Value.int IntKind.u8 0,Value.int IntKind.u8 0,Value.int IntKind.u8 0,Value.int IntKind.u8 0,Value.int IntKind.u8 0,Value.int IntKind.u8 0,Value.int IntKind.u8 0,Value.int IntKind.u8 0,Value.int IntKind.u8 0,Value.int IntKind.u8 0,Value.int IntKind.u8 0,Value.int IntKind.u8 0,Value.int IntKind.u8 0,Value.int IntKind.u8 0,Value.int IntKind.u8 0,Value.int IntKind.u8 0,Value.int IntKind.u8 0,Value.int IntKind.u8 0,Value.int IntKind.u8 0,Value.int IntKind.u8 0,Value.int IntKind.u8 0,Value.int IntKind.u8 0,Value.int IntKind.u8 0,Value.int IntKind.u8 0,Value.int IntKind.u8 0,Value.int IntKind.u8 0,Value.int IntKind.u8 0,Value.int IntKind.u8 0,Value.int IntKind.u8 0,Value.int IntKind.u8 0,Value.int IntKind.u8 0,Value.int IntKind.u8 0,Value.int IntKind.u8 0,Value.int IntKind.u8 0,Value.int IntKind.u8 0,Value.int IntKind.u8 0,Value.int IntKind.u8 0,Value.int IntKind.u8 0,Value.int IntKind.u8 0,Value.int IntKind.u8 0,Value.int IntKind.u8 0,Value.int IntKind.u8 0,Value.int IntKind.u8 0,Value.int IntKind.u8 0,Value.int IntKind.u8 0,Value.int IntKind.u8 0,Value.int IntKind.u8 0,Value.int IntKind.u8 0,Value.int IntKind.u8 0,Value.int IntKind.u8 0,Value.int IntKind.u8 0,Value.int IntKind.u8 0,Value.int IntKind.u8 0,Value.int IntKind.u8 0,Value.int IntKind.u8 0,Value.int IntKind.u8 0,Value.int IntKind.u8 0,Value.int IntKind.u8 0,Value.int IntKind.u8 0,Value.int IntKind.u8 0,Value.int IntKind.u8 0,Value.int IntKind.u8 0,Value.int IntKind.u8 0,Value.int IntKind.u8 0,Value.int IntKind.u8 0,Value.int IntKind.u8 0,Value.int IntKind.u8 0,Value.int IntKind.u8 0,Value.int IntKind.u8 0,Value.int IntKind.u8 0,Value.int IntKind.u8 0,Value.int IntKind.u8 0,Value.int IntKind.u8 0,Value.int IntKind.u8 0,Value.int IntKind.u8 0,Value.int IntKind.u8 0,Value.int IntKind.u8 0,Value.int IntKind.u8 0,Value.int IntKind.u8 0,Value.int IntKind.u8 0,Value.int IntKind.u8 0,Value.int IntKind.u8 0,Value.int IntKind.u8 0,Value.int IntKind.i64 0,Value.int IntKind.i64 0,Value.int IntKind.i64 0,Value.slice none 0 0]):=by kernel_rfl
@[go_sem] theorem Tryz.xsz143:Tryz.prog.szT 143=some 1:=by kernel_rfl
@[go_sem] theorem Tryz.xag143:Tryz.prog.aggT 143=some false:=by kernel_rfl
@[go_sem] theorem Tryz.xmt143:Tryz.prog.mapT 143=some (9,114):=by kernel_rfl
@[go_sem] theorem Tryz.xz1114:Tryz.prog.zero1 114=some (Value.agg #[Value.string ⟨#[]⟩,Value.int IntKind.i64 0,Value.int IntKind.i64 0,Value.int IntKind.i64 0,Value.int IntKind.i64 0,Value.slice none 0 0,Value.slice none 0 0,Value.slice none 0 0,Value.int IntKind.i64 0]):=by kernel_rfl
@[go_sem] theorem Tryz.xzk144:bV [Value.map none,Value.map none]=true:=by kernel_rfl
@[go_sem] theorem Tryz.xsz145:Tryz.prog.szT 145=some 2:=by kernel_rfl
@[go_sem] theorem Tryz.xag145:Tryz.prog.aggT 145=some true:=by kernel_rfl
@[go_sem] theorem Tryz.xpl145:Tryz.prog.plT 145=some [(0,1),(1,1)]:=by kernel_rfl
@[go_sem] theorem Tryz.xze145:Tryz.prog.zeroT 145=some [Value.map none,Value.map none]:=by kernel_rfl
@[go_sem] theorem Tryz.xfl145_0:Tryz.prog.fldT 145 0=some (0,142):=by kernel_rfl
@[go_sem] theorem Tryz.xfl145_1:Tryz.prog.fldT 145 1=some (1,143):=by kernel_rfl
@[go_sem] theorem Tryz.xsz148:Tryz.prog.szT 148=some 1:=by kernel_rfl
@[go_sem] theorem Tryz.xag148:Tryz.prog.aggT 148=some false:=by kernel_rfl
@[go_sem] theorem Tryz.xze148:Tryz.prog.zeroT 148=some [Value.map none]:=by kernel_rfl
@[go_sem] theorem Tryz.xmt148:Tryz.prog.mapT 148=some (9,4):=by kernel_rfl
@[go_sem] theorem Tryz.xel168:Tryz.prog.elemT 168=some 112:=by kernel_rfl
@[go_sem] theorem Tryz.xsz178:Tryz.prog.szT 178=some 1:=by kernel_rfl
@[go_sem] theorem Tryz.xag178:Tryz.prog.aggT 178=some false:=by kernel_rfl
@[go_sem] theorem Tryz.xmt178:Tryz.prog.mapT 178=some (9,2):=by kernel_rfl
@[go_sem] theorem Tryz.xz12:Tryz.prog.zero1 2=some (Value.int IntKind.i64 0):=by kernel_rfl
@[go_sem] theorem Tryz.xsz179:Tryz.prog.szT 179=some 1:=by kernel_rfl
@[go_sem] theorem Tryz.xag179:Tryz.prog.aggT 179=some false:=by kernel_rfl
@[go_sem] theorem Tryz.xmt179:Tryz.prog.mapT 179=some (9,235):=by kernel_rfl
@[go_sem] theorem Tryz.xz1235:Tryz.prog.zero1 235=some (Value.slice none 0 0):=by kernel_rfl
@[go_sem] theorem Tryz.xsz181:Tryz.prog.szT 181=some 2:=by kernel_rfl
@[go_sem] theorem Tryz.xag181:Tryz.prog.aggT 181=some true:=by kernel_rfl
@[go_sem] theorem Tryz.xpl181:Tryz.prog.plT 181=some [(0,1),(1,1)]:=by kernel_rfl
@[go_sem] theorem Tryz.xze181:Tryz.prog.zeroT 181=some [Value.map none,Value.map none]:=by kernel_rfl
@[go_sem] theorem Tryz.xfl181_0:Tryz.prog.fldT 181 0=some (0,178):=by kernel_rfl
@[go_sem] theorem Tryz.xfl181_1:Tryz.prog.fldT 181 1=some (1,179):=by kernel_rfl
@[go_sem] theorem Tryz.xsz197:Tryz.prog.szT 197=some 1:=by kernel_rfl
@[go_sem] theorem Tryz.xag197:Tryz.prog.aggT 197=some false:=by kernel_rfl
@[go_sem] theorem Tryz.xze197:Tryz.prog.zeroT 197=some [Value.nilFunc]:=by kernel_rfl
@[go_sem] theorem Tryz.xmt218:Tryz.prog.mapT 218=some (9,3):=by kernel_rfl
@[go_sem] theorem Tryz.xz13:Tryz.prog.zero1 3=some (Value.int IntKind.i64 0):=by kernel_rfl
@[go_sem] theorem Tryz.xel235:Tryz.prog.elemT 235=some 239:=by kernel_rfl
@[go_sem] theorem Tryz.xsz236:Tryz.prog.szT 236=some 1:=by kernel_rfl
@[go_sem] theorem Tryz.xag236:Tryz.prog.aggT 236=some false:=by kernel_rfl
@[go_sem] theorem Tryz.xel236:Tryz.prog.elemT 236=some 2:=by kernel_rfl
@[go_sem] theorem Tryz.xsz237:Tryz.prog.szT 237=some 1:=by kernel_rfl
@[go_sem] theorem Tryz.xag237:Tryz.prog.aggT 237=some false:=by kernel_rfl
@[go_sem] theorem Tryz.xel237:Tryz.prog.elemT 237=some 245:=by kernel_rfl
@[go_sem] theorem Tryz.xzk238:bV [Value.slice none 0 0,Value.slice none 0 0,Value.slice none 0 0]=true:=by kernel_rfl
@[go_sem] theorem Tryz.xsz239:Tryz.prog.szT 239=some 3:=by kernel_rfl
@[go_sem] theorem Tryz.xag239:Tryz.prog.aggT 239=some true:=by kernel_rfl
@[go_sem] theorem Tryz.xby239:Tryz.prog.bytesT 239=some 72:=by kernel_rfl
@[go_sem] theorem Tryz.xpl239:Tryz.prog.plT 239=some [(0,1),(1,1),(2,1)]:=by kernel_rfl
@[go_sem] theorem Tryz.xze239:Tryz.prog.zeroT 239=some [Value.slice none 0 0,Value.slice none 0 0,Value.slice none 0 0]:=by kernel_rfl
@[go_sem] theorem Tryz.xfl239_0:Tryz.prog.fldT 239 0=some (0,26):=by kernel_rfl
@[go_sem] theorem Tryz.xfl239_1:Tryz.prog.fldT 239 1=some (1,236):=by kernel_rfl
@[go_sem] theorem Tryz.xfl239_2:Tryz.prog.fldT 239 2=some (2,237):=by kernel_rfl
@[go_sem] theorem Tryz.xzk243:bV [Value.int IntKind.i64 0,Value.string ⟨#[]⟩,Value.int IntKind.i64 0,Value.int IntKind.i64 0,Value.int IntKind.i64 0,Value.int IntKind.i64 0,Value.bool false,Value.int IntKind.i64 0,Value.int IntKind.i64 0,Value.int IntKind.i64 0]=true:=by kernel_rfl
@[go_sem] theorem Tryz.xsz244:Tryz.prog.szT 244=some 10:=by kernel_rfl
@[go_sem] theorem Tryz.xag244:Tryz.prog.aggT 244=some true:=by kernel_rfl
@[go_sem] theorem Tryz.xpl244:Tryz.prog.plT 244=some [(0,7),(7,1),(8,1),(9,1)]:=by kernel_rfl
@[go_sem] theorem Tryz.xze244:Tryz.prog.zeroT 244=some [Value.int IntKind.i64 0,Value.string ⟨#[]⟩,Value.int IntKind.i64 0,Value.int IntKind.i64 0,Value.int IntKind.i64 0,Value.int IntKind.i64 0,Value.bool false,Value.int IntKind.i64 0,Value.int IntKind.i64 0,Value.int IntKind.i64 0]:=by kernel_rfl
@[go_sem] theorem Tryz.xfl244_0:Tryz.prog.fldT 244 0=some (0,101):=by kernel_rfl
@[go_sem] theorem Tryz.xfl244_1:Tryz.prog.fldT 244 1=some (7,2):=by kernel_rfl
@[go_sem] theorem Tryz.xfl244_2:Tryz.prog.fldT 244 2=some (8,2):=by kernel_rfl
@[go_sem] theorem Tryz.xfl244_3:Tryz.prog.fldT 244 3=some (9,2):=by kernel_rfl
@[go_sem] theorem Tryz.xsz245:Tryz.prog.szT 245=some 20:=by kernel_rfl
@[go_sem] theorem Tryz.xag245:Tryz.prog.aggT 245=some true:=by kernel_rfl
@[go_sem] theorem Tryz.xby245:Tryz.prog.bytesT 245=some 176:=by kernel_rfl
@[go_sem] theorem Tryz.xpl245:Tryz.prog.plT 245=some [(0,10),(10,10)]:=by kernel_rfl
@[go_sem] theorem Tryz.xze245:Tryz.prog.zeroT 245=some [Value.int IntKind.i64 0,Value.string ⟨#[]⟩,Value.int IntKind.i64 0,Value.int IntKind.i64 0,Value.int IntKind.i64 0,Value.int IntKind.i64 0,Value.bool false,Value.int IntKind.i64 0,Value.int IntKind.i64 0,Value.int IntKind.i64 0,Value.int IntKind.i64 0,Value.string ⟨#[]⟩,Value.int IntKind.i64 0,Value.int IntKind.i64 0,Value.int IntKind.i64 0,Value.int IntKind.i64 0,Value.bool false,Value.int IntKind.i64 0,Value.int IntKind.i64 0,Value.int IntKind.i64 0]:=by kernel_rfl
@[go_sem] theorem Tryz.xzk245:bV [Value.int IntKind.i64 0,Value.string ⟨#[]⟩,Value.int IntKind.i64 0,Value.int IntKind.i64 0,Value.int IntKind.i64 0,Value.int IntKind.i64 0,Value.bool false,Value.int IntKind.i64 0,Value.int IntKind.i64 0,Value.int IntKind.i64 0,Value.int IntKind.i64 0,Value.string ⟨#[]⟩,Value.int IntKind.i64 0,Value.int IntKind.i64 0,Value.int IntKind.i64 0,Value.int IntKind.i64 0,Value.bool false,Value.int IntKind.i64 0,Value.int IntKind.i64 0,Value.int IntKind.i64 0]=true:=by kernel_rfl
@[go_sem] theorem Tryz.xpl271:Tryz.prog.plT 271=some [(0,7),(7,7)]:=by kernel_rfl
@[go_sem] theorem Tryz.xze271:Tryz.prog.zeroT 271=some [Value.int IntKind.i64 0,Value.string ⟨#[]⟩,Value.int IntKind.i64 0,Value.int IntKind.i64 0,Value.int IntKind.i64 0,Value.int IntKind.i64 0,Value.bool false,Value.int IntKind.i64 0,Value.string ⟨#[]⟩,Value.int IntKind.i64 0,Value.int IntKind.i64 0,Value.int IntKind.i64 0,Value.int IntKind.i64 0,Value.bool false]:=by kernel_rfl
@[go_sem] theorem Tryz.xzk271:bV [Value.int IntKind.i64 0,Value.string ⟨#[]⟩,Value.int IntKind.i64 0,Value.int IntKind.i64 0,Value.int IntKind.i64 0,Value.int IntKind.i64 0,Value.bool false,Value.int IntKind.i64 0,Value.string ⟨#[]⟩,Value.int IntKind.i64 0,Value.int IntKind.i64 0,Value.int IntKind.i64 0,Value.int IntKind.i64 0,Value.bool false]=true:=by kernel_rfl
@[go_sem] theorem Tryz.xzk281:bV [Value.bool false,Value.int IntKind.u64 0,Value.int IntKind.u64 0]=true:=by kernel_rfl
@[go_sem] theorem Tryz.xsz282:Tryz.prog.szT 282=some 3:=by kernel_rfl
@[go_sem] theorem Tryz.xag282:Tryz.prog.aggT 282=some true:=by kernel_rfl
@[go_sem] theorem Tryz.xpl282:Tryz.prog.plT 282=some [(0,1),(1,1),(2,1)]:=by kernel_rfl
@[go_sem] theorem Tryz.xze282:Tryz.prog.zeroT 282=some [Value.bool false,Value.int IntKind.u64 0,Value.int IntKind.u64 0]:=by kernel_rfl
@[go_sem] theorem Tryz.xfl282_0:Tryz.prog.fldT 282 0=some (0,4):=by kernel_rfl
@[go_sem] theorem Tryz.xfl282_1:Tryz.prog.fldT 282 1=some (1,67):=by kernel_rfl
@[go_sem] theorem Tryz.xfl282_2:Tryz.prog.fldT 282 2=some (2,67):=by kernel_rfl
attribute [go_sem] Tryz.underlying0 Tryz.underlying1 Tryz.underlying2 Tryz.underlying3 Tryz.underlying4 Tryz.underlying5 Tryz.underlying6 Tryz.underlying7 Tryz.underlying8 Tryz.underlying9 Tryz.underlying10 Tryz.underlying11 Tryz.underlying12 Tryz.underlying13 Tryz.underlying14 Tryz.underlying15 Tryz.underlying16 Tryz.underlying17 Tryz.underlying18 Tryz.underlying19 Tryz.underlying20 Tryz.underlying21 Tryz.underlying22 Tryz.underlying23 Tryz.underlying24 Tryz.underlying25 Tryz.underlying26 Tryz.underlying27 Tryz.underlying28 Tryz.underlying29 Tryz.underlying30 Tryz.underlying31 Tryz.underlying32 Tryz.underlying33 Tryz.underlying34 Tryz.underlying35 Tryz.underlying36 Tryz.underlying37 Tryz.underlying38 Tryz.underlying39 Tryz.underlying40 Tryz.underlying41 Tryz.underlying42 Tryz.underlying43 Tryz.underlying44 Tryz.underlying45 Tryz.underlying46 Tryz.underlying47 Tryz.underlying48 Tryz.underlying49 Tryz.underlying50 Tryz.underlying51 Tryz.underlying52 Tryz.underlying53 Tryz.underlying54 Tryz.underlying55 Tryz.underlying56 Tryz.underlying57 Tryz.underlying58 Tryz.underlying59 Tryz.underlying60 Tryz.underlying61 Tryz.underlying62 Tryz.underlying63 Tryz.underlying64 Tryz.underlying65 Tryz.underlying66 Tryz.underlying67 Tryz.underlying68 Tryz.underlying69 Tryz.underlying70 Tryz.underlying71 Tryz.underlying72 Tryz.underlying73 Tryz.underlying74 Tryz.underlying75 Tryz.underlying76 Tryz.underlying77 Tryz.underlying78 Tryz.underlying79 Tryz.underlying80 Tryz.underlying81 Tryz.underlying82 Tryz.underlying83 Tryz.underlying84 Tryz.underlying85 Tryz.underlying86 Tryz.underlying87 Tryz.underlying88 Tryz.underlying89 Tryz.underlying90 Tryz.underlying91 Tryz.underlying92 Tryz.underlying93 Tryz.underlying94 Tryz.underlying95 Tryz.underlying96 Tryz.underlying97 Tryz.underlying98 Tryz.underlying99 Tryz.underlying100 Tryz.underlying101 Tryz.underlying102 Tryz.underlying103 Tryz.underlying104 Tryz.underlying105 Tryz.underlying106 Tryz.underlying107 Tryz.underlying108 Tryz.underlying109 Tryz.underlying110 Tryz.underlying111 Tryz.underlying112 Tryz.underlying113 Tryz.underlying114 Tryz.underlying115 Tryz.underlying116 Tryz.underlying117 Tryz.underlying118 Tryz.underlying119 Tryz.underlying120 Tryz.underlying121 Tryz.underlying122 Tryz.underlying123 Tryz.underlying124 Tryz.underlying125 Tryz.underlying126 Tryz.underlying127 Tryz.underlying128 Tryz.underlying129 Tryz.underlying130 Tryz.underlying131 Tryz.underlying132 Tryz.underlying133 Tryz.underlying134 Tryz.underlying135 Tryz.underlying136 Tryz.underlying137 Tryz.underlying138 Tryz.underlying139 Tryz.underlying140 Tryz.underlying141 Tryz.underlying142 Tryz.underlying143 Tryz.underlying144 Tryz.underlying145 Tryz.underlying146 Tryz.underlying147 Tryz.underlying148 Tryz.underlying149 Tryz.underlying150 Tryz.underlying151 Tryz.underlying152 Tryz.underlying153 Tryz.underlying154 Tryz.underlying155 Tryz.underlying156 Tryz.underlying157 Tryz.underlying158 Tryz.underlying159 Tryz.underlying160 Tryz.underlying161 Tryz.underlying162 Tryz.underlying163 Tryz.underlying164 Tryz.underlying165 Tryz.underlying166 Tryz.underlying167 Tryz.underlying168 Tryz.underlying169 Tryz.underlying170 Tryz.underlying171 Tryz.underlying172 Tryz.underlying173 Tryz.underlying174 Tryz.underlying175 Tryz.underlying176 Tryz.underlying177 Tryz.underlying178 Tryz.underlying179 Tryz.underlying180 Tryz.underlying181 Tryz.underlying182 Tryz.underlying183 Tryz.underlying184 Tryz.underlying185 Tryz.underlying186 Tryz.underlying187 Tryz.underlying188 Tryz.underlying189 Tryz.underlying190 Tryz.underlying191 Tryz.underlying192 Tryz.underlying193 Tryz.underlying194 Tryz.underlying195 Tryz.underlying196 Tryz.underlying197 Tryz.underlying198 Tryz.underlying199 Tryz.underlying200 Tryz.underlying201 Tryz.underlying202 Tryz.underlying203 Tryz.underlying204 Tryz.underlying205 Tryz.underlying206 Tryz.underlying207 Tryz.underlying208 Tryz.underlying209 Tryz.underlying210 Tryz.underlying211 Tryz.underlying212 Tryz.underlying213 Tryz.underlying214 Tryz.underlying215 Tryz.underlying216 Tryz.underlying217 Tryz.underlying218 Tryz.underlying219 Tryz.underlying220 Tryz.underlying221 Tryz.underlying222 Tryz.underlying223 Tryz.underlying224 Tryz.underlying225 Tryz.underlying226 Tryz.underlying227 Tryz.underlying228 Tryz.underlying229 Tryz.underlying230 Tryz.underlying231 Tryz.underlying232 Tryz.underlying233 Tryz.underlying234 Tryz.underlying235 Tryz.underlying236 Tryz.underlying237 Tryz.underlying238 Tryz.underlying239 Tryz.underlying240 Tryz.underlying241 Tryz.underlying242 Tryz.underlying243 Tryz.underlying244 Tryz.underlying245 Tryz.underlying246 Tryz.underlying247 Tryz.underlying248 Tryz.underlying249 Tryz.underlying250 Tryz.underlying251 Tryz.underlying252 Tryz.underlying253 Tryz.underlying254 Tryz.underlying255 Tryz.underlying256 Tryz.underlying257 Tryz.underlying258 Tryz.underlying259 Tryz.underlying260 Tryz.underlying261 Tryz.underlying262 Tryz.underlying263 Tryz.underlying264 Tryz.underlying265 Tryz.underlying266 Tryz.underlying267 Tryz.underlying268 Tryz.underlying269 Tryz.underlying270 Tryz.underlying271 Tryz.underlying272 Tryz.underlying273 Tryz.underlying274 Tryz.underlying275 Tryz.underlying276 Tryz.underlying277 Tryz.underlying278 Tryz.underlying279 Tryz.underlying280 Tryz.underlying281 Tryz.underlying282 Tryz.underlying283 Tryz.underlying284 Tryz.underlying285 Tryz.underlying286 Tryz.underlying287 Tryz.underlying288 Tryz.underlying289 Tryz.underlying290 Tryz.underlying291 Tryz.underlying292 Tryz.underlying293 Tryz.underlying294 Tryz.underlying295 Tryz.underlying296 Tryz.underlying297 Tryz.underlying298 Tryz.underlying299 Tryz.underlying300 Tryz.underlying301 Tryz.underlying302 Tryz.underlying303 Tryz.underlying304 Tryz.underlying305 Tryz.underlying306 Tryz.underlying307 Tryz.underlying308 Tryz.underlying309 Tryz.underlying310 Tryz.underlying311 Tryz.underlying312 Tryz.underlying313 Tryz.underlying314 Tryz.underlying315 Tryz.underlying316 Tryz.underlying317 Tryz.underlying318 Tryz.underlying319 Tryz.underlying320 Tryz.underlying321 Tryz.underlying322 Tryz.underlying323 Tryz.underlying324 Tryz.underlying325 Tryz.underlying326 Tryz.underlying327 Tryz.underlying328 Tryz.underlying329 Tryz.underlying330 Tryz.underlying331 Tryz.underlying332 Tryz.underlying333 Tryz.underlying334 Tryz.underlying335 Tryz.underlying336 Tryz.underlying337 Tryz.underlying338 Tryz.underlying339
@[go_sem] theorem Tryz.xio2:Tryz.prog.ioF 2=false:=by kernel_rfl
@[go_sem] theorem Tryz.xio3:Tryz.prog.ioF 3=false:=by kernel_rfl
theorem Tryz.X3:Tryz.prog.enters 3=true:=by kernel_rfl
@[go_sem] theorem Tryz.xio4:Tryz.prog.ioF 4=false:=by kernel_rfl
@[go_sem] theorem Tryz.xio5:Tryz.prog.ioF 5=false:=by kernel_rfl
@[go_sem] theorem Tryz.xio6:Tryz.prog.ioF 6=false:=by kernel_rfl
@[go_sem] theorem Tryz.xio7:Tryz.prog.ioF 7=false:=by kernel_rfl
@[go_sem] theorem Tryz.xio8:Tryz.prog.ioF 8=false:=by kernel_rfl
@[go_sem] theorem Tryz.xio9:Tryz.prog.ioF 9=false:=by kernel_rfl
@[go_sem] theorem Tryz.xio10:Tryz.prog.ioF 10=true:=by kernel_rfl
theorem Tryz.X10:Tryz.prog.enters 10=true:=by kernel_rfl
@[go_sem] theorem Tryz.xio11:Tryz.prog.ioF 11=true:=by kernel_rfl
theorem Tryz.X11:Tryz.prog.enters 11=true:=by kernel_rfl
@[go_sem] theorem Tryz.xio12:Tryz.prog.ioF 12=false:=by kernel_rfl
theorem Tryz.X12:Tryz.prog.enters 12=true:=by kernel_rfl
@[go_sem] theorem Tryz.xio13:Tryz.prog.ioF 13=false:=by kernel_rfl
theorem Tryz.X13:Tryz.prog.enters 13=true:=by kernel_rfl
@[go_sem] theorem Tryz.xio14:Tryz.prog.ioF 14=false:=by kernel_rfl
theorem Tryz.X14:Tryz.prog.enters 14=true:=by kernel_rfl
@[go_sem] theorem Tryz.xio15:Tryz.prog.ioF 15=false:=by kernel_rfl
theorem Tryz.X15:Tryz.prog.enters 15=true:=by kernel_rfl
@[go_sem] theorem Tryz.xio16:Tryz.prog.ioF 16=false:=by kernel_rfl
theorem Tryz.X16:Tryz.prog.enters 16=true:=by kernel_rfl
@[go_sem] theorem Tryz.xio17:Tryz.prog.ioF 17=true:=by kernel_rfl
@[go_sem] theorem Tryz.xio18:Tryz.prog.ioF 18=false:=by kernel_rfl
@[go_sem] theorem Tryz.xio19:Tryz.prog.ioF 19=false:=by kernel_rfl
@[go_sem] theorem Tryz.xio20:Tryz.prog.ioF 20=false:=by kernel_rfl
@[go_sem] theorem Tryz.xio21:Tryz.prog.ioF 21=false:=by kernel_rfl
@[go_sem] theorem Tryz.xio22:Tryz.prog.ioF 22=false:=by kernel_rfl
@[go_sem] theorem Tryz.xio23:Tryz.prog.ioF 23=false:=by kernel_rfl
@[go_sem] theorem Tryz.xio24:Tryz.prog.ioF 24=false:=by kernel_rfl
@[go_sem] theorem Tryz.xio25:Tryz.prog.ioF 25=false:=by kernel_rfl
@[go_sem] theorem Tryz.xio26:Tryz.prog.ioF 26=false:=by kernel_rfl
@[go_sem] theorem Tryz.xio27:Tryz.prog.ioF 27=false:=by kernel_rfl
@[go_sem] theorem Tryz.xio28:Tryz.prog.ioF 28=true:=by kernel_rfl
theorem Tryz.X28:Tryz.prog.enters 28=true:=by kernel_rfl
@[go_sem] theorem Tryz.xio29:Tryz.prog.ioF 29=false:=by kernel_rfl
@[go_sem] theorem Tryz.xio30:Tryz.prog.ioF 30=false:=by kernel_rfl
@[go_sem] theorem Tryz.xio31:Tryz.prog.ioF 31=false:=by kernel_rfl
@[go_sem] theorem Tryz.xio32:Tryz.prog.ioF 32=false:=by kernel_rfl
@[go_sem] theorem Tryz.xio33:Tryz.prog.ioF 33=false:=by kernel_rfl
@[go_sem] theorem Tryz.xio34:Tryz.prog.ioF 34=false:=by kernel_rfl
@[go_sem] theorem Tryz.xio35:Tryz.prog.ioF 35=false:=by kernel_rfl
@[go_sem] theorem Tryz.xio36:Tryz.prog.ioF 36=false:=by kernel_rfl
@[go_sem] theorem Tryz.xio37:Tryz.prog.ioF 37=true:=by kernel_rfl
theorem Tryz.X37:Tryz.prog.enters 37=true:=by kernel_rfl
@[go_sem] theorem Tryz.xio38:Tryz.prog.ioF 38=true:=by kernel_rfl
theorem Tryz.X38:Tryz.prog.enters 38=true:=by kernel_rfl
@[go_sem] theorem Tryz.xio39:Tryz.prog.ioF 39=true:=by kernel_rfl
theorem Tryz.X39:Tryz.prog.enters 39=true:=by kernel_rfl
@[go_sem] theorem Tryz.xio40:Tryz.prog.ioF 40=false:=by kernel_rfl
theorem Tryz.X40:Tryz.prog.enters 40=true:=by kernel_rfl
@[go_sem] theorem Tryz.xio41:Tryz.prog.ioF 41=false:=by kernel_rfl
theorem Tryz.X41:Tryz.prog.enters 41=true:=by kernel_rfl
@[go_sem] theorem Tryz.xio42:Tryz.prog.ioF 42=true:=by kernel_rfl
theorem Tryz.X42:Tryz.prog.enters 42=true:=by kernel_rfl
@[go_sem] theorem Tryz.xio43:Tryz.prog.ioF 43=true:=by kernel_rfl
theorem Tryz.X43:Tryz.prog.enters 43=true:=by kernel_rfl
@[go_sem] theorem Tryz.xio44:Tryz.prog.ioF 44=false:=by kernel_rfl
theorem Tryz.X44:Tryz.prog.enters 44=true:=by kernel_rfl
@[go_sem] theorem Tryz.xio45:Tryz.prog.ioF 45=false:=by kernel_rfl
theorem Tryz.X45:Tryz.prog.enters 45=true:=by kernel_rfl
@[go_sem] theorem Tryz.xio46:Tryz.prog.ioF 46=false:=by kernel_rfl
theorem Tryz.X46:Tryz.prog.enters 46=true:=by kernel_rfl
@[go_sem] theorem Tryz.xio47:Tryz.prog.ioF 47=false:=by kernel_rfl
theorem Tryz.X47:Tryz.prog.enters 47=true:=by kernel_rfl
@[go_sem] theorem Tryz.xio48:Tryz.prog.ioF 48=false:=by kernel_rfl
theorem Tryz.X48:Tryz.prog.enters 48=true:=by kernel_rfl
@[go_sem] theorem Tryz.xio49:Tryz.prog.ioF 49=false:=by kernel_rfl
theorem Tryz.X49:Tryz.prog.enters 49=true:=by kernel_rfl
@[go_sem] theorem Tryz.xio50:Tryz.prog.ioF 50=false:=by kernel_rfl
theorem Tryz.X50:Tryz.prog.enters 50=true:=by kernel_rfl
@[go_sem] theorem Tryz.xio51:Tryz.prog.ioF 51=false:=by kernel_rfl
theorem Tryz.X51:Tryz.prog.enters 51=true:=by kernel_rfl
@[go_sem] theorem Tryz.xio52:Tryz.prog.ioF 52=false:=by kernel_rfl
theorem Tryz.X52:Tryz.prog.enters 52=true:=by kernel_rfl
@[go_sem] theorem Tryz.xio53:Tryz.prog.ioF 53=false:=by kernel_rfl
theorem Tryz.X53:Tryz.prog.enters 53=true:=by kernel_rfl
@[go_sem] theorem Tryz.xio54:Tryz.prog.ioF 54=false:=by kernel_rfl
@[go_sem] theorem Tryz.xio55:Tryz.prog.ioF 55=true:=by kernel_rfl
@[go_sem] theorem Tryz.xio56:Tryz.prog.ioF 56=false:=by kernel_rfl
@[go_sem] theorem Tryz.xio57:Tryz.prog.ioF 57=false:=by kernel_rfl
@[go_sem] theorem Tryz.xio58:Tryz.prog.ioF 58=false:=by kernel_rfl
@[go_sem] theorem Tryz.xio59:Tryz.prog.ioF 59=false:=by kernel_rfl
theorem Tryz.X59:Tryz.prog.enters 59=true:=by kernel_rfl
@[go_sem] theorem Tryz.xio60:Tryz.prog.ioF 60=true:=by kernel_rfl
@[go_sem] theorem Tryz.xio61:Tryz.prog.ioF 61=false:=by kernel_rfl
@[go_sem] theorem Tryz.xio62:Tryz.prog.ioF 62=false:=by kernel_rfl
@[go_sem] theorem Tryz.xio63:Tryz.prog.ioF 63=false:=by kernel_rfl
@[go_sem] theorem Tryz.xio64:Tryz.prog.ioF 64=false:=by kernel_rfl
@[go_sem] theorem Tryz.xio65:Tryz.prog.ioF 65=false:=by kernel_rfl
@[go_sem] theorem Tryz.xio66:Tryz.prog.ioF 66=false:=by kernel_rfl
@[go_sem] theorem Tryz.xio67:Tryz.prog.ioF 67=false:=by kernel_rfl
@[go_sem] theorem Tryz.xio68:Tryz.prog.ioF 68=false:=by kernel_rfl
@[go_sem] theorem Tryz.xio69:Tryz.prog.ioF 69=false:=by kernel_rfl
@[go_sem] theorem Tryz.xio70:Tryz.prog.ioF 70=false:=by kernel_rfl
theorem Tryz.X70:Tryz.prog.enters 70=true:=by kernel_rfl
@[go_sem] theorem Tryz.xio71:Tryz.prog.ioF 71=true:=by kernel_rfl
theorem Tryz.X71:Tryz.prog.enters 71=true:=by kernel_rfl
@[go_sem] theorem Tryz.xio72:Tryz.prog.ioF 72=false:=by kernel_rfl
@[go_sem] theorem Tryz.xio73:Tryz.prog.ioF 73=true:=by kernel_rfl
theorem Tryz.X73:Tryz.prog.enters 73=true:=by kernel_rfl
@[go_sem] theorem Tryz.xio74:Tryz.prog.ioF 74=false:=by kernel_rfl
@[go_sem] theorem Tryz.xio75:Tryz.prog.ioF 75=false:=by kernel_rfl
@[go_sem] theorem Tryz.xio76:Tryz.prog.ioF 76=true:=by kernel_rfl
@[go_sem] theorem Tryz.xio77:Tryz.prog.ioF 77=true:=by kernel_rfl
@[go_sem] theorem Tryz.xio78:Tryz.prog.ioF 78=false:=by kernel_rfl
@[go_sem] theorem Tryz.xio79:Tryz.prog.ioF 79=false:=by kernel_rfl
@[go_sem] theorem Tryz.xio80:Tryz.prog.ioF 80=true:=by kernel_rfl
@[go_sem] theorem Tryz.xio81:Tryz.prog.ioF 81=true:=by kernel_rfl
@[go_sem] theorem Tryz.xio82:Tryz.prog.ioF 82=false:=by kernel_rfl
@[go_sem] theorem Tryz.xio83:Tryz.prog.ioF 83=true:=by kernel_rfl
@[go_sem] theorem Tryz.xio84:Tryz.prog.ioF 84=false:=by kernel_rfl
@[go_sem] theorem Tryz.xio85:Tryz.prog.ioF 85=false:=by kernel_rfl
@[go_sem] theorem Tryz.xio86:Tryz.prog.ioF 86=false:=by kernel_rfl
@[go_sem] theorem Tryz.xio87:Tryz.prog.ioF 87=false:=by kernel_rfl
@[go_sem] theorem Tryz.xio88:Tryz.prog.ioF 88=false:=by kernel_rfl
@[go_sem] theorem Tryz.xio89:Tryz.prog.ioF 89=false:=by kernel_rfl
theorem Tryz.X89:Tryz.prog.enters 89=true:=by kernel_rfl
@[go_sem] theorem Tryz.xio90:Tryz.prog.ioF 90=false:=by kernel_rfl
@[go_sem] theorem Tryz.xio91:Tryz.prog.ioF 91=false:=by kernel_rfl
@[go_sem] theorem Tryz.xio92:Tryz.prog.ioF 92=false:=by kernel_rfl
theorem Tryz.X92:Tryz.prog.enters 92=true:=by kernel_rfl
@[go_sem] theorem Tryz.xio93:Tryz.prog.ioF 93=false:=by kernel_rfl
@[go_sem] theorem Tryz.xio94:Tryz.prog.ioF 94=true:=by kernel_rfl
theorem Tryz.X94:Tryz.prog.enters 94=true:=by kernel_rfl
@[go_sem] theorem Tryz.xio95:Tryz.prog.ioF 95=false:=by kernel_rfl
theorem Tryz.X95:Tryz.prog.enters 95=true:=by kernel_rfl
@[go_sem] theorem Tryz.xio96:Tryz.prog.ioF 96=false:=by kernel_rfl
@[go_sem] theorem Tryz.xio97:Tryz.prog.ioF 97=false:=by kernel_rfl
@[go_sem] theorem Tryz.xio98:Tryz.prog.ioF 98=false:=by kernel_rfl
@[go_sem] theorem Tryz.xio99:Tryz.prog.ioF 99=true:=by kernel_rfl
theorem Tryz.X99:Tryz.prog.enters 99=true:=by kernel_rfl
@[go_sem] theorem Tryz.xio100:Tryz.prog.ioF 100=false:=by kernel_rfl
theorem Tryz.X100:Tryz.prog.enters 100=true:=by kernel_rfl
@[go_sem] theorem Tryz.xio101:Tryz.prog.ioF 101=false:=by kernel_rfl
theorem Tryz.X101:Tryz.prog.enters 101=true:=by kernel_rfl
@[go_sem] theorem Tryz.xio102:Tryz.prog.ioF 102=false:=by kernel_rfl
theorem Tryz.X102:Tryz.prog.enters 102=true:=by kernel_rfl
@[go_sem] theorem Tryz.xio103:Tryz.prog.ioF 103=false:=by kernel_rfl
theorem Tryz.X103:Tryz.prog.enters 103=true:=by kernel_rfl
@[go_sem] theorem Tryz.xio104:Tryz.prog.ioF 104=false:=by kernel_rfl
theorem Tryz.X104:Tryz.prog.enters 104=true:=by kernel_rfl
@[go_sem] theorem Tryz.xio105:Tryz.prog.ioF 105=false:=by kernel_rfl
theorem Tryz.X105:Tryz.prog.enters 105=true:=by kernel_rfl
@[go_sem] theorem Tryz.xio106:Tryz.prog.ioF 106=true:=by kernel_rfl
theorem Tryz.X106:Tryz.prog.enters 106=true:=by kernel_rfl
@[go_sem] theorem Tryz.xio107:Tryz.prog.ioF 107=false:=by kernel_rfl
theorem Tryz.X107:Tryz.prog.enters 107=true:=by kernel_rfl
@[go_sem] theorem Tryz.xio108:Tryz.prog.ioF 108=false:=by kernel_rfl
theorem Tryz.X108:Tryz.prog.enters 108=true:=by kernel_rfl
@[go_sem] theorem Tryz.xio109:Tryz.prog.ioF 109=false:=by kernel_rfl
theorem Tryz.X109:Tryz.prog.enters 109=true:=by kernel_rfl
@[go_sem] theorem Tryz.xio110:Tryz.prog.ioF 110=false:=by kernel_rfl
theorem Tryz.X110:Tryz.prog.enters 110=true:=by kernel_rfl
@[go_sem] theorem Tryz.xio111:Tryz.prog.ioF 111=true:=by kernel_rfl
theorem Tryz.X111:Tryz.prog.enters 111=true:=by kernel_rfl
@[go_sem] theorem Tryz.xio112:Tryz.prog.ioF 112=false:=by kernel_rfl
theorem Tryz.X112:Tryz.prog.enters 112=true:=by kernel_rfl
@[go_sem] theorem Tryz.xio113:Tryz.prog.ioF 113=false:=by kernel_rfl
theorem Tryz.X113:Tryz.prog.enters 113=true:=by kernel_rfl
@[go_sem] theorem Tryz.xio114:Tryz.prog.ioF 114=false:=by kernel_rfl
theorem Tryz.X114:Tryz.prog.enters 114=true:=by kernel_rfl
@[go_sem] theorem Tryz.xio115:Tryz.prog.ioF 115=false:=by kernel_rfl
theorem Tryz.X115:Tryz.prog.enters 115=true:=by kernel_rfl
@[go_sem] theorem Tryz.xio116:Tryz.prog.ioF 116=false:=by kernel_rfl
theorem Tryz.X116:Tryz.prog.enters 116=true:=by kernel_rfl
@[go_sem] theorem Tryz.xio117:Tryz.prog.ioF 117=false:=by kernel_rfl
theorem Tryz.X117:Tryz.prog.enters 117=true:=by kernel_rfl
@[go_sem] theorem Tryz.xio118:Tryz.prog.ioF 118=false:=by kernel_rfl
theorem Tryz.X118:Tryz.prog.enters 118=true:=by kernel_rfl
@[go_sem] theorem Tryz.xio119:Tryz.prog.ioF 119=false:=by kernel_rfl
theorem Tryz.X119:Tryz.prog.enters 119=true:=by kernel_rfl
@[go_sem] theorem Tryz.xio120:Tryz.prog.ioF 120=false:=by kernel_rfl
theorem Tryz.X120:Tryz.prog.enters 120=true:=by kernel_rfl
@[go_sem] theorem Tryz.xio121:Tryz.prog.ioF 121=true:=by kernel_rfl
theorem Tryz.X121:Tryz.prog.enters 121=true:=by kernel_rfl
@[go_sem] theorem Tryz.xio122:Tryz.prog.ioF 122=false:=by kernel_rfl
theorem Tryz.X122:Tryz.prog.enters 122=true:=by kernel_rfl
@[go_sem] theorem Tryz.xio123:Tryz.prog.ioF 123=false:=by kernel_rfl
@[go_sem] theorem Tryz.xio124:Tryz.prog.ioF 124=false:=by kernel_rfl
theorem Tryz.X124:Tryz.prog.enters 124=true:=by kernel_rfl
@[go_sem] theorem Tryz.xio125:Tryz.prog.ioF 125=false:=by kernel_rfl
@[go_sem] theorem Tryz.xio126:Tryz.prog.ioF 126=false:=by kernel_rfl
@[go_sem] theorem Tryz.xio127:Tryz.prog.ioF 127=false:=by kernel_rfl
@[go_sem] theorem Tryz.xio128:Tryz.prog.ioF 128=false:=by kernel_rfl
@[go_sem] theorem Tryz.xio129:Tryz.prog.ioF 129=false:=by kernel_rfl
@[go_sem] theorem Tryz.xio130:Tryz.prog.ioF 130=false:=by kernel_rfl
@[go_sem] theorem Tryz.xio131:Tryz.prog.ioF 131=false:=by kernel_rfl
@[go_sem] theorem Tryz.xio132:Tryz.prog.ioF 132=false:=by kernel_rfl
@[go_sem] theorem Tryz.xio133:Tryz.prog.ioF 133=false:=by kernel_rfl
@[go_sem] theorem Tryz.xio134:Tryz.prog.ioF 134=false:=by kernel_rfl
@[go_sem] theorem Tryz.xio135:Tryz.prog.ioF 135=false:=by kernel_rfl
@[go_sem] theorem Tryz.xio136:Tryz.prog.ioF 136=false:=by kernel_rfl
@[go_sem] theorem Tryz.xio137:Tryz.prog.ioF 137=false:=by kernel_rfl
@[go_sem] theorem Tryz.xio138:Tryz.prog.ioF 138=false:=by kernel_rfl
theorem Tryz.X138:Tryz.prog.enters 138=true:=by kernel_rfl
@[go_sem] theorem Tryz.xio139:Tryz.prog.ioF 139=false:=by kernel_rfl
theorem Tryz.X139:Tryz.prog.enters 139=true:=by kernel_rfl
@[go_sem] theorem Tryz.xio140:Tryz.prog.ioF 140=false:=by kernel_rfl
theorem Tryz.X140:Tryz.prog.enters 140=true:=by kernel_rfl
@[go_sem] theorem Tryz.xio141:Tryz.prog.ioF 141=false:=by kernel_rfl
theorem Tryz.X141:Tryz.prog.enters 141=true:=by kernel_rfl
@[go_sem] theorem Tryz.xio142:Tryz.prog.ioF 142=false:=by kernel_rfl
theorem Tryz.X142:Tryz.prog.enters 142=true:=by kernel_rfl
@[go_sem] theorem Tryz.xio143:Tryz.prog.ioF 143=false:=by kernel_rfl
theorem Tryz.X143:Tryz.prog.enters 143=true:=by kernel_rfl
@[go_sem] theorem Tryz.xio144:Tryz.prog.ioF 144=false:=by kernel_rfl
theorem Tryz.X144:Tryz.prog.enters 144=true:=by kernel_rfl
@[go_sem] theorem Tryz.xio145:Tryz.prog.ioF 145=false:=by kernel_rfl
theorem Tryz.X145:Tryz.prog.enters 145=true:=by kernel_rfl
@[go_sem] theorem Tryz.xio146:Tryz.prog.ioF 146=false:=by kernel_rfl
theorem Tryz.X146:Tryz.prog.enters 146=true:=by kernel_rfl
@[go_sem] theorem Tryz.xio147:Tryz.prog.ioF 147=false:=by kernel_rfl
@[go_sem] theorem Tryz.xio148:Tryz.prog.ioF 148=false:=by kernel_rfl
@[go_sem] theorem Tryz.xio149:Tryz.prog.ioF 149=false:=by kernel_rfl
@[go_sem] theorem Tryz.xio150:Tryz.prog.ioF 150=false:=by kernel_rfl
@[go_sem] theorem Tryz.xio151:Tryz.prog.ioF 151=false:=by kernel_rfl
@[go_sem] theorem Tryz.xio152:Tryz.prog.ioF 152=false:=by kernel_rfl
@[go_sem] theorem Tryz.xio153:Tryz.prog.ioF 153=true:=by kernel_rfl
@[go_sem] theorem Tryz.xio154:Tryz.prog.ioF 154=true:=by kernel_rfl
@[go_sem] theorem Tryz.xio155:Tryz.prog.ioF 155=true:=by kernel_rfl
@[go_sem] theorem Tryz.xio156:Tryz.prog.ioF 156=true:=by kernel_rfl
@[go_sem] theorem Tryz.xio157:Tryz.prog.ioF 157=false:=by kernel_rfl
@[go_sem] theorem Tryz.xio158:Tryz.prog.ioF 158=false:=by kernel_rfl
@[go_sem] theorem Tryz.xio159:Tryz.prog.ioF 159=false:=by kernel_rfl
@[go_sem] theorem Tryz.xio160:Tryz.prog.ioF 160=false:=by kernel_rfl
@[go_sem] theorem Tryz.xio161:Tryz.prog.ioF 161=false:=by kernel_rfl
@[go_sem] theorem Tryz.xio162:Tryz.prog.ioF 162=false:=by kernel_rfl
theorem Tryz.X162:Tryz.prog.enters 162=true:=by kernel_rfl
@[go_sem] theorem Tryz.xio163:Tryz.prog.ioF 163=false:=by kernel_rfl
theorem Tryz.X163:Tryz.prog.enters 163=true:=by kernel_rfl
@[go_sem] theorem Tryz.xio164:Tryz.prog.ioF 164=false:=by kernel_rfl
theorem Tryz.X164:Tryz.prog.enters 164=true:=by kernel_rfl
@[go_sem] theorem Tryz.xio165:Tryz.prog.ioF 165=false:=by kernel_rfl
theorem Tryz.X165:Tryz.prog.enters 165=true:=by kernel_rfl
@[go_sem] theorem Tryz.xio166:Tryz.prog.ioF 166=false:=by kernel_rfl
theorem Tryz.X166:Tryz.prog.enters 166=true:=by kernel_rfl
@[go_sem] theorem Tryz.xio167:Tryz.prog.ioF 167=false:=by kernel_rfl
@[go_sem] theorem Tryz.xio168:Tryz.prog.ioF 168=false:=by kernel_rfl
theorem Tryz.X168:Tryz.prog.enters 168=true:=by kernel_rfl
@[go_sem] theorem Tryz.xio169:Tryz.prog.ioF 169=false:=by kernel_rfl
theorem Tryz.X169:Tryz.prog.enters 169=true:=by kernel_rfl
@[go_sem] theorem Tryz.xio170:Tryz.prog.ioF 170=false:=by kernel_rfl
theorem Tryz.X170:Tryz.prog.enters 170=true:=by kernel_rfl
@[go_sem] theorem Tryz.xio171:Tryz.prog.ioF 171=false:=by kernel_rfl
theorem Tryz.X171:Tryz.prog.enters 171=true:=by kernel_rfl
@[go_sem] theorem Tryz.xio172:Tryz.prog.ioF 172=false:=by kernel_rfl
@[go_sem] theorem Tryz.xio173:Tryz.prog.ioF 173=true:=by kernel_rfl
@[go_sem] theorem Tryz.xio174:Tryz.prog.ioF 174=false:=by kernel_rfl
theorem Tryz.X174:Tryz.prog.enters 174=true:=by kernel_rfl
@[go_sem] theorem Tryz.xio175:Tryz.prog.ioF 175=true:=by kernel_rfl
theorem Tryz.X175:Tryz.prog.enters 175=true:=by kernel_rfl
@[go_sem] theorem Tryz.xio176:Tryz.prog.ioF 176=false:=by kernel_rfl
theorem Tryz.X176:Tryz.prog.enters 176=true:=by kernel_rfl
@[go_sem] theorem Tryz.xio177:Tryz.prog.ioF 177=false:=by kernel_rfl
theorem Tryz.X177:Tryz.prog.enters 177=true:=by kernel_rfl
@[go_sem] theorem Tryz.xio178:Tryz.prog.ioF 178=false:=by kernel_rfl
theorem Tryz.X178:Tryz.prog.enters 178=true:=by kernel_rfl
@[go_sem] theorem Tryz.xio179:Tryz.prog.ioF 179=false:=by kernel_rfl
theorem Tryz.X179:Tryz.prog.enters 179=true:=by kernel_rfl
@[go_sem] theorem Tryz.xio180:Tryz.prog.ioF 180=false:=by kernel_rfl
theorem Tryz.X180:Tryz.prog.enters 180=true:=by kernel_rfl
@[go_sem] theorem Tryz.xio181:Tryz.prog.ioF 181=false:=by kernel_rfl
theorem Tryz.X181:Tryz.prog.enters 181=true:=by kernel_rfl
@[go_sem] theorem Tryz.xio182:Tryz.prog.ioF 182=false:=by kernel_rfl
theorem Tryz.X182:Tryz.prog.enters 182=true:=by kernel_rfl
@[go_sem] theorem Tryz.xio183:Tryz.prog.ioF 183=true:=by kernel_rfl
theorem Tryz.X183:Tryz.prog.enters 183=true:=by kernel_rfl
@[go_sem] theorem Tryz.xio184:Tryz.prog.ioF 184=false:=by kernel_rfl
theorem Tryz.X184:Tryz.prog.enters 184=true:=by kernel_rfl
@[go_sem] theorem Tryz.xio185:Tryz.prog.ioF 185=false:=by kernel_rfl
theorem Tryz.X185:Tryz.prog.enters 185=true:=by kernel_rfl
@[go_sem] theorem Tryz.xio186:Tryz.prog.ioF 186=false:=by kernel_rfl
theorem Tryz.X186:Tryz.prog.enters 186=true:=by kernel_rfl
@[go_sem] theorem Tryz.xio187:Tryz.prog.ioF 187=false:=by kernel_rfl
theorem Tryz.X187:Tryz.prog.enters 187=true:=by kernel_rfl
@[go_sem] theorem Tryz.xio188:Tryz.prog.ioF 188=false:=by kernel_rfl
@[go_sem] theorem Tryz.xio189:Tryz.prog.ioF 189=true:=by kernel_rfl
@[go_sem] theorem Tryz.xio190:Tryz.prog.ioF 190=false:=by kernel_rfl
@[go_sem] theorem Tryz.xio191:Tryz.prog.ioF 191=false:=by kernel_rfl
@[go_sem] theorem Tryz.xio192:Tryz.prog.ioF 192=false:=by kernel_rfl
@[go_sem] theorem Tryz.xio193:Tryz.prog.ioF 193=false:=by kernel_rfl
@[go_sem] theorem Tryz.xio194:Tryz.prog.ioF 194=false:=by kernel_rfl
@[go_sem] theorem Tryz.xio195:Tryz.prog.ioF 195=false:=by kernel_rfl
theorem Tryz.X195:Tryz.prog.enters 195=true:=by kernel_rfl
@[go_sem] theorem Tryz.xio196:Tryz.prog.ioF 196=false:=by kernel_rfl
theorem Tryz.X196:Tryz.prog.enters 196=true:=by kernel_rfl
@[go_sem] theorem Tryz.xio197:Tryz.prog.ioF 197=false:=by kernel_rfl
theorem Tryz.X197:Tryz.prog.enters 197=true:=by kernel_rfl
@[go_sem] theorem Tryz.xio198:Tryz.prog.ioF 198=false:=by kernel_rfl
theorem Tryz.X198:Tryz.prog.enters 198=true:=by kernel_rfl
@[go_sem] theorem Tryz.xio199:Tryz.prog.ioF 199=false:=by kernel_rfl
theorem Tryz.X199:Tryz.prog.enters 199=true:=by kernel_rfl
@[go_sem] theorem Tryz.xio200:Tryz.prog.ioF 200=false:=by kernel_rfl
theorem Tryz.X200:Tryz.prog.enters 200=true:=by kernel_rfl
@[go_sem] theorem Tryz.xio201:Tryz.prog.ioF 201=false:=by kernel_rfl
theorem Tryz.X201:Tryz.prog.enters 201=true:=by kernel_rfl
@[go_sem] theorem Tryz.xio202:Tryz.prog.ioF 202=false:=by kernel_rfl
theorem Tryz.X202:Tryz.prog.enters 202=true:=by kernel_rfl
@[go_sem] theorem Tryz.xio203:Tryz.prog.ioF 203=false:=by kernel_rfl
theorem Tryz.X203:Tryz.prog.enters 203=true:=by kernel_rfl
@[go_sem] theorem Tryz.xio204:Tryz.prog.ioF 204=false:=by kernel_rfl
theorem Tryz.X204:Tryz.prog.enters 204=true:=by kernel_rfl
@[go_sem] theorem Tryz.xio205:Tryz.prog.ioF 205=false:=by kernel_rfl
theorem Tryz.X205:Tryz.prog.enters 205=true:=by kernel_rfl
@[go_sem] theorem Tryz.xio206:Tryz.prog.ioF 206=true:=by kernel_rfl
theorem Tryz.X206:Tryz.prog.enters 206=true:=by kernel_rfl
@[go_sem] theorem Tryz.xio207:Tryz.prog.ioF 207=true:=by kernel_rfl
@[go_sem] theorem Tryz.xio208:Tryz.prog.ioF 208=true:=by kernel_rfl
@[go_sem] theorem Tryz.xio209:Tryz.prog.ioF 209=true:=by kernel_rfl
@[go_sem] theorem Tryz.xio210:Tryz.prog.ioF 210=true:=by kernel_rfl
@[go_sem] theorem Tryz.xio211:Tryz.prog.ioF 211=true:=by kernel_rfl
@[go_sem] theorem Tryz.xio212:Tryz.prog.ioF 212=false:=by kernel_rfl
@[go_sem] theorem Tryz.xio213:Tryz.prog.ioF 213=false:=by kernel_rfl
@[go_sem] theorem Tryz.xio214:Tryz.prog.ioF 214=false:=by kernel_rfl
@[go_sem] theorem Tryz.xio215:Tryz.prog.ioF 215=false:=by kernel_rfl
@[go_sem] theorem Tryz.xio216:Tryz.prog.ioF 216=false:=by kernel_rfl
@[go_sem] theorem Tryz.xio217:Tryz.prog.ioF 217=false:=by kernel_rfl
@[go_sem] theorem Tryz.xio218:Tryz.prog.ioF 218=false:=by kernel_rfl
theorem Tryz.X218:Tryz.prog.enters 218=true:=by kernel_rfl
@[go_sem] theorem Tryz.xio219:Tryz.prog.ioF 219=false:=by kernel_rfl
theorem Tryz.X219:Tryz.prog.enters 219=true:=by kernel_rfl
@[go_sem] theorem Tryz.xio220:Tryz.prog.ioF 220=false:=by kernel_rfl
theorem Tryz.X220:Tryz.prog.enters 220=true:=by kernel_rfl
@[go_sem] theorem Tryz.xio221:Tryz.prog.ioF 221=false:=by kernel_rfl
theorem Tryz.X221:Tryz.prog.enters 221=true:=by kernel_rfl
@[go_sem] theorem Tryz.xio222:Tryz.prog.ioF 222=false:=by kernel_rfl
@[go_sem] theorem Tryz.xio223:Tryz.prog.ioF 223=false:=by kernel_rfl
@[go_sem] theorem Tryz.xio224:Tryz.prog.ioF 224=false:=by kernel_rfl
theorem Tryz.X224:Tryz.prog.enters 224=true:=by kernel_rfl
@[go_sem] theorem Tryz.xio225:Tryz.prog.ioF 225=false:=by kernel_rfl
theorem Tryz.X225:Tryz.prog.enters 225=true:=by kernel_rfl
@[go_sem] theorem Tryz.xio226:Tryz.prog.ioF 226=false:=by kernel_rfl
theorem Tryz.X226:Tryz.prog.enters 226=true:=by kernel_rfl
@[go_sem] theorem Tryz.xio227:Tryz.prog.ioF 227=false:=by kernel_rfl
theorem Tryz.X227:Tryz.prog.enters 227=true:=by kernel_rfl
@[go_sem] theorem Tryz.xio228:Tryz.prog.ioF 228=false:=by kernel_rfl
theorem Tryz.X228:Tryz.prog.enters 228=true:=by kernel_rfl
@[go_sem] theorem Tryz.xio229:Tryz.prog.ioF 229=false:=by kernel_rfl
theorem Tryz.X229:Tryz.prog.enters 229=true:=by kernel_rfl
@[go_sem] theorem Tryz.xio230:Tryz.prog.ioF 230=false:=by kernel_rfl
theorem Tryz.X230:Tryz.prog.enters 230=true:=by kernel_rfl
@[go_sem] theorem Tryz.xio231:Tryz.prog.ioF 231=false:=by kernel_rfl
@[go_sem] theorem Tryz.xio232:Tryz.prog.ioF 232=false:=by kernel_rfl
@[go_sem] theorem Tryz.xio233:Tryz.prog.ioF 233=false:=by kernel_rfl
@[go_sem] theorem Tryz.xio234:Tryz.prog.ioF 234=false:=by kernel_rfl
@[go_sem] theorem Tryz.xio235:Tryz.prog.ioF 235=false:=by kernel_rfl
@[go_sem] theorem Tryz.xio236:Tryz.prog.ioF 236=false:=by kernel_rfl
@[go_sem] theorem Tryz.xio237:Tryz.prog.ioF 237=false:=by kernel_rfl
@[go_sem] theorem Tryz.xio238:Tryz.prog.ioF 238=false:=by kernel_rfl
@[go_sem] theorem Tryz.xio239:Tryz.prog.ioF 239=false:=by kernel_rfl
@[go_sem] theorem Tryz.xio240:Tryz.prog.ioF 240=false:=by kernel_rfl
@[go_sem] theorem Tryz.xio241:Tryz.prog.ioF 241=false:=by kernel_rfl
@[go_sem] theorem Tryz.xio242:Tryz.prog.ioF 242=false:=by kernel_rfl
theorem Tryz.X242:Tryz.prog.enters 242=true:=by kernel_rfl
@[go_sem] theorem Tryz.xio243:Tryz.prog.ioF 243=false:=by kernel_rfl
theorem Tryz.X243:Tryz.prog.enters 243=true:=by kernel_rfl
@[go_sem] theorem Tryz.xio244:Tryz.prog.ioF 244=false:=by kernel_rfl
theorem Tryz.X244:Tryz.prog.enters 244=true:=by kernel_rfl
@[go_sem] theorem Tryz.xio245:Tryz.prog.ioF 245=true:=by kernel_rfl
@[go_sem] theorem Tryz.xio246:Tryz.prog.ioF 246=false:=by kernel_rfl
@[go_sem] theorem Tryz.xio247:Tryz.prog.ioF 247=false:=by kernel_rfl
@[go_sem] theorem Tryz.xio248:Tryz.prog.ioF 248=false:=by kernel_rfl
@[go_sem] theorem Tryz.xio249:Tryz.prog.ioF 249=false:=by kernel_rfl
theorem Tryz.X249:Tryz.prog.enters 249=true:=by kernel_rfl
@[go_sem] theorem Tryz.xio250:Tryz.prog.ioF 250=false:=by kernel_rfl
theorem Tryz.X250:Tryz.prog.enters 250=true:=by kernel_rfl
@[go_sem] theorem Tryz.xio251:Tryz.prog.ioF 251=false:=by kernel_rfl
theorem Tryz.X251:Tryz.prog.enters 251=true:=by kernel_rfl
@[go_sem] theorem Tryz.xio252:Tryz.prog.ioF 252=false:=by kernel_rfl
theorem Tryz.X252:Tryz.prog.enters 252=true:=by kernel_rfl
@[go_sem] theorem Tryz.xio253:Tryz.prog.ioF 253=true:=by kernel_rfl
@[go_sem] theorem Tryz.xio254:Tryz.prog.ioF 254=true:=by kernel_rfl
@[go_sem] theorem Tryz.xio255:Tryz.prog.ioF 255=false:=by kernel_rfl
theorem Tryz.X255:Tryz.prog.enters 255=true:=by kernel_rfl
@[go_sem] theorem Tryz.xio256:Tryz.prog.ioF 256=false:=by kernel_rfl
@[go_sem] theorem Tryz.xio257:Tryz.prog.ioF 257=false:=by kernel_rfl
@[go_sem] theorem Tryz.xio258:Tryz.prog.ioF 258=true:=by kernel_rfl
@[go_sem] theorem Tryz.xio259:Tryz.prog.ioF 259=true:=by kernel_rfl
@[go_sem] theorem Tryz.xio260:Tryz.prog.ioF 260=true:=by kernel_rfl
@[go_sem] theorem Tryz.xio261:Tryz.prog.ioF 261=false:=by kernel_rfl
@[go_sem] theorem Tryz.xio262:Tryz.prog.ioF 262=true:=by kernel_rfl
theorem Tryz.X262:Tryz.prog.enters 262=true:=by kernel_rfl
@[go_sem] theorem Tryz.xio263:Tryz.prog.ioF 263=false:=by kernel_rfl
@[go_sem] theorem Tryz.xio264:Tryz.prog.ioF 264=false:=by kernel_rfl
@[go_sem] theorem Tryz.xio265:Tryz.prog.ioF 265=false:=by kernel_rfl
@[go_sem] theorem Tryz.xio266:Tryz.prog.ioF 266=false:=by kernel_rfl
@[go_sem] theorem Tryz.xio267:Tryz.prog.ioF 267=false:=by kernel_rfl
theorem Tryz.X267:Tryz.prog.enters 267=true:=by kernel_rfl
@[go_sem] theorem Tryz.xio268:Tryz.prog.ioF 268=false:=by kernel_rfl
@[go_sem] theorem Tryz.xio269:Tryz.prog.ioF 269=true:=by kernel_rfl
@[go_sem] theorem Tryz.xio270:Tryz.prog.ioF 270=false:=by kernel_rfl
@[go_sem] theorem Tryz.xio271:Tryz.prog.ioF 271=false:=by kernel_rfl
@[go_sem] theorem Tryz.xio280:Tryz.prog.ioF 280=true:=by kernel_rfl
@[go_sem] theorem Tryz.xio281:Tryz.prog.ioF 281=true:=by kernel_rfl
@[go_sem] theorem Tryz.xio282:Tryz.prog.ioF 282=true:=by kernel_rfl
@[go_sem] theorem Tryz.xio283:Tryz.prog.ioF 283=true:=by kernel_rfl
@[go_sem] theorem Tryz.xio284:Tryz.prog.ioF 284=true:=by kernel_rfl
@[go_sem] theorem Tryz.xio289:Tryz.prog.ioF 289=true:=by kernel_rfl
