/- Proved here: Picks from a slice whose elements are given, on the abstract machine, for use in the proofs of the given statements; conditions stand in each theorem. -/
import Derived.Test.YtkjdkbmfaamhaaaGreatZF
import Derived.WalkKit
import Derived.ProofKit
import Derived.OpenShut
import Derived.ShutString
import Derived.ChangeOld
import Derived.Below
import Derived.Carry
import Derived.WideShapes
import Derived.JoinedOf
import Derived.Laws.CopyRow
set_option linter.unusedSimpArgs false
set_option linter.unusedVariables false
set_option linter.unusedSectionVars false
set_option linter.unnecessarySimpa false
namespace Go.Proofs.YtkjdkbmfaamhaaaGreat
open Go.RowKit
@[go_sem] theorem dec_str {l:List UInt8}:decide ((⟨l⟩:Array UInt8).size≤maxLen)=decide (l.length≤maxLen):=rfl
theorem len_ok {n:Nat} (h:n≤65536):n≤maxLen:=by unfold maxLen;omega
@[go_sem] theorem dec_len0:decide (0≤maxLen)=true:=decide_eq_true (len_ok (by omega))
@[go_sem] theorem dec_len1:decide (1≤maxLen)=true:=decide_eq_true (len_ok (by omega))
@[go_sem] theorem dec_len2:decide (2≤maxLen)=true:=decide_eq_true (len_ok (by omega))
@[go_sem] theorem dec_len5:decide (5≤maxLen)=true:=decide_eq_true (len_ok (by omega))
@[go_sem] theorem dec_len6:decide (6≤maxLen)=true:=decide_eq_true (len_ok (by omega))
@[go_sem] theorem dec_len8:decide (8≤maxLen)=true:=decide_eq_true (len_ok (by omega))
@[go_sem] theorem dec_len13:decide (13≤maxLen)=true:=decide_eq_true (len_ok (by omega))
@[go_sem] theorem nth_s2 {d a0 a1:ByteArray} {n:Nat}:nth [.lit (.string d)] [[.lit (.string a0)],[.lit (.string a1)]] n = [.lit (.string ([a0,a1].getD n d))]:=nth_map (fun x=>[.lit (.string x)]) d [a0,a1] n
@[go_sem] theorem nth_ii3 {kd ke:IntKind} {d e a0 a1 a2 b0 b1 b2:Int} {n:Nat}:nth [.lit (.int kd d), .lit (.int ke e)] [[.lit (.int kd a0), .lit (.int ke b0)],[.lit (.int kd a1), .lit (.int ke b1)],[.lit (.int kd a2), .lit (.int ke b2)]] n = [.lit (.int kd ([(a0,b0),(a1,b1),(a2,b2)].getD n (d,e)).1), .lit (.int ke ([(a0,b0),(a1,b1),(a2,b2)].getD n (d,e)).2)]:=nth_map (fun x:Int×Int=>[.lit (.int kd x.1), .lit (.int ke x.2)]) (d,e) [(a0,b0),(a1,b1),(a2,b2)] n
@[go_sem] theorem nth_i4 {kd:IntKind} {d a0 a1 a2 a3:Int} {n:Nat}:nth [.lit (.int kd d)] [[.lit (.int kd a0)],[.lit (.int kd a1)],[.lit (.int kd a2)],[.lit (.int kd a3)]] n = [.lit (.int kd ([a0,a1,a2,a3].getD n d))]:=nth_map (fun x=>[.lit (.int kd x)]) d [a0,a1,a2,a3] n
@[go_sem] theorem nth_s4 {d a0 a1 a2 a3:ByteArray} {n:Nat}:nth [.lit (.string d)] [[.lit (.string a0)],[.lit (.string a1)],[.lit (.string a2)],[.lit (.string a3)]] n = [.lit (.string ([a0,a1,a2,a3].getD n d))]:=nth_map (fun x=>[.lit (.string x)]) d [a0,a1,a2,a3] n
@[go_sem] theorem nth_i6 {kd:IntKind} {d a0 a1 a2 a3 a4 a5:Int} {n:Nat}:nth [.lit (.int kd d)] [[.lit (.int kd a0)],[.lit (.int kd a1)],[.lit (.int kd a2)],[.lit (.int kd a3)],[.lit (.int kd a4)],[.lit (.int kd a5)]] n = [.lit (.int kd ([a0,a1,a2,a3,a4,a5].getD n d))]:=nth_map (fun x=>[.lit (.int kd x)]) d [a0,a1,a2,a3,a4,a5] n
@[go_sem] theorem nth_i8 {kd:IntKind} {d a0 a1 a2 a3 a4 a5 a6 a7:Int} {n:Nat}:nth [.lit (.int kd d)] [[.lit (.int kd a0)],[.lit (.int kd a1)],[.lit (.int kd a2)],[.lit (.int kd a3)],[.lit (.int kd a4)],[.lit (.int kd a5)],[.lit (.int kd a6)],[.lit (.int kd a7)]] n = [.lit (.int kd ([a0,a1,a2,a3,a4,a5,a6,a7].getD n d))]:=nth_map (fun x=>[.lit (.int kd x)]) d [a0,a1,a2,a3,a4,a5,a6,a7] n
@[go_sem] theorem nth_ii9 {kd ke:IntKind} {d e a0 a1 a2 a3 a4 a5 a6 a7 a8 b0 b1 b2 b3 b4 b5 b6 b7 b8:Int} {n:Nat}:nth [.lit (.int kd d), .lit (.int ke e)] [[.lit (.int kd a0), .lit (.int ke b0)],[.lit (.int kd a1), .lit (.int ke b1)],[.lit (.int kd a2), .lit (.int ke b2)],[.lit (.int kd a3), .lit (.int ke b3)],[.lit (.int kd a4), .lit (.int ke b4)],[.lit (.int kd a5), .lit (.int ke b5)],[.lit (.int kd a6), .lit (.int ke b6)],[.lit (.int kd a7), .lit (.int ke b7)],[.lit (.int kd a8), .lit (.int ke b8)]] n = [.lit (.int kd ([(a0,b0),(a1,b1),(a2,b2),(a3,b3),(a4,b4),(a5,b5),(a6,b6),(a7,b7),(a8,b8)].getD n (d,e)).1), .lit (.int ke ([(a0,b0),(a1,b1),(a2,b2),(a3,b3),(a4,b4),(a5,b5),(a6,b6),(a7,b7),(a8,b8)].getD n (d,e)).2)]:=nth_map (fun x:Int×Int=>[.lit (.int kd x.1), .lit (.int ke x.2)]) (d,e) [(a0,b0),(a1,b1),(a2,b2),(a3,b3),(a4,b4),(a5,b5),(a6,b6),(a7,b7),(a8,b8)] n
open Go.RowKit
def CMk (P:Program) (f:FuncId) (args:List V) (r:V) (cs:List V):Prop :=
 P.enters f=true ∧ ∀ (w:World) (S:Nat→Prop) (vs:List Value),(∀ x,S x→x<w.heap.size)→RdVs w (bareE S) args vs →
  Calls P f vs.toArray w fun e w' => ∃ v0 b S' ty cells,e = .returned (.tuple #[v0, .pointer (some ⟨b,0,none⟩)])∧w.heap.size≤b∧(∀ x,S x→S' x)∧(∀ x,S' x→S x∨w.heap.size≤x) ∧
   (∀ x,S' x→x<w'.heap.size)∧RdV w' (bareE S') r v0∧w'.heap[b]? = some (.cells cells ty (0,0))∧RdVs w' (bareE S') cs cells.toList∧cells.toList.all (·.oneCell')=true∧Below w.heap.size w w' ∧ ¬ S' b
def mkK (r:V) (cs':List V) (x:V) (σ : St):Prop :=
 match x with
 | .tup [y, .own i]=>y.lend (σ.h.del i)=r∧r.pure=true∧boxK1 (σ.h.look i) (σ.h.del i) cs'
 | _=>False
theorem two_list {w:World} {E:Env} {a b:V} {vs:Array Value} (h:RdVs w E [a,b] vs.toList):∃ x y,vs = #[x,y]∧RdV w E a x∧RdV w E b y:=by
 obtain ⟨l⟩:=vs
 rcases l with _ | ⟨x,_ | ⟨y,_ | ⟨z,l⟩⟩⟩<;>simp only [RdVs,and_false,and_true] at h
 exact ⟨x,y,rfl,h⟩
attribute [go_sem] mkK
open Go.RowKit
@[go_sem] def idRen:Heap→Ren
 | []=>[]
 | (i,_)::r=>(i,some i)::idRen r
theorem weak_self {n0:Nat} {σ σ':St} (hok:wkOk n0 (idRen σ'.h) σ σ'):Weak n0 σ σ':=weak_of _ hok
def cleanO (b:Option Blk) (x:V):V :=
 match b with
 | some _=>x
 | none => .dead
mutual
def cleanV (h:Heap):V→V
 | .own i=>cleanO (h.look i) (.own i)
 | .ptr i o=>cleanO (h.look i) (.ptr i o)
 | .rptr i k n j=>cleanO (h.look i) (.rptr i k n j)
 | .rsl i k n j=>cleanO (h.look i) (.rsl i k n j)
 | .agg cs => .agg (cleanVs h cs)
 | .tup cs => .tup (cleanVs h cs)
 | .cond g x => .cond g (cleanV h x)
 | .clo f cs => .clo f (cleanVs h cs)
 | .t x => .t x
 | .elem k d xs i j => .elem k d xs i j
 | .dead => .dead
def cleanVs (h:Heap):List V→List V
 | []=>[]
 | x::xs=>cleanV h x::cleanVs h xs
end
def cleanS (σ : St):St := { σ with fr:=cleanVs σ.h σ.fr }
def deadS:List Nat→St→St
 | [], σ => σ
 | i::r, σ => deadS r (setS i .dead σ)
attribute [go_sem] deadS cleanO cleanV cleanVs cleanS
open Go.RowKit
def posG:List Nat→Nat→Nat→Option Nat
 | [],_,_=>none
 | a::r,i,k=>if i=a then some k else posG r i (k+1)
def numG (is:List Nat) (nx j:Nat):Nat :=
 match is[j]? with
 | some i=>i
 | none=>nx+(j - is.length)
def outNew (m:Nat) (g:Nat→Nat):Heap→Heap
 | []=>[]
 | (j,b)::r=>if j<m then outNew m g r else (g j,b.ren g)::outNew m g r
def outB1 (i:Nat) (g:Nat→Nat) (b:Option Blk) (r:Heap):Heap :=
 match b with
 | some b=>(i,b.ren g)::r
 | none=>r
def outP (i:Nat) (old:Blk) (g:Nat→Nat) (h':Heap) (p:Option Nat) (r:Heap):Heap :=
 match p with
 | some j=>outB1 i g (h'.look j) r
 | none=>(i,old)::r
def outOld (is:List Nat) (g:Nat→Nat) (h':Heap):Heap→Heap
 | []=>[]
 | (i,b)::r=>outP i b g h' (posG is i 0) (outOld is g h' r)
def inH (m:Nat) (g:Nat→Nat) (H:Heap):Heap→Prop
 | []=>True
 | (j,b)::r=>(j<m∧lowL m b.ment=true∧H.look (g j)=some (b.ren g))∧inH m g H r
def allB (m:Nat) (h:Heap):Bool:=(List.range m).all fun j=>(h.look j).isSome
def keysB (n:Nat) (h:Heap):Bool:=h.all fun p=>decide (p.1<n)
theorem look_app (i:Nat):∀ (a b:Heap),Heap.look (a++b) i=match Heap.look a i with | some x=>some x | none=>Heap.look b i
 | [],b=>rfl
 | (j,x)::r,b=>by
  simp only [List.cons_append,Heap.look]
  split
  ·rfl
  ·exact look_app i r b
theorem posG_none:∀ {is:List Nat} {i k:Nat},i ∉ is→posG is i k=none
 | [],_,_,_=>rfl
 | a::r,i,k,h=>by
  simp only [List.mem_cons,not_or] at h
  rw [posG,if_neg h.1,posG_none h.2]
theorem posG_at:∀ {is:List Nat} {j k:Nat} (h:j<is.length),is.Nodup→posG is is[j] k=some (k+j)
 | a::r,0,k,h,_=>by simp [posG]
 | a::r,j+1,k,h,hn=>by
  rw [List.nodup_cons] at hn
  simp only [List.getElem_cons_succ,posG]
  rw [if_neg (fun e=>hn.1 (by rw [← e];exact List.getElem_mem _)),posG_at (by simpa using h) hn.2]
  congr 1;omega
section
variable {m n':Nat} {g:Nat→Nat} (hinj:∀ i j,i<n'→j<n'→g i=g j→i=j)
include hinj
theorem outNew_at {j:Nat} (hj:j<n'):∀ {h:Heap},keysB n' h=true→(outNew m g h).look (g j)=if j<m then none else (h.look j).map (Blk.ren g)
 | [],_=>by simp [outNew,Heap.look]
 | (k,b)::r,hk=>by
  simp only [keysB,List.all_cons,Bool.and_eq_true,decide_eq_true_eq] at hk
  have ih:=outNew_at hj (h:=r) (by simpa [keysB] using hk.2)
  unfold outNew
  by_cases hkm:k<m
  ·rw [if_pos hkm,ih]
   split
   ·rfl
   ·rename_i hjm
    rw [Heap.look,if_neg (by omega)]
  ·rw [if_neg hkm,Heap.look]
   by_cases hjk:j=k
   ·subst hjk
    rw [if_pos rfl,if_neg hkm,Heap.look,if_pos rfl];rfl
   ·rw [if_neg (fun e=>hjk (hinj _ _ hj hk.1 e)),ih,Heap.look,if_neg hjk]
end
theorem outNew_out {m n':Nat} {g:Nat→Nat} {i:Nat} (hi:∀ j,j<n'→g j≠i):∀ {h:Heap},keysB n' h=true→(outNew m g h).look i=none
 | [],_=>rfl
 | (k,b)::r,hk=>by
  simp only [keysB,List.all_cons,Bool.and_eq_true,decide_eq_true_eq] at hk
  have ih:=outNew_out hi (m:=m) (h:=r) (by simpa [keysB] using hk.2)
  unfold outNew
  split
  ·exact ih
  ·rw [Heap.look,if_neg (fun e=>hi k hk.1 e.symm),ih]
theorem outOld_at {is:List Nat} {g:Nat→Nat} {h':Heap} {i:Nat}:∀ {H:Heap},(outOld is g h' H).look i=match posG is i 0 with | some j=>(match H.look i with | some _=>(h'.look j).map (Blk.ren g) | none=>none) | none=>H.look i
 | []=>by
  simp only [outOld,Heap.look]
  split<;>rfl
 | (k,b)::r=>by
  have ih:=outOld_at (is:=is) (g:=g) (h':=h') (i:=i) (H:=r)
  unfold outOld outP
  by_cases hik:i=k
  ·subst hik
   cases hp:posG is i 0 with
   | none=>simp only [Heap.look,if_true]
   | some j =>
    simp only [Heap.look,if_true]
    rw [hp] at ih
    simp only at ih
    unfold outB1
    cases hl:Heap.look h' j with
    | none=>simp only [Option.map_none];rw [ih,hl];split<;>rfl
    | some b'=>simp only [Heap.look,if_true,Option.map_some]
  ·have hne:∀ r',(match posG is k 0 with | some j=>outB1 k g (Heap.look h' j) r' | none=>(k,b)::r').look i=Heap.look r' i:=fun r'=>by
    cases posG is k 0 with
    | none=>simp only [Heap.look,if_neg hik]
    | some j =>
     simp only [outB1]
     cases Heap.look h' j with
     | none=>rfl
     | some b'=>simp only [Heap.look,if_neg hik]
   rw [hne,ih]
   simp only [Heap.look,if_neg hik]
theorem inH_inv {m:Nat} {g:Nat→Nat} {H:Heap}:∀ {h:Heap},inH m g H h → ∀ j blk,h.look j=some blk→j<m∧lowL m blk.ment=true∧H.look (g j)=some (blk.ren g)
 | [],_,j,blk,hl=>by simp [Heap.look] at hl
 | (k,b)::r,hi,j,blk,hl=>by
  rw [Heap.look] at hl
  split at hl
  ·rename_i e;subst e
   injection hl with hl;subst hl
   exact hi.1
  ·exact inH_inv hi.2 j blk hl
theorem allB_inv {m:Nat} {h:Heap} (ha:allB m h=true):∀ j,j<m → ∃ blk,h.look j=some blk:=by
 intro j hj
 simp only [allB,List.all_eq_true,List.mem_range] at ha
 have:=ha j hj
 cases hl:h.look j with
 | none=>rw [hl] at this;cases this
 | some b=>exact ⟨b,rfl⟩
theorem numG_lt {is:List Nat} {nx j:Nat} (h:j<is.length):numG is nx j=is[j]:=by unfold numG;rw [List.getElem?_eq_getElem h]
theorem numG_ge {is:List Nat} {nx j:Nat} (h:is.length≤j):numG is nx j=nx+(j - is.length):=by unfold numG;rw [List.getElem?_eq_none h]
theorem icall_io {P:Program} {σ : St} {d:Option Tmp} {f:FuncId} {m n':Nat} {h h':Heap} {args xs:List V} {r:V} {K:St→Prop} (hc:CIO P f m h args r h' n') (is:List Nat) (hlen:is.length=m) (hmn:m≤n') (hnd:is.Nodup)
  (hin:inH m (numG is σ.nx) σ.h h) (hall:allB m h=true) (hkeys:keysB n' h'=true) (hargs:lowL m (V.ments args)=true) (hxs:xs=V.rens (numG is σ.nx) args)
  (hK:K (({ σ with h:=outNew m (numG is σ.nx) h'++outOld is (numG is σ.nx) h' σ.h,nx := σ.nx+(n' - m) }:St).put d (r.ren (numG is σ.nx)))):ICall P σ d f xs K:=by
 subst hlen
 refine icall_intro hc.1 (fun E w vs hr hbd hvs=>?_)
 have hlow:=inH_inv hin
 have hal:=allB_inv hall
 have hold:∀ j (hj:j<is.length),E.U is[j]∧is[j] < σ.nx ∧ ∃ blk, σ.h.look is[j]=some blk:=fun j hj=>by
  obtain ⟨blk,hb⟩:=hal j hj
  have h2:=(hlow j blk hb).2.2
  rw [numG_lt hj] at h2
  have h3:=hr.uses h2
  exact ⟨h3,hbd _ h3,_,h2⟩
 have hinj:∀ i j,i<n'→j<n'→numG is σ.nx i=numG is σ.nx j→i=j:=fun i j hi hj he=>by
  by_cases hi1:i<is.length
  ·by_cases hj1:j<is.length
   ·rw [numG_lt hi1,numG_lt hj1] at he
    exact (List.getElem_inj hnd).1 he
   ·rw [numG_lt hi1,numG_ge (by omega)] at he
    have:=(hold i hi1).2.1;omega
  ·by_cases hj1:j<is.length
   ·rw [numG_lt hj1,numG_ge (by omega)] at he
    have:=(hold j hj1).2.1;omega
   ·rw [numG_ge (by omega),numG_ge (by omega)] at he;omega
 have hnew:∀ j,is.length≤j→j<n' → ¬ E.U (numG is σ.nx j):=fun j h1 h2 hU=>by
  rw [numG_ge h1] at hU
  have:=hbd _ hU;omega
 subst hxs
 refine (cio_use hc hmn hinj hlow hal hargs hr hnew hvs).mono ?_
 rintro e w' ⟨v,E',rfl,h1,h2,h3,h4⟩
 refine ⟨v,_,_,_,E',rfl,h1 _ (fun j hj=>?_) (fun i hi=>?_),fun q hq=>?_,h2,h3,hK⟩
 ·rw [look_app,outNew_at hinj hj hkeys]
  by_cases hjm:j<is.length
  ·rw [if_pos hjm]
   simp only
   rw [outOld_at,numG_lt hjm,posG_at hjm hnd,Nat.zero_add]
   obtain ⟨_,_,blk,hb⟩:=hold j hjm
   simp only [hb]
  ·rw [if_neg hjm]
   cases hl:(Heap.look h' j).map (Blk.ren (numG is σ.nx)) with
   | some x=>rfl
   | none =>
    simp only
    have hno : σ.h.look (numG is σ.nx j)=none:=by
     cases hl2 : σ.h.look (numG is σ.nx j) with
     | none=>rfl
     | some b=>exact (hnew j (by omega) hj (hr.uses hl2)).elim
    rw [outOld_at,hno]
    split<;>rfl
 ·rw [look_app,outNew_out hi hkeys]
  simp only
  rw [outOld_at,posG_none]
  intro hmem
  obtain ⟨j,hj,he⟩:=List.mem_iff_getElem.1 hmem
  exact hi j (by omega) (by rw [numG_lt hj];exact he)
 ·rcases h4 q hq with h4 | ⟨j,h5,h6,rfl⟩
  ·have:=hbd q h4
   show q < σ.nx+(n' - is.length)
   omega
  ·rw [numG_ge h5]
   show _ < σ.nx+(n' - is.length)
   omega
attribute [go_sem] posG numG outNew outB1 outP outOld inH lowL V.ment V.ments mentE mentR Blk.ment ioK
open Go.RowKit
set_option maxRecDepth 4000
def semS (P:Program) (ops:List Oper) (Q:Exit→St→Prop) (l:List Oper) (σ : St):Prop :=
 ∀ E a w,RelF E σ a w → ∀ E0 w0,Ext E0 w0 E w→wpListIn (Wd E.ro) 0 P ops.toArray (LiftQ E0 w0 Q) l a w
theorem semS_steps {P:Program} {ops:List Oper} {Q:Exit→St→Prop} {l:List Oper} {σ : St} (h:steps P ops l (Q .normal) σ):semS P ops Q l σ := steps_ok l σ h
theorem semS_app {P:Program} {ops:List Oper} {Q:Exit→St→Prop} {l2:List Oper}:∀ (l:List Oper) (σ : St),steps P ops l (semS P ops Q l2) σ → semS P ops Q (l++l2) σ
 | [], σ,h=>h
 | o::r, σ,h=>by
  intro E a w hr E0 w0 hE
  have next:∀ {σ'} {E':Env} {a' w'},steps P ops r (semS P ops Q l2) σ'→RelF E' σ' a' w'→Ext E w E' w'→wpListIn (Wd E.ro) 0 P ops.toArray (LiftQ E0 w0 Q) (r++l2) a' w':=fun h3 h1 h2=>by
   have:=semS_app r _ h3 _ _ _ h1 E0 w0 (hE.trans h2)
   rwa [h2.ro] at this
  unfold steps ostepN at h
  rw [List.cons_append]
  unfold wpListIn
  split at h
  ·rename_i hg
   have hw:Region.wanted o (yielded ops.toArray a.tmps)=true:=by simp [Region.wanted,hg]
   rw [if_pos hw]
   exact estepN_ok h E a w hr _ _ fun a' w' E' σ' h1 h2 h3=>next h3 h1 h2
  ·rename_i j want hg
   unfold gstepN at h
   split at h
   ·rename_i g hgs
    have hw:=guard_ok hr hg hgs
    rw [hw]
    split at h
    ·obtain ⟨x,hK,hy⟩:=pstep_ok h
     cases g with
     | true =>
      rw [if_pos rfl]
      exact wpIn_of_wp (.inr (pstep_calm h)) (hy rfl E a w hr _ _ fun v w' E' h1 h2 h3 _=>next hK (h1.put o.dst (rdV_condJ (by rw [RdV];exact ⟨fun _=>h3,fun h=>by cases h⟩))) h2)
     | false =>
      rw [if_neg (by simp)]
      exact ⟨fun _ _=>trivial,next hK (hr.put o.dst (rdV_condJ (by rw [RdV];exact ⟨fun h=>(by cases h),fun _=>rfl⟩))) (Ext.refl E w)⟩
    ·cases g with
     | true =>
      rw [if_pos rfl]
      exact estepN_ok (h.1 rfl) E a w hr _ _ fun a' w' E' σ' h1 h2 h3=>next h3 h1 h2
     | false =>
      rw [if_neg (by simp)]
      exact ⟨fun _ _=>trivial,next (h.2 rfl) (hr.put o.dst (by simp only [RdV])) (Ext.refl E w)⟩
   ·exact h.elim
theorem semS_true {P:Program} {ops:List Oper} {Q:Exit→St→Prop} {o:Oper} {r:List Oper} {σ : St} {j:Nat} {want:Bool} (hg:o.guard=some (j,want)) (hgs:guardS ops σ j want=some true)
  (h:estepN P σ o.dst o.op (semS P ops Q r)):semS P ops Q (o::r) σ := by
 intro E a w hr E0 w0 hE
 unfold wpListIn
 rw [guard_ok hr hg hgs,if_pos rfl]
 exact estepN_ok h E a w hr _ _ fun a' w' E' σ' h1 h2 h3=>by
  have:=h3 E' a' w' h1 E0 w0 (hE.trans h2)
  rwa [h2.ro] at this
theorem awp_region_sem {P:Program} {n0 id:Nat} {ops:Array Oper} {Q:Exit→St→Prop} {σ : St} (h:semS P ops.toList Q ops.toList σ):AWP P n0 (.region id ops false) Q σ := by
 intro E a w hr E0 w0 hU hE
 have:=h E a w hr E0 w0 hE
 rw [Array.toArray_toList] at this
 exact wpIn_region_list this
theorem awp_region_part {P:Program} {n0 id:Nat} {ops:Array Oper} {Q:Exit→St→Prop} {σ : St} (n:Nat) (h:steps P ops.toList (ops.toList.take n) (semS P ops.toList Q (ops.toList.drop n)) σ):AWP P n0 (.region id ops false) Q σ := by
 refine awp_region_sem ?_
 have:=semS_app (l2:=ops.toList.drop n) (ops.toList.take n) σ h
 rwa [List.take_append_drop] at this
open Go.RowKit
set_option maxRecDepth 4000
def Blk.res (h:Heap):Blk→Blk
 | .row e k d xs => .row e k d (xs.map (V.ress h))
 | .box cs => .box (V.ress h cs)
 | .map es => .map es
 | .shr t => .shr t
 | .loop st pend tmps ps c d => .loop st pend (V.ress h tmps) ps c d
 | .defd => .defd
def Heap.res (h:Heap):Heap→Heap
 | []=>[]
 | (i,b)::r=>(i,b.res h)::Heap.res h r
theorem Heap.look_res (h:Heap) (i:Nat):∀ h2:Heap,(Heap.res h h2).look i=(h2.look i).map (Blk.res h)
 | []=>rfl
 | (j,b)::r=>by
  simp only [Heap.res,Heap.look]
  split
  ·rfl
  ·exact Heap.look_res h i r
theorem ress_len (h:Heap):∀ xs:List V,(V.ress h xs).length=xs.length
 | []=>rfl
 | x::xs=>by simp only [V.ress,List.length_cons,ress_len h xs]
theorem ress_append (h:Heap):∀ xs ys:List V,V.ress h (xs++ys)=V.ress h xs++V.ress h ys
 | [],ys=>rfl
 | x::xs,ys=>by simp only [List.cons_append,V.ress,ress_append h xs ys]
theorem ress_flatten (h:Heap):∀ xs:List (List V),(xs.map (V.ress h)).flatten=V.ress h xs.flatten
 | []=>rfl
 | x::xs=>by simp only [List.map_cons,List.flatten_cons,ress_append,ress_flatten h xs]
theorem Blk.rel_res {w:World} {E:Env} {h:Heap} (hr:Rel w E h) {b:Blk} {hv:Value} (hb:BlkRel w E b hv):BlkRel w E (b.res h) hv:=by
 cases b with
 | row e k d xs =>
  obtain ⟨cells,h1,h2,h3,h4⟩:=hb
  refine ⟨cells,by rw [List.length_map];exact h1,by rw [ress_flatten];exact RdVs.res hr _ h2,fun x hx=>?_,h4⟩
  obtain ⟨y,hy,rfl⟩:=List.mem_map.1 hx
  rw [ress_len];exact h3 y hy
 | box cs =>
  obtain ⟨b,vs,ty,h1,h2,h3,h4⟩:=hb
  exact ⟨b,vs,ty,h1,h2,RdVs.res hr _ h3,h4⟩
 | map es=>exact hb
 | shr t=>exact hb
 | loop st pend tmps ps c d =>
  obtain ⟨l,rec,h1,h2,h3,h4,h5,h6,h7,h8⟩:=hb
  exact ⟨l,rec,h1,h2,h3,h4,h5,h6,h7,RdVs.res hr _ h8⟩
 | defd=>exact hb
theorem Blk.at_res {E:Env} {h:Heap} {i:Nat} {b:Blk}:E.at (b.res h) i=E.at b i:=by cases b<;>rfl
theorem Rel.res {w:World} {E:Env} {h:Heap} (hr:Rel w E h):Rel w E (Heap.res h h):=by
 refine ⟨fun i blk hl=>?_,fun i hv hB=>?_,hr.domF,hr.own,hr.apart,hr.slt,hr.dlt⟩
 ·rw [Heap.look_res] at hl
  obtain ⟨b,hb,rfl⟩:=Option.map_eq_some_iff.1 hl
  obtain ⟨hv,h1,h2⟩:=hr.has i b hb
  exact ⟨hv,by rw [Blk.at_res];exact h1,Blk.rel_res hr h2⟩
 ·obtain ⟨h1,b,h2⟩:=hr.dom i hv hB
  exact ⟨h1,_,by rw [Heap.look_res,h2];rfl⟩
def giveA (P:Program) (n0:Nat) (c:Code) (Q:Exit→St→Prop) (σ : St) (o:Option Heap):Prop :=
 match o with
 | some h=>AWP P n0 c Q { σ with h:=Heap.res h h,fr:=V.ress h σ.fr }
 | none=>False
theorem awp_give {P:Program} {n0:Nat} {c:Code} {Q:Exit→St→Prop} {σ : St} (is:List Nat) (h:giveA P n0 c Q σ (giveL is σ.h)):AWP P n0 c Q σ := by
 unfold giveA at h
 split at h
 ·rename_i h' hg
  intro E a w hr E0 w0 hU hE
  obtain ⟨E1,r1,r2,r3⟩:=RelF.giveL is (h := σ.h) hr hg
  have:=h E1 a w ⟨Rel.res r1.rel,r1.bound,RdVs.res r1.rel _ r1.fr,r1.defers⟩ E0 w0 hU (hE.trans r2)
  rwa [r2.ro] at this
 ·exact h.elim
def giveQ1 (Q:Exit→St→Prop) (e:Exit) (σ : St) (o:Option Heap):Prop :=
 match o with
 | some h=>Q e { σ with h:=Heap.res h h,fr:=V.ress h σ.fr }
 | none=>False
def giveQ (is:List Nat) (Q:Exit→St→Prop) (e:Exit) (σ : St):Prop:=giveQ1 Q e σ (giveL is σ.h)
@[go_sem] theorem giveQ_eq {is:List Nat} {Q:Exit→St→Prop} {e:Exit} {fr:List V} {h:Heap} {nx:Nat} {df:List Dfr}:giveQ is Q e ⟨fr,h,nx,df⟩=giveQ1 Q e ⟨fr,h,nx,df⟩ (giveL is h):=rfl
@[go_sem] theorem ress_t (h:Heap):∀ l:List T,V.ress h (l.map .t)=l.map .t
 | []=>rfl
 | x::r=>by simp only [List.map_cons,V.ress,V.res,ress_t h r]
@[go_sem] theorem ress_tRows (h:Heap):∀ l:List (List T),(tRows l).map (V.ress h)=tRows l
 | []=>rfl
 | x::r=>by
  have:=ress_tRows h r
  unfold tRows at this ⊢
  simp only [List.map_cons,ress_t,this]
attribute [go_sem] giveA giveQ1 Blk.res Heap.res
open Go.RowKit Go.ChangeShapes Go.WideShapes
def allS (w:World):Nat→Prop:=fun b=>b<w.heap.size
def Opens {α : Type} (P:Program) (t:TypeId) (c : α → List T):Prop :=
 ∀ {H:Type} (enc:TypeId×Value→H) (w:World) (spare:Nat→Bool) (held:Bool) (n:Nat) (cs:List Value) (x:DataW H×List MemPlace),DataW.trod enc P w 0 spare held n t cs=some x → ∃ a,RdTs w (allS w) (c a) cs
section
variable {P:Program} {t:TypeId} {α β : Type}
theorem Opens.map {c : α → List T} {c' : β → List T} (g : α → β) (h:∀ a,c' (g a)=c a) (ho:Opens P t c):Opens P t c':=by
 intro H enc w spare held n cs x hx
 obtain ⟨a,ha⟩:=ho enc w spare held n cs x hx
 exact ⟨g a,by rw [h];exact ha⟩
theorem opens_int {k:IntKind} (ht:P.underlying t=some (.int k)):Opens P t fun n:Int=>[.lit (.int k n)]:=by
 intro H enc w spare held n cs x hx
 obtain ⟨b,rfl,_⟩:=DataW.trod_int ht hx
 exact ⟨b, .lit _ rfl trivial,trivial⟩
theorem choose_list {Q:Nat → α → Prop}:∀ (n:Nat),(∀ i,i<n → ∃ a,Q i a) → ∃ al:List α,al.length=n ∧ ∀ i a,al[i]? = some a→Q i a
 | 0,_=>⟨[],rfl,by simp⟩
 | n+1,h=>by
  obtain ⟨al,h1,h2⟩:=choose_list n fun i hi=>h i (by omega)
  obtain ⟨a,ha⟩:=h n (by omega)
  refine ⟨al ++ [a],by simp [h1],fun i b hb=>?_⟩
  by_cases hi:i<n
  ·rw [List.getElem?_append_left (by omega)] at hb
   exact h2 i b hb
  ·have hi2:i<(al ++ [a]).length:=(List.getElem?_eq_some_iff.1 hb).1
   have:i=n:=by simp [h1] at hi2;omega
   subst this
   rw [List.getElem?_append_right (by omega),h1] at hb
   simp at hb
   subst hb;exact ha
theorem cell_spot {w:World} {a:Addr} {v:Value} (h:w.cell? a=some v):a.spot=none:=by
 unfold World.cell? at h
 split at h
 ·cases hs:a.spot with
  | none=>rfl
  | some x=>rw [hs] at h;simp at h
 ·cases h
theorem cell_lts {w:World} {a:Addr} {v:Value} (h:w.cell? a=some v):a.block<w.heap.size:=by
 unfold World.cell? at h
 split at h
 ·rename_i hh
  exact (Array.getElem?_eq_some_iff.1 hh).1
 ·cases h
theorem rdTs_at {w:World} {S:Nat→Prop}:∀ {xs:List T} {vs:List Value} {j:Nat} {x:T} {v:Value},RdTs w S xs vs→xs[j]? = some x→vs[j]? = some v→RdT w S x v
 | x::xs,v::vs,0,_,_,h,hx,hv=>by simp at hx hv;subst hx hv;exact h.1
 | x::xs,v::vs,j+1,_,_,h,hx,hv=>rdTs_at (j:=j) h.2 (by simpa using hx) (by simpa using hv)
 | [],_,_,_,_,_,hx,_=>by simp at hx
 | _::_,[],_,_,_,h,_,_=>h.elim
theorem opens_slice {e:TypeId} {c : α → List T} {k:Nat} (d:List T) (ht:P.underlying t=some (.slice e)) (he:Opens P e c) (hk:P.cellsOf e=k) (hc:∀ a,(c a).length=k) (hpos : 0<k) :
  Opens P t fun al:List α => [.list k d (al.map c)]:=by
 subst hk
 intro H enc w spare held n cs x hx
 rcases DataW.trod_slice ht hx with ⟨rfl,_⟩ | ⟨a,len,cap,elems,rest,m,rfl,rfl,rfl,hb,hl,hm,hlen,hel,_,_⟩
 ·exact ⟨[], .list _ _ _ none 0 (Nat.zero_le _) (Nat.zero_le _) (fun _=>rfl) (by simp) (by simp) (by simp),trivial⟩
 ·obtain ⟨al,h1,h2⟩:=choose_list (Q:=fun i x => ∃ cs,w.cells? 0 (a.add (i*P.cellsOf e)) (P.cellsOf e)=some cs∧RdTs w (allS w) (c x) cs) len fun i hi=>by
   have h3:=hel i hi
   rw [List.getElem?_eq_getElem (by omega)] at h3
   obtain ⟨cs,h4,h5⟩:=Option.bind_eq_some_iff.1 h3
   obtain ⟨y,hy⟩:=he enc w spare held m cs _ h5
   exact ⟨y,cs,h4,hy⟩
  refine ⟨al,?_,trivial⟩
  have hlen':(al.map c).length=len:=by simp [h1]
  rw [← hlen']
  have key:∀ i y,al[i]? = some y → ∃ cs,RdTs w (allS w) (c y) cs∧cs.length=P.cellsOf e∧a.spot=none∧a.block<w.heap.size ∧ ∀ j,j<P.cellsOf e→w.cell? ⟨a.block,a.off+i*P.cellsOf e+j,none⟩=cs[j]? := by
   intro i y hy
   obtain ⟨cs,h3,h4⟩:=h2 i y hy
   obtain ⟨_,h5,h6⟩:=World.cells?_some h3
   have h0:=h6 0 hpos
   rw [List.getElem?_eq_getElem (by omega)] at h0
   have hlt:=cell_lts h0
   have hsp:a.spot=none:=by
    have hl0 : 0<al.length:=by have:=(List.getElem?_eq_some_iff.1 hy).1;omega
    obtain ⟨cs0,g3,g4⟩:=h2 0 _ (List.getElem?_eq_getElem hl0)
    obtain ⟨_,g5,g6⟩:=World.cells?_some g3
    have g0:=g6 0 hpos
    rw [List.getElem?_eq_getElem (by omega),Nat.zero_mul] at g0
    have e0:(a.add 0).add 0=a:=by simp [Addr.add]
    rw [e0] at g0
    exact cell_spot g0
   obtain ⟨b,off,sp⟩:=a
   have hsp':sp=none:=hsp
   subst hsp'
   rw [Addr.add_lit,Addr.add_lit] at hlt
   refine ⟨cs,h4,h5,rfl,hlt,fun j hj=>?_⟩
   have:=h6 j hj
   rw [Addr.add_lit,Addr.add_lit] at this
   exact this
  refine .list _ _ _ (some a) cap (by omega) (by omega) (fun h=>by cases h) ?_ ?_ ?_
  ·intro y hy
   obtain ⟨z,_,rfl⟩:=List.mem_map.1 hy
   exact hc z
  ·intro i y hy
   rw [List.getElem?_map,Option.map_eq_some_iff] at hy
   obtain ⟨z,hz,rfl⟩:=hy
   obtain ⟨cs,k1,k2,k3,k4,k5⟩:=key i z hz
   obtain ⟨b,off,sp⟩:=a
   have k3':sp=none:=k3
   subst k3'
   refine ⟨b,off,rfl,k4,fun j x hx=>?_⟩
   have hj:j<P.cellsOf e:=by rw [← hc z];exact (List.getElem?_eq_some_iff.1 hx).1
   exact ⟨cs[j]'(by omega),by rw [k5 j hj,List.getElem?_eq_getElem (by omega)]⟩
  ·intro i y j x' b off u hy hx' hA hu
   rw [List.getElem?_map,Option.map_eq_some_iff] at hy
   obtain ⟨z,hz,rfl⟩:=hy
   obtain ⟨cs,k1,k2,k3,k4,k5⟩:=key i z hz
   injection hA with hA
   subst hA
   have hj:j<P.cellsOf e:=by rw [← hc z];exact (List.getElem?_eq_some_iff.1 hx').1
   rw [k5 j hj] at hu
   exact rdTs_at k1 hx' hu
def laysF (P:Program):List Field→Nat→Option Nat
 | [],o=>some o
 | f::r,o=>if f.offset=o then laysF P r (o+P.cellsOf f.type) else none
def OpensF (P:Program) (fs:List Field) (c : α → List T):Prop :=
 ∀ {H:Type} (enc:TypeId×Value→H) (w:World) (spare:Nat→Bool) (held:Bool) (n:Nat) (cs:List Value),(∀ f∈fs, ∃ x,DataW.trod enc P w 0 spare held n f.type ((cs.drop f.offset).take (P.cellsOf f.type))=some x) →
  ∀ o e,laysF P fs o=some e → ∃ a,RdTs w (allS w) (c a) ((cs.drop o).take (e - o))
end
def OpensV {α : Type} (P:Program) (t:TypeId) (v : α → V):Prop :=
 ∀ {H:Type} (enc:TypeId×Value→H) (w:World) (spare:Nat→Bool) (held:Bool) (val:Value) (d:DataW H) (p:List MemPlace),Value.okWide P w .any 0 t val→DataW.Trod enc P w 0 spare held t val d p → ∃ a,RdV w (bareE (allS w)) (v a) val
section
variable {P:Program} {t:TypeId} {α β : Type}
theorem one_cell {w:World} {S:Nat→Prop} {x:T} {u:Value} {l:List Value} (hl:l = [u]) (h:RdTs w S [x] l):RdV w (bareE S) (.t x) u:=by
 subst hl
 simp only [RdV]
 exact h.1
theorem opensV_slice {e:TypeId} {x : α → T} (ht:P.underlying t=some (.slice e)) (ho:Opens P t fun a=>[x a]):OpensV P t fun a => .t (x a):=by
 rintro H enc w spare held val d p hv ⟨n,hn⟩
 obtain ⟨A,l,c,rfl⟩:=okWide_slice ht hv
 obtain ⟨a,ha⟩:=ho enc w spare held n _ _ hn
 exact ⟨a,one_cell rfl ha⟩
def OpensVs (P:Program) (ts:List TypeId) (vs : α → List V):Prop :=
 ∀ {H:Type} (enc:TypeId×Value→H) (w:World) (spare:Nat→Bool) (held:Bool) (args:List Value) (ds:List (DataW H)) (p:List MemPlace),(∀ (j:Nat) t v,ts[j]? = some t→args[j]? = some v→Value.okWide P w .any 0 t v) →
  DataW.TrodAll enc P w 0 spare held ts args ds p → ∃ a,RdVs w (bareE (allS w)) (vs a) args
theorem opensVs_nil:OpensVs P [] fun _:Unit=>[]:=by
 intro H enc w spare held args ds p hv h
 cases args with
 | nil=>exact ⟨(),by simp [RdVs]⟩
 | cons _ _=>cases ds<;>exact h.elim
theorem opensVs_cons {ts:List TypeId} {v : α → V} {vs : β → List V} (h1:OpensV P t v) (h2:OpensVs P ts vs):OpensVs P (t::ts) fun x : α × β => v x.1::vs x.2:=by
 intro H enc w spare held args ds p hv h
 cases args with
 | nil=>cases ds<;>exact h.elim
 | cons u us =>
  cases ds with
  | nil=>exact h.elim
  | cons d ds =>
   obtain ⟨p1,p2,k1,k2,rfl⟩:=h
   obtain ⟨a,ha⟩:=h1 enc w spare held u d p1 (hv 0 t u rfl rfl) k1
   obtain ⟨b,hb⟩:=h2 enc w spare held us ds p2 (fun j t v ht hv'=>hv (j+1) t v (by simpa using ht) (by simpa using hv')) k2
   exact ⟨(a,b),by simp only [RdVs];exact ⟨ha,hb⟩⟩
def keepsB (P:Program) (ts:List TypeId):Bool:=ts.all fun t=>P.readableRec t&&decide (t<P.types.size)
theorem trodAll_keep {H:Type} {enc:TypeId×Value→H} (hl:laidOutB P=true) {W W':World} (hb:Below W.heap.size W W'):∀ {ts:List TypeId} {vs:List Value} {ds:List (DataW H)} {p:List MemPlace},keepsB P ts=true →
  DataW.TrodAll enc P W 0 (fun _=>true) true ts vs ds p→DataW.TrodAll enc P W' 0 (fun b=>decide (b<W.heap.size)) true ts vs ds p
 | [],[],[],_,_,h=>h
 | t::ts,v::vs,d::ds,p,hk,h=>by
  obtain ⟨p1,p2,k1,k2,rfl⟩:=h
  simp only [keepsB,List.all_cons,Bool.and_eq_true,decide_eq_true_eq] at hk
  refine ⟨p1,p2,Below.trod hl hk.1.1 hk.1.2 k1 hb ?_,trodAll_keep hl hb (by simpa [keepsB] using hk.2) k2,rfl⟩
  obtain ⟨m,hm⟩:=k1
  exact DataW.trod_lt m _ _ _ hm
 | [],_::_,_,_,_,h=>h.elim
 | [],[],_::_,_,_,h=>h.elim
 | _::_,[],_,_,_,h=>h.elim
 | _::_,_::_,[],_,_,h=>h.elim
end
open Go.RowKit
theorem joined_mk {P:Program} {f:FuncId} {fn:Func} {s:ChangeSpec} {c:OpenClaim}
  (k1:c.wf (OpenSpec.ofChange s)=true) (k2:laidOutB P=true) (k3:mapsRowed P=true) (k4:fn.params.all (P.readableRec ·)=true) (k5:namedTie P c.named s.vars=true)
  (k6:(c.inPlace==P.inPlace f)=true) (k7:(c.unfollowed==P.unfollowed f)=true) (k8:(c.recurses==P.recurses f)=true) (k9:(c.named==P.varsNamed f)=true)
  (k10:(c.plainKeys==P.plainKeys)=true) (k11:P.stopsHeard=true) (k12:P.mayEnter=true) (k13:(c.lifted==P.liftsFinal)=true) (k14:(P.make==some c.make)=true) (k15:(c.pinned==c.pinnedBy)=true)
  (r1:((c.stops == [])&&(P.stops == [])&&(c.knobs == [])&&(P.stopKnobs == []))=true)
  (r2:(c.maps==(fn.params.toList++s.plain.varTypes P).any (P.mapsRec ·))=true) (r3:(c.ifaces==(fn.params.toList++s.plain.varTypes P).any (P.ifacesRec ·))=true) (r4:(c.mapsOut==P.mapsAmong fn.resultTypes.toList)=true)
  (r5:(c.loops==(fn.params.toList++s.plain.varTypes P).any (P.loopsFrom ·))=true) (r6:(c.wideKeys==(fn.params.toList++s.plain.varTypes P++fn.resultTypes.toList).any (P.wideKeysFrom ·))=true)
  (r7:s.vars.all (P.varReadable ·)=true) (r8:fn.resultTypes.all (fun t=>P.readableRec t&&decide (t<P.types.size))=true) (r9:(c.ifacesOut==fn.resultTypes.toList.any (P.ifacesRec ·))=true) (r10:(c.loopsOut==fn.resultTypes.toList.any (P.loopsFrom ·))=true)
  (r11:c.shortTexts.isNone=true) (r12:(c.kinds==(if c.domain.isEmpty then [] else fn.params.toList.map fun t=>match P.underlying t with | some (.int k)=>some k | _=>none))=true)
  (r13:(c.veiled==(fn.params.toList++s.plain.varTypes P++fn.resultTypes.toList).any (P.veiledRec ·))=true) (r14:c.veiledFits P fn.params.toList (fn.params.toList++s.plain.varTypes P++fn.resultTypes.toList)=true) :
  joinedFacts P f fn s c=true:=by
 simp only [Bool.and_eq_true] at r1
 unfold joinedFacts
 rw [k1,k2,k3,k4,k5,k6,k7,k8,k9,k10,k11,k12,k13,k14,k15,r1.1.1.1,r1.1.1.2,r1.1.2,r1.2,r2,r3,r4,r5,r6,r7,r8,r9,r10,r11,r13,r14]
 simp only [Bool.true_and,Bool.and_true]
 exact r12
open Go.RowKit
set_option maxRecDepth 4000
def SAny (P:Program) (ops:Array Oper) (Q:Exit→St→Prop) (f:Nat) (listed:Array Bool) (σ : St):Prop :=
 ∀ E a w,RelF E σ a w → ∀ E0 w0,Ext E0 w0 E w→wpAnyIn (Wd E.ro) 0 P .any ops (LiftQ E0 w0 Q) f listed a w
section
variable {P:Program} {l:List Oper} {Q:Exit→St→Prop} {n0 m:Nat} {L:Log} {σT σ0:St} {rs:List Rec} {fT:Nat}
end
inductive RS where
 | op (i:Nat)
 | give (is:List Nat)
def RS.tree:List RS→OT
 | [] => .done
 | .op i::r => .step i (RS.tree r)
 | .give _::r=>RS.tree r
def giveR (K:St→Prop) (σ : St) (o:Option Heap):Prop :=
 match o with
 | some h=>K { σ with h:=Heap.res h h,fr:=V.ress h σ.fr }
 | none=>False
def opR (P:Program) (o:Option Oper) (σ : St) (K:St→Prop):Prop :=
 match o with
 | some o=>opG P o o.guard σ K
 | none=>False
where
 opG (P:Program) (o:Oper) (g:Option (Nat×Bool)) (σ : St) (K:St→Prop):Prop :=
  match g with
  | none=>estepN P σ o.dst o.op K
  | some _=>False
def rsteps (P:Program) (l:List Oper) (K:St→Prop):List RS→St→Prop
 | [], σ => K σ
 | .op i::r, σ => opR P (l[i]?) σ (rsteps P l K r)
 | .give is::r, σ => giveR (rsteps P l K r) σ (giveL is σ.h)
@[go_sem] theorem rsteps_nil {P:Program} {l:List Oper} {K:St→Prop} {σ : St}:rsteps P l K [] σ = K σ := rfl
@[go_sem] theorem rsteps_op {P:Program} {l:List Oper} {K:St→Prop} {σ : St} {i:Nat} {r:List RS}:rsteps P l K (.op i::r) σ = opR P (l[i]?) σ (rsteps P l K r):=rfl
@[go_sem] theorem rsteps_give {P:Program} {l:List Oper} {K:St→Prop} {σ : St} {is:List Nat} {r:List RS}:rsteps P l K (.give is::r) σ = giveR (rsteps P l K r) σ (giveL is σ.h):=rfl
attribute [go_sem] giveR opR opR.opG
open Go.RowKit
set_option maxRecDepth 4000
theorem rdTs_vs {w:World} {E:Env}:∀ {xs:List T} {vs:List Value},RdVs w E (xs.map V.t) vs→RdTs w E.S xs vs
 | [],[],_=>trivial
 | x::xs,v::vs,h=>by
  simp only [List.map_cons,RdVs] at h
  exact ⟨by have:=h.1;simpa only [RdV] using this,rdTs_vs h.2⟩
 | [],_::_,h=>by simp only [List.map_nil,RdVs] at h
 | _::_,[],h=>by simp only [List.map_cons,RdVs] at h
def rowsT:List (List V)→Option (List (List T))
 | []=>some []
 | x::r=>rowsU (tCells x) (rowsT r)
where
 rowsU (a:Option (List T)) (b:Option (List (List T))):Option (List (List T)) :=
  match a,b with
  | some a,some b=>some (a::b)
  | _,_=>none
theorem tCells_inv:∀ {x:List V} {a:List T},tCells x=some a→x=a.map V.t
 | [],a,h=>by
  simp only [tCells] at h
  injection h with h;subst h;rfl
 | v::x,a,h=>by
  cases v with
  | t y =>
   simp only [tCells] at h
   cases e:tCells x with
   | none=>rw [e] at h;cases h
   | some b =>
    rw [e] at h
    injection h with h;subst h
    rw [List.map_cons,tCells_inv e]
  | _=>simp only [tCells] at h;cases h
theorem rowsT_inv:∀ {xs:List (List V)} {rows:List (List T)},rowsT xs=some rows→xs=tRows rows
 | [],rows,h=>by
  injection h with h;subst h;rfl
 | x::xs,rows,h=>by
  unfold rowsT rowsT.rowsU at h
  split at h
  ·rename_i a b h1 h2
   injection h with h;subst h
   rw [tCells_inv h1,rowsT_inv h2]
   rfl
  ·cases h
def bsQ (k:Nat) (d:List T) (σ : St) (dst:Option Tmp) (K:St→Prop) (r:Option (List (List T))):Prop :=
 match r with
 | some rows=>K (σ.put dst (.t (.list k d rows)))
 | none=>False
def bsB (σ : St) (dst:Option Tmp) (K:St→Prop) (b:Blk):Prop :=
 match b with
 | .row _ k d xs=>bsQ k d σ dst K (rowsT xs)
 | _=>False
def bsG (l:List Oper) (σ : St) (g:Option (Nat×Bool)):Prop :=
 match g with
 | none=>True
 | some (j,want)=>guardS l σ j want=some true
def bsC (P:Program) (l:List Oper) (σ : St) (o:Oper) (K:St→Prop):Prop:=bsG l σ o.guard∧kR (newR P σ o.op) (bsB σ o.dst K)
theorem bsC_inv {P:Program} {l:List Oper} {σ : St} {o:Oper} {K:St→Prop} (h:bsC P l σ o K):∃ p e k d rows,newR P σ o.op=some (p, .row e k d (tRows rows))∧p∧bsG l σ o.guard∧K (σ.put o.dst (.t (.list k d rows))):=by
 obtain ⟨hg,h⟩:=h
 cases hr:newR P σ o.op with
 | none=>rw [hr] at h;exact h.elim
 | some pb =>
  obtain ⟨p,b⟩:=pb
  rw [hr] at h
  obtain ⟨hp,h⟩:=h
  unfold bsB at h
  split at h
  ·rename_i e k d xs
   unfold bsQ at h
   split at h
   ·rename_i rows hx
    rw [rowsT_inv hx]
    exact ⟨p,e,k,d,rows,rfl,hp,hg,h⟩
   ·exact h.elim
  ·exact h.elim
theorem vld_bs {P:Program} {ops:List Oper} {n0 i:Nat} {o:Oper} {σ : St} {p:Prop} {e k:Nat} {d:List T} {rows:List (List T)} (hg:bsG ops σ o.guard) (h:newR P σ o.op=some (p, .row e k d (tRows rows))) (hp:p) {M:List (Nat×Bool)} :
  Vld P ops n0 i o σ ⟨o.dst, .t (.list k d rows), .none⟩ M:=by
 refine ⟨rfl,fun t blk h=>(by rcases h with h | ⟨_,h⟩<;>cases h),fun σ' hnx hev hh hgs E a w next Q hr hlt hnU hn=>?_⟩
 have h2:=newR_ok (o:=o) (σ := σ') (by rw [newR_same hev];exact h) hp
 have hw:Region.wanted o (yielded ops.toArray a.tmps)=true:=by
  cases hgd:o.guard with
  | none=>simp [Region.wanted,hgd]
  | some jw =>
   obtain ⟨j,want⟩:=jw
   rw [hgd] at hg
   refine guard_ok hr hgd ?_
   rw [← show guardS ops σ j want=some true from hg]
   unfold guardS
   split
   ·rename_i t ht
    have:=hgs j want hgd t ht
    simp only [St.ev] at this
    rw [this]
   ·rfl
 unfold OW
 rw [if_pos hw]
 obtain ⟨hv,w',hrun,hb,hone,hnew,hblk⟩:=h2.2 E a w hr
 obtain ⟨k1,k2⟩:=hr.later (S':=fun b=>E.S b∨blockOf hv=some b) hb (fun _ h => .inl h) (fun b hb=>hb.imp id fun q=>(hnew b q).1) (fun b hb'=>by
  rcases hb' with hb' | hb'
  ·exact Nat.lt_of_lt_of_le (hr.rel.slt b hb') hb.size
  ·exact (hnew b hb').2)
 have hT:RdT w' (fun b=>E.S b∨blockOf hv=some b) (.list k d rows) hv:=by
  obtain ⟨cells,q1,q2,q3,q4⟩:=hblk _ k2
  have e1:(tRows rows).flatten=rows.flatten.map V.t:=by
   unfold tRows
   rw [List.map_flatten]
  rw [e1] at q2
  refine rdT_row (S:=fun b=>E.S b∨blockOf hv=some b) (e:=e) (by simpa [tRows] using q1) (rdTs_vs q2) (fun x hx=>?_) (fun _ h=>h) (fun b hb => .inr hb)
  have:=q3 (x.map V.t) (by unfold tRows;exact List.mem_map_of_mem hx)
  rwa [List.length_map] at this
 refine ⟨?_,fun c hc=>by rw [hc] at h;simp [newR] at h⟩
 unfold Oper.wp
 rw [hrun]
 exact hn _ w' _ (σ'.put o.dst (.t (.list k d rows))) put_setO (fun q=>by rw [put_h];rfl) put_nx put_df (k1.put o.dst (by simp only [RdV];exact hT)) k2 fun q hq => .inl hq
def stepP (P:Program) (l:List Oper) (n0 i:Nat) (σ : St) (o:Oper) (b:Bool) (K:CK→St→Prop):Prop :=
 match b with
 | true=>bsC P l σ o (K .new)
 | false=>cStep P l n0 i σ o.dst o.op o.guard (ckind P o.op o.guard) (K (ckind P o.op o.guard))
def cRunP (P:Program) (pu:List Nat) (l:List Oper) (n0:Nat) (fin:St→Prop):Nat→List Oper→Log→St→Prop
 | _,[],L, σ => chkL l n0 L=true∧fin σ
 | i,o::os,L, σ => stepP P l n0 i σ o (pu.contains i) (fun k=>cRunP P pu l n0 fin (i+1) os (logOf i σ k (opsOf o.op) L))
section
variable {P:Program} {pu:List Nat} {l:List Oper} {n0 i:Nat} {fin:St→Prop} {L:Log} {σ : St}
@[go_sem] theorem cRunP_nil:cRunP P pu l n0 fin i [] L σ = (chkL l n0 L=true∧fin σ):=rfl
@[go_sem] theorem cRunP_cons {o:Oper} {os:List Oper}:cRunP P pu l n0 fin i (o::os) L σ = stepP P l n0 i σ o (pu.contains i) (fun k=>cRunP P pu l n0 fin (i+1) os (logOf i σ k (opsOf o.op) L)):=rfl
@[go_sem] theorem stepP_true {o:Oper} {K:CK→St→Prop}:stepP P l n0 i σ o true K=bsC P l σ o (K .new):=rfl
@[go_sem] theorem stepP_false {o:Oper} {K:CK→St→Prop}:stepP P l n0 i σ o false K=cStep P l n0 i σ o.dst o.op o.guard (ckind P o.op o.guard) (K (ckind P o.op o.guard)):=rfl
@[go_sem] theorem rowsT_t (xs:List (List T)):rowsT (tRows xs)=some xs:=by
 induction xs with
 | nil=>rfl
 | cons x xs ih =>
  unfold tRows at ih ⊢
  rw [List.map_cons,rowsT,ih]
  have:∀ x:List T,tCells (x.map V.t)=some x:=fun x=>by
   induction x with
   | nil=>rfl
   | cons a x ih=>rw [List.map_cons];simp only [tCells,ih,Option.map_some]
  rw [this]
  rfl
end
attribute [go_sem] bsC bsG bsB bsQ rowsT rowsT.rowsU List.contains_cons List.contains_nil
open Go.RowKit
set_option maxRecDepth 4000
theorem semS_io {P:Program} {ops:List Oper} {Q:Exit→St→Prop} {o:Oper} {r:List Oper} {σ : St} {f:FuncId} {args:Array Operand} {tys:Array TypeId} (hg:o.guard=none) (ho:o.op = .call { callee := .value (.func f),args:=args,argTypes:=tys })
  (h:useVs true (args.toList.map σ.ev) fun xs=>ICall P σ o.dst f xs (semS P ops Q r)):semS P ops Q (o::r) σ := by
 intro E a w hr E0 w0 hE
 unfold wpListIn
 have hw:Region.wanted o (yielded ops.toArray a.tmps)=true:=by simp [Region.wanted,hg]
 rw [if_pos hw]
 have hi:OpI P o σ (semS P ops Q r):=opi_of (.inr fun c hc=>by rw [ho] at hc;cases hc) (ow_icall ho h)
 exact hi E a w hr _ _ fun a' w' E' σ' h1 h2 h3=>by
  have:=h3 E' a' w' h1 E0 w0 (hE.trans h2)
  rwa [h2.ro] at this
open Go.RowKit
set_option maxRecDepth 4000
def gopR (P:Program) (l:List Oper) (o:Option Oper) (σ : St) (K:St→Prop):Prop :=
 match o with
 | some o=>gopG P l o o.guard σ K
 | none=>False
where
 gopG (P:Program) (l:List Oper) (o:Oper) (g:Option (Nat×Bool)) (σ : St) (K:St→Prop):Prop :=
  match g with
  | none=>estepN P σ o.dst o.op K
  | some (j,want)=>guardS l σ j want=some true∧estepN P σ o.dst o.op K
def gsteps (P:Program) (l:List Oper) (K:St→Prop):List RS→St→Prop
 | [], σ => K σ
 | .op i::r, σ => gopR P l (l[i]?) σ (gsteps P l K r)
 | .give is::r, σ => giveR (gsteps P l K r) σ (giveL is σ.h)
@[go_sem] theorem gsteps_nil {P:Program} {l:List Oper} {K:St→Prop} {σ : St}:gsteps P l K [] σ = K σ := rfl
@[go_sem] theorem gsteps_op {P:Program} {l:List Oper} {K:St→Prop} {σ : St} {i:Nat} {r:List RS}:gsteps P l K (.op i::r) σ = gopR P l (l[i]?) σ (gsteps P l K r):=rfl
@[go_sem] theorem gsteps_give {P:Program} {l:List Oper} {K:St→Prop} {σ : St} {is:List Nat} {r:List RS}:gsteps P l K (.give is::r) σ = giveR (gsteps P l K r) σ (giveL is σ.h):=rfl
attribute [go_sem] gopR gopR.gopG
open Go.RowKit
set_option maxRecDepth 4000
theorem rdVs_reset {w:World} {E:Env} {x y:V} (h:∀ v,RdV w E x v→RdV w E y v):∀ {fr:List V} {vs:List Value} {d:Nat},RdVs w E (fr.set d x) vs→RdVs w E (fr.set d y) vs
 | [],vs,d,hr=>hr
 | z::fr,[],0,hr=>by simp only [List.set_cons_zero,RdVs] at hr
 | z::fr,[],d+1,hr=>by simp only [List.set_cons_succ,RdVs] at hr
 | z::fr,v::vs,0,hr=>by
  simp only [List.set_cons_zero,RdVs] at hr ⊢
  exact ⟨h _ hr.1,hr.2⟩
 | z::fr,v::vs,d+1,hr=>by
  simp only [List.set_cons_succ,RdVs] at hr ⊢
  exact ⟨hr.1,rdVs_reset h hr.2⟩
theorem look_cons_set (n q:Nat) (b c:Blk) (h:Heap):Heap.look (Heap.set ((n,b)::h) n c) q=if q=n then some c else h.look q:=by
 rw [Heap.look_set (old:=b) _ _ _ (by simp [Heap.look])]
 simp only [Heap.look]
 split
 ·rfl
 ·rfl
theorem vld_appT {P:Program} {ops:List Oper} {n0 i:Nat} {o:Oper} {σ : St} {pp:Prop} {old:Option Nat} {e0 k:Nat} {d:List T} {rows:List (List T)} {t t2:TypeId} {s x:Operand} {M:List (Nat×Bool)} (hg:bsG ops σ o.guard) (ht2:appTy P t t2)
  (ho:o.op = .call { callee := .builtin .append,args := #[s,x],argTypes := #[t,t2] }) (h:appS P σ (P.elemT t) s x=some (pp,(old, .row e0 k d (tRows rows)))) (hp:pp)
  (hM:∀ q∈(σ.ev s).ment,(q,true)∈M) (hM2:∀ q∈(σ.ev x).ment,q∈M.map (·.1)):Vld P ops n0 i o σ ⟨o.dst, .t (.list k d rows),effA old (.shr (.list k d rows))⟩ M:=by
 cases hte:P.elemT t with
 | none=>rw [hte] at h;cases h
 | some e =>
  rw [hte] at h
  have h:(useR (strip true (σ.ev s)) fun s'=>useR (strip true (σ.ev x)) fun x'=>apR σ.h e (P.szT e) (P.bytesT e) (P.zeroT e) s' x')=some (pp,(old, .row e0 k d (tRows rows))):=h
  obtain ⟨r1,h1,e1,c1⟩:=useR_inv2 h
  obtain ⟨r2,h2,e2,c2⟩:=useR_inv2 h1
  obtain ⟨cs,c1⟩:=c1 hp
  obtain ⟨cx,c2⟩:=c2 c1
  have eib:r2.2=(old, .row e0 k d (tRows rows)):=by rw [e2,e1]
  refine ⟨rfl,fun t' blk hh=>?_,fun σ' hnx hev hh hgs E a w next Q hr hlt hnU hn=>?_⟩
  ·have ht:r2.2.1=some t':=by
    rw [eib]
    cases old with
    | none=>rcases hh with hh | ⟨_,hh⟩<;>cases hh
    | some q=>rcases hh with hh | ⟨_,hh⟩<;>cases hh;rfl
   exact hM _ (strip_ment _ (apR_look h2 ht))
  ·have es : σ'.ev s = σ.ev s:=hev s (by rw [ho];simp [Op.operands,Call.operands])
   have ex : σ'.ev x = σ.ev x:=hev x (by rw [ho];simp [Op.operands,Call.operands])
   have h3:=apR_ext (h' := σ'.h) (fun q b hq hb=>hh q b (List.mem_map.2 ⟨_,hM q (strip_ment q hq),rfl⟩) hb) (fun q b hq hb=>hh q b (hM2 q (strip_ment q hq)) hb) h2
   have h4:apR σ'.h e (P.szT e) (P.bytesT e) (P.zeroT e) (strip true (σ.ev s)).2 (strip true (σ.ev x)).2=some (r2.1,(old, .row e0 k d (tRows rows))):=by rw [h3, ← eib]
   have hw:Region.wanted o (yielded ops.toArray a.tmps)=true:=by
    cases hgd:o.guard with
    | none=>simp [Region.wanted,hgd]
    | some jw =>
     obtain ⟨j,want⟩:=jw
     rw [hgd] at hg
     refine guard_ok hr hgd ?_
     rw [← show guardS ops σ j want=some true from hg]
     unfold guardS
     split
     ·rename_i t ht
      have:=hgs j want hgd t ht
      simp only [St.ev] at this
      rw [this]
     ·rfl
   unfold OW
   rw [if_pos hw]
   refine ⟨append_at ht2 ho hte (fun w E v hv=>strip_ok cs (by rw [← es];exact hv)) (fun w E v hv=>strip_ok cx (by rw [← ex];exact hv)) h4 c2 hr hnU (by omega) fun a' w' E' k1 k2 k3=>?_,fun c hc=>by rw [hc] at ho;cases ho⟩
   have hgl:Go.Proofs.YtkjdkbmfaamhaaaGreat.giveL [n0+i] (({ σ' with h:=(n0+i, .row e0 k d (tRows rows))::delO σ'.h old }:St).put o.dst (.own (n0+i))).h=some (Heap.set ((n0+i, .row e0 k d (tRows rows))::delO σ'.h old) (n0+i) (.shr (.list k d rows))):=by
    rw [put_h]
    simp only [Go.Proofs.YtkjdkbmfaamhaaaGreat.giveL,Heap.look,if_true,give1B,lendRs_lendS,give1B.giveB,giveL.giveN]
   obtain ⟨E1,q1,q2,q3⟩:=RelF.giveL [n0+i] (σ := ({ σ' with h:=(n0+i, .row e0 k d (tRows rows))::delO σ'.h old }:St).put o.dst (.own (n0+i))) (E:=E') k1 hgl
   have hval:∀ v,RdV w' E1 (.own (n0+i)) v→RdV w' E1 (.t (.list k d rows)) v:=fun v hv=>by
    obtain ⟨hv0,hF,hT⟩:=q1.rel.has (n0+i) (.shr (.list k d rows)) (by rw [look_cons_set];simp)
    simp only [RdV] at hv ⊢
    rw [hv.2.2 hv0 (.inr hF)]
    exact hT
   have hfr:RdVs w' E1 (setO σ'.fr o.dst (.t (.list k d rows))) a'.tmps.toList:=by
    have h5:=q1.fr
    cases hd:o.dst with
    | none =>
     rw [hd] at h5
     exact h5
    | some dd =>
     rw [hd] at h5
     exact rdVs_reset hval h5
   refine hn a' w' E1 { fr:=setO σ'.fr o.dst (.t (.list k d rows)),h:=Heap.set ((n0+i, .row e0 k d (tRows rows))::delO σ'.h old) (n0+i) (.shr (.list k d rows)),nx := σ'.nx,df := σ'.df } rfl (fun q=>?_) rfl rfl ⟨q1.rel,fun j hj=>?_,hfr,?_⟩ (k2.trans q2) fun q hq=>k3 q (q3 q hq)
   ·show Heap.look (Heap.set _ _ _) q=_
    rw [look_cons_set]
    cases old with
    | none =>
     simp only [effA,tch,delO]
     split<;>rfl
    | some q' =>
     simp only [effA,tch,delO]
     rw [Heap.look_del]
     split
     ·rfl
     ·split<;>rfl
   ·have:=q1.bound j hj
    simp only [put_nx] at this
    exact this
   ·have:=q1.defers
    simp only [put_df] at this
    exact this
def apC (P:Program) (l:List Oper) (n0 i:Nat) (σ : St) (o:Oper) (K:St→Prop):Prop :=
 bsG l σ o.guard∧apO P n0 i σ o.dst o.op K
where
 apT (n0 i:Nat) (σ : St) (d:Option Tmp) (K:St→Prop) (old:Option Nat) (k:Nat) (dd:List T) (r:Option (List (List T))):Prop :=
  match r with
  | some rows=>K (({ σ with h:=(n0+i, .shr (.list k dd rows))::delO σ.h old }:St).put d (.t (.list k dd rows)))
  | none=>False
 apB (n0 i:Nat) (σ : St) (d:Option Tmp) (K:St→Prop) (old:Option Nat) (b:Blk):Prop :=
  match b with
  | .row _ k dd xs=>apT n0 i σ d K old k dd (rowsT xs)
  | _=>False
 apP (n0 i:Nat) (σ : St) (d:Option Tmp) (K:St→Prop) (tb:Option Nat×Blk):Prop:=apB n0 i σ d K tb.1 tb.2
 apL (P:Program) (n0 i:Nat) (σ : St) (d:Option Tmp) (args:List Operand) (tys:List TypeId) (K:St→Prop):Prop :=
  match args,tys with
  | [s,x],[t,t']=>appTy P t t'∧kR (appS P σ (P.elemT t) s x) (apP n0 i σ d K)
  | _,_=>False
 apO (P:Program) (n0 i:Nat) (σ : St) (d:Option Tmp) (op:Op) (K:St→Prop):Prop :=
  match op with
  | .call { callee := .builtin .append,args,argTypes }=>apL P n0 i σ d args.toList argTypes.toList K
  | _=>False
theorem apC_inv {P:Program} {l:List Oper} {n0 i:Nat} {σ : St} {o:Oper} {K:St→Prop} (h:apC P l n0 i σ o K):∃ s x t t2 old e k d rows pp,appTy P t t2∧o.op = .call { callee := .builtin .append,args := #[s,x],argTypes := #[t,t2] } ∧
  appS P σ (P.elemT t) s x=some (pp,(old, .row e k d (tRows rows)))∧pp∧bsG l σ o.guard∧K (({ σ with h:=(n0+i, .shr (.list k d rows))::delO σ.h old }:St).put o.dst (.t (.list k d rows))):=by
 obtain ⟨hg,h⟩:=h
 unfold apC.apO at h
 split at h
 ·rename_i args tys ho
  unfold apC.apL at h
  split at h
  ·rename_i s x t t' hx ht
   obtain ⟨ht2,h⟩:=h
   have ha:args = #[s,x]:=by apply Array.ext';simpa using hx
   have hb:tys = #[t,t']:=by apply Array.ext';simpa using ht
   cases hr:appS P σ (P.elemT t) s x with
   | none=>rw [hr] at h;exact h.elim
   | some pb =>
    obtain ⟨pp,old,b⟩:=pb
    rw [hr] at h
    obtain ⟨hp,h⟩:=h
    unfold apC.apP apC.apB at h
    split at h
    ·rename_i e k dd xs hb2
     unfold apC.apT at h
     split at h
     ·rename_i rows hrows
      simp only at hb2
      subst hb2
      rw [rowsT_inv hrows] at hr
      exact ⟨s,x,t,t',old,e,k,dd,rows,pp,ht2,by rw [ho,ha,hb],hr,hp,hg,h⟩
     ·exact h.elim
    ·exact h.elim
  ·exact h.elim
 ·exact h.elim
def modeQ (pu pa:List Nat) (i:Nat):Nat:=if pu.contains i=true then 1 else if pa.contains i=true then 2 else 0
def stepQ (P:Program) (l:List Oper) (n0 i:Nat) (σ : St) (o:Oper) (m:Nat) (K:CK→St→Prop):Prop :=
 match m with
 | 1=>bsC P l σ o (K .new)
 | 2=>apC P l n0 i σ o (K .app)
 | _=>cStep P l n0 i σ o.dst o.op o.guard (ckind P o.op o.guard) (K (ckind P o.op o.guard))
def cRunQ (P:Program) (pu pa:List Nat) (l:List Oper) (n0:Nat) (fin:St→Prop):Nat→List Oper→Log→St→Prop
 | _,[],L, σ => chkL l n0 L=true∧fin σ
 | i,o::os,L, σ => stepQ P l n0 i σ o (modeQ pu pa i) (fun k=>cRunQ P pu pa l n0 fin (i+1) os (logOf i σ k (opsOf o.op) L))
theorem cRunQ_steps {P:Program} {pu pa:List Nat} {l:List Oper} {n0:Nat} {fin:St→Prop}:∀ (os:List Oper) (i:Nat) (L0:Log) (σ : St),cRunQ P pu pa l n0 fin i os L0 σ → ∃ L rs σ',(∀ e∈L0,e∈L)∧Steps P l n0 L σ' i os rs σ ∧ chkL l n0 L=true∧fin σ'
 | [],i,L0, σ,h=>⟨L0,[], σ,fun _ h=>h,⟨rfl,rfl⟩,h.1,h.2⟩
 | o::os,i,L0, σ,h=>by
  have h:stepQ P l n0 i σ o (modeQ pu pa i) (fun k=>cRunQ P pu pa l n0 fin (i+1) os (logOf i σ k (opsOf o.op) L0)):=h
  unfold stepQ at h
  split at h
  ·obtain ⟨p,e,k,d,rows,hr,hp,hg,hK⟩:=bsC_inv h
   obtain ⟨L,rs, σ',hsub,hS,hc,hf⟩:=cRunQ_steps os (i+1) _ _ hK
   exact ⟨L,_, σ',fun e he=>hsub e (log_sub he),⟨_,rs, σ.put o.dst (.t (.list k d rows)),pick2 i L,rfl,vld_bs hg hr hp,fun e he=>mem_pick2.1 he,put_setO,fun q=>by rw [put_h];rfl,put_nx,put_df,hS⟩,hc,hf⟩
  ·obtain ⟨s,x,t,t2,old,e,k,d,rows,pp,ht2,ho,hr,hp,hg,hK⟩:=apC_inv h
   obtain ⟨L,rs, σ',hsub,hS,hc,hf⟩:=cRunQ_steps os (i+1) _ _ hK
   rw [ho] at hsub
   have hV:Vld P l n0 i o σ ⟨o.dst, .t (.list k d rows),effA old (.shr (.list k d rows))⟩ (pick2 i L):=vld_appT hg ht2 ho hr hp (fun q hq=>by
    refine mem_pick2.2 (hsub _ ?_)
    obtain ⟨t,rfl,ht⟩:=ment_ev hq
    show (i,q,true)∈logOf i σ .app [.tmp t,x] L0
    rw [log_app]
    exact mem_mentL _ _ (.inr ⟨t,by simp,q,ht,rfl⟩)) (fun q hq=>by
    obtain ⟨u,hu⟩:=log_ment (k := .app) (L:=L0) (l:=[s,x]) (by simp:x ∈ [s,x]) hq (i:=i)
    exact List.mem_map.2 ⟨(q,u),mem_pick2.2 (hsub _ hu),rfl⟩)
   refine ⟨L,_, σ',fun e he=>hsub e (log_sub he),⟨_,rs,({ σ with h:=(n0+i, .shr (.list k d rows))::delO σ.h old }:St).put o.dst (.t (.list k d rows)),pick2 i L,rfl,hV,fun e he=>mem_pick2.1 he,put_setO,fun q=>?_,put_nx,put_df,hS⟩,hc,hf⟩
   rw [put_h]
   simp only [Heap.look]
   cases old with
   | none =>
    simp only [effA,tch,delO]
    split<;>rfl
   | some q' =>
    simp only [effA,tch,delO]
    rw [Heap.look_del]
    split
    ·rfl
    ·split<;>rfl
  unfold cStep at h
  cases hk:ckind P o.op o.guard with
  | bad=>rw [hk] at h;exact h.elim
  | look =>
   rw [hk] at h
   dsimp only at h
   have hm:=ckind_look hk
   obtain ⟨y,hK,hst⟩:=ostep_stable hm h
   obtain ⟨L,rs, σ',hsub,hS,hc,hf⟩:=cRunQ_steps os (i+1) _ _ hK
   have h2:ostep P l σ o.dst o.op o.guard (fun s=>s = σ.put o.dst y):=hst σ (fun _ _=>rfl) (fun _ _ _ _ _ h=>h) (fun _ _ _ _ _=>rfl) _ rfl
   obtain ⟨y',hy',hV⟩:=vld_look (n0:=n0) (i:=i) (M:=pick2 i L) hm h2 (mentOf hm hsub)
   refine ⟨L,_, σ',fun e he=>hsub e (log_sub he),⟨_,rs, σ.put o.dst y',pick2 i L,rfl,hV,fun e he=>mem_pick2.1 he,put_setO,fun q=>by rw [put_h];rfl,put_nx,put_df,?_⟩,hc,hf⟩
   rw [hy']
   exact hS
  | new =>
   rw [hk] at h
   dsimp only at h
   have hg:=ckind_new hk
   cases hr:newR P σ o.op with
   | none=>rw [hr] at h;exact h.elim
   | some pb =>
    obtain ⟨p,blk⟩:=pb
    rw [hr] at h
    obtain ⟨hp,hK⟩:=h
    obtain ⟨L,rs, σ',hsub,hS,hc,hf⟩:=cRunQ_steps os (i+1) _ _ hK
    have hV:Vld P l n0 i o σ ⟨o.dst, .own (n0+i), .new blk⟩ (pick2 i L):=vld_new hg hr hp
    refine ⟨L,_, σ',fun e he=>hsub e (log_sub he),⟨_,rs,({ σ with h:=(n0+i,blk) :: σ.h }:St).put o.dst (.own (n0+i)),pick2 i L,rfl,hV,fun e he=>mem_pick2.1 he,put_setO,fun q=>?_,put_nx,put_df,hS⟩,hc,hf⟩
    rw [put_h]
    simp only [Heap.look,tch]
    split<;>rfl
  | box =>
   rw [hk] at h
   dsimp only at h
   have hg:=ckind_box hk
   obtain ⟨f,args,tys,ho⟩:∃ f args tys,o.op = .call { callee := .value (.func f),args:=args,argTypes:=tys }:=by
    unfold boxC at h
    split at h
    ·rename_i ho;exact ⟨_,_,_,ho⟩
    ·exact h.elim
   rw [ho] at h
   have h:useVs true (args.toList.map σ.ev) fun xs=>BCall P (n0+i) σ o.dst f xs _:=h
   obtain ⟨ys,h1,hys⟩:=useVs_det h
   obtain ⟨t,cs,al,y,e,h2,hxs,hl,hp,ha,hB,hK⟩:=h1
   obtain ⟨L,rs, σ',hsub,hS,hc,hf⟩:=cRunQ_steps os (i+1) _ _ hK
   have hsub':∀ e∈logOf i σ .box (opsOf o.op) L0,e∈L:=by rw [ho];exact hsub
   have h3:useVs true (args.toList.map σ.ev) fun xs=>BCall P (n0+i) σ o.dst f xs (fun s=>s=(({ σ with h:=h2 }:St).put o.dst y)):=hys _ ⟨t,cs,al,y,e,h2,hxs,hl,hp,ha,hB,rfl⟩
   obtain ⟨y',e',h2',hy',hlk,hV⟩:=vld_box (n0:=n0) (i:=i) (M:=pick2 i L) (ops:=l) hg ho h3 (fun x rr hal q hq=>by
    refine mem_pick2.2 (hsub' _ ?_)
    obtain ⟨t,rfl,ht⟩:=ment_ev hq
    have:opsOf o.op = .tmp t::rr:=by rw [ho];exact hal
    rw [this,log_box]
    exact mem_mentL _ _ (.inr ⟨t,by simp,q,ht,rfl⟩))
   refine ⟨L,_, σ',fun e he=>hsub e (log_sub he),⟨_,rs,({ σ with h:=h2' }:St).put o.dst y',pick2 i L,rfl,hV,fun e he=>mem_pick2.1 he,put_setO,fun q=>?_,put_nx,put_df,by rw [hy'];exact hS⟩,hc,hf⟩
   rw [put_h]
   exact hlk q
  | store =>
   rw [hk] at h
   dsimp only at h
   have hg:=ckind_store hk
   obtain ⟨t,p,x,ho,hd⟩:∃ t p x,o.op = .store t p x∧o.dst=none:=by
    unfold storeC at h
    split at h
    ·rename_i ho hd;exact ⟨_,_,_,ho,hd⟩
    ·exact h.elim
   rw [ho,hd] at h
   have h:kR (storeS P σ t p x) (storeC.kSt σ _):=h
   cases hr:storeS P σ t p x with
   | none=>rw [hr] at h;exact h.elim
   | some pb =>
    obtain ⟨pp,ib⟩:=pb
    rw [hr] at h
    obtain ⟨hp,hK⟩:=h
    obtain ⟨L,rs, σ',hsub,hS,hc,hf⟩:=cRunQ_steps os (i+1) _ _ hK
    have hsub':∀ e∈logOf i σ .store [p] L0,e∈L:=hsub
    obtain ⟨⟨old,hold⟩,hV⟩:=vld_store (n0:=n0) (i:=i) (ops:=l) (M:=pick2 i L) hg hd ho hr hp (fun q hq=>by
     refine mem_pick2.2 (hsub' _ ?_)
     obtain ⟨t,rfl,ht⟩:=ment_ev hq
     rw [log_store]
     exact mem_mentL _ _ (.inr ⟨t,by simp,q,ht,rfl⟩))
    refine ⟨L,_, σ',fun e he=>hsub' e (log_sub he),⟨_,rs, { σ with h := σ.h.set ib.1 ib.2 },pick2 i L,rfl,hV,fun e he=>mem_pick2.1 he,rfl,fun q=>?_,rfl,rfl,hS⟩,hc,hf⟩
    show (σ.h.set ib.1 ib.2).look q=_
    rw [Heap.look_set _ _ _ hold]
    simp only [tch]
    split<;>rfl
  | app =>
   rw [hk] at h
   dsimp only at h
   have hg:=ckind_app hk
   obtain ⟨s,x,t,t2,ht2,ho⟩:∃ s x t t2,appTy P t t2∧o.op = .call { callee := .builtin .append,args := #[s,x],argTypes := #[t,t2] }:=by
    unfold appC at h
    split at h
    ·rename_i args tys ho
     unfold appC.apL at h
     split at h
     ·rename_i s x t t' hx ht
      obtain ⟨ht2,_⟩:=h
      have ha:args = #[s,x]:=by apply Array.ext';simpa using hx
      have hb:tys = #[t,t']:=by apply Array.ext';simpa using ht
      exact ⟨s,x,t,t',ht2,by rw [ho,ha,hb]⟩
     ·exact h.elim
    ·exact h.elim
   rw [ho] at h
   have h:appTy P t t2∧kR (appS P σ (P.elemT t) s x) (appC.kApp n0 i σ o.dst _):=h
   cases hr:appS P σ (P.elemT t) s x with
   | none=>rw [hr] at h;exact h.2.elim
   | some pb =>
    obtain ⟨pp,tb⟩:=pb
    rw [hr] at h
    obtain ⟨_,hp,hK⟩:=h
    obtain ⟨L,rs, σ',hsub,hS,hc,hf⟩:=cRunQ_steps os (i+1) _ _ hK
    have hsub':∀ e∈logOf i σ .app [s,x] L0,e∈L:=hsub
    have hV:Vld P l n0 i o σ ⟨o.dst, .own (n0+i),effA tb.1 tb.2⟩ (pick2 i L):=vld_app hg ht2 ho hr hp (fun q hq=>by
     refine mem_pick2.2 (hsub' _ ?_)
     obtain ⟨t,rfl,ht⟩:=ment_ev hq
     rw [log_app]
     exact mem_mentL _ _ (.inr ⟨t,by simp,q,ht,rfl⟩)) (fun q hq=>by
     obtain ⟨u,hu⟩:=log_ment (k := .app) (L:=L0) (l:=[s,x]) (by simp:x ∈ [s,x]) hq (i:=i)
     exact List.mem_map.2 ⟨(q,u),mem_pick2.2 (hsub' _ hu),rfl⟩)
    refine ⟨L,_, σ',fun e he=>hsub' e (log_sub he),⟨_,rs,({ σ with h:=(n0+i,tb.2)::delO σ.h tb.1 }:St).put o.dst (.own (n0+i)),pick2 i L,rfl,hV,fun e he=>mem_pick2.1 he,put_setO,fun q=>?_,put_nx,put_df,hS⟩,hc,hf⟩
    rw [put_h]
    simp only [Heap.look]
    cases htb:tb.1 with
    | none =>
     simp only [effA,tch,delO]
     split<;>rfl
    | some q' =>
     simp only [effA,tch,delO]
     rw [Heap.look_del]
     split
     ·rfl
     ·split<;>rfl
theorem drawQ_of {P:Program} {n0 id:Nat} {l:List Oper} {Q:Exit→St→Prop} {σ : St} (pu pa:List Nat) (m:Nat) (t:OT) (hm:P.follows .mixedOrders=true) (hS:chkS l m=true)
  (hT:treeB l.toArray (l.length - m) (listedP (List.range m) (Array.replicate l.length false)) t true=true) (hlen:m≤l.length)
  (h:cRunQ P pu pa l σ.nx (tsteps P l (Q .normal) t) 0 (l.take m) [] { σ with nx := σ.nx+m }):DrawR P n0 id l.toArray Q σ := by
 intro E a w hr E0 w0 hU hE
 refine wpIn_region_any hm ?_
 have inv:HeadInv .any l.toArray l.toArray.size (Array.replicate l.length false):=by
  have:=headInv_start (ops:=l.toArray) (md := .any)
  simpa using this
 obtain ⟨L,rs, σT,_,hSt,hc,hf⟩:=cRunQ_steps _ _ _ _ h
 have hdr:RelF E σ a { w with drawn:=w.drawn+1 }∧Ext E0 w0 E { w with drawn:=w.drawn+1 }:=by
  have hb:Below w.heap.size w { w with drawn:=w.drawn+1 }:=⟨rfl,rfl,rfl,Nat.le_refl _,fun _ _=>rfl⟩
  obtain ⟨k1,k2⟩:=hr.later hb (fun _ h=>h) (fun b hb => .inl hb) (fun b hb'=>hr.rel.slt b hb')
  exact ⟨k1,hE.trans k2⟩
 obtain ⟨hr1,hE1⟩:=hdr
 have hr2:RelF E { σ with nx := σ.nx+m } a { w with drawn:=w.drawn+1 }:=⟨hr1.rel,fun i hi=>by have:=hr1.bound i hi;show i < σ.nx+m;omega,hr1.fr,hr1.defers⟩
 have hlenT:(l.take m).length=m:=by rw [List.length_take];omega
 have:=canon_ok (Q:=Q) (fT:=l.length - m) hSt rfl hc hS hlen (fun listed hs hl=>by
  rw [listed_range hs hl]
  exact (tree_ok _ t _ σT true hT hf).2 rfl) l.length (List.range m) (Array.replicate l.length false) { σ with nx := σ.nx+m } E a _ (by simp;omega) List.nodup_range (fun i=>by
   rw [List.mem_range,getD_replicate_false];simp) (fun i _=>getD_replicate_false _ _) inv (by
   rw [frX_out];intro j hj;exact getD_replicate_false _ _) (fun q=>by
   rw [lkX_out];intro j r hj hX;rw [getD_replicate_false] at hX;cases hX) rfl rfl hr2 (fun q hq => .inl (hr1.bound q hq)) E0 w0 hE1
 simpa using this
section
variable {P:Program} {pu pa:List Nat} {l:List Oper} {n0 i:Nat} {fin:St→Prop} {L:Log} {σ : St}
@[go_sem] theorem cRunQ_nil:cRunQ P pu pa l n0 fin i [] L σ = (chkL l n0 L=true∧fin σ):=rfl
@[go_sem] theorem cRunQ_cons {o:Oper} {os:List Oper}:cRunQ P pu pa l n0 fin i (o::os) L σ = stepQ P l n0 i σ o (modeQ pu pa i) (fun k=>cRunQ P pu pa l n0 fin (i+1) os (logOf i σ k (opsOf o.op) L)):=rfl
@[go_sem] theorem stepQ_1 {o:Oper} {K:CK→St→Prop}:stepQ P l n0 i σ o 1 K=bsC P l σ o (K .new):=rfl
@[go_sem] theorem stepQ_2 {o:Oper} {K:CK→St→Prop}:stepQ P l n0 i σ o 2 K=apC P l n0 i σ o (K .app):=rfl
@[go_sem] theorem stepQ_0 {o:Oper} {K:CK→St→Prop}:stepQ P l n0 i σ o 0 K=cStep P l n0 i σ o.dst o.op o.guard (ckind P o.op o.guard) (K (ckind P o.op o.guard)):=rfl
end
attribute [go_sem] modeQ apC apC.apO apC.apL apC.apP apC.apB apC.apT
open Go.RowKit
set_option maxRecDepth 4000
def copyE (P:Program) (σ : St) (t:TypeId) (s x:V) (K:St→V→Prop):Prop :=
 copyA (P.elemT t)
where
 copyC (i kk lo hi e k:Nat) (blk:Option Blk) (src:Option (List T×List (List V))):Prop :=
  match blk,src with
  | some (.row e' k' d xs),some (_,ys)=>e'=e∧k'=k∧kk=k∧0<ys.length∧lo+ys.length≤hi∧K { σ with h := σ.h.set i (.row e' k' d (xs.take lo++ys++xs.drop (lo+ys.length))) } (vint ys.length)
  | _,_=>False
 copyS (e k:Nat) (s:V):Prop :=
  match s with
  | .rsl i kk lo hi=>copyC i kk lo hi e k (σ.h.look i) (srcV σ.h k x)
  | _=>False
 copyB (e:Nat) (k:Option Nat):Prop :=
  match k with
  | some k=>copyS e k s
  | none=>False
 copyA (e:Option TypeId):Prop :=
  match e with
  | some e=>copyB e (P.szT e)
  | none=>False
def lastC (P:Program) (o:Option Oper) (σ : St) (K:St→Prop):Prop :=
 match o with
 | some o=>lastG o o.guard o.op
 | none=>False
where
 lastL (o:Oper) (args:List Operand) (tys:List TypeId):Prop :=
  match args,tys with
  | [s,x],[t,_]=>useV true (σ.ev s) fun s'=>useV true (σ.ev x) fun x'=>copyE P σ t s' x' fun σ' v=>K (σ'.put o.dst v)
  | _,_=>False
 lastO (o:Oper) (op:Op):Prop :=
  match op with
  | .call { callee := .builtin .copy,args,argTypes }=>lastL o args.toList argTypes.toList
  | _=>False
 lastG (o:Oper) (g:Option (Nat×Bool)) (op:Op):Prop :=
  match g with
  | none=>lastO o op
  | some _=>False
attribute [go_sem] lastC lastC.lastG lastC.lastO lastC.lastL copyE copyE.copyA copyE.copyB copyE.copyS copyE.copyC
open Go.RowKit
set_option maxRecDepth 4000
theorem RelF.giveT2 {w:World} {E:Env} {σ : St} {a:Act} {i:Nat} {blk:Blk} {hv:Value} {t:T} (hr:RelF E σ a w) (hl : σ.h.look i=some blk) (hB:E.B i=some hv) (hT:RdT w (fun b=>E.S b∨blockOf hv=some b) t hv) :
  ∃ E',RelF E' { σ with h := σ.h.set i (.shr t) } a w∧Ext E w E' w∧(∀ q,E'.U q→E.U q)∧E'.F i=some hv ∧ ∀ b,E.S b∨blockOf hv=some b→E'.S b:=by
 let E':Env := { S:=fun b=>E.S b∨blockOf hv=some b,B:=fun j=>if j=i then none else E.B j,U:=E.U,D:=E.D,F:=fun j=>if j=i then some hv else E.F j,ro:=E.ro }
 have hUi:E.U i:=(hr.rel.dom i hv hB).1
 have hE:Ext E w E' w:=by
  refine ⟨rfl,rfl,rfl,Nat.le_refl _,fun _ _=>rfl,fun b hb => .inl hb,fun b hb=>?_,fun _ => .rfl,fun _ h=>h,fun j hj v hv'=>?_,fun j hj v hv'=>?_,rfl⟩
  ·rcases hb with hb | hb
   ·exact .inl hb
   ·exact .inr (hr.rel.own i hv b hB hb).2.2
  ·simp only [E'] at hv'
   split at hv'
   ·cases hv'
   ·exact hv'
  ·simp only [E',Env.Is] at hv'
   by_cases hji:j=i
   ·subst hji
    simp only [if_true,reduceCtorEq,false_or,Option.some.injEq] at hv'
    subst hv'
    exact .inl hB
   ·simp only [if_neg hji] at hv'
    exact hv'
 refine ⟨E',⟨⟨fun j blk hlj=>?_,fun j v hBj=>?_,fun j v hFj=>?_,fun j v b hBj hbk=>?_,fun p q vp vq b hBp hBq hbp hbq=>?_,fun b hb=>?_,hr.rel.dlt⟩,hr.bound,hE.rdVs _ hr.fr,hE.defs hr.defers⟩,hE,fun _ h=>h,by simp [E'],fun b hb=>hb⟩
 ·rw [Heap.look_set _ _ _ hl] at hlj
  split at hlj
  ·rename_i hji
   injection hlj with hlj
   subst hlj
   exact ⟨hv,by simp [E',Env.at,hji],hT⟩
  ·rename_i hji
   obtain ⟨v,hat,hrel⟩:=hr.rel.has j blk hlj
   refine ⟨v,?_,hrel.keep hE fun _ _=>rfl⟩
   cases blk<;>simpa [E',Env.at,hji] using hat
 ·simp only [E'] at hBj
  split at hBj
  ·cases hBj
  ·rename_i hji
   obtain ⟨q1,q2⟩:=hr.rel.dom j v hBj
   refine ⟨q1,?_⟩
   rw [Heap.look_set _ _ _ hl,if_neg hji]
   exact q2
 ·simp only [E'] at hFj ⊢
  by_cases hji:j=i
  ·subst hji
   exact ⟨hUi,by simp⟩
  ·simp only [if_neg hji] at hFj ⊢
   exact hr.rel.domF j v hFj
 ·simp only [E'] at hBj ⊢
  split at hBj
  ·cases hBj
  ·rename_i hji
   obtain ⟨q1,q2,q3⟩:=hr.rel.own j v b hBj hbk
   refine ⟨q1,fun hs=>?_,q3⟩
   rcases hs with hs | hs
   ·exact q2 hs
   ·exact hji (hr.rel.apart j i v hv b hBj hB hbk hs)
 ·simp only [E'] at hBp hBq
  split at hBp
  ·cases hBp
  ·split at hBq
   ·cases hBq
   ·exact hr.rel.apart p q vp vq b hBp hBq hbp hbq
 ·rcases hb with hb | hb
  ·exact hr.rel.slt b hb
  ·exact (hr.rel.own i hv b hB hb).1
mutual
def V.gbx (i:Nat) (ts:List T):V→V
 | .own j=>if j=i then .elem ts.length ts [ts] 0 0 else .own j
 | .ptr j off=>if j=i then .elem ts.length ts [ts] 0 off else .ptr j off
 | .agg cs => .agg (V.gbxs i ts cs)
 | .tup cs => .tup (V.gbxs i ts cs)
 | .clo f cs => .clo f (V.gbxs i ts cs)
 | x=>x
def V.gbxs (i:Nat) (ts:List T):List V→List V
 | []=>[]
 | x::xs=>V.gbx i ts x::V.gbxs i ts xs
end
def GbOk (w:World) (E:Env) (i:Nat) (ts:List T):Prop := ∃ b,(∀ hv,E.Is i hv→hv = .pointer (some ⟨b,0,none⟩))∧(∃ hv,E.Is i hv)∧RdT w E.S (.list ts.length ts [ts]) (.slice (some ⟨b,0,none⟩) 1 1)
mutual
theorem RdV.gbx {w:World} {E:Env} {i:Nat} {ts:List T} (hg:GbOk w E i ts):∀ (x:V) {v:Value},RdV w E x v→RdV w E (x.gbx i ts) v
 | .own j,v,hx=>by
  unfold V.gbx
  split
  ·rename_i hji
   subst hji
   obtain ⟨b,h1,⟨hv,h2⟩,h3⟩:=hg
   simp only [RdV] at hx ⊢
   have e1:=hx.2.2 hv h2
   have e2:=h1 hv h2
   subst e1 e2
   exact ⟨b,0,1,h3,by simp,by simp⟩
  ·exact hx
 | .ptr j off,v,hx=>by
  unfold V.gbx
  split
  ·rename_i hji
   subst hji
   obtain ⟨b,h1,⟨hv,h2⟩,h3⟩:=hg
   simp only [RdV] at hx ⊢
   obtain ⟨b',e1,e2⟩:=hx.2.2 hv h2
   have e3:=h1 hv h2
   rw [e3] at e1
   injection e1 with e1;injection e1 with e1;injection e1 with e1
   subst e1 e2
   exact ⟨b,0,1,h3,by simp,by simp⟩
  ·exact hx
 | .agg cs,v,hx=>by
  simp only [V.gbx,RdV] at hx ⊢
  obtain ⟨vs,hv,h1,h2⟩:=hx
  exact ⟨vs,hv,RdVs.gbx hg cs h1,h2⟩
 | .tup cs,v,hx=>by
  simp only [V.gbx,RdV] at hx ⊢
  obtain ⟨vs,hv,h1⟩:=hx
  exact ⟨vs,hv,RdVs.gbx hg cs h1⟩
 | .clo f cs,v,hx=>by
  simp only [V.gbx,RdV] at hx ⊢
  obtain ⟨vs,hv,h1⟩:=hx
  exact ⟨vs,hv,RdVs.gbx hg cs h1⟩
 | .t x,v,hx=>by simpa only [V.gbx] using hx
 | .rptr i k n j,v,hx=>by simpa only [V.gbx] using hx
 | .rsl i k n j,v,hx=>by simpa only [V.gbx] using hx
 | .elem k d xs i j,v,hx=>by simpa only [V.gbx] using hx
 | .cond g x,v,hx=>by simpa only [V.gbx] using hx
 | .dead,v,hx=>by simpa only [V.gbx] using hx
theorem RdVs.gbx {w:World} {E:Env} {i:Nat} {ts:List T} (hg:GbOk w E i ts):∀ (xs:List V) {vs:List Value},RdVs w E xs vs→RdVs w E (V.gbxs i ts xs) vs
 | [],[],_=>by simp only [V.gbxs,RdVs]
 | x::xs,v::vs,hx=>by
  simp only [V.gbxs,RdVs] at hx ⊢
  exact ⟨RdV.gbx hg x hx.1,RdVs.gbx hg xs hx.2⟩
 | [],_::_,h=>by simp only [RdVs] at h
 | _::_,[],h=>by simp only [RdVs] at h
end
def gbxT (h:Heap) (b:Option Blk):Option (List T) :=
 match b with
 | some (.box cs)=>lendCs (lendS h) cs
 | _=>none
theorem RelF.gbx {w:World} {E:Env} {σ : St} {a:Act} {i:Nat} {ts:List T} (hr:RelF E σ a w) (hg:gbxT σ.h (σ.h.look i)=some ts) :
  ∃ E',RelF E' { σ with h := σ.h.del i,fr:=V.gbxs i ts σ.fr } a w∧Ext E w E' w ∧ ∀ q,E'.U q→E.U q:=by
 unfold gbxT at hg
 split at hg
 ·rename_i cs hlk
  obtain ⟨hv,hB,b,vs,ty,rfl,hh,h1,h2⟩:=hr.rel.has i _ hlk
  have hT:RdTs w E.S ts vs.toList:=lendCs_rd (fun x t v h1 h2=>lendS_rd hr.rel x t v h1 h2) hg h1
  obtain ⟨E',r1,r2,r3,r4,r5⟩:=hr.giveT2 (t := .opq) hlk hB (.opq _ rfl)
  have hlen:=RdTs.len hT
  have hcell:∀ (j:Nat) x,ts[j]? = some x → ∃ u,w.cell? ⟨b,0+0*ts.length+j,none⟩=some u∧vs.toList[j]? = some u:=by
   intro j x hj
   have hjl:j<vs.toList.length:=by rw [← hlen];exact (List.getElem?_eq_some_iff.1 hj).1
   refine ⟨vs.toList[j],?_,List.getElem?_eq_getElem hjl⟩
   simp only [World.cell?,hh,Nat.zero_mul,Nat.zero_add]
   simp
  have hg:GbOk w E' i ts:=by
   refine ⟨b,fun hv hI=>?_,⟨_, .inr r4⟩, .list ts.length ts [ts] (some ⟨b,0,none⟩) 1 (by simp [maxLen]) (by simp) (by simp) (by simp) ?_ ?_⟩
   ·exact r1.rel.isF r4 hI
   ·intro i' e he
    cases i' with
    | zero =>
     simp at he;subst he
     exact ⟨b,0,rfl,r5 b (.inr rfl),fun j x hj=>by obtain ⟨u,hu,_⟩:=hcell j x hj;exact ⟨u,hu⟩⟩
    | succ i'=>simp at he
   ·intro i' e j x b' off u he hj hA hu
    cases i' with
    | zero =>
     simp at he;subst he
     injection hA with hA;injection hA with hA1 hA2;subst hA1 hA2
     obtain ⟨u',hu',hv'⟩:=hcell j x hj
     rw [hu] at hu'
     injection hu' with hu';subst hu'
     exact (RdTs.nth j hT hj hv').mono r2.S fun _ _=>rfl
    | succ i'=>simp at he
  refine ⟨E',⟨⟨fun j blk hl=>?_,fun j hv hB'=>?_,r1.rel.domF,r1.rel.own,r1.rel.apart,r1.rel.slt,r1.rel.dlt⟩,r1.bound,RdVs.gbx hg _ r1.fr,r1.defers⟩,r2,r3⟩
  ·have hl0:(σ.h.del i).look j=some blk:=hl
   rw [Heap.look_del] at hl0
   split at hl0
   ·cases hl0
   ·rename_i hji
    exact r1.rel.has j blk (by show (σ.h.set i (.shr .opq)).look j=_;rw [Heap.look_set _ _ _ hlk,if_neg hji];exact hl0)
  ·obtain ⟨q1,blk,q2⟩:=r1.rel.dom j hv hB'
   have hji:j≠i:=fun e=>by
    subst e
    rw [(r1.rel.domF j _ r4).2] at hB'
    cases hB'
   refine ⟨q1,blk,?_⟩
   show (σ.h.del i).look j=_
   rw [Heap.look_del,if_neg hji]
   have q3:(σ.h.set i (.shr .opq)).look j=some blk:=q2
   rw [Heap.look_set _ _ _ hlk,if_neg hji] at q3
   exact q3
 ·cases hg
def gbxA (P:Program) (n0:Nat) (c:Code) (Q:Exit→St→Prop) (σ : St) (i:Nat) (o:Option (List T)):Prop :=
 match o with
 | some ts=>AWP P n0 c Q { σ with h := σ.h.del i,fr:=V.gbxs i ts σ.fr }
 | none=>False
attribute [go_sem] gbxA gbxT V.gbx V.gbxs
open Go.RowKit
set_option maxRecDepth 4000
def rmE (k:Value):List (Value×V)→List (Value×V)
 | []=>[]
 | e::es=>if keyB k e.1=true then es else e::rmE k es
def mapDelR (P:Program) (h:Heap) (u:Option (TypeId×TypeId)) (m k:V):RO Heap :=
 match u,m,k with
 | some (kt,_), .own i, .t (.lit kv)=>mdA (P.underlying kt) h i kv (h.look i)
 | _,_,_=>none
where
 mdA (d:Option TypeDesc) (h:Heap) (i:Nat) (kv:Value) (b:Option Blk):RO Heap :=
  match d,b with
  | some d,some (.map es)=>some (kindB d kv=true∧kindsB d es=true,h.set i (.map (rmE kv es)))
  | _,_=>none
section
variable {P:Program} {σ : St} {o:Oper} {K:St→Prop}
end
attribute [go_sem] mapDelR mapDelR.mdA
open Go.RowKit
set_option maxRecDepth 4000
def IStep (P:Program) (o:Oper) (σ : St) (K:St→Prop):Prop:=o.guard=none∧OpI P o σ K
theorem IStep.mono {P:Program} {o:Oper} {σ : St} {K K':St→Prop} (hk:∀ σ,K σ → K' σ) (h:IStep P o σ K):IStep P o σ K' :=
 ⟨h.1,fun E a w hr next Q hn=>h.2 E a w hr next Q fun a' w' E' σ' h1 h2 h3=>hn a' w' E' σ' h1 h2 (hk _ h3)⟩
def dAnyI (P:Program) (ops:Array Oper) (K:St→Prop):Nat→Array Bool→St→Prop
 | 0,listed, σ => Region.ready .any ops listed = []∧K σ
 | f+1,listed, σ => (Region.ready .any ops listed = []→K σ) ∧ ∀ i∈Region.ready .any ops listed, ∃ o,ops[i]? = some o∧IStep P o σ (dAnyI P ops K f (listed.setIfInBounds i true))
def istepO (P:Program) (o:Option Oper) (σ : St) (K:St→Prop):Prop :=
 match o with
 | some o=>o.guard=none∧estepN P σ o.dst o.op K
 | none=>False
def isteps (P:Program) (l:List Oper) (K:St→Prop):OT→St→Prop
 | .done, σ => K σ
 | .step i t, σ => istepO P (l[i]?) σ (isteps P l K t)
 | .alt a b, σ => isteps P l K a σ ∧ isteps P l K b σ
@[go_sem] theorem isteps_done {P:Program} {l:List Oper} {K:St→Prop} {σ : St}:isteps P l K .done σ = K σ := rfl
@[go_sem] theorem isteps_step {P:Program} {l:List Oper} {K:St→Prop} {σ : St} {i:Nat} {t:OT}:isteps P l K (.step i t) σ = istepO P (l[i]?) σ (isteps P l K t):=rfl
@[go_sem] theorem isteps_alt {P:Program} {l:List Oper} {K:St→Prop} {σ : St} {a b:OT}:isteps P l K (.alt a b) σ = (isteps P l K a σ ∧ isteps P l K b σ):=rfl
theorem istepO_some {P:Program} {σ : St} {o:Oper} {K:St→Prop}:istepO P (some o) σ K=(o.guard=none∧estepN P σ o.dst o.op K):=rfl
attribute [go_sem] istepO_some
open Go.RowKit
def mustQ (ops:Array Oper):Nat→Nat→Nat→Bool
 | 0,_,_=>false
 | d+1,j,i=>match ops[j]? with
  | some oj=>(oj.after.any fun e=>Region.binds .any e&&e.on==i)||oj.after.any fun e=>Region.binds .any e&&mustQ ops d e.on i
  | none=>false
def chkEQ (l:List Oper) (n0:Nat) (L:Log) (e:Nat×Nat×Bool):Bool :=
 (L.all fun f => !(f.2.2&&f.2.1==e.2.1)||f.1==e.1||(if f.1<e.1 then mustQ l.toArray 16 e.1 f.1 else mustQ l.toArray 16 f.1 e.1))&&(decide (e.2.1<n0)||(decide (e.2.1 - n0<e.1)&&mustQ l.toArray 16 e.1 (e.2.1 - n0)))
def chkLQ (l:List Oper) (n0:Nat) (L:Log):Bool:=L.all (chkEQ l n0 L)
open Go.RowKit
set_option maxRecDepth 4000
def sameV (x y:V):Prop :=
 match y with
 | .dead=>True
 | .t b=>match x with
  | .t a=>wkE a b
  | _=>False
 | y=>x=y
def sameVs:List V→List V→Prop
 | [],[]=>True
 | x::xs,y::ys=>sameV x y∧sameVs xs ys
 | _,_=>False
def nilRow (i e k:Nat) (d:List T) (σ : St):St := { σ with fr := σ.fr.set i (.own σ.nx),h:=(σ.nx, .row e k d []) :: σ.h,nx := σ.nx+1 }
def nilBox (b i e k:Nat) (d:List T) (cs:List V) (σ : St):St := { σ with h:=(σ.nx, .row e k d []) :: σ.h.set b (.box (cs.set i (.own σ.nx))),nx := σ.nx+1 }
attribute [go_sem] sameVs nilRow nilBox
section
variable {x:V}
@[go_sem] theorem sameV_dead:sameV x .dead=True:=rfl
@[go_sem] theorem sameV_t {b:T}:sameV x (.t b)=match x with | .t a=>wkE a b | _=>False:=rfl
@[go_sem] theorem sameV_own {i:Nat}:sameV x (.own i)=(x = .own i):=rfl
@[go_sem] theorem sameV_agg {l:List V}:sameV x (.agg l)=(x = .agg l):=rfl
@[go_sem] theorem sameV_tup {l:List V}:sameV x (.tup l)=(x = .tup l):=rfl
@[go_sem] theorem sameV_ptr {i o:Nat}:sameV x (.ptr i o)=(x = .ptr i o):=rfl
end
open Go.RowKit
set_option maxRecDepth 4000
def XCall (P:Program) (σ : St) (d:Option Tmp) (f:FuncId) (xs:List V) (K:St→Prop):Prop :=
 ICall P σ d f xs fun s=>(HeapExt σ.h s.h∧WFh s ∧ σ.nx≤s.nx)∧K s
theorem XCall.mono {P:Program} {σ : St} {d:Option Tmp} {f:FuncId} {xs:List V} {K K':St→Prop} (hk:∀ σ,K σ → K' σ) (h:XCall P σ d f xs K):XCall P σ d f xs K' :=
 ICall.mono (fun s hs=>⟨hs.1,hk s hs.2⟩) h
def xstep (P:Program) (o:Oper) (σ : St) (K:St→Prop):Prop :=
 o.guard=none∧match o.op with
 | .call { callee := .value (.func f),args, .. }=>useVs true (args.toList.map σ.ev) fun xs=>XCall P σ o.dst f xs K
 | _=>False
def stepX (P:Program) (ops:Array Oper) (b:Bool) (o:Oper) (σ : St) (K:St→Prop):Prop :=
 match b with
 | true=>xstep P o σ K
 | false=>ostep P ops.toList σ o.dst o.op o.guard K
def dAnyX (P:Program) (ops:Array Oper) (xs:List Nat) (K:St→Prop):Nat→Array Bool→St→Prop
 | 0,listed, σ => Region.ready .any ops listed = []∧K σ
 | f+1,listed, σ => (Region.ready .any ops listed = []→K σ) ∧ ∀ i∈Region.ready .any ops listed, ∃ o,ops[i]? = some o∧stepX P ops (xs.contains i) o σ (dAnyX P ops xs K f (listed.setIfInBounds i true))
def planBX (P:Program) (ops:Array Oper) (xs:List Nat):List Nat→Array Bool→Bool
 | [],_=>true
 | i::r,listed=>(Region.ready .any ops listed).contains i&&Region.free .any ops listed i&&(ops[i]?).any (merges P ·.op) && !xs.contains i &&
   ((List.range ops.size).all fun j => !(ops[j]?).any (heavy P ·.op)||(xs.contains j||mustB .any ops 16 j i))&&planBX P ops xs r (listed.setIfInBounds i true)
def xstepsO (P:Program) (l:List Oper) (b:Bool) (o:Option Oper) (σ : St) (K:St→Prop):Prop :=
 match o with
 | some o=>stepX P l.toArray b o σ K
 | none=>False
def xsteps (P:Program) (l:List Oper) (xs:List Nat) (K:St→Prop):OT→St→Prop
 | .done, σ => K σ
 | .step i t, σ => xstepsO P l (xs.contains i) (l[i]?) σ (xsteps P l xs K t)
 | .alt a b, σ => xsteps P l xs K a σ ∧ xsteps P l xs K b σ
inductive PT where
 | done
 | look (i:Nat) (t:PT)
 | step (i:Nat) (t:PT)
def lookB (P:Program) (ops:Array Oper) (xs:List Nat) (listed:Array Bool) (i:Nat):Bool :=
 (Region.ready .any ops listed).contains i&&Region.free .any ops listed i&&(ops[i]?).any (merges P ·.op) && !xs.contains i &&
  ((List.range ops.size).all fun j => !(ops[j]?).any (heavy P ·.op)||(xs.contains j||mustB .any ops 16 j i))
def ptB (P:Program) (ops:Array Oper) (xs:List Nat):Nat→Array Bool→Bool→PT→Bool
 | 0,listed,_, .done=>Region.ready .any ops listed == []
 | 0,_,_,_=>false
 | _+1,listed,_, .done=>Region.ready .any ops listed == []
 | f+1,listed,w, .look i t=>w&&lookB P ops xs listed i&&ptB P ops xs f (listed.setIfInBounds i true) w t
 | f+1,listed,w, .step i t=>Region.ready .any ops listed == [i]&&(ops[i]?).isSome&&ptB P ops xs f (listed.setIfInBounds i true) (w&&xs.contains i) t
def ptsteps (P:Program) (l:List Oper) (xs:List Nat) (K:St→Prop):PT→St→Prop
 | .done, σ => K σ
 | .look i t, σ => psteps.pstepsO P l (l[i]?) σ (ptsteps P l xs K t)
 | .step i t, σ => xstepsO P l (xs.contains i) (l[i]?) σ (ptsteps P l xs K t)
section
variable {P:Program} {l:List Oper} {xs:List Nat} {K:St→Prop} {σ : St}
@[go_sem] theorem ptsteps_done:ptsteps P l xs K .done σ = K σ := rfl
@[go_sem] theorem ptsteps_look {i:Nat} {t:PT}:ptsteps P l xs K (.look i t) σ = psteps.pstepsO P l (l[i]?) σ (ptsteps P l xs K t):=rfl
@[go_sem] theorem ptsteps_step {i:Nat} {t:PT}:ptsteps P l xs K (.step i t) σ = xstepsO P l (xs.contains i) (l[i]?) σ (ptsteps P l xs K t):=rfl
end
section
variable {P:Program} {l:List Oper} {xs:List Nat} {K:St→Prop} {σ : St}
@[go_sem] theorem xsteps_done:xsteps P l xs K .done σ = K σ := rfl
@[go_sem] theorem xsteps_step {i:Nat} {t:OT}:xsteps P l xs K (.step i t) σ = xstepsO P l (xs.contains i) (l[i]?) σ (xsteps P l xs K t):=rfl
@[go_sem] theorem xsteps_alt {a b:OT}:xsteps P l xs K (.alt a b) σ = (xsteps P l xs K a σ ∧ xsteps P l xs K b σ):=rfl
@[go_sem] theorem xstepsO_false {o:Oper}:xstepsO P l false (some o) σ K=ostep P l σ o.dst o.op o.guard K:=rfl
@[go_sem] theorem xstepsO_true {o:Oper}:xstepsO P l true (some o) σ K=xstep P o σ K:=rfl
end
attribute [go_sem] xstep
end Go.Proofs.YtkjdkbmfaamhaaaGreat
