/- Proved here: Picks from a slice whose elements are given, on the abstract machine; conditions stand in each theorem. -/
import Derived.Test.YtbfnemkngoaeeaaGreatQ05
import Derived.WalkKit
import Derived.ProofKit
import Derived.OpenShut
import Derived.ShutString
import Derived.ChangeOld
import Derived.Below
import Derived.Carry
import Derived.WideShapes
import Derived.JoinedOf
import Derived.Laws.CopyRow
set_option linter.unusedSimpArgs false
set_option linter.unusedVariables false
set_option linter.unusedSectionVars false
set_option linter.unnecessarySimpa false
namespace Go.Proofs.YtbfnemkngoaeeaaGreat
open Go.RowKit
@[go_sem] theorem dec_str {l:List UInt8}:decide ((⟨l⟩:Array UInt8).size≤maxLen)=decide (l.length≤maxLen):=rfl
theorem Em {n:Nat} (h:n≤65536):n≤maxLen:=by unfold maxLen;omega
@[go_sem] theorem dec_len0:decide (0≤maxLen)=true:=decide_eq_true (Em (by omega))
@[go_sem] theorem dec_len1:decide (1≤maxLen)=true:=decide_eq_true (Em (by omega))
@[go_sem] theorem dec_len2:decide (2≤maxLen)=true:=decide_eq_true (Em (by omega))
@[go_sem] theorem dec_len5:decide (5≤maxLen)=true:=decide_eq_true (Em (by omega))
@[go_sem] theorem dec_len6:decide (6≤maxLen)=true:=decide_eq_true (Em (by omega))
@[go_sem] theorem dec_len8:decide (8≤maxLen)=true:=decide_eq_true (Em (by omega))
@[go_sem] theorem dec_len13:decide (13≤maxLen)=true:=decide_eq_true (Em (by omega))
@[go_sem] theorem nth_s1 {d a0:ByteArray} {n:Nat}:nth [.lit (.string d)] [[.lit (.string a0)]] n = [.lit (.string ([a0].getD n d))]:=pR (fun x=>[.lit (.string x)]) d [a0] n
@[go_sem] theorem nth_s3 {d a0 a1 a2:ByteArray} {n:Nat}:nth [.lit (.string d)] [[.lit (.string a0)],[.lit (.string a1)],[.lit (.string a2)]] n = [.lit (.string ([a0,a1,a2].getD n d))]:=pR (fun x=>[.lit (.string x)]) d [a0,a1,a2] n
@[go_sem] theorem nth_ii3 {kd ke:IntKind} {d e a0 a1 a2 b0 b1 b2:Int} {n:Nat}:nth [.lit (.int kd d), .lit (.int ke e)] [[.lit (.int kd a0), .lit (.int ke b0)],[.lit (.int kd a1), .lit (.int ke b1)],[.lit (.int kd a2), .lit (.int ke b2)]] n = [.lit (.int kd ([(a0,b0),(a1,b1),(a2,b2)].getD n (d,e)).1), .lit (.int ke ([(a0,b0),(a1,b1),(a2,b2)].getD n (d,e)).2)]:=pR (fun x:Int×Int=>[.lit (.int kd x.1), .lit (.int ke x.2)]) (d,e) [(a0,b0),(a1,b1),(a2,b2)] n
@[go_sem] theorem nth_i4 {kd:IntKind} {d a0 a1 a2 a3:Int} {n:Nat}:nth [.lit (.int kd d)] [[.lit (.int kd a0)],[.lit (.int kd a1)],[.lit (.int kd a2)],[.lit (.int kd a3)]] n = [.lit (.int kd ([a0,a1,a2,a3].getD n d))]:=pR (fun x=>[.lit (.int kd x)]) d [a0,a1,a2,a3] n
@[go_sem] theorem nth_s4 {d a0 a1 a2 a3:ByteArray} {n:Nat}:nth [.lit (.string d)] [[.lit (.string a0)],[.lit (.string a1)],[.lit (.string a2)],[.lit (.string a3)]] n = [.lit (.string ([a0,a1,a2,a3].getD n d))]:=pR (fun x=>[.lit (.string x)]) d [a0,a1,a2,a3] n
@[go_sem] theorem nth_i6 {kd:IntKind} {d a0 a1 a2 a3 a4 a5:Int} {n:Nat}:nth [.lit (.int kd d)] [[.lit (.int kd a0)],[.lit (.int kd a1)],[.lit (.int kd a2)],[.lit (.int kd a3)],[.lit (.int kd a4)],[.lit (.int kd a5)]] n = [.lit (.int kd ([a0,a1,a2,a3,a4,a5].getD n d))]:=pR (fun x=>[.lit (.int kd x)]) d [a0,a1,a2,a3,a4,a5] n
@[go_sem] theorem nth_i8 {kd:IntKind} {d a0 a1 a2 a3 a4 a5 a6 a7:Int} {n:Nat}:nth [.lit (.int kd d)] [[.lit (.int kd a0)],[.lit (.int kd a1)],[.lit (.int kd a2)],[.lit (.int kd a3)],[.lit (.int kd a4)],[.lit (.int kd a5)],[.lit (.int kd a6)],[.lit (.int kd a7)]] n = [.lit (.int kd ([a0,a1,a2,a3,a4,a5,a6,a7].getD n d))]:=pR (fun x=>[.lit (.int kd x)]) d [a0,a1,a2,a3,a4,a5,a6,a7] n
@[go_sem] theorem nth_i9 {kd:IntKind} {d a0 a1 a2 a3 a4 a5 a6 a7 a8:Int} {n:Nat}:nth [.lit (.int kd d)] [[.lit (.int kd a0)],[.lit (.int kd a1)],[.lit (.int kd a2)],[.lit (.int kd a3)],[.lit (.int kd a4)],[.lit (.int kd a5)],[.lit (.int kd a6)],[.lit (.int kd a7)],[.lit (.int kd a8)]] n = [.lit (.int kd ([a0,a1,a2,a3,a4,a5,a6,a7,a8].getD n d))]:=pR (fun x=>[.lit (.int kd x)]) d [a0,a1,a2,a3,a4,a5,a6,a7,a8] n
@[go_sem] theorem nth_ii9 {kd ke:IntKind} {d e a0 a1 a2 a3 a4 a5 a6 a7 a8 b0 b1 b2 b3 b4 b5 b6 b7 b8:Int} {n:Nat}:nth [.lit (.int kd d), .lit (.int ke e)] [[.lit (.int kd a0), .lit (.int ke b0)],[.lit (.int kd a1), .lit (.int ke b1)],[.lit (.int kd a2), .lit (.int ke b2)],[.lit (.int kd a3), .lit (.int ke b3)],[.lit (.int kd a4), .lit (.int ke b4)],[.lit (.int kd a5), .lit (.int ke b5)],[.lit (.int kd a6), .lit (.int ke b6)],[.lit (.int kd a7), .lit (.int ke b7)],[.lit (.int kd a8), .lit (.int ke b8)]] n = [.lit (.int kd ([(a0,b0),(a1,b1),(a2,b2),(a3,b3),(a4,b4),(a5,b5),(a6,b6),(a7,b7),(a8,b8)].getD n (d,e)).1), .lit (.int ke ([(a0,b0),(a1,b1),(a2,b2),(a3,b3),(a4,b4),(a5,b5),(a6,b6),(a7,b7),(a8,b8)].getD n (d,e)).2)]:=pR (fun x:Int×Int=>[.lit (.int kd x.1), .lit (.int ke x.2)]) (d,e) [(a0,b0),(a1,b1),(a2,b2),(a3,b3),(a4,b4),(a5,b5),(a6,b6),(a7,b7),(a8,b8)] n
open Go.RowKit
def CMk (P:Program) (f:FuncId) (args:List V) (r:V) (cs:List V):Prop :=
 P.enters f=true ∧ ∀ (w:World) (S:Nat→Prop) (vs:List Value),(∀ x,S x→x<w.heap.size)→RdVs w (jW S) args vs →
  Calls P f vs.toArray w fun e w' => ∃ v0 b S' ty cells,e = .returned (.tuple #[v0, .pointer (some ⟨b,0,none⟩)])∧w.heap.size≤b∧(∀ x,S x→S' x)∧(∀ x,S' x→S x∨w.heap.size≤x) ∧
   (∀ x,S' x→x<w'.heap.size)∧RdV w' (jW S') r v0∧w'.heap[b]? = some (.cells cells ty (0,0))∧RdVs w' (jW S') cs cells.toList∧cells.toList.all (·.oneCell')=true∧Below w.heap.size w w' ∧ ¬ S' b
theorem aV0 {P:Program} {σ : St} {d:Option Tmp} {f:FuncId} {args:List V} {r:V} {cs:List V} {K:St→Prop} (hc:CMk P f args r cs) (ha:V.pures args=true)
  (hK:K (({ σ with h:=(σ.nx, .box cs) :: σ.h,nx := σ.nx+1 }:St).put d (.tup [r, .own σ.nx]))):ICall P σ d f args K:=by
 refine nX hc.1 (fun E w vs hr hbd hargs=>(hc.2 w E.S vs hr.slt (RdVs.bare args ha hargs)).mono ?_);rintro e w' ⟨v0,b,S',ty,cells,rfl,s0,s1,s2,s3,hrv,hh,hcs,hones,hb,hSb⟩;have hrF:RelF E { σ with fr:=[],df:=aQ0 E } { tmps := #[],defers:=[] } w:=⟨hr,hbd,by show RdVs w E [] [];simp only [RdVs],Nd⟩
 obtain ⟨k1,k2,k3⟩:=hrF.add (hv := .pointer (some ⟨b,0,none⟩)) (blk := .box cs) (S':=S') hb s1 s2 s3 (fun hE=>⟨b,cells,ty,rfl,hh,RdVs.unbare (E:=({ E with S:=S' }:Env).add σ.nx (.pointer (some ⟨b,0,none⟩))) cs hcs,hones⟩)
  (fun b' hb'=>by
   simp only [aQ,Option.some.injEq] at hb';subst hb';exact ⟨s0,(Array.getElem?_eq_some_iff.1 hh).1,hSb⟩) rfl rfl
 refine ⟨_, .tup [r, .own σ.nx],_, σ.nx+1,_,rfl,k1.rel,k1.bound,k2,?_,hK⟩;simp only [RdV];refine ⟨_,rfl,?_⟩;simp only [RdVs,and_true];exact ⟨RdV.unbare (E:=({ E with S:=S' }:Env).add σ.nx (.pointer (some ⟨b,0,none⟩))) r hrv,by simpa only [RdV] using k3⟩
def mkK (r:V) (cs':List V) (x:V) (σ : St):Prop :=
 match x with
 | .tup [y, .own i]=>y.lend (σ.h.del i)=r∧r.pure=true∧aHd (σ.h.look i) (σ.h.del i) cs'
 | _=>False
theorem aCt {w:World} {E:Env} {a b:V} {vs:Array Value} (h:RdVs w E [a,b] vs.toList):∃ x y,vs = #[x,y]∧RdV w E a x∧RdV w E b y:=by
 obtain ⟨l⟩:=vs;rcases l with _ | ⟨x,_ | ⟨y,_ | ⟨z,l⟩⟩⟩<;>simp only [RdVs,and_false,and_true] at h
 exact ⟨x,y,rfl,h⟩
theorem cmk_of {P:Program} {f:FuncId} {fn:Func} {c:Code} {args cs':List V} {r:V} {n:Nat} {rs:List ResultVar} (he:P.enters f=true) (hf:P.funcs[f]? = some fn) (hb:fn.body=some c) (hn:fn.ntmps=n) (hrs:fn.results.toList=rs)
  (h:AWP P 0 c (Vb P rs (mkK r cs')) (Hj P n args [] 0)):CMk P f args r cs':=by
 refine ⟨he,fun w S vs hS hargs=>?_⟩
 let E0:Env:=⟨S,fun _=>none,fun _=>False,fun x=>x<w.heap.size,fun _=>none,none⟩
 have hrel:Rel w E0 []:=⟨fun i blk hl=>by simp [Heap.look] at hl,fun i hv hB=>by simp [E0] at hB,fun i hv hF=>by simp [E0] at hF,fun i hv b' hB hbk=>by simp [E0] at hB,fun i j hi hj b' hBi hBj _ _=>by simp [E0] at hBi,hS,fun x hx=>hx⟩
 refine mK hf hb hn hrs h hrel (fun i hi=>hi.elim) (fun i hi=>hi.elim) (vs:=vs) (RdVs.unbare (E:=E0) args hargs) ?_;intro v x σ' E' w' h1 hbd' h2 h3 hK;unfold mkK at hK;split at hK
 ·rename_i y i;obtain ⟨k1,k2,k3⟩:=hK;simp only [RdV] at h3;obtain ⟨us,rfl,h3⟩:=h3;obtain ⟨v0,v1,rfl,h4,h5⟩:=aCt h3;unfold aHd at k3;split at k3
  ·rename_i cs2 hl;obtain ⟨k4,k5⟩:=k3;obtain ⟨b',cells',ty',hB,hh',hcs',hones'⟩:=qB h1 hl;simp only [RdV] at h5;rw [h5.2.2 _ (.inl hB)];have q:=h1.own i _ b' hB rfl;have hbs:w.heap.size≤b':=Nat.le_of_not_lt fun hlt=>q.2.2 ((h2.D b').2 hlt)
   obtain ⟨d1,d2⟩:=h1.drop hbd' i;refine ⟨v0,b',wB (E'.drop i) (σ'.h.del i),ty',cells',rfl,hbs,fun x hx => .inl (h2.S x hx),fun x hx=>?_,fun x hx=>?_,?_,hh',?_,hones',⟨h2.os,h2.tape,h2.output,h2.size,fun k hk=>h2.keep k (.inr hk)⟩,fun hsb=>?_⟩
   ·rcases hx with hx | ⟨j,hv',_,hB',_,_,hbk⟩
    ·rcases h2.S' x hx with q | q
     ·exact .inl q
     ·exact .inr (Nat.le_of_not_lt fun hlt=>q hlt)
    ·have q:=(h1.own j hv' x (Km hB').2 hbk).2.2;exact .inr (Nat.le_of_not_lt fun hlt=>q ((h2.D x).2 hlt))
   ·rcases hx with hx | ⟨j,hv',_,hB',_,_,hbk⟩
    ·exact h1.slt x hx
    ·exact (h1.own j hv' x (Km hB').2 hbk).1
   ·have:=RdV.lend d1 y (by rw [k1];exact k2) (d2.rdV _ h4);rw [k1] at this;exact this
   ·have:=RdVs.lend d1 cs2 (by rw [k4];exact k5) (d2.rdVs _ hcs');rw [k4] at this;exact this
   ·rcases hsb with hx | ⟨j,hv',_,hB',_,_,hbk⟩
    ·exact q.2.1 hx
    ·obtain ⟨hne0,hB''⟩:=Km hB';exact hne0 (h1.apart j i hv' _ b' hB'' hB hbk rfl)
  ·exact k3.elim
 ·exact hK.elim
attribute [go_sem] mkK
open Go.RowKit
@[go_sem] def idRen:Heap→Ren
 | []=>[]
 | (i,_)::r=>(i,some i)::idRen r
theorem aB {n0:Nat} {σ σ':St} (hok:wkOk n0 (idRen σ'.h) σ σ'):aL8 n0 σ σ':=aN _ hok
def Tw (b:Option Blk) (x:V):V :=
 match b with
 | some _=>x
 | none => .dead
mutual
def aKt (h:Heap):V→V
 | .own i=>Tw (h.look i) (.own i)
 | .ptr i o=>Tw (h.look i) (.ptr i o)
 | .rptr i k n j=>Tw (h.look i) (.rptr i k n j)
 | .rsl i k n j=>Tw (h.look i) (.rsl i k n j)
 | .agg cs => .agg (Cn h cs)
 | .tup cs => .tup (Cn h cs)
 | .cond g x => .cond g (aKt h x)
 | .clo f cs => .clo f (Cn h cs)
 | .t x => .t x
 | .elem k d xs i j => .elem k d xs i j
 | .dead => .dead
def Cn (h:Heap):List V→List V
 | []=>[]
 | x::xs=>aKt h x::Cn h xs
end
def bK (σ : St):St := { σ with fr:=Cn σ.h σ.fr }
def bN:List Nat→St→St
 | [], σ => σ
 | i::r, σ => bN r (cJ i .dead σ)
attribute [go_sem] bN Tw aKt Cn bK
open Go.RowKit
def Mu:List Nat→Nat→Nat→Option Nat
 | [],_,_=>none
 | a::r,i,k=>if i=a then some k else Mu r i (k+1)
def Ct (is:List Nat) (nx j:Nat):Nat :=
 match is[j]? with
 | some i=>i
 | none=>nx+(j - is.length)
def wZ (m:Nat) (g:Nat→Nat):Heap→Heap
 | []=>[]
 | (j,b)::r=>if j<m then wZ m g r else (g j,b.ren g)::wZ m g r
def aEm (i:Nat) (g:Nat→Nat) (b:Option Blk) (r:Heap):Heap :=
 match b with
 | some b=>(i,b.ren g)::r
 | none=>r
def outP (i:Nat) (old:Blk) (g:Nat→Nat) (h':Heap) (p:Option Nat) (r:Heap):Heap :=
 match p with
 | some j=>aEm i g (h'.look j) r
 | none=>(i,old)::r
def Jv (is:List Nat) (g:Nat→Nat) (h':Heap):Heap→Heap
 | []=>[]
 | (i,b)::r=>outP i b g h' (Mu is i 0) (Jv is g h' r)
def inH (m:Nat) (g:Nat→Nat) (H:Heap):Heap→Prop
 | []=>True
 | (j,b)::r=>(j<m∧yQ m b.ment=true∧H.look (g j)=some (b.ren g))∧inH m g H r
def allB (m:Nat) (h:Heap):Bool:=(List.range m).all fun j=>(h.look j).isSome
def Sf (n:Nat) (h:Heap):Bool:=h.all fun p=>decide (p.1<n)
theorem Ru (i:Nat):∀ (a b:Heap),Heap.look (a++b) i=match Heap.look a i with | some x=>some x | none=>Heap.look b i
 | [],b=>rfl
 | (j,x)::r,b=>by
  simp only [List.cons_append,Heap.look];split
  ·rfl
  ·exact Ru i r b
theorem Xk:∀ {is:List Nat} {i k:Nat},i ∉ is→Mu is i k=none
 | [],_,_,_=>rfl
 | a::r,i,k,h=>by
  simp only [List.mem_cons,not_or] at h;rw [Mu,if_neg h.1,Xk h.2]
theorem aM5:∀ {is:List Nat} {j k:Nat} (h:j<is.length),is.Nodup→Mu is is[j] k=some (k+j)
 | a::r,0,k,h,_=>by simp [Mu]
 | a::r,j+1,k,h,hn=>by
  rw [List.nodup_cons] at hn;simp only [List.getElem_cons_succ,Mu];rw [if_neg (fun e=>hn.1 (by rw [← e];exact List.getElem_mem _)),aM5 (by simpa using h) hn.2];congr 1;omega
section
variable {m n':Nat} {g:Nat→Nat} (hinj:∀ i j,i<n'→j<n'→g i=g j→i=j)
include hinj
theorem Xp {j:Nat} (hj:j<n'):∀ {h:Heap},Sf n' h=true→(wZ m g h).look (g j)=if j<m then none else (h.look j).map (Blk.ren g)
 | [],_=>by simp [wZ,Heap.look]
 | (k,b)::r,hk=>by
  simp only [Sf,List.all_cons,Bool.and_eq_true,decide_eq_true_eq] at hk;have ih:=Xp hj (h:=r) (by simpa [Sf] using hk.2);unfold wZ
  by_cases hkm:k<m
  ·rw [if_pos hkm,ih];split
   ·rfl
   ·rename_i hjm;rw [Heap.look,if_neg (by omega)]
  ·rw [if_neg hkm,Heap.look]
   by_cases hjk:j=k
   ·subst hjk;rw [if_pos rfl,if_neg hkm,Heap.look,if_pos rfl];rfl
   ·rw [if_neg (fun e=>hjk (hinj _ _ hj hk.1 e)),ih,Heap.look,if_neg hjk]
end
theorem Qv {m n':Nat} {g:Nat→Nat} {i:Nat} (hi:∀ j,j<n'→g j≠i):∀ {h:Heap},Sf n' h=true→(wZ m g h).look i=none
 | [],_=>rfl
 | (k,b)::r,hk=>by
  simp only [Sf,List.all_cons,Bool.and_eq_true,decide_eq_true_eq] at hk;have ih:=Qv hi (m:=m) (h:=r) (by simpa [Sf] using hk.2);unfold wZ;split
  ·exact ih
  ·rw [Heap.look,if_neg (fun e=>hi k hk.1 e.symm),ih]
theorem Bs {is:List Nat} {g:Nat→Nat} {h':Heap} {i:Nat}:∀ {H:Heap},(Jv is g h' H).look i=match Mu is i 0 with | some j=>(match H.look i with | some _=>(h'.look j).map (Blk.ren g) | none=>none) | none=>H.look i
 | []=>by
  simp only [Jv,Heap.look];split<;>rfl
 | (k,b)::r=>by
  have ih:=Bs (is:=is) (g:=g) (h':=h') (i:=i) (H:=r);unfold Jv outP
  by_cases hik:i=k
  ·subst hik;cases hp:Mu is i 0 with
   | none=>simp only [Heap.look,if_true]
   | some j =>
    simp only [Heap.look,if_true];rw [hp] at ih;simp only at ih;unfold aEm;cases hl:Heap.look h' j with
    | none=>simp only [Option.map_none];rw [ih,hl];split<;>rfl
    | some b'=>simp only [Heap.look,if_true,Option.map_some]
  ·have hne:∀ r',(match Mu is k 0 with | some j=>aEm k g (Heap.look h' j) r' | none=>(k,b)::r').look i=Heap.look r' i:=fun r'=>by
    cases Mu is k 0 with
    | none=>simp only [Heap.look,if_neg hik]
    | some j =>
     simp only [aEm];cases Heap.look h' j with
     | none=>rfl
     | some b'=>simp only [Heap.look,if_neg hik]
   rw [hne,ih];simp only [Heap.look,if_neg hik]
theorem aMz {m:Nat} {g:Nat→Nat} {H:Heap}:∀ {h:Heap},inH m g H h → ∀ j blk,h.look j=some blk→j<m∧yQ m blk.ment=true∧H.look (g j)=some (blk.ren g)
 | [],_,j,blk,hl=>by simp [Heap.look] at hl
 | (k,b)::r,hi,j,blk,hl=>by
  rw [Heap.look] at hl;split at hl
  ·rename_i e;subst e;injection hl with hl;subst hl;exact hi.1
  ·exact aMz hi.2 j blk hl
theorem aX5 {m:Nat} {h:Heap} (ha:allB m h=true):∀ j,j<m → ∃ blk,h.look j=some blk:=by
 intro j hj;simp only [allB,List.all_eq_true,List.mem_range] at ha;have:=ha j hj;cases hl:h.look j with
 | none=>rw [hl] at this;cases this
 | some b=>exact ⟨b,rfl⟩
theorem xD {is:List Nat} {nx j:Nat} (h:j<is.length):Ct is nx j=is[j]:=by unfold Ct;rw [List.getElem?_eq_getElem h]
theorem Bv {is:List Nat} {nx j:Nat} (h:is.length≤j):Ct is nx j=nx+(j - is.length):=by unfold Ct;rw [List.getElem?_eq_none h]
theorem cG {P:Program} {σ : St} {d:Option Tmp} {f:FuncId} {m n':Nat} {h h':Heap} {args xs:List V} {r:V} {K:St→Prop} (hc:CIO P f m h args r h' n') (is:List Nat) (hlen:is.length=m) (hmn:m≤n') (hnd:is.Nodup)
  (hin:inH m (Ct is σ.nx) σ.h h) (hall:allB m h=true) (hkeys:Sf n' h'=true) (hargs:yQ m (V.ments args)=true) (hxs:xs=V.rens (Ct is σ.nx) args)
  (hK:K (({ σ with h:=wZ m (Ct is σ.nx) h'++Jv is (Ct is σ.nx) h' σ.h,nx := σ.nx+(n' - m) }:St).put d (r.ren (Ct is σ.nx)))):ICall P σ d f xs K:=by
 subst hlen;refine nX hc.1 (fun E w vs hr hbd hvs=>?_);have hlow:=aMz hin;have hal:=aX5 hall;have hold:∀ j (hj:j<is.length),E.U is[j]∧is[j] < σ.nx ∧ ∃ blk, σ.h.look is[j]=some blk:=fun j hj=>by
  obtain ⟨blk,hb⟩:=hal j hj;have h2:=(hlow j blk hb).2.2;rw [xD hj] at h2;have h3:=hr.uses h2;exact ⟨h3,hbd _ h3,_,h2⟩
 have hinj:∀ i j,i<n'→j<n'→Ct is σ.nx i=Ct is σ.nx j→i=j:=fun i j hi hj he=>by
  by_cases hi1:i<is.length
  ·by_cases hj1:j<is.length
   ·rw [xD hi1,xD hj1] at he;exact (List.getElem_inj hnd).1 he
   ·rw [xD hi1,Bv (by omega)] at he;have:=(hold i hi1).2.1;omega
  ·by_cases hj1:j<is.length
   ·rw [xD hj1,Bv (by omega)] at he;have:=(hold j hj1).2.1;omega
   ·rw [Bv (by omega),Bv (by omega)] at he;omega
 have hnew:∀ j,is.length≤j→j<n' → ¬ E.U (Ct is σ.nx j):=fun j h1 h2 hU=>by
  rw [Bv h1] at hU;have:=hbd _ hU;omega
 subst hxs;refine (aC1 hc hmn hinj hlow hal hargs hr hnew hvs).mono ?_;rintro e w' ⟨v,E',rfl,h1,h2,h3,h4⟩;refine ⟨v,_,_,_,E',rfl,h1 _ (fun j hj=>?_) (fun i hi=>?_),fun q hq=>?_,h2,h3,hK⟩
 ·rw [Ru,Xp hinj hj hkeys]
  by_cases hjm:j<is.length
  ·rw [if_pos hjm];simp only;rw [Bs,xD hjm,aM5 hjm hnd,Nat.zero_add];obtain ⟨_,_,blk,hb⟩:=hold j hjm;simp only [hb]
  ·rw [if_neg hjm];cases hl:(Heap.look h' j).map (Blk.ren (Ct is σ.nx)) with
   | some x=>rfl
   | none =>
    simp only;have hno : σ.h.look (Ct is σ.nx j)=none:=by
     cases hl2 : σ.h.look (Ct is σ.nx j) with
     | none=>rfl
     | some b=>exact (hnew j (by omega) hj (hr.uses hl2)).elim
    rw [Bs,hno];split<;>rfl
 ·rw [Ru,Qv hi hkeys];simp only;rw [Bs,Xk];intro hmem;obtain ⟨j,hj,he⟩:=List.mem_iff_getElem.1 hmem;exact hi j (by omega) (by rw [xD hj];exact he)
 ·rcases h4 q hq with h4 | ⟨j,h5,h6,rfl⟩
  ·have:=hbd q h4;show q < σ.nx+(n' - is.length)
   omega
  ·rw [Bv h5];show _ < σ.nx+(n' - is.length)
   omega
attribute [go_sem] Mu Ct wZ aEm outP Jv inH yQ V.ment V.ments Gn Rg Blk.ment ioK
open Go.RowKit
set_option maxRecDepth 4000
def aAm (P:Program) (ops:List Oper) (Q:Exit→St→Prop) (l:List Oper) (σ : St):Prop :=
 ∀ E a w,RelF E σ a w → ∀ E0 w0,Ext E0 w0 E w→wpListIn (Wd E.ro) 0 P ops.toArray (sD E0 w0 Q) l a w
theorem aJe {P:Program} {ops:List Oper} {Q:Exit→St→Prop} {l:List Oper} {σ : St} (h:uN P ops l (Q .normal) σ):aAm P ops Q l σ := Pj l σ h
theorem aDm {P:Program} {ops:List Oper} {Q:Exit→St→Prop} {l2:List Oper}:∀ (l:List Oper) (σ : St),uN P ops l (aAm P ops Q l2) σ → aAm P ops Q (l++l2) σ
 | [], σ,h=>h
 | o::r, σ,h=>by
  intro E a w hr E0 w0 hE;have next:∀ {σ'} {E':Env} {a' w'},uN P ops r (aAm P ops Q l2) σ'→RelF E' σ' a' w'→Ext E w E' w'→wpListIn (Wd E.ro) 0 P ops.toArray (sD E0 w0 Q) (r++l2) a' w':=fun h3 h1 h2=>by
   have:=aDm r _ h3 _ _ _ h1 E0 w0 (hE.trans h2);rwa [h2.ro] at this
  unfold uN Qw at h;rw [List.cons_append];unfold wpListIn;split at h
  ·rename_i hg;have hw:Region.wanted o (yielded ops.toArray a.tmps)=true:=by simp [Region.wanted,hg]
   rw [if_pos hw];exact tC h E a w hr _ _ fun a' w' E' σ' h1 h2 h3=>next h3 h1 h2
  ·rename_i j want hg;unfold aBu at h;split at h
   ·rename_i g hgs;have hw:=Am hr hg hgs;rw [hw];split at h
    ·obtain ⟨x,hK,hy⟩:=pM h;cases g with
     | true =>
      rw [if_pos rfl];exact qN (.inr (qW h)) (hy rfl E a w hr _ _ fun v w' E' h1 h2 h3 _=>next hK (h1.put o.dst (nS (by rw [RdV];exact ⟨fun _=>h3,fun h=>by cases h⟩))) h2)
     | false =>
      rw [if_neg (by simp)];exact ⟨fun _ _=>trivial,next hK (hr.put o.dst (nS (by rw [RdV];exact ⟨fun h=>(by cases h),fun _=>rfl⟩))) (Ext.refl E w)⟩
    ·cases g with
     | true =>
      rw [if_pos rfl];exact tC (h.1 rfl) E a w hr _ _ fun a' w' E' σ' h1 h2 h3=>next h3 h1 h2
     | false =>
      rw [if_neg (by simp)];exact ⟨fun _ _=>trivial,next (h.2 rfl) (hr.put o.dst (by simp only [RdV])) (Ext.refl E w)⟩
   ·exact h.elim
theorem Uk {P:Program} {n0 id:Nat} {ops:Array Oper} {Q:Exit→St→Prop} {σ : St} (h:aAm P ops.toList Q ops.toList σ):AWP P n0 (.region id ops false) Q σ := by
 intro E a w hr E0 w0 hU hE;have:=h E a w hr E0 w0 hE;rw [Array.toArray_toList] at this;exact wpIn_region_list this
theorem Na {P:Program} {n0 id:Nat} {ops:Array Oper} {Q:Exit→St→Prop} {σ : St} (n:Nat) (h:uN P ops.toList (ops.toList.take n) (aAm P ops.toList Q (ops.toList.drop n)) σ):AWP P n0 (.region id ops false) Q σ := by
 refine Uk ?_;have:=aDm (l2:=ops.toList.drop n) (ops.toList.take n) σ h;rwa [List.take_append_drop] at this
open Go.RowKit
set_option maxRecDepth 4000
def Blk.res (h:Heap):Blk→Blk
 | .row e k d xs => .row e k d (xs.map (V.ress h))
 | .box cs => .box (V.ress h cs)
 | .map es => .map es
 | .shr t => .shr t
 | .loop st pend tmps ps c d => .loop st pend (V.ress h tmps) ps c d
 | .defd => .defd
def Heap.res (h:Heap):Heap→Heap
 | []=>[]
 | (i,b)::r=>(i,b.res h)::Heap.res h r
theorem Heap.look_res (h:Heap) (i:Nat):∀ h2:Heap,(Heap.res h h2).look i=(h2.look i).map (Blk.res h)
 | []=>rfl
 | (j,b)::r=>by
  simp only [Heap.res,Heap.look];split
  ·rfl
  ·exact Heap.look_res h i r
theorem aDv (h:Heap):∀ xs:List V,(V.ress h xs).length=xs.length
 | []=>rfl
 | x::xs=>by simp only [V.ress,List.length_cons,aDv h xs]
theorem Le (h:Heap):∀ xs ys:List V,V.ress h (xs++ys)=V.ress h xs++V.ress h ys
 | [],ys=>rfl
 | x::xs,ys=>by simp only [List.cons_append,V.ress,Le h xs ys]
theorem Fx (h:Heap):∀ xs:List (List V),(xs.map (V.ress h)).flatten=V.ress h xs.flatten
 | []=>rfl
 | x::xs=>by simp only [List.map_cons,List.flatten_cons,Le,Fx h xs]
theorem Blk.rel_res {w:World} {E:Env} {h:Heap} (hr:Rel w E h) {b:Blk} {hv:Value} (hb:BlkRel w E b hv):BlkRel w E (b.res h) hv:=by
 cases b with
 | row e k d xs =>
  obtain ⟨cells,h1,h2,h3,h4⟩:=hb;refine ⟨cells,by rw [List.length_map];exact h1,by rw [Fx];exact RdVs.res hr _ h2,fun x hx=>?_,h4⟩;obtain ⟨y,hy,rfl⟩:=List.mem_map.1 hx;rw [aDv];exact h3 y hy
 | box cs =>
  obtain ⟨b,vs,ty,h1,h2,h3,h4⟩:=hb;exact ⟨b,vs,ty,h1,h2,RdVs.res hr _ h3,h4⟩
 | map es=>exact hb
 | shr t=>exact hb
 | loop st pend tmps ps c d =>
  obtain ⟨l,rec,h1,h2,h3,h4,h5,h6,h7,h8⟩:=hb;exact ⟨l,rec,h1,h2,h3,h4,h5,h6,h7,RdVs.res hr _ h8⟩
 | defd=>exact hb
theorem Blk.at_res {E:Env} {h:Heap} {i:Nat} {b:Blk}:E.at (b.res h) i=E.at b i:=by cases b<;>rfl
theorem Rel.res {w:World} {E:Env} {h:Heap} (hr:Rel w E h):Rel w E (Heap.res h h):=by
 refine ⟨fun i blk hl=>?_,fun i hv hB=>?_,hr.domF,hr.own,hr.apart,hr.slt,hr.dlt⟩
 ·rw [Heap.look_res] at hl;obtain ⟨b,hb,rfl⟩:=Option.map_eq_some_iff.1 hl;obtain ⟨hv,h1,h2⟩:=hr.has i b hb;exact ⟨hv,by rw [Blk.at_res];exact h1,Blk.rel_res hr h2⟩
 ·obtain ⟨h1,b,h2⟩:=hr.dom i hv hB;exact ⟨h1,_,by rw [Heap.look_res,h2];rfl⟩
def aV5 (P:Program) (n0:Nat) (c:Code) (Q:Exit→St→Prop) (σ : St) (o:Option Heap):Prop :=
 match o with
 | some h=>AWP P n0 c Q { σ with h:=Heap.res h h,fr:=V.ress h σ.fr }
 | none=>False
theorem Un {P:Program} {n0:Nat} {c:Code} {Q:Exit→St→Prop} {σ : St} (is:List Nat) (h:aV5 P n0 c Q σ (giveL is σ.h)):AWP P n0 c Q σ := by
 unfold aV5 at h;split at h
 ·rename_i h' hg;intro E a w hr E0 w0 hU hE;obtain ⟨E1,r1,r2,r3⟩:=RelF.giveL is (h := σ.h) hr hg;have:=h E1 a w ⟨Rel.res r1.rel,r1.bound,RdVs.res r1.rel _ r1.fr,r1.defers⟩ E0 w0 hU (hE.trans r2);rwa [r2.ro] at this
 ·exact h.elim
def aBv (Q:Exit→St→Prop) (e:Exit) (σ : St) (o:Option Heap):Prop :=
 match o with
 | some h=>Q e { σ with h:=Heap.res h h,fr:=V.ress h σ.fr }
 | none=>False
def aV3 (is:List Nat) (Q:Exit→St→Prop) (e:Exit) (σ : St):Prop:=aBv Q e σ (giveL is σ.h)
@[go_sem] theorem giveQ_eq {is:List Nat} {Q:Exit→St→Prop} {e:Exit} {fr:List V} {h:Heap} {nx:Nat} {df:List Dfr}:aV3 is Q e ⟨fr,h,nx,df⟩=aBv Q e ⟨fr,h,nx,df⟩ (giveL is h):=rfl
theorem aRn {P:Program} {n0:Nat} {c:Code} {Q:Exit→St→Prop} {σ : St} (is:List Nat) (h:AWP P n0 c (aV3 is Q) σ):AWP P n0 c Q σ := by
 intro E a w hr E0 w0 hU hE;refine wpIn_mono (h E a w hr E0 w0 hU hE) ?_;rintro e a' w' ⟨σ',E',h1,h2,h3⟩;unfold aV3 aBv at h3;split at h3
 ·rename_i h' hg;obtain ⟨E1,r1,r2,r3⟩:=RelF.giveL (σ := σ') is (h := σ'.h) h1 hg;exact ⟨{ σ' with h:=Heap.res h' h',fr:=V.ress h' σ'.fr },E1,⟨Rel.res r1.rel,r1.bound,RdVs.res r1.rel _ r1.fr,r1.defers⟩,h2.trans r2,h3⟩
 ·exact h3.elim
@[go_sem] theorem aT7 (h:Heap):∀ l:List T,V.ress h (l.map .t)=l.map .t
 | []=>rfl
 | x::r=>by simp only [List.map_cons,V.ress,V.res,aT7 h r]
@[go_sem] theorem aJh (h:Heap):∀ l:List (List T),(aL l).map (V.ress h)=aL l
 | []=>rfl
 | x::r=>by
  have:=aJh h r;unfold aL at this ⊢;simp only [List.map_cons,aT7,this]
attribute [go_sem] aV5 aBv Blk.res Heap.res
open Go.RowKit Go.ChangeShapes Go.WideShapes
def aC8 (w:World):Nat→Prop:=fun b=>b<w.heap.size
def Opens {α : Type} (P:Program) (t:TypeId) (c : α → List T):Prop :=
 ∀ {H:Type} (enc:TypeId×Value→H) (w:World) (spare:Nat→Bool) (held:Bool) (n:Nat) (cs:List Value) (x:DataW H×List MemPlace),DataW.trod enc P w 0 spare held n t cs=some x → ∃ a,RdTs w (aC8 w) (c a) cs
section
variable {P:Program} {t:TypeId} {α β : Type}
theorem Opens.map {c : α → List T} {c' : β → List T} (g : α → β) (h:∀ a,c' (g a)=c a) (ho:Opens P t c):Opens P t c':=by
 intro H enc w spare held n cs x hx;obtain ⟨a,ha⟩:=ho enc w spare held n cs x hx;exact ⟨g a,by rw [h];exact ha⟩
theorem aQb {k:IntKind} (ht:P.underlying t=some (.int k)):Opens P t fun n:Int=>[.lit (.int k n)]:=by
 intro H enc w spare held n cs x hx;obtain ⟨b,rfl,_⟩:=DataW.trod_int ht hx;exact ⟨b, .lit _ rfl trivial,trivial⟩
theorem Mj {Q:Nat → α → Prop}:∀ (n:Nat),(∀ i,i<n → ∃ a,Q i a) → ∃ al:List α,al.length=n ∧ ∀ i a,al[i]? = some a→Q i a
 | 0,_=>⟨[],rfl,by simp⟩
 | n+1,h=>by
  obtain ⟨al,h1,h2⟩:=Mj n fun i hi=>h i (by omega)
  obtain ⟨a,ha⟩:=h n (by omega);refine ⟨al ++ [a],by simp [h1],fun i b hb=>?_⟩
  by_cases hi:i<n
  ·rw [List.getElem?_append_left (by omega)] at hb;exact h2 i b hb
  ·have hi2:i<(al ++ [a]).length:=(List.getElem?_eq_some_iff.1 hb).1;have:i=n:=by simp [h1] at hi2;omega
   subst this;rw [List.getElem?_append_right (by omega),h1] at hb;simp at hb;subst hb;exact ha
theorem aRe {w:World} {a:Addr} {v:Value} (h:w.cell? a=some v):a.spot=none:=by
 unfold World.cell? at h;split at h
 ·cases hs:a.spot with
  | none=>rfl
  | some x=>rw [hs] at h;simp at h
 ·cases h
theorem aW4 {w:World} {a:Addr} {v:Value} (h:w.cell? a=some v):a.block<w.heap.size:=by
 unfold World.cell? at h;split at h
 ·rename_i hh;exact (Array.getElem?_eq_some_iff.1 hh).1
 ·cases h
theorem aLx {w:World} {S:Nat→Prop}:∀ {xs:List T} {vs:List Value} {j:Nat} {x:T} {v:Value},RdTs w S xs vs→xs[j]? = some x→vs[j]? = some v→RdT w S x v
 | x::xs,v::vs,0,_,_,h,hx,hv=>by simp at hx hv;subst hx hv;exact h.1
 | x::xs,v::vs,j+1,_,_,h,hx,hv=>aLx (j:=j) h.2 (by simpa using hx) (by simpa using hv)
 | [],_,_,_,_,_,hx,_=>by simp at hx
 | _::_,[],_,_,_,h,_,_=>h.elim
theorem aEn {e:TypeId} {c : α → List T} {k:Nat} (d:List T) (ht:P.underlying t=some (.slice e)) (he:Opens P e c) (hk:P.cellsOf e=k) (hc:∀ a,(c a).length=k) (hpos : 0<k) :
  Opens P t fun al:List α => [.list k d (al.map c)]:=by
 subst hk;intro H enc w spare held n cs x hx;rcases DataW.trod_slice ht hx with ⟨rfl,_⟩ | ⟨a,len,cap,elems,rest,m,rfl,rfl,rfl,hb,hl,hm,hlen,hel,_,_⟩
 ·exact ⟨[], .list _ _ _ none 0 (Nat.zero_le _) (Nat.zero_le _) (fun _=>rfl) (by simp) (by simp) (by simp),trivial⟩
 ·obtain ⟨al,h1,h2⟩:=Mj (Q:=fun i x => ∃ cs,w.cells? 0 (a.add (i*P.cellsOf e)) (P.cellsOf e)=some cs∧RdTs w (aC8 w) (c x) cs) len fun i hi=>by
   have h3:=hel i hi;rw [List.getElem?_eq_getElem (by omega)] at h3;obtain ⟨cs,h4,h5⟩:=Option.bind_eq_some_iff.1 h3;obtain ⟨y,hy⟩:=he enc w spare held m cs _ h5;exact ⟨y,cs,h4,hy⟩
  refine ⟨al,?_,trivial⟩;have hlen':(al.map c).length=len:=by simp [h1]
  rw [← hlen'];have key:∀ i y,al[i]? = some y → ∃ cs,RdTs w (aC8 w) (c y) cs∧cs.length=P.cellsOf e∧a.spot=none∧a.block<w.heap.size ∧ ∀ j,j<P.cellsOf e→w.cell? ⟨a.block,a.off+i*P.cellsOf e+j,none⟩=cs[j]? := by
   intro i y hy;obtain ⟨cs,h3,h4⟩:=h2 i y hy;obtain ⟨_,h5,h6⟩:=World.cells?_some h3;have h0:=h6 0 hpos;rw [List.getElem?_eq_getElem (by omega)] at h0;have hlt:=aW4 h0;have hsp:a.spot=none:=by
    have hl0 : 0<al.length:=by have:=(List.getElem?_eq_some_iff.1 hy).1;omega
    obtain ⟨cs0,g3,g4⟩:=h2 0 _ (List.getElem?_eq_getElem hl0);obtain ⟨_,g5,g6⟩:=World.cells?_some g3;have g0:=g6 0 hpos;rw [List.getElem?_eq_getElem (by omega),Nat.zero_mul] at g0;have e0:(a.add 0).add 0=a:=by simp [Addr.add]
    rw [e0] at g0;exact aRe g0
   obtain ⟨b,off,sp⟩:=a;have hsp':sp=none:=hsp;subst hsp';rw [Addr.add_lit,Addr.add_lit] at hlt;refine ⟨cs,h4,h5,rfl,hlt,fun j hj=>?_⟩;have:=h6 j hj;rw [Addr.add_lit,Addr.add_lit] at this;exact this
  refine .list _ _ _ (some a) cap (by omega) (by omega) (fun h=>by cases h) ?_ ?_ ?_
  ·intro y hy;obtain ⟨z,_,rfl⟩:=List.mem_map.1 hy;exact hc z
  ·intro i y hy;rw [List.getElem?_map,Option.map_eq_some_iff] at hy;obtain ⟨z,hz,rfl⟩:=hy;obtain ⟨cs,k1,k2,k3,k4,k5⟩:=key i z hz;obtain ⟨b,off,sp⟩:=a;have k3':sp=none:=k3;subst k3';refine ⟨b,off,rfl,k4,fun j x hx=>?_⟩;have hj:j<P.cellsOf e:=by rw [← hc z];exact (List.getElem?_eq_some_iff.1 hx).1
   exact ⟨cs[j]'(by omega),by rw [k5 j hj,List.getElem?_eq_getElem (by omega)]⟩
  ·intro i y j x' b off u hy hx' hA hu;rw [List.getElem?_map,Option.map_eq_some_iff] at hy;obtain ⟨z,hz,rfl⟩:=hy;obtain ⟨cs,k1,k2,k3,k4,k5⟩:=key i z hz;injection hA with hA;subst hA;have hj:j<P.cellsOf e:=by rw [← hc z];exact (List.getElem?_eq_some_iff.1 hx').1
   rw [k5 j hj] at hu;exact aLx k1 hx' hu
def aUr (P:Program):List Field→Nat→Option Nat
 | [],o=>some o
 | f::r,o=>if f.offset=o then aUr P r (o+P.cellsOf f.type) else none
def OpensF (P:Program) (fs:List Field) (c : α → List T):Prop :=
 ∀ {H:Type} (enc:TypeId×Value→H) (w:World) (spare:Nat→Bool) (held:Bool) (n:Nat) (cs:List Value),(∀ f∈fs, ∃ x,DataW.trod enc P w 0 spare held n f.type ((cs.drop f.offset).take (P.cellsOf f.type))=some x) →
  ∀ o e,aUr P fs o=some e → ∃ a,RdTs w (aC8 w) (c a) ((cs.drop o).take (e - o))
end
def Ut {α : Type} (P:Program) (t:TypeId) (v : α → V):Prop :=
 ∀ {H:Type} (enc:TypeId×Value→H) (w:World) (spare:Nat→Bool) (held:Bool) (val:Value) (d:DataW H) (p:List MemPlace),Value.okWide P w .any 0 t val→DataW.Trod enc P w 0 spare held t val d p → ∃ a,RdV w (jW (aC8 w)) (v a) val
section
variable {P:Program} {t:TypeId} {α β : Type}
theorem aEr {w:World} {S:Nat→Prop} {x:T} {u:Value} {l:List Value} (hl:l = [u]) (h:RdTs w S [x] l):RdV w (jW S) (.t x) u:=by
 subst hl;simp only [RdV];exact h.1
theorem aB3 {e:TypeId} {x : α → T} (ht:P.underlying t=some (.slice e)) (ho:Opens P t fun a=>[x a]):Ut P t fun a => .t (x a):=by
 rintro H enc w spare held val d p hv ⟨n,hn⟩;obtain ⟨A,l,c,rfl⟩:=okWide_slice ht hv;obtain ⟨a,ha⟩:=ho enc w spare held n _ _ hn;exact ⟨a,aEr rfl ha⟩
def Ns (P:Program) (ts:List TypeId) (vs : α → List V):Prop :=
 ∀ {H:Type} (enc:TypeId×Value→H) (w:World) (spare:Nat→Bool) (held:Bool) (args:List Value) (ds:List (DataW H)) (p:List MemPlace),(∀ (j:Nat) t v,ts[j]? = some t→args[j]? = some v→Value.okWide P w .any 0 t v) →
  DataW.TrodAll enc P w 0 spare held ts args ds p → ∃ a,RdVs w (jW (aC8 w)) (vs a) args
theorem aEp:Ns P [] fun _:Unit=>[]:=by
 intro H enc w spare held args ds p hv h;cases args with
 | nil=>exact ⟨(),by simp [RdVs]⟩
 | cons _ _=>cases ds<;>exact h.elim
theorem xC {ts:List TypeId} {v : α → V} {vs : β → List V} (h1:Ut P t v) (h2:Ns P ts vs):Ns P (t::ts) fun x : α × β => v x.1::vs x.2:=by
 intro H enc w spare held args ds p hv h;cases args with
 | nil=>cases ds<;>exact h.elim
 | cons u us =>
  cases ds with
  | nil=>exact h.elim
  | cons d ds =>
   obtain ⟨p1,p2,k1,k2,rfl⟩:=h;obtain ⟨a,ha⟩:=h1 enc w spare held u d p1 (hv 0 t u rfl rfl) k1;obtain ⟨b,hb⟩:=h2 enc w spare held us ds p2 (fun j t v ht hv'=>hv (j+1) t v (by simpa using ht) (by simpa using hv')) k2;exact ⟨(a,b),by simp only [RdVs];exact ⟨ha,hb⟩⟩
def aK4 (P:Program) (ts:List TypeId):Bool:=ts.all fun t=>P.readableRec t&&decide (t<P.types.size)
theorem Fd {H:Type} {enc:TypeId×Value→H} (hl:laidOutB P=true) {W W':World} (hb:Below W.heap.size W W'):∀ {ts:List TypeId} {vs:List Value} {ds:List (DataW H)} {p:List MemPlace},aK4 P ts=true →
  DataW.TrodAll enc P W 0 (fun _=>true) true ts vs ds p→DataW.TrodAll enc P W' 0 (fun b=>decide (b<W.heap.size)) true ts vs ds p
 | [],[],[],_,_,h=>h
 | t::ts,v::vs,d::ds,p,hk,h=>by
  obtain ⟨p1,p2,k1,k2,rfl⟩:=h;simp only [aK4,List.all_cons,Bool.and_eq_true,decide_eq_true_eq] at hk;refine ⟨p1,p2,Below.trod hl hk.1.1 hk.1.2 k1 hb ?_,Fd hl hb (by simpa [aK4] using hk.2) k2,rfl⟩;obtain ⟨m,hm⟩:=k1;exact DataW.trod_lt m _ _ _ hm
 | [],_::_,_,_,_,h=>h.elim
 | [],[],_::_,_,_,h=>h.elim
 | _::_,[],_,_,_,h=>h.elim
 | _::_,_::_,[],_,_,h=>h.elim
end
open Go.RowKit
theorem aQt {P:Program} {f:FuncId} {fn:Func} {s:ChangeSpec} {c:OpenClaim}
  (k1:c.wf (OpenSpec.ofChange s)=true) (k2:laidOutB P=true) (k3:mapsRowed P=true) (k4:fn.params.all (P.readableRec ·)=true) (k5:namedTie P c.named s.vars=true)
  (k6:(c.inPlace==P.inPlace f)=true) (k7:(c.unfollowed==P.unfollowed f)=true) (k8:(c.recurses==P.recurses f)=true) (k9:(c.named==P.varsNamed f)=true)
  (k10:(c.plainKeys==P.plainKeys)=true) (k11:P.stopsHeard=true) (k12:P.mayEnter=true) (k13:(c.lifted==P.liftsFinal)=true) (k14:(P.make==some c.make)=true) (k15:(c.pinned==c.pinnedBy)=true)
  (r1:((c.stops == [])&&(P.stops == [])&&(c.knobs == [])&&(P.stopKnobs == []))=true)
  (r2:(c.maps==(fn.params.toList++s.plain.varTypes P).any (P.mapsRec ·))=true) (r3:(c.ifaces==(fn.params.toList++s.plain.varTypes P).any (P.ifacesRec ·))=true) (r4:(c.mapsOut==P.mapsAmong fn.resultTypes.toList)=true)
  (r5:(c.loops==(fn.params.toList++s.plain.varTypes P).any (P.loopsFrom ·))=true) (r6:(c.wideKeys==(fn.params.toList++s.plain.varTypes P++fn.resultTypes.toList).any (P.wideKeysFrom ·))=true)
  (r7:s.vars.all (P.varReadable ·)=true) (r8:fn.resultTypes.all (fun t=>P.readableRec t&&decide (t<P.types.size))=true) (r9:(c.ifacesOut==fn.resultTypes.toList.any (P.ifacesRec ·))=true) (r10:(c.loopsOut==fn.resultTypes.toList.any (P.loopsFrom ·))=true)
  (r11:c.shortTexts.isNone=true) (r12:(c.kinds==(if c.domain.isEmpty then [] else fn.params.toList.map fun t=>match P.underlying t with | some (.int k)=>some k | _=>none))=true)
  (r13:(c.veiled==(fn.params.toList++s.plain.varTypes P++fn.resultTypes.toList).any (P.veiledRec ·))=true) (r14:c.veiledFits P fn.params.toList (fn.params.toList++s.plain.varTypes P++fn.resultTypes.toList)=true) :
  joinedFacts P f fn s c=true:=by
 simp only [Bool.and_eq_true] at r1;unfold joinedFacts;rw [k1,k2,k3,k4,k5,k6,k7,k8,k9,k10,k11,k12,k13,k14,k15,r1.1.1.1,r1.1.1.2,r1.1.2,r1.2,r2,r3,r4,r5,r6,r7,r8,r9,r10,r11,r13,r14];simp only [Bool.true_and,Bool.and_true];exact r12
open Go.RowKit
set_option maxRecDepth 4000
def SAny (P:Program) (ops:Array Oper) (Q:Exit→St→Prop) (f:Nat) (listed:Array Bool) (σ : St):Prop :=
 ∀ E a w,RelF E σ a w → ∀ E0 w0,Ext E0 w0 E w→wpAnyIn (Wd E.ro) 0 P .any ops (sD E0 w0 Q) f listed a w
section
variable {P:Program} {l:List Oper} {Q:Exit→St→Prop} {n0 m:Nat} {L:Log} {σT σ0:St} {rs:List Rec} {fT:Nat}
theorem aRf (hS:Ms P l n0 L σT 0 (l.take m) rs σ0) (hn : σ0.nx=n0+m) (hc:Hp l n0 L=true) (hk:aKu l m=true) (hm:m≤l.length)
  (hT:∀ listed:Array Bool,listed.size=l.length→(∀ i,i<l.length→listed.getD i false=decide (i<m))→SAny P l.toArray Q fT listed σT) :
  ∀ (fuel:Nat) (todo:List Nat) (listed:Array Bool) (σX:St) (E:Env) (a:Act) (w:World),fuel=todo.length+fT→todo.Nodup→(∀ i,i∈todo ↔ i<m∧listed.getD i false=false)→(∀ i,m≤i→listed.getD i false=false) →
   HeadInv .any l.toArray l.toArray.size listed → σX.fr=frX (fun j=>listed.getD j false) 0 rs σ0.fr→(∀ q, σX.h.look q=lkX n0 (fun j=>listed.getD j false) q 0 rs (σ0.h.look q)) → σX.nx=n0+m → σX.df = σ0.df→RelF E σX a w →
   (∀ q,E.U q→q<n0 ∨ ∃ j,listed.getD j false=true∧q=n0+j) → ∀ E0 w0,Ext E0 w0 E w→wpAnyIn (Wd E.ro) 0 P .any l.toArray (sD E0 w0 Q) fuel listed a w:=by
 obtain ⟨hlen,hendf,hendh,hendn,hendd⟩:=Je _ _ _ _ hS;have hlen':rs.length=m:=by rw [hlen,List.length_take];omega
 simp only [aKu,Bool.and_eq_true] at hk;obtain ⟨⟨⟨kd,kr⟩,kb⟩,kt⟩:=hk;intro fuel
 induction fuel with
 | zero =>
  intro todo listed σX E a w hf hnd htodo htail inv hfr hlk hnx hdf hr hU E0 w0 hE;have h0:todo = []:=List.length_eq_zero_iff.1 (by omega);have hf0:fT=0:=by omega
  subst hf0;have hall:∀ i,i<m→listed.getD i false=true:=fun i hi=>by
   cases h:listed.getD i false with
   | true=>rfl
   | false=>have:=(htodo i).2 ⟨hi,h⟩;rw [h0] at this;cases this
  have hrT:RelF E σT a w:=hr.like (by rw [hendf,hfr];exact wG _ _ _ fun j hj=>by rw [Nat.zero_add,hall j (by omega)]) (fun q=>by
   rw [hendh q,hlk q];exact rW _ _ _ fun j r hj _=>by
    have:=(List.getElem?_eq_some_iff.1 hj).1;rw [Nat.zero_add,hall j (by omega)]) (by rw [hendn,hn,hnx]) (by rw [hendd,hdf])
  exact (hT listed (by simpa using inv.size) fun i hi=>by
   by_cases h:i<m
   ·rw [hall i h];simp [h]
   ·rw [htail i (by omega)];simp [h]) E a w hrT E0 w0 hE
 | succ fuel ih =>
  intro todo listed σX E a w hf hnd htodo htail inv hfr hlk hnx hdf hr hU E0 w0 hE
  by_cases h0:todo = []
  ·have hall:∀ i,i<m→listed.getD i false=true:=fun i hi=>by
    cases h:listed.getD i false with
    | true=>rfl
    | false=>have:=(htodo i).2 ⟨hi,h⟩;rw [h0] at this;cases this
   have hrT:RelF E σT a w:=hr.like (by rw [hendf,hfr];exact wG _ _ _ fun j hj=>by rw [Nat.zero_add,hall j (by omega)]) (fun q=>by
    rw [hendh q,hlk q];exact rW _ _ _ fun j r hj _=>by
     have:=(List.getElem?_eq_some_iff.1 hj).1;rw [Nat.zero_add,hall j (by omega)]) (by rw [hendn,hn,hnx]) (by rw [hendd,hdf])
   have hfT:fuel+1=fT:=by rw [h0] at hf;simpa using hf
   rw [hfT];exact (hT listed (by simpa using inv.size) fun i hi=>by
    by_cases h:i<m
    ·rw [hall i h];simp [h]
    ·rw [htail i (by omega)];simp [h]) E a w hrT E0 w0 hE
  ·have hsz:listed.size=l.length:=by simpa using inv.size
   have wait:∀ i j,tH l i j=true→(∀ o,l[i]? = some o → ∀ e∈o.after,Region.binds .any e=true→listed.getD e.on false=true)→listed.getD j false=true:=fun i j hw h =>
    mF inv 16 i hw fun oj hoj e he hb=>h oj (by simpa using hoj) e he hb
   have waitl:∀ i j,tH l i j=true→listed.getD i false=true→listed.getD j false=true:=fun i j hw hl =>
    mF inv 16 i hw fun oj hoj e he hb=>inv.closed i oj hoj hl e he hb
   refine ⟨fun hr0=>?_,fun i hi=>?_⟩
   ·exfalso;obtain ⟨i,hi,hmin⟩:=xX todo h0;obtain ⟨him,hiu⟩:=(htodo i).1 hi;have hil:i<l.length:=by omega
    have:i∈Region.ready .any l.toArray listed:=by
     refine mem_ready.2 ⟨getD_in (by omega) hiu,l[i],by simp [hil],fun e he hb=>?_⟩;have h1:=eK kb hil;rw [List.getElem?_eq_getElem hil] at h1;have h2:=(List.all_eq_true.1 h1) e (by simpa using he);rw [hb,Bool.not_true,Bool.false_or] at h2;have h2:=of_decide_eq_true h2;cases h3:listed.getD e.on false with
     | true=>rfl
     | false =>
      have:=hmin e.on ((htodo e.on).2 ⟨by omega,h3⟩);omega
    rw [hr0] at this;cases this
   ·obtain ⟨hiu,o,ho,hall⟩:=mem_ready.1 hi;have hil:i<l.length:=by simpa using (Array.getElem?_eq_some_iff.1 ho).1
    have hou:l[i]? = some o:=by simpa using ho
    have hiu':=getD_both hiu;have hall':∀ o',l[i]? = some o' → ∀ e∈o'.after,Region.binds .any e=true→listed.getD e.on false=true:=fun o' ho' e he hb=>by
     rw [hou] at ho';injection ho' with ho';subst ho';exact hall e he hb
    have him:i<m:=by
     rcases Nat.lt_or_ge i m with h | h
     ·exact h
     ·exfalso;have h1:=eK kt hil;rw [decide_eq_false (by omega),Bool.false_or] at h1;obtain ⟨j,hj⟩:=List.exists_mem_of_ne_nil _ h0;obtain ⟨hjm,hju⟩:=(htodo j).1 hj;have:=wait i j (eK h1 hjm) hall';rw [hju] at this;cases this
    obtain ⟨r, σk,M,hri,hV,hM,hkf,hkh,hkn⟩:=Pk _ _ _ _ hS i o (by rw [List.getElem?_take,if_pos him];exact hou);rw [Nat.zero_add] at hV hM hkf hkh;have hwr:∀ t,t∈o.looksAt l.toArray → σX.fr.getD t .dead = σk.fr.getD t .dead:=fun t ht=>by
     rw [hfr,hkf];refine Sr _ _ _ _ (fun j r' hj hd=>?_) rfl rfl;rw [Nat.zero_add];obtain ⟨oj,hoj,hdj,_⟩:=mA _ _ _ _ hS j r' hj;have hjm:j<m:=by have:=(List.getElem?_eq_some_iff.1 hj).1;omega
     rw [List.getElem?_take,if_pos hjm] at hoj;have h1:=eK kr him;rw [hou] at h1;have h2:=eK ((List.all_eq_true.1 h1) t ht) hjm;have h3:dL l j=some t:=by unfold dL;rw [hoj];dsimp only;rw [← hdj];exact hd
     rw [h3] at h2;simp only [bne_self_eq_false,Bool.false_or] at h2
     by_cases hji:j<i
     ·rw [if_pos hji] at h2;rw [wait i j h2 hall'];simp [hji]
     ·rw [if_neg hji] at h2;simp only [Bool.or_eq_true,beq_iff_eq] at h2;rcases h2 with h2 | h2
      ·subst h2;simp only [hiu'];simp
      ·have:listed.getD j false=false:=by
        cases h4:listed.getD j false with
        | false=>rfl
        | true=>have:=waitl j i h2 h4;rw [hiu'] at this;cases this
       simp only [this];simp [hji]
    have hce:∀ e∈L,aGs l n0 L e=true:=List.all_eq_true.1 hc;have htc:∀ q u,(i,q,u)∈L → ∀ j r',rs[j]? = some r'→tch n0 j r'.e q≠none→listed.getD j false=decide (j<i):=fun q u hq j r' hj ht=>by
     have h1:=hce _ hq;simp only [aGs,Bool.and_eq_true,Bool.or_eq_true] at h1;obtain ⟨h1,h2⟩:=h1;have hju:∀ h:(j<i→tH l i j=true)∧(i<j→tH l j i=true) ,listed.getD j false=decide (j<i):=fun h=>by
      rcases Nat.lt_trichotomy j i with h3 | h3 | h3
      ·rw [wait i j (h.1 h3) hall'];simp [h3]
      ·subst h3;rw [hiu'];simp
      ·have:listed.getD j false=false:=by
        cases h4:listed.getD j false with
        | false=>rfl
        | true=>have:=waitl j i (h.2 h3) h4;rw [hiu'] at this;cases this
       rw [this];simp;omega
     obtain ⟨oj,hoj,hdj,hupd⟩:=mA _ _ _ _ hS j r' hj;rcases tch_inv ht with hqj | ⟨t,blk,he,hqt⟩
     ·rcases h2 with h2 | h2
      ·have:=of_decide_eq_true h2;omega
      ·obtain ⟨h3,h4⟩:=h2;have h3':=of_decide_eq_true h3;have:q - n0=j:=by omega
       rw [this] at h3' h4;exact hju ⟨fun _=>h4,fun h=>by omega⟩
     ·have hjL:=hupd t blk he;rw [Nat.zero_add] at hjL;have h3:=(List.all_eq_true.1 h1) _ hjL;simp only [hqt,beq_self_eq_true,Bool.and_self,Bool.not_true,Bool.false_or,Bool.or_eq_true,beq_iff_eq] at h3;refine hju ⟨fun h=>?_,fun h=>?_⟩
      ·rcases h3 with h3 | h3
       ·omega
       ·rwa [if_pos h] at h3
      ·rcases h3 with h3 | h3
       ·omega
       ·rwa [if_neg (by omega)] at h3
    have hgL:o.looksAt l.toArray=(o.op.operands.toList.filterMap fun | .tmp t=>some t | _=>none)++(match o.guard with | some (g,_)=>((l.toArray[g]?).bind (·.dst)).toList | none=>[]):=rfl;have hmain:=hV.run σX (by rw [hnx,hkn,hn]) (fun y hy=>by
     cases y with
     | tmp t=>exact hwr t (by rw [hgL];exact List.mem_append.2 (.inl (List.mem_filterMap.2 ⟨_,hy,rfl⟩)))
     | _=>rfl) (fun q b hq hb=>by
     obtain ⟨e,he,rfl⟩:=List.mem_map.1 hq;have:=hM e he;rw [hkh] at hb;rw [hlk, ← hb];refine rW _ _ _ fun j r' hj ht=>?_
     rw [Nat.zero_add] at ht ⊢;exact htc e.1 e.2 this j r' hj ht) (fun j w' hg t ht=>by
     refine hwr t ?_;rw [hgL,hg];refine List.mem_append.2 (.inr ?_);dsimp only;unfold dL at ht;have e1:l.toArray[j]? = l[j]? := by simp
     rw [e1];split at ht
     ·rename_i o' ho';rw [ho'];simp [ht]
     ·cases ht) E a w (wpAnyIn (Wd E.ro) 0 P .any l.toArray (sD E0 w0 Q) fuel (listed.setIfInBounds i true)) (sD E0 w0 Q) hr (by rw [hkn,hn];omega) (fun hu=>by
     rcases hU _ hu with h | ⟨j,hj,h⟩
     ·omega
     ·have:j=i:=by omega
      subst this;rw [hiu'] at hj;cases hj) ?_
    ·unfold wpOpIn;rw [ho];dsimp only;unfold OW at hmain;split
     ·rename_i hw;rw [if_pos (by simpa using hw)] at hmain;exact qN (.inr hmain.2) hmain.1
     ·rename_i hw;rw [if_neg (by simpa using hw)] at hmain;exact ⟨fun _ _=>trivial,hmain⟩
    ·intro a' w' E' σ'' hf2 hh2 hn2 hd2 hr2 hE2 hU2;rw [← hE2.ro];have hX':=aMn (listed:=listed) (i:=i) (by omega);refine ih (todo.erase i) (listed.setIfInBounds i true) σ'' E' a' w' ?_ (hnd.erase i) (fun j=>?_) (fun j hj=>?_) (inv.set hi (by simpa using hil)) ?_ (fun q=>?_) (hn2.trans hnx) (hd2.trans hdf) hr2 (fun q hq=>?_) E0 w0 (hE.trans hE2)
     ·have hit:i∈todo:=(htodo i).2 ⟨him,hiu'⟩;have h1:=List.length_erase_of_mem hit;have h2:=List.length_pos_of_mem hit;omega
     ·rw [hnd.mem_erase_iff,htodo j];constructor
      ·rintro ⟨h1,h2,h3⟩;exact ⟨h2,by rw [getD_set_ne false (Ne.symm h1)];exact h3⟩
      ·rintro ⟨h1,h2⟩;have:j≠i:=fun h=>by
        subst h;have h3:=congrFun hX' j;simp only [uJ,beq_self_eq_true,Bool.or_true] at h3;rw [h3] at h2;cases h2
       exact ⟨this,h1,by rw [getD_set_ne false (Ne.symm this)] at h2;exact h2⟩
     ·rw [getD_set_ne false (by omega)];exact htail j hj
     ·rw [hf2,hfr,hX'];refine (aBx (X:=fun j=>listed.getD j false) hiu' rs 0 σ0.fr (Nat.zero_le _) (by simpa using hri) fun j r' hj hne _ t ht1 ht2=>?_).symm;rw [Nat.zero_add] at hne;obtain ⟨oj,hoj,hdj,_⟩:=mA _ _ _ _ hS j r' hj;have hjm:j<m:=by have:=(List.getElem?_eq_some_iff.1 hj).1;omega
      rw [List.getElem?_take,if_pos hjm] at hoj;have h1:=eK (eK kd him) hjm;have h2:dL l i=some t:=by unfold dL;rw [hou];dsimp only;rw [← hV.d];exact ht2
      have h3:dL l j=some t:=by unfold dL;rw [hoj];dsimp only;rw [← hdj];exact ht1
      rw [h2,h3] at h1;simp at h1;exact hne h1.symm
     ·rw [hh2,hlk,hX'];refine (aBd (X:=fun j=>listed.getD j false) hiu' rs 0 _ (Nat.zero_le _) (by simpa using hri) fun ht j r' hj hlt hX=>?_).symm;rw [Nat.zero_add] at hlt hX ⊢;cases htj:tch n0 j r'.e q with
      | none=>rfl
      | some blk =>
       exfalso;have htj':tch n0 j r'.e q≠none:=by rw [htj];simp
       rcases tch_inv ht with hqi | ⟨t,blk',hei,hqt⟩
       ·rcases tch_inv htj' with hqj | ⟨t,blk2,hej,hqt⟩
        ·omega
        ·obtain ⟨oj,hoj,hdj,hupd⟩:=mA _ _ _ _ hS j r' hj;have hjL:=hupd t blk2 hej;rw [Nat.zero_add] at hjL;have h1:=hce _ hjL;simp only [aGs,Bool.and_eq_true,Bool.or_eq_true] at h1;rcases h1.2 with h2 | ⟨h2,h3⟩
         ·have:=of_decide_eq_true h2;omega
         ·have:t - n0=i:=by omega
          rw [this] at h3;have:=waitl j i h3 hX;rw [hiu'] at this;cases this
       ·have h1:=htc q true (by rw [hqt];exact hM _ (hV.u t blk' hei)) j r' hj htj';rw [hX] at h1;have:=of_decide_eq_true h1.symm;omega
     ·rcases hU2 q hq with h | h
      ·rcases hU q h with h | ⟨j,hj,h⟩
       ·exact .inl h
       ·refine .inr ⟨j,getD_set_true hj,h⟩
      ·refine .inr ⟨i,?_,h⟩;have h3:=congrFun hX' i;simp only [uJ,beq_self_eq_true,Bool.or_true] at h3;exact h3
end
inductive RS where
 | op (i:Nat)
 | give (is:List Nat)
def RS.tree:List RS→OT
 | [] => .done
 | .op i::r => .step i (RS.tree r)
 | .give _::r=>RS.tree r
def Yn (K:St→Prop) (σ : St) (o:Option Heap):Prop :=
 match o with
 | some h=>K { σ with h:=Heap.res h h,fr:=V.ress h σ.fr }
 | none=>False
def opR (P:Program) (o:Option Oper) (σ : St) (K:St→Prop):Prop :=
 match o with
 | some o=>opG P o o.guard σ K
 | none=>False
where
 opG (P:Program) (o:Oper) (g:Option (Nat×Bool)) (σ : St) (K:St→Prop):Prop :=
  match g with
  | none=>vL P σ o.dst o.op K
  | some _=>False
def sG (P:Program) (l:List Oper) (K:St→Prop):List RS→St→Prop
 | [], σ => K σ
 | .op i::r, σ => opR P (l[i]?) σ (sG P l K r)
 | .give is::r, σ => Yn (sG P l K r) σ (giveL is σ.h)
theorem Jj {P:Program} {l:List Oper} {Q:Exit→St→Prop}:∀ (rs:List RS) (f:Nat) (listed:Array Bool) (σ : St),kN l.toArray f listed (RS.tree rs) true=true→sG P l (Q .normal) rs σ → SAny P l.toArray Q f listed σ
 | [],f,listed, σ,hB,h=>by
  intro E a w hr E0 w0 hE;cases f with
  | zero =>
   unfold kN at hB;simp only [Bool.and_eq_true,beq_iff_eq] at hB;exact ⟨hB.2, σ,E,hr,hE,h⟩
  | succ f =>
   simp only [RS.tree] at hB;unfold kN at hB;simp only [Bool.not_true,Bool.false_or,beq_iff_eq] at hB;exact ⟨fun _=>⟨σ,E,hr,hE,h⟩,fun i hi=>by rw [hB] at hi;cases hi⟩
 | .give is::r,f,listed, σ,hB,h=>by
  intro E a w hr E0 w0 hE;simp only [sG] at h;unfold Yn at h;split at h
  ·rename_i h' hg;obtain ⟨E1,r1,r2,r3⟩:=RelF.giveL is (h := σ.h) hr hg;have:=Jj r f listed _ hB h E1 a w ⟨Rel.res r1.rel,r1.bound,RdVs.res r1.rel _ r1.fr,r1.defers⟩ E0 w0 (hE.trans r2);rwa [r2.ro] at this
  ·exact h.elim
 | .op i::r,f,listed, σ,hB,h=>by
  intro E a w hr E0 w0 hE;simp only [sG] at h;simp only [RS.tree] at hB;cases f with
  | zero =>
   unfold kN at hB;simp [OT.heads] at hB
  | succ f =>
   unfold kN at hB;simp only [Bool.and_eq_true,Bool.not_true,Bool.false_or,beq_iff_eq] at hB;obtain ⟨⟨h1,h2⟩,h3⟩:=hB;obtain ⟨o,ho⟩:=Option.isSome_iff_exists.1 h2;have ho':l[i]? = some o:=by simpa using ho
   rw [ho'] at h;have h':opR.opG P o o.guard σ (sG P l (Q .normal) r):=h;unfold opR.opG at h';split at h'
   ·rename_i hg;refine ⟨fun h0=>(by rw [h1] at h0;cases h0),fun j hj=>?_⟩;rw [h1] at hj;simp only [List.mem_singleton] at hj;subst hj;have hw:Region.wanted o (yielded l.toArray a.tmps)=true:=by simp [Region.wanted,hg]
    unfold wpOpIn;rw [ho];dsimp only;rw [if_pos (by simpa using hw)];exact tC h' E a w hr _ _ fun a' w' E' σ' q1 q2 q3=>by
     have:=Jj r f _ σ' h3 q3 E' a' w' q1 E0 w0 (hE.trans q2);rwa [q2.ro] at this
   ·exact h'.elim
theorem aGc {P:Program} {n0 id:Nat} {l:List Oper} {Q:Exit→St→Prop} {σ : St} (m:Nat) (rl:List RS) (hm:P.follows .mixedOrders=true) (hS:aKu l m=true)
  (hT:kN l.toArray (l.length - m) (jH (List.range m) (Array.replicate l.length false)) (RS.tree rl) true=true) (hlen:m≤l.length)
  (h:aGy P l σ.nx (sG P l (Q .normal) rl) 0 (l.take m) [] { σ with nx := σ.nx+m }):Uv P n0 id l.toArray Q σ := by
 intro E a w hr E0 w0 hU hE;refine wpIn_region_any hm ?_;have inv:HeadInv .any l.toArray l.toArray.size (Array.replicate l.length false):=by
  have:=rK (ops:=l.toArray) (md := .any);simpa using this
 obtain ⟨L,rs, σT,_,hSt,hc,hf⟩:=nL _ _ _ _ h;have hdr:RelF E σ a { w with drawn:=w.drawn+1 }∧Ext E0 w0 E { w with drawn:=w.drawn+1 }:=by
  have hb:Below w.heap.size w { w with drawn:=w.drawn+1 }:=⟨rfl,rfl,rfl,Nat.le_refl _,fun _ _=>rfl⟩
  obtain ⟨k1,k2⟩:=hr.later hb (fun _ h=>h) (fun b hb => .inl hb) (fun b hb'=>hr.rel.slt b hb');exact ⟨k1,hE.trans k2⟩
 obtain ⟨hr1,hE1⟩:=hdr;have hr2:RelF E { σ with nx := σ.nx+m } a { w with drawn:=w.drawn+1 }:=⟨hr1.rel,fun i hi=>by have:=hr1.bound i hi;show i < σ.nx+m;omega,hr1.fr,hr1.defers⟩
 have hlenT:(l.take m).length=m:=by rw [List.length_take];omega
 have:=aRf (Q:=Q) (fT:=l.length - m) hSt rfl hc hS hlen (fun listed hs hl=>by
  rw [xL hs hl];exact Jj rl _ _ σT hT hf) l.length (List.range m) (Array.replicate l.length false) { σ with nx := σ.nx+m } E a _ (by simp;omega) List.nodup_range (fun i=>by
   rw [List.mem_range,getD_replicate_false];simp) (fun i _=>getD_replicate_false _ _) inv (by
   rw [He];intro j hj;exact getD_replicate_false _ _) (fun q=>by
   rw [Cb];intro j r hj hX;rw [getD_replicate_false] at hX;cases hX) rfl rfl hr2 (fun q hq => .inl (hr1.bound q hq)) E0 w0 hE1
 simpa using this
@[go_sem] theorem rsteps_nil {P:Program} {l:List Oper} {K:St→Prop} {σ : St}:sG P l K [] σ = K σ := rfl
@[go_sem] theorem rsteps_op {P:Program} {l:List Oper} {K:St→Prop} {σ : St} {i:Nat} {r:List RS}:sG P l K (.op i::r) σ = opR P (l[i]?) σ (sG P l K r):=rfl
@[go_sem] theorem rsteps_give {P:Program} {l:List Oper} {K:St→Prop} {σ : St} {is:List Nat} {r:List RS}:sG P l K (.give is::r) σ = Yn (sG P l K r) σ (giveL is σ.h):=rfl
attribute [go_sem] Yn opR opR.opG
open Go.RowKit
set_option maxRecDepth 4000
theorem aLw {w:World} {E:Env}:∀ {xs:List T} {vs:List Value},RdVs w E (xs.map V.t) vs→RdTs w E.S xs vs
 | [],[],_=>trivial
 | x::xs,v::vs,h=>by
  simp only [List.map_cons,RdVs] at h;exact ⟨by have:=h.1;simpa only [RdV] using this,aLw h.2⟩
 | [],_::_,h=>by simp only [List.map_nil,RdVs] at h
 | _::_,[],h=>by simp only [List.map_cons,RdVs] at h
def rowsT:List (List V)→Option (List (List T))
 | []=>some []
 | x::r=>rowsU (tCells x) (rowsT r)
where
 rowsU (a:Option (List T)) (b:Option (List (List T))):Option (List (List T)) :=
  match a,b with
  | some a,some b=>some (a::b)
  | _,_=>none
theorem Pg:∀ {x:List V} {a:List T},tCells x=some a→x=a.map V.t
 | [],a,h=>by
  simp only [tCells] at h;injection h with h;subst h;rfl
 | v::x,a,h=>by
  cases v with
  | t y =>
   simp only [tCells] at h;cases e:tCells x with
   | none=>rw [e] at h;cases h
   | some b =>
    rw [e] at h;injection h with h;subst h;rw [List.map_cons,Pg e]
  | _=>simp only [tCells] at h;cases h
theorem Wy:∀ {xs:List (List V)} {rows:List (List T)},rowsT xs=some rows→xs=aL rows
 | [],rows,h=>by
  injection h with h;subst h;rfl
 | x::xs,rows,h=>by
  unfold rowsT rowsT.rowsU at h;split at h
  ·rename_i a b h1 h2;injection h with h;subst h;rw [Pg h1,Wy h2];rfl
  ·cases h
def bsQ (k:Nat) (d:List T) (σ : St) (dst:Option Tmp) (K:St→Prop) (r:Option (List (List T))):Prop :=
 match r with
 | some rows=>K (σ.put dst (.t (.list k d rows)))
 | none=>False
def bsB (σ : St) (dst:Option Tmp) (K:St→Prop) (b:Blk):Prop :=
 match b with
 | .row _ k d xs=>bsQ k d σ dst K (rowsT xs)
 | _=>False
def bsG (l:List Oper) (σ : St) (g:Option (Nat×Bool)):Prop :=
 match g with
 | none=>True
 | some (j,want)=>mV l σ j want=some true
def bsC (P:Program) (l:List Oper) (σ : St) (o:Oper) (K:St→Prop):Prop:=bsG l σ o.guard∧kR (zV P σ o.op) (bsB σ o.dst K)
theorem bsC_inv {P:Program} {l:List Oper} {σ : St} {o:Oper} {K:St→Prop} (h:bsC P l σ o K):∃ p e k d rows,zV P σ o.op=some (p, .row e k d (aL rows))∧p∧bsG l σ o.guard∧K (σ.put o.dst (.t (.list k d rows))):=by
 obtain ⟨hg,h⟩:=h;cases hr:zV P σ o.op with
 | none=>rw [hr] at h;exact h.elim
 | some pb =>
  obtain ⟨p,b⟩:=pb;rw [hr] at h;obtain ⟨hp,h⟩:=h;unfold bsB at h;split at h
  ·rename_i e k d xs;unfold bsQ at h;split at h
   ·rename_i rows hx;rw [Wy hx];exact ⟨p,e,k,d,rows,rfl,hp,hg,h⟩
   ·exact h.elim
  ·exact h.elim
theorem vld_bs {P:Program} {ops:List Oper} {n0 i:Nat} {o:Oper} {σ : St} {p:Prop} {e k:Nat} {d:List T} {rows:List (List T)} (hg:bsG ops σ o.guard) (h:zV P σ o.op=some (p, .row e k d (aL rows))) (hp:p) {M:List (Nat×Bool)} :
  Vld P ops n0 i o σ ⟨o.dst, .t (.list k d rows), .none⟩ M:=by
 refine ⟨rfl,fun t blk h=>(by rcases h with h | ⟨_,h⟩<;>cases h),fun σ' hnx hev hh hgs E a w next Q hr hlt hnU hn=>?_⟩;have h2:=aMf (o:=o) (σ := σ') (by rw [Xt hev];exact h) hp;have hw:Region.wanted o (yielded ops.toArray a.tmps)=true:=by
  cases hgd:o.guard with
  | none=>simp [Region.wanted,hgd]
  | some jw =>
   obtain ⟨j,want⟩:=jw;rw [hgd] at hg;refine Am hr hgd ?_;rw [← show mV ops σ j want=some true from hg];unfold mV;split
   ·rename_i t ht;have:=hgs j want hgd t ht;simp only [St.ev] at this;rw [this]
   ·rfl
 unfold OW;rw [if_pos hw];obtain ⟨hv,w',hrun,hb,hone,hnew,hblk⟩:=h2.2 E a w hr;obtain ⟨k1,k2⟩:=hr.later (S':=fun b=>E.S b∨aQ hv=some b) hb (fun _ h => .inl h) (fun b hb=>hb.imp id fun q=>(hnew b q).1) (fun b hb'=>by
  rcases hb' with hb' | hb'
  ·exact Nat.lt_of_lt_of_le (hr.rel.slt b hb') hb.size
  ·exact (hnew b hb').2)
 have hT:RdT w' (fun b=>E.S b∨aQ hv=some b) (.list k d rows) hv:=by
  obtain ⟨cells,q1,q2,q3,q4⟩:=hblk _ k2;have e1:(aL rows).flatten=rows.flatten.map V.t:=by
   unfold aL;rw [List.map_flatten]
  rw [e1] at q2;refine Bn (S:=fun b=>E.S b∨aQ hv=some b) (e:=e) (by simpa [aL] using q1) (aLw q2) (fun x hx=>?_) (fun _ h=>h) (fun b hb => .inr hb);have:=q3 (x.map V.t) (by unfold aL;exact List.mem_map_of_mem hx);rwa [List.length_map] at this
 refine ⟨?_,fun c hc=>by rw [hc] at h;simp [zV] at h⟩;unfold Oper.wp;rw [hrun];exact hn _ w' _ (σ'.put o.dst (.t (.list k d rows))) eX (fun q=>by rw [mQ];rfl) fY mT (k1.put o.dst (by simp only [RdV];exact hT)) k2 fun q hq => .inl hq
def aLm (P:Program) (l:List Oper) (n0 i:Nat) (σ : St) (o:Oper) (b:Bool) (K:CK→St→Prop):Prop :=
 match b with
 | true=>bsC P l σ o (K .new)
 | false=>yM P l n0 i σ o.dst o.op o.guard (ckind P o.op o.guard) (K (ckind P o.op o.guard))
def aNb (P:Program) (pu:List Nat) (l:List Oper) (n0:Nat) (fin:St→Prop):Nat→List Oper→Log→St→Prop
 | _,[],L, σ => Hp l n0 L=true∧fin σ
 | i,o::os,L, σ => aLm P l n0 i σ o (pu.contains i) (fun k=>aNb P pu l n0 fin (i+1) os (fV i σ k (nV o.op) L))
section
variable {P:Program} {pu:List Nat} {l:List Oper} {n0 i:Nat} {fin:St→Prop} {L:Log} {σ : St}
@[go_sem] theorem cRunP_nil:aNb P pu l n0 fin i [] L σ = (Hp l n0 L=true∧fin σ):=rfl
@[go_sem] theorem cRunP_cons {o:Oper} {os:List Oper}:aNb P pu l n0 fin i (o::os) L σ = aLm P l n0 i σ o (pu.contains i) (fun k=>aNb P pu l n0 fin (i+1) os (fV i σ k (nV o.op) L)):=rfl
@[go_sem] theorem stepP_true {o:Oper} {K:CK→St→Prop}:aLm P l n0 i σ o true K=bsC P l σ o (K .new):=rfl
@[go_sem] theorem stepP_false {o:Oper} {K:CK→St→Prop}:aLm P l n0 i σ o false K=yM P l n0 i σ o.dst o.op o.guard (ckind P o.op o.guard) (K (ckind P o.op o.guard)):=rfl
end
attribute [go_sem] bsC bsG bsB bsQ rowsT rowsT.rowsU List.contains_cons List.contains_nil
open Go.RowKit
set_option maxRecDepth 4000
open Go.RowKit
set_option maxRecDepth 4000
def gopR (P:Program) (l:List Oper) (o:Option Oper) (σ : St) (K:St→Prop):Prop :=
 match o with
 | some o=>gopG P l o o.guard σ K
 | none=>False
where
 gopG (P:Program) (l:List Oper) (o:Oper) (g:Option (Nat×Bool)) (σ : St) (K:St→Prop):Prop :=
  match g with
  | none=>vL P σ o.dst o.op K
  | some (j,want)=>mV l σ j want=some true∧vL P σ o.dst o.op K
def Es (P:Program) (l:List Oper) (K:St→Prop):List RS→St→Prop
 | [], σ => K σ
 | .op i::r, σ => gopR P l (l[i]?) σ (Es P l K r)
 | .give is::r, σ => Yn (Es P l K r) σ (giveL is σ.h)
@[go_sem] theorem gsteps_nil {P:Program} {l:List Oper} {K:St→Prop} {σ : St}:Es P l K [] σ = K σ := rfl
@[go_sem] theorem gsteps_op {P:Program} {l:List Oper} {K:St→Prop} {σ : St} {i:Nat} {r:List RS}:Es P l K (.op i::r) σ = gopR P l (l[i]?) σ (Es P l K r):=rfl
@[go_sem] theorem gsteps_give {P:Program} {l:List Oper} {K:St→Prop} {σ : St} {is:List Nat} {r:List RS}:Es P l K (.give is::r) σ = Yn (Es P l K r) σ (giveL is σ.h):=rfl
attribute [go_sem] gopR gopR.gopG
open Go.RowKit
set_option maxRecDepth 4000
def apC (P:Program) (l:List Oper) (n0 i:Nat) (σ : St) (o:Oper) (K:St→Prop):Prop :=
 bsG l σ o.guard∧apO P n0 i σ o.dst o.op K
where
 apT (n0 i:Nat) (σ : St) (d:Option Tmp) (K:St→Prop) (old:Option Nat) (k:Nat) (dd:List T) (r:Option (List (List T))):Prop :=
  match r with
  | some rows=>K (({ σ with h:=(n0+i, .shr (.list k dd rows))::Mz σ.h old }:St).put d (.t (.list k dd rows)))
  | none=>False
 apB (n0 i:Nat) (σ : St) (d:Option Tmp) (K:St→Prop) (old:Option Nat) (b:Blk):Prop :=
  match b with
  | .row _ k dd xs=>apT n0 i σ d K old k dd (rowsT xs)
  | _=>False
 apP (n0 i:Nat) (σ : St) (d:Option Tmp) (K:St→Prop) (tb:Option Nat×Blk):Prop:=apB n0 i σ d K tb.1 tb.2
 apL (P:Program) (n0 i:Nat) (σ : St) (d:Option Tmp) (args:List Operand) (tys:List TypeId) (K:St→Prop):Prop :=
  match args,tys with
  | [s,x],[t,t']=>vC P t t'∧kR (aHh P σ (P.elemT t) s x) (apP n0 i σ d K)
  | _,_=>False
 apO (P:Program) (n0 i:Nat) (σ : St) (d:Option Tmp) (op:Op) (K:St→Prop):Prop :=
  match op with
  | .call { callee := .builtin .append,args,argTypes }=>apL P n0 i σ d args.toList argTypes.toList K
  | _=>False
def aU3 (pu pa:List Nat) (i:Nat):Nat:=if pu.contains i=true then 1 else if pa.contains i=true then 2 else 0
def aD6 (P:Program) (l:List Oper) (n0 i:Nat) (σ : St) (o:Oper) (m:Nat) (K:CK→St→Prop):Prop :=
 match m with
 | 1=>bsC P l σ o (K .new)
 | 2=>apC P l n0 i σ o (K .app)
 | _=>yM P l n0 i σ o.dst o.op o.guard (ckind P o.op o.guard) (K (ckind P o.op o.guard))
def aNa (P:Program) (pu pa:List Nat) (l:List Oper) (n0:Nat) (fin:St→Prop):Nat→List Oper→Log→St→Prop
 | _,[],L, σ => Hp l n0 L=true∧fin σ
 | i,o::os,L, σ => aD6 P l n0 i σ o (aU3 pu pa i) (fun k=>aNa P pu pa l n0 fin (i+1) os (fV i σ k (nV o.op) L))
section
variable {P:Program} {pu pa:List Nat} {l:List Oper} {n0 i:Nat} {fin:St→Prop} {L:Log} {σ : St}
@[go_sem] theorem cRunQ_nil:aNa P pu pa l n0 fin i [] L σ = (Hp l n0 L=true∧fin σ):=rfl
@[go_sem] theorem cRunQ_cons {o:Oper} {os:List Oper}:aNa P pu pa l n0 fin i (o::os) L σ = aD6 P l n0 i σ o (aU3 pu pa i) (fun k=>aNa P pu pa l n0 fin (i+1) os (fV i σ k (nV o.op) L)):=rfl
@[go_sem] theorem stepQ_1 {o:Oper} {K:CK→St→Prop}:aD6 P l n0 i σ o 1 K=bsC P l σ o (K .new):=rfl
@[go_sem] theorem stepQ_2 {o:Oper} {K:CK→St→Prop}:aD6 P l n0 i σ o 2 K=apC P l n0 i σ o (K .app):=rfl
@[go_sem] theorem stepQ_0 {o:Oper} {K:CK→St→Prop}:aD6 P l n0 i σ o 0 K=yM P l n0 i σ o.dst o.op o.guard (ckind P o.op o.guard) (K (ckind P o.op o.guard)):=rfl
end
attribute [go_sem] aU3 apC apC.apO apC.apL apC.apP apC.apB apC.apT
open Go.RowKit
set_option maxRecDepth 4000
def copyE (P:Program) (σ : St) (t:TypeId) (s x:V) (K:St→V→Prop):Prop :=
 copyA (P.elemT t)
where
 copyC (i kk lo hi e k:Nat) (blk:Option Blk) (src:Option (List T×List (List V))):Prop :=
  match blk,src with
  | some (.row e' k' d xs),some (_,ys)=>e'=e∧k'=k∧kk=k∧0<ys.length∧lo+ys.length≤hi∧K { σ with h := σ.h.set i (.row e' k' d (xs.take lo++ys++xs.drop (lo+ys.length))) } (aC ys.length)
  | _,_=>False
 copyS (e k:Nat) (s:V):Prop :=
  match s with
  | .rsl i kk lo hi=>copyC i kk lo hi e k (σ.h.look i) (Du σ.h k x)
  | _=>False
 copyB (e:Nat) (k:Option Nat):Prop :=
  match k with
  | some k=>copyS e k s
  | none=>False
 copyA (e:Option TypeId):Prop :=
  match e with
  | some e=>copyB e (P.szT e)
  | none=>False
def lastC (P:Program) (o:Option Oper) (σ : St) (K:St→Prop):Prop :=
 match o with
 | some o=>lastG o o.guard o.op
 | none=>False
where
 lastL (o:Oper) (args:List Operand) (tys:List TypeId):Prop :=
  match args,tys with
  | [s,x],[t,_]=>cZ true (σ.ev s) fun s'=>cZ true (σ.ev x) fun x'=>copyE P σ t s' x' fun σ' v=>K (σ'.put o.dst v)
  | _,_=>False
 lastO (o:Oper) (op:Op):Prop :=
  match op with
  | .call { callee := .builtin .copy,args,argTypes }=>lastL o args.toList argTypes.toList
  | _=>False
 lastG (o:Oper) (g:Option (Nat×Bool)) (op:Op):Prop :=
  match g with
  | none=>lastO o op
  | some _=>False
attribute [go_sem] lastC lastC.lastG lastC.lastO lastC.lastL copyE copyE.copyA copyE.copyB copyE.copyS copyE.copyC
open Go.RowKit
set_option maxRecDepth 4000
theorem RelF.giveT2 {w:World} {E:Env} {σ : St} {a:Act} {i:Nat} {blk:Blk} {hv:Value} {t:T} (hr:RelF E σ a w) (hl : σ.h.look i=some blk) (hB:E.B i=some hv) (hT:RdT w (fun b=>E.S b∨aQ hv=some b) t hv) :
  ∃ E',RelF E' { σ with h := σ.h.set i (.shr t) } a w∧Ext E w E' w∧(∀ q,E'.U q→E.U q)∧E'.F i=some hv ∧ ∀ b,E.S b∨aQ hv=some b→E'.S b:=by
 let E':Env := { S:=fun b=>E.S b∨aQ hv=some b,B:=fun j=>if j=i then none else E.B j,U:=E.U,D:=E.D,F:=fun j=>if j=i then some hv else E.F j,ro:=E.ro }
 have hUi:E.U i:=(hr.rel.dom i hv hB).1;have hE:Ext E w E' w:=by
  refine ⟨rfl,rfl,rfl,Nat.le_refl _,fun _ _=>rfl,fun b hb => .inl hb,fun b hb=>?_,fun _ => .rfl,fun _ h=>h,fun j hj v hv'=>?_,fun j hj v hv'=>?_,rfl⟩
  ·rcases hb with hb | hb
   ·exact .inl hb
   ·exact .inr (hr.rel.own i hv b hB hb).2.2
  ·simp only [E'] at hv';split at hv'
   ·cases hv'
   ·exact hv'
  ·simp only [E',Env.Is] at hv'
   by_cases hji:j=i
   ·subst hji;simp only [if_true,reduceCtorEq,false_or,Option.some.injEq] at hv';subst hv';exact .inl hB
   ·simp only [if_neg hji] at hv';exact hv'
 refine ⟨E',⟨⟨fun j blk hlj=>?_,fun j v hBj=>?_,fun j v hFj=>?_,fun j v b hBj hbk=>?_,fun p q vp vq b hBp hBq hbp hbq=>?_,fun b hb=>?_,hr.rel.dlt⟩,hr.bound,hE.rdVs _ hr.fr,hE.defs hr.defers⟩,hE,fun _ h=>h,by simp [E'],fun b hb=>hb⟩
 ·rw [Heap.look_set _ _ _ hl] at hlj;split at hlj
  ·rename_i hji;injection hlj with hlj;subst hlj;exact ⟨hv,by simp [E',Env.at,hji],hT⟩
  ·rename_i hji;obtain ⟨v,hat,hrel⟩:=hr.rel.has j blk hlj;refine ⟨v,?_,hrel.keep hE fun _ _=>rfl⟩;cases blk<;>simpa [E',Env.at,hji] using hat
 ·simp only [E'] at hBj;split at hBj
  ·cases hBj
  ·rename_i hji;obtain ⟨q1,q2⟩:=hr.rel.dom j v hBj;refine ⟨q1,?_⟩;rw [Heap.look_set _ _ _ hl,if_neg hji];exact q2
 ·simp only [E'] at hFj ⊢
  by_cases hji:j=i
  ·subst hji;exact ⟨hUi,by simp⟩
  ·simp only [if_neg hji] at hFj ⊢;exact hr.rel.domF j v hFj
 ·simp only [E'] at hBj ⊢;split at hBj
  ·cases hBj
  ·rename_i hji;obtain ⟨q1,q2,q3⟩:=hr.rel.own j v b hBj hbk;refine ⟨q1,fun hs=>?_,q3⟩;rcases hs with hs | hs
   ·exact q2 hs
   ·exact hji (hr.rel.apart j i v hv b hBj hB hbk hs)
 ·simp only [E'] at hBp hBq;split at hBp
  ·cases hBp
  ·split at hBq
   ·cases hBq
   ·exact hr.rel.apart p q vp vq b hBp hBq hbp hbq
 ·rcases hb with hb | hb
  ·exact hr.rel.slt b hb
  ·exact (hr.rel.own i hv b hB hb).1
mutual
def V.gbx (i:Nat) (ts:List T):V→V
 | .own j=>if j=i then .elem ts.length ts [ts] 0 0 else .own j
 | .ptr j off=>if j=i then .elem ts.length ts [ts] 0 off else .ptr j off
 | .agg cs => .agg (V.gbxs i ts cs)
 | .tup cs => .tup (V.gbxs i ts cs)
 | .clo f cs => .clo f (V.gbxs i ts cs)
 | x=>x
def V.gbxs (i:Nat) (ts:List T):List V→List V
 | []=>[]
 | x::xs=>V.gbx i ts x::V.gbxs i ts xs
end
def GbOk (w:World) (E:Env) (i:Nat) (ts:List T):Prop := ∃ b,(∀ hv,E.Is i hv→hv = .pointer (some ⟨b,0,none⟩))∧(∃ hv,E.Is i hv)∧RdT w E.S (.list ts.length ts [ts]) (.slice (some ⟨b,0,none⟩) 1 1)
mutual
theorem RdV.gbx {w:World} {E:Env} {i:Nat} {ts:List T} (hg:GbOk w E i ts):∀ (x:V) {v:Value},RdV w E x v→RdV w E (x.gbx i ts) v
 | .own j,v,hx=>by
  unfold V.gbx;split
  ·rename_i hji;subst hji;obtain ⟨b,h1,⟨hv,h2⟩,h3⟩:=hg;simp only [RdV] at hx ⊢;have e1:=hx.2.2 hv h2;have e2:=h1 hv h2;subst e1 e2;exact ⟨b,0,1,h3,by simp,by simp⟩
  ·exact hx
 | .ptr j off,v,hx=>by
  unfold V.gbx;split
  ·rename_i hji;subst hji;obtain ⟨b,h1,⟨hv,h2⟩,h3⟩:=hg;simp only [RdV] at hx ⊢;obtain ⟨b',e1,e2⟩:=hx.2.2 hv h2;have e3:=h1 hv h2;rw [e3] at e1;injection e1 with e1;injection e1 with e1;injection e1 with e1;subst e1 e2;exact ⟨b,0,1,h3,by simp,by simp⟩
  ·exact hx
 | .agg cs,v,hx=>by
  simp only [V.gbx,RdV] at hx ⊢;obtain ⟨vs,hv,h1,h2⟩:=hx;exact ⟨vs,hv,RdVs.gbx hg cs h1,h2⟩
 | .tup cs,v,hx=>by
  simp only [V.gbx,RdV] at hx ⊢;obtain ⟨vs,hv,h1⟩:=hx;exact ⟨vs,hv,RdVs.gbx hg cs h1⟩
 | .clo f cs,v,hx=>by
  simp only [V.gbx,RdV] at hx ⊢;obtain ⟨vs,hv,h1⟩:=hx;exact ⟨vs,hv,RdVs.gbx hg cs h1⟩
 | .t x,v,hx=>by simpa only [V.gbx] using hx
 | .rptr i k n j,v,hx=>by simpa only [V.gbx] using hx
 | .rsl i k n j,v,hx=>by simpa only [V.gbx] using hx
 | .elem k d xs i j,v,hx=>by simpa only [V.gbx] using hx
 | .cond g x,v,hx=>by simpa only [V.gbx] using hx
 | .dead,v,hx=>by simpa only [V.gbx] using hx
theorem RdVs.gbx {w:World} {E:Env} {i:Nat} {ts:List T} (hg:GbOk w E i ts):∀ (xs:List V) {vs:List Value},RdVs w E xs vs→RdVs w E (V.gbxs i ts xs) vs
 | [],[],_=>by simp only [V.gbxs,RdVs]
 | x::xs,v::vs,hx=>by
  simp only [V.gbxs,RdVs] at hx ⊢;exact ⟨RdV.gbx hg x hx.1,RdVs.gbx hg xs hx.2⟩
 | [],_::_,h=>by simp only [RdVs] at h
 | _::_,[],h=>by simp only [RdVs] at h
end
def gbxT (h:Heap) (b:Option Blk):Option (List T) :=
 match b with
 | some (.box cs)=>lendCs (pT h) cs
 | _=>none
theorem RelF.gbx {w:World} {E:Env} {σ : St} {a:Act} {i:Nat} {ts:List T} (hr:RelF E σ a w) (hg:gbxT σ.h (σ.h.look i)=some ts) :
  ∃ E',RelF E' { σ with h := σ.h.del i,fr:=V.gbxs i ts σ.fr } a w∧Ext E w E' w ∧ ∀ q,E'.U q→E.U q:=by
 unfold gbxT at hg;split at hg
 ·rename_i cs hlk;obtain ⟨hv,hB,b,vs,ty,rfl,hh,h1,h2⟩:=hr.rel.has i _ hlk;have hT:RdTs w E.S ts vs.toList:=wE (fun x t v h1 h2=>Rz hr.rel x t v h1 h2) hg h1;obtain ⟨E',r1,r2,r3,r4,r5⟩:=hr.giveT2 (t := .opq) hlk hB (.opq _ rfl);have hlen:=RdTs.len hT;have hcell:∀ (j:Nat) x,ts[j]? = some x → ∃ u,w.cell? ⟨b,0+0*ts.length+j,none⟩=some u∧vs.toList[j]? = some u:=by
   intro j x hj;have hjl:j<vs.toList.length:=by rw [← hlen];exact (List.getElem?_eq_some_iff.1 hj).1
   refine ⟨vs.toList[j],?_,List.getElem?_eq_getElem hjl⟩;simp only [World.cell?,hh,Nat.zero_mul,Nat.zero_add];simp
  have hg:GbOk w E' i ts:=by
   refine ⟨b,fun hv hI=>?_,⟨_, .inr r4⟩, .list ts.length ts [ts] (some ⟨b,0,none⟩) 1 (by simp [maxLen]) (by simp) (by simp) (by simp) ?_ ?_⟩
   ·exact r1.rel.isF r4 hI
   ·intro i' e he;cases i' with
    | zero =>
     simp at he;subst he;exact ⟨b,0,rfl,r5 b (.inr rfl),fun j x hj=>by obtain ⟨u,hu,_⟩:=hcell j x hj;exact ⟨u,hu⟩⟩
    | succ i'=>simp at he
   ·intro i' e j x b' off u he hj hA hu;cases i' with
    | zero =>
     simp at he;subst he;injection hA with hA;injection hA with hA1 hA2;subst hA1 hA2;obtain ⟨u',hu',hv'⟩:=hcell j x hj;rw [hu] at hu';injection hu' with hu';subst hu';exact (RdTs.nth j hT hj hv').mono r2.S fun _ _=>rfl
    | succ i'=>simp at he
  refine ⟨E',⟨⟨fun j blk hl=>?_,fun j hv hB'=>?_,r1.rel.domF,r1.rel.own,r1.rel.apart,r1.rel.slt,r1.rel.dlt⟩,r1.bound,RdVs.gbx hg _ r1.fr,r1.defers⟩,r2,r3⟩
  ·have hl0:(σ.h.del i).look j=some blk:=hl;rw [Heap.look_del] at hl0;split at hl0
   ·cases hl0
   ·rename_i hji;exact r1.rel.has j blk (by show (σ.h.set i (.shr .opq)).look j=_;rw [Heap.look_set _ _ _ hlk,if_neg hji];exact hl0)
  ·obtain ⟨q1,blk,q2⟩:=r1.rel.dom j hv hB';have hji:j≠i:=fun e=>by
    subst e;rw [(r1.rel.domF j _ r4).2] at hB';cases hB'
   refine ⟨q1,blk,?_⟩;show (σ.h.del i).look j=_
   rw [Heap.look_del,if_neg hji];have q3:(σ.h.set i (.shr .opq)).look j=some blk:=q2;rw [Heap.look_set _ _ _ hlk,if_neg hji] at q3;exact q3
 ·cases hg
def gbxA (P:Program) (n0:Nat) (c:Code) (Q:Exit→St→Prop) (σ : St) (i:Nat) (o:Option (List T)):Prop :=
 match o with
 | some ts=>AWP P n0 c Q { σ with h := σ.h.del i,fr:=V.gbxs i ts σ.fr }
 | none=>False
theorem aNs {P:Program} {n0:Nat} {c:Code} {Q:Exit→St→Prop} {σ : St} (i:Nat) (h:gbxA P n0 c Q σ i (gbxT σ.h (σ.h.look i))):AWP P n0 c Q σ := by
 unfold gbxA at h;split at h
 ·rename_i ts hg;intro E a w hr E0 w0 hU hE;obtain ⟨E1,r1,r2,r3⟩:=hr.gbx hg;have:=h E1 a w r1 E0 w0 hU (hE.trans r2);rwa [r2.ro] at this
 ·exact h.elim
attribute [go_sem] gbxA gbxT V.gbx V.gbxs
open Go.RowKit
set_option maxRecDepth 4000
def rmE (k:Value):List (Value×V)→List (Value×V)
 | []=>[]
 | e::es=>if nD k e.1=true then es else e::rmE k es
theorem RdEs.rm {w:World} {E:Env} {d:TypeDesc} {k:Value} (hk:gX d k=true):∀ {es:List (Value×V)} {l:List MapEntry},RdEs w E es l→gP d es=true →
  (qK k es=none→rmE k es=es) ∧ ∀ i j e,Instr.findNow d k l i=some (some (i+j,e))→RdEs w E (rmE k es) (l.eraseIdx j)
 | [],[],_,_=>⟨fun _=>rfl,fun i j e h=>by simp [Instr.findNow] at h⟩
 | (k',y)::es,m::l,hr,hks=>by
  obtain ⟨h1,h2,h3⟩:=hr;simp only [gP,Bool.and_eq_true] at hks;have hs:=Dv hk (h1 ▸ hks.1);have ih:=RdEs.rm hk h3 hks.2;simp only [qK,rmE,Instr.findNow];rw [hs,h1];cases hkb:nD k k' with
  | true =>
   refine ⟨fun h=>by simp at h,fun i j e h=>?_⟩;simp only [Option.some.injEq,Prod.mk.injEq] at h;have:j=0:=by omega
   subst this;simpa using h3
  | false =>
   simp only [Bool.false_eq_true,if_false];refine ⟨fun h=>by rw [ih.1 h],fun i j e h=>?_⟩;cases j with
   | zero =>
    exfalso;rcases findNow_ok hk (i+1) h3 hks.2 with ⟨_,q2⟩ | ⟨_,j',_,_,q2,_⟩
    ·rw [q2] at h;cases h
    ·rw [q2] at h;simp only [Option.some.injEq,Prod.mk.injEq] at h;omega
   | succ j =>
    refine ⟨h1,h2,ih.2 (i+1) j e ?_⟩;rw [h];congr 3;omega
 | [],_::_,h,_=>h.elim
 | _::_,[],h,_=>h.elim
def mapDelR (P:Program) (h:Heap) (u:Option (TypeId×TypeId)) (m k:V):RO Heap :=
 match u,m,k with
 | some (kt,_), .own i, .t (.lit kv)=>mdA (P.underlying kt) h i kv (h.look i)
 | _,_,_=>none
where
 mdA (d:Option TypeDesc) (h:Heap) (i:Nat) (kv:Value) (b:Option Blk):RO Heap :=
  match d,b with
  | some d,some (.map es)=>some (gX d kv=true∧gP d es=true,h.set i (.map (rmE kv es)))
  | _,_=>none
section
variable {P:Program} {σ : St} {o:Oper} {K:St→Prop}
theorem aQ7 {m k:Operand} {t:TypeId} {tys:Array TypeId} (ho:o.op = .call { callee := .builtin .delete,args := #[m,k],argTypes:=tys }) (ht:tys[0]? = some t) (hdst:o.dst=none)
  (h:cZ true (σ.ev m) fun m'=>cZ true (σ.ev k) fun k'=>kR (mapDelR P σ.h (P.mapT t) m' k') (fun h'=>K { σ with h:=h' })):OpW P o σ K:=by
 obtain ⟨m',h1,hm⟩:=bS h;obtain ⟨k',h2,hk⟩:=bS h1;clear h h1;unfold mapDelR mapDelR.mdA at h2;split at h2
 ·rename_i kt et i kv hu;split at h2
  ·rename_i d es hd hl;obtain ⟨⟨hkd,hks⟩,hK⟩:=h2;intro E a w hr next Q hn;have e1:=hm w E _ rfl (hr.ev m);have e2:=(aG (hk w E _ rfl (hr.ev k))).1;obtain ⟨hv,hB0,r,entries,clock,rfl,h3,h4,h5,h6⟩:=hr.rel.has i _ hl;have hB:E.B i=some (.map (some r)):=hB0;simp only [RdV] at e1;have e3:=e1.2.2 _ (.inl hB);unfold Program.mapT at hu;split at hu
   ·rename_i kt' et' hut;injection hu with hu;injection hu with q1 q2;subst q1 q2;have hgo:(getObj r).run P w = .ok (.map entries clock) w:=by simp [getObj,Sem.run,h3]
    have hexec:∀ w',(Builtin.delete_ tys o.type #[.map (some r),kv]).run P w = .ok (.tuple #[]) w'→(execOp a.eval o).run P w = .ok (.value (.tuple #[])) w':=by
     intro w' hw;simp [execOp,ho,resolve,invoke,builtin,e2,e3,hw]
    have hrlt:r<w.heap.size:=(Array.getElem?_eq_some_iff.1 h3).1;have fin:∀ w',(execOp a.eval o).run P w = .ok (.value (.tuple #[])) w'→RelF E { σ with h := σ.h.set i (.map (rmE kv es)) } a w'→Ext E w E w'→o.wp P a w next Q:=by
     intro w' hrun k1 k2;unfold Oper.wp;rw [hrun];have:a.put o.dst (.tuple #[])=a:=by rw [hdst];rfl
     show next (a.put o.dst (.tuple #[])) w'
     rw [this];exact hn _ w' _ _ k1 k2 hK
    rcases findNow_ok hkd 0 h4 hks with ⟨q1,q2⟩ | ⟨y,j,e,q1,q2,q3,q4,q5⟩
    ·have hup:=hr.upd (blk := .map (rmE kv es)) hB hl (by simpa [aQ] using sT w r (.map entries clock)) (by simp) (fun hE=>by
      refine ⟨r,entries,clock,rfl,by simp [hrlt],?_,h5,h6⟩;rw [(RdEs.rm hkd h4 hks).1 q1];exact hE.rdEs _ h4) rfl
     refine fin _ (hexec _ ?_) hup.1 hup.2;simp only [Builtin.delete_,ht,List.getElem?_toArray,List.getElem?_cons_zero,List.getElem?_cons_succ,Sem.run_bind,run_underlying hut,Result.andThen_ok,hgo,mC hd hkd,mB hd q2,uS _ h3,Sem.run_pure]
    ·rw [Nat.zero_add] at q2;have hj:j<entries.size:=by
      have:=(List.getElem?_eq_some_iff.1 q4).1;simpa using this
     have htl:(entries.eraseIdxIfInBounds j).toList=entries.toList.eraseIdx j:=by simp [Array.eraseIdxIfInBounds,hj]
     have hup:=hr.upd (blk := .map (rmE kv es)) hB hl (by simpa [aQ] using sT w r (.map (entries.eraseIdxIfInBounds j) clock)) (by simp) (fun hE=>by
      refine ⟨r,entries.eraseIdxIfInBounds j,clock,rfl,by simp [hrlt],?_,?_,?_⟩
      ·rw [htl];exact (RdEs.rm hkd (hE.rdEs _ h4) hks).2 0 j _ (by rw [Nat.zero_add];exact q2)
      ·rw [htl];exact fun e' he'=>h5 e' (List.mem_of_mem_eraseIdx he')
      ·rw [htl];exact h6.sublist ((List.eraseIdx_sublist _ _).map _)) rfl
     refine fin _ (hexec _ ?_) hup.1 hup.2;simp only [Builtin.delete_,ht,List.getElem?_toArray,List.getElem?_cons_zero,List.getElem?_cons_succ,Sem.run_bind,run_underlying hut,Result.andThen_ok,hgo,mC hd hkd,mB hd q2,uS _ h3,Sem.run_pure]
   ·cases hu
  ·exact h2.elim
 ·exact h2.elim
end
theorem aT0 {P:Program} {ops:List Oper} {Q:Exit→St→Prop} {o:Oper} {r:List Oper} {σ : St} {m k:Operand} {t:TypeId} {tys:Array TypeId} (hg:o.guard=none)
  (ho:o.op = .call { callee := .builtin .delete,args := #[m,k],argTypes:=tys }) (ht:tys[0]? = some t) (hdst:o.dst=none)
  (h:cZ true (σ.ev m) fun m'=>cZ true (σ.ev k) fun k'=>kR (mapDelR P σ.h (P.mapT t) m' k') (fun h'=>aAm P ops Q r { σ with h:=h' })):aAm P ops Q (o::r) σ := by
 intro E a w hr E0 w0 hE;unfold wpListIn;have hw:Region.wanted o (yielded ops.toArray a.tmps)=true:=by simp [Region.wanted,hg]
 rw [if_pos hw];have hi:OpI P o σ (aAm P ops Q r):=xB (.inr fun c hc=>by rw [ho] at hc;cases hc) (aQ7 ho ht hdst h);exact hi E a w hr _ _ fun a' w' E' σ' h1 h2 h3=>by
  have:=h3 E' a' w' h1 E0 w0 (hE.trans h2);rwa [h2.ro] at this
attribute [go_sem] mapDelR mapDelR.mdA
open Go.RowKit
set_option maxRecDepth 4000
def IStep (P:Program) (o:Oper) (σ : St) (K:St→Prop):Prop:=o.guard=none∧OpI P o σ K
theorem IStep.mono {P:Program} {o:Oper} {σ : St} {K K':St→Prop} (hk:∀ σ,K σ → K' σ) (h:IStep P o σ K):IStep P o σ K' :=
 ⟨h.1,fun E a w hr next Q hn=>h.2 E a w hr next Q fun a' w' E' σ' h1 h2 h3=>hn a' w' E' σ' h1 h2 (hk _ h3)⟩
def Zd (P:Program) (ops:Array Oper) (K:St→Prop):Nat→Array Bool→St→Prop
 | 0,listed, σ => Region.ready .any ops listed = []∧K σ
 | f+1,listed, σ => (Region.ready .any ops listed = []→K σ) ∧ ∀ i∈Region.ready .any ops listed, ∃ o,ops[i]? = some o∧IStep P o σ (Zd P ops K f (listed.setIfInBounds i true))
theorem aGf {P:Program} {ops:Array Oper} {Q:Exit→St→Prop}:∀ (f:Nat) (listed:Array Bool) (σ : St),Zd P ops (Q .normal) f listed σ → ∀ E a w,RelF E σ a w → ∀ E0 w0,Ext E0 w0 E w→wpAnyIn (Wd E.ro) 0 P .any ops (sD E0 w0 Q) f listed a w
 | 0,listed, σ,h,E,a,w,hr,E0,w0,hE=>⟨h.1, σ,E,hr,hE,h.2⟩
 | f+1,listed, σ,h,E,a,w,hr,E0,w0,hE=>by
  refine ⟨fun h0=>⟨σ,E,hr,hE,h.1 h0⟩,fun i hi=>?_⟩;obtain ⟨o,ho,hg,hs⟩:=h.2 i hi;unfold wpOpIn;rw [ho];dsimp only;have hw:Region.wanted o (yielded ops a.tmps)=true:=by simp [Region.wanted,hg]
  rw [if_pos hw];exact hs E a w hr _ _ fun a' w' E' σ' h1 h2 h3=>by
   have:=aGf f _ σ' h3 E' a' w' h1 E0 w0 (hE.trans h2);rwa [h2.ro] at this
def aBm (P:Program) (o:Option Oper) (σ : St) (K:St→Prop):Prop :=
 match o with
 | some o=>o.guard=none∧vL P σ o.dst o.op K
 | none=>False
def pW (P:Program) (l:List Oper) (K:St→Prop):OT→St→Prop
 | .done, σ => K σ
 | .step i t, σ => aBm P (l[i]?) σ (pW P l K t)
 | .alt a b, σ => pW P l K a σ ∧ pW P l K b σ
theorem Fe {P:Program} {l:List Oper} {K:St→Prop}:∀ (f:Nat) (t:OT) (listed:Array Bool) (σ : St) (top:Bool),kN l.toArray f listed t top=true→pW P l K t σ →
  (∀ i∈t.heads, ∃ f',f=f'+1 ∧ ∃ o,l.toArray[i]? = some o∧IStep P o σ (Zd P l.toArray K f' (listed.setIfInBounds i true)))∧(top=true→Zd P l.toArray K f listed σ)
 | 0,t,listed, σ,top,hB,h=>by
  unfold kN at hB;simp only [Bool.and_eq_true,beq_iff_eq] at hB;refine ⟨fun i hi=>(by rw [hB.1] at hi;cases hi),fun _=>⟨hB.2,?_⟩⟩;have:∀ (t:OT),t.heads = []→pW P l K t σ → K σ := by
   intro t
   induction t with
   | done=>exact fun _ h=>h
   | step i t _=>intro h;simp [OT.heads] at h
   | alt a b iha ihb =>
    intro hh h;simp only [OT.heads,List.append_eq_nil_iff] at hh;exact iha hh.1 h.1
  exact this t hB.1 h
 | f+1, .done,listed, σ,top,hB,h=>by
  refine ⟨fun i hi=>(by cases hi),fun ht=>⟨fun _=>h,fun i hi=>?_⟩⟩;unfold kN at hB;rw [ht] at hB;simp only [Bool.not_true,Bool.false_or,beq_iff_eq] at hB;rw [hB] at hi;cases hi
 | f+1, .step i t,listed, σ,top,hB,h=>by
  unfold kN at hB;simp only [Bool.and_eq_true] at hB;obtain ⟨⟨h1,h2⟩,h3⟩:=hB;obtain ⟨o,ho⟩:=Option.isSome_iff_exists.1 h2;have hstep:IStep P o σ (Zd P l.toArray K f (listed.setIfInBounds i true)):=by
   have ho':l[i]? = some o:=by simpa using ho
   simp only [pW,ho',aBm] at h;exact IStep.mono (fun σ' hk=>(Fe f t _ σ' true h3 hk).2 rfl) ⟨h.1,tC h.2⟩
  refine ⟨fun j hj=>?_,fun ht=>⟨fun h0=>?_,fun j hj=>?_⟩⟩
  ·simp only [OT.heads,List.mem_singleton] at hj;subst hj;exact ⟨f,rfl,o,ho,hstep⟩
  ·rw [ht] at h1;simp only [Bool.not_true,Bool.false_or,beq_iff_eq] at h1;rw [h1] at h0;cases h0
  ·rw [ht] at h1;simp only [Bool.not_true,Bool.false_or,beq_iff_eq] at h1;rw [h1] at hj;simp only [List.mem_singleton] at hj;subst hj;exact ⟨o,ho,by simpa using hstep⟩
 | f+1, .alt a b,listed, σ,top,hB,h=>by
  unfold kN at hB;simp only [Bool.and_eq_true] at hB;obtain ⟨⟨h1,h2⟩,h3⟩:=hB;have ha:=(Fe (f+1) a listed σ false h2 h.1).1;have hb:=(Fe (f+1) b listed σ false h3 h.2).1;have hall:∀ i∈(OT.alt a b).heads, ∃ f',f+1=f'+1 ∧ ∃ o,l.toArray[i]? = some o∧IStep P o σ (Zd P l.toArray K f' (listed.setIfInBounds i true)):=by
   intro i hi;simp only [OT.heads,List.mem_append] at hi;exact hi.elim (ha i) (hb i)
  refine ⟨hall,fun ht=>?_⟩;rw [ht] at h1;simp only [Bool.not_true,Bool.false_or,beq_iff_eq] at h1;refine ⟨fun h0=>?_,fun i hi=>?_⟩
  ·rw [h1] at h0;have hk:∀ (t:OT),t.heads = []→pW P l K t σ → K σ := by
    intro t
    induction t with
    | done=>exact fun _ h=>h
    | step i t _=>intro h;simp [OT.heads] at h
    | alt a b iha ihb =>
     intro hh h;simp only [OT.heads,List.append_eq_nil_iff] at hh;exact iha hh.1 h.1
   exact hk (.alt a b) h0 h
  ·rw [h1] at hi;obtain ⟨f',hf,o,ho,hs⟩:=hall i hi;have:f'=f:=by omega
   subst this;exact ⟨o,ho,by simpa using hs⟩
theorem aVm {P:Program} {n0:Nat} {id:Nat} {l:List Oper} {Q:Exit→St→Prop} {σ : St} (t:OT) (hm:P.follows .mixedOrders=true)
  (hT:kN l.toArray l.length (Array.replicate l.length false) t true=true) (h:pW P l (Q .normal) t σ):Uv P n0 id l.toArray Q σ := by
 intro E a w hr E0 w0 hU hE;refine wpIn_region_any hm ?_;have hd:=(Fe _ t _ σ true hT h).2 rfl;have hdr:RelF E σ a { w with drawn:=w.drawn+1 }∧Ext E0 w0 E { w with drawn:=w.drawn+1 }:=by
  have hb:Below w.heap.size w { w with drawn:=w.drawn+1 }:=⟨rfl,rfl,rfl,Nat.le_refl _,fun _ _=>rfl⟩
  obtain ⟨k1,k2⟩:=hr.later hb (fun _ h=>h) (fun b hb => .inl hb) (fun b hb'=>hr.rel.slt b hb');exact ⟨k1,hE.trans k2⟩
 have:=aGf _ _ σ hd E a _ hdr.1 E0 w0 hdr.2;simpa using this
@[go_sem] theorem isteps_done {P:Program} {l:List Oper} {K:St→Prop} {σ : St}:pW P l K .done σ = K σ := rfl
@[go_sem] theorem isteps_step {P:Program} {l:List Oper} {K:St→Prop} {σ : St} {i:Nat} {t:OT}:pW P l K (.step i t) σ = aBm P (l[i]?) σ (pW P l K t):=rfl
@[go_sem] theorem isteps_alt {P:Program} {l:List Oper} {K:St→Prop} {σ : St} {a b:OT}:pW P l K (.alt a b) σ = (pW P l K a σ ∧ pW P l K b σ):=rfl
theorem aFj {P:Program} {σ : St} {o:Oper} {K:St→Prop}:aBm P (some o) σ K=(o.guard=none∧vL P σ o.dst o.op K):=rfl
attribute [go_sem] aFj
open Go.RowKit
def Rd (ops:Array Oper):Nat→Nat→Nat→Bool
 | 0,_,_=>false
 | d+1,j,i=>match ops[j]? with
  | some oj=>(oj.after.any fun e=>Region.binds .any e&&e.on==i)||oj.after.any fun e=>Region.binds .any e&&Rd ops d e.on i
  | none=>false
theorem Gj {ops:Array Oper}:∀ (d j i:Nat),Rd ops d j i=true→Dc .any ops d j i=true
 | 0,_,_,h=>by simp [Rd] at h
 | d+1,j,i,h=>by
  unfold Rd at h;unfold Dc;cases ho:ops[j]? with
  | none=>rw [ho] at h;cases h
  | some oj =>
   rw [ho] at h;simp only [Bool.or_eq_true,Array.any_eq_true,Bool.and_eq_true] at h ⊢;rcases h with ⟨k,hk,h1,h2⟩ | ⟨k,hk,h1,h2⟩
   ·exact ⟨k,hk,h1, .inl h2⟩
   ·exact ⟨k,hk,h1, .inr (Gj d _ i h2)⟩
def chkEQ (l:List Oper) (n0:Nat) (L:Log) (e:Nat×Nat×Bool):Bool :=
 (L.all fun f => !(f.2.2&&f.2.1==e.2.1)||f.1==e.1||(if f.1<e.1 then Rd l.toArray 16 e.1 f.1 else Rd l.toArray 16 f.1 e.1))&&(decide (e.2.1<n0)||(decide (e.2.1 - n0<e.1)&&Rd l.toArray 16 e.1 (e.2.1 - n0)))
def chkLQ (l:List Oper) (n0:Nat) (L:Log):Bool:=L.all (chkEQ l n0 L)
theorem chkQ {l:List Oper} {n0:Nat} {L:Log} (h:chkLQ l n0 L=true):Hp l n0 L=true:=by
 unfold chkLQ at h;unfold Hp;rw [List.all_eq_true] at h ⊢;intro e he;have h1:=h e he;unfold chkEQ at h1;unfold aGs tH;rw [Bool.and_eq_true,List.all_eq_true] at h1 ⊢;refine ⟨fun f hf=>?_,?_⟩
 ·have h2:=h1.1 f hf;rw [Bool.or_eq_true] at h2 ⊢;rcases h2 with h2 | h2
  ·exact .inl h2
  ·right;split
   ·rename_i hc;rw [if_pos hc] at h2;exact Gj _ _ _ h2
   ·rename_i hc;rw [if_neg hc] at h2;exact Gj _ _ _ h2
 ·have h2:=h1.2;rw [Bool.or_eq_true] at h2 ⊢;rcases h2 with h2 | h2
  ·exact .inl h2
  ·right;rw [Bool.and_eq_true] at h2 ⊢;exact ⟨h2.1,Gj _ _ _ h2.2⟩
end Go.Proofs.YtbfnemkngoaeeaaGreat
