/- Proved here: Picks from a slice whose elements are given, on the abstract machine. -/
import Derived.Test.YtbfnemkngoaeeaaGreatQ03
import Derived.ProofKit
import Derived.OpenShut
import Derived.ShutString
set_option linter.unusedSimpArgs false
set_option linter.unusedVariables false
set_option linter.unusedSectionVars false
set_option linter.unnecessarySimpa false
namespace Go.Proofs.YtbfnemkngoaeeaaGreat
open Go.RowKit
@[go_sem] theorem dec_str {l:List UInt8}:decide ((⟨l⟩:Array UInt8).size≤maxLen)=decide (l.length≤maxLen):=rfl
theorem zS {n:Nat} (h:n≤65536):n≤maxLen:=by unfold maxLen;omega
@[go_sem] theorem dec_len0:decide (0≤maxLen)=true:=decide_eq_true (zS (by omega))
@[go_sem] theorem dec_len1:decide (1≤maxLen)=true:=decide_eq_true (zS (by omega))
@[go_sem] theorem dec_len2:decide (2≤maxLen)=true:=decide_eq_true (zS (by omega))
@[go_sem] theorem dec_len3:decide (3≤maxLen)=true:=decide_eq_true (zS (by omega))
@[go_sem] theorem dec_len5:decide (5≤maxLen)=true:=decide_eq_true (zS (by omega))
@[go_sem] theorem dec_len6:decide (6≤maxLen)=true:=decide_eq_true (zS (by omega))
@[go_sem] theorem dec_len8:decide (8≤maxLen)=true:=decide_eq_true (zS (by omega))
@[go_sem] theorem dec_len13:decide (13≤maxLen)=true:=decide_eq_true (zS (by omega))
@[go_sem] theorem nth_s1 {d a0:ByteArray} {n:Nat}:nth [.lit (.string d)] [[.lit (.string a0)]] n = [.lit (.string ([a0].getD n d))]:=nX (fun x=>[.lit (.string x)]) d [a0] n
@[go_sem] theorem nth_s3 {d a0 a1 a2:ByteArray} {n:Nat}:nth [.lit (.string d)] [[.lit (.string a0)],[.lit (.string a1)],[.lit (.string a2)]] n = [.lit (.string ([a0,a1,a2].getD n d))]:=nX (fun x=>[.lit (.string x)]) d [a0,a1,a2] n
@[go_sem] theorem nth_ii3 {kd ke:IntKind} {d e a0 a1 a2 b0 b1 b2:Int} {n:Nat}:nth [.lit (.int kd d), .lit (.int ke e)] [[.lit (.int kd a0), .lit (.int ke b0)],[.lit (.int kd a1), .lit (.int ke b1)],[.lit (.int kd a2), .lit (.int ke b2)]] n = [.lit (.int kd ([(a0,b0),(a1,b1),(a2,b2)].getD n (d,e)).1), .lit (.int ke ([(a0,b0),(a1,b1),(a2,b2)].getD n (d,e)).2)]:=nX (fun x:Int×Int=>[.lit (.int kd x.1), .lit (.int ke x.2)]) (d,e) [(a0,b0),(a1,b1),(a2,b2)] n
@[go_sem] theorem nth_i4 {kd:IntKind} {d a0 a1 a2 a3:Int} {n:Nat}:nth [.lit (.int kd d)] [[.lit (.int kd a0)],[.lit (.int kd a1)],[.lit (.int kd a2)],[.lit (.int kd a3)]] n = [.lit (.int kd ([a0,a1,a2,a3].getD n d))]:=nX (fun x=>[.lit (.int kd x)]) d [a0,a1,a2,a3] n
@[go_sem] theorem nth_s4 {d a0 a1 a2 a3:ByteArray} {n:Nat}:nth [.lit (.string d)] [[.lit (.string a0)],[.lit (.string a1)],[.lit (.string a2)],[.lit (.string a3)]] n = [.lit (.string ([a0,a1,a2,a3].getD n d))]:=nX (fun x=>[.lit (.string x)]) d [a0,a1,a2,a3] n
@[go_sem] theorem nth_i6 {kd:IntKind} {d a0 a1 a2 a3 a4 a5:Int} {n:Nat}:nth [.lit (.int kd d)] [[.lit (.int kd a0)],[.lit (.int kd a1)],[.lit (.int kd a2)],[.lit (.int kd a3)],[.lit (.int kd a4)],[.lit (.int kd a5)]] n = [.lit (.int kd ([a0,a1,a2,a3,a4,a5].getD n d))]:=nX (fun x=>[.lit (.int kd x)]) d [a0,a1,a2,a3,a4,a5] n
@[go_sem] theorem nth_i8 {kd:IntKind} {d a0 a1 a2 a3 a4 a5 a6 a7:Int} {n:Nat}:nth [.lit (.int kd d)] [[.lit (.int kd a0)],[.lit (.int kd a1)],[.lit (.int kd a2)],[.lit (.int kd a3)],[.lit (.int kd a4)],[.lit (.int kd a5)],[.lit (.int kd a6)],[.lit (.int kd a7)]] n = [.lit (.int kd ([a0,a1,a2,a3,a4,a5,a6,a7].getD n d))]:=nX (fun x=>[.lit (.int kd x)]) d [a0,a1,a2,a3,a4,a5,a6,a7] n
@[go_sem] theorem nth_i9 {kd:IntKind} {d a0 a1 a2 a3 a4 a5 a6 a7 a8:Int} {n:Nat}:nth [.lit (.int kd d)] [[.lit (.int kd a0)],[.lit (.int kd a1)],[.lit (.int kd a2)],[.lit (.int kd a3)],[.lit (.int kd a4)],[.lit (.int kd a5)],[.lit (.int kd a6)],[.lit (.int kd a7)],[.lit (.int kd a8)]] n = [.lit (.int kd ([a0,a1,a2,a3,a4,a5,a6,a7,a8].getD n d))]:=nX (fun x=>[.lit (.int kd x)]) d [a0,a1,a2,a3,a4,a5,a6,a7,a8] n
@[go_sem] theorem nth_ii9 {kd ke:IntKind} {d e a0 a1 a2 a3 a4 a5 a6 a7 a8 b0 b1 b2 b3 b4 b5 b6 b7 b8:Int} {n:Nat}:nth [.lit (.int kd d), .lit (.int ke e)] [[.lit (.int kd a0), .lit (.int ke b0)],[.lit (.int kd a1), .lit (.int ke b1)],[.lit (.int kd a2), .lit (.int ke b2)],[.lit (.int kd a3), .lit (.int ke b3)],[.lit (.int kd a4), .lit (.int ke b4)],[.lit (.int kd a5), .lit (.int ke b5)],[.lit (.int kd a6), .lit (.int ke b6)],[.lit (.int kd a7), .lit (.int ke b7)],[.lit (.int kd a8), .lit (.int ke b8)]] n = [.lit (.int kd ([(a0,b0),(a1,b1),(a2,b2),(a3,b3),(a4,b4),(a5,b5),(a6,b6),(a7,b7),(a8,b8)].getD n (d,e)).1), .lit (.int ke ([(a0,b0),(a1,b1),(a2,b2),(a3,b3),(a4,b4),(a5,b5),(a6,b6),(a7,b7),(a8,b8)].getD n (d,e)).2)]:=nX (fun x:Int×Int=>[.lit (.int kd x.1), .lit (.int ke x.2)]) (d,e) [(a0,b0),(a1,b1),(a2,b2),(a3,b3),(a4,b4),(a5,b5),(a6,b6),(a7,b7),(a8,b8)] n
open Go.RowKit
def CMk (P:Program) (f:FuncId) (args:List V) (r:V) (cs:List V):Prop :=
 P.enters f=true ∧ ∀ (w:World) (S:Nat→Prop) (vs:List Value),(∀ x,S x→x<w.heap.size)→RdVs w (jF S) args vs →
  Calls P f vs.toArray w fun e w' => ∃ v0 b S' ty cells,e = .returned (.tuple #[v0, .pointer (some ⟨b,0,none⟩)])∧w.heap.size≤b∧(∀ x,S x→S' x)∧(∀ x,S' x→S x∨w.heap.size≤x) ∧
   (∀ x,S' x→x<w'.heap.size)∧RdV w' (jF S') r v0∧w'.heap[b]? = some (.cells cells ty (0,0))∧RdVs w' (jF S') cs cells.toList∧cells.toList.all (·.oneCell')=true∧Below w.heap.size w w' ∧ ¬ S' b
theorem aSg {P:Program} {σ : St} {d:Option Tmp} {f:FuncId} {args:List V} {r:V} {cs:List V} {K:St→Prop} (hc:CMk P f args r cs) (ha:V.pures args=true)
  (hK:K (({ σ with h:=(σ.nx, .box cs) :: σ.h,nx := σ.nx+1 }:St).put d (.tup [r, .own σ.nx]))):ICall P σ d f args K:=by
 refine nD hc.1 (fun E w vs hr hbd hargs=>(hc.2 w E.S vs hr.slt (RdVs.bare args ha hargs)).mono ?_);rintro e w' ⟨v0,b,S',ty,cells,rfl,s0,s1,s2,s3,hrv,hh,hcs,hones,hb,hSb⟩;have hrF:RelF E { σ with fr:=[],df:=aMs E } { tmps := #[],defers:=[] } w:=⟨hr,hbd,by show RdVs w E [] [];simp only [RdVs],Mk⟩
 obtain ⟨k1,k2,k3⟩:=hrF.add (hv := .pointer (some ⟨b,0,none⟩)) (blk := .box cs) (S':=S') hb s1 s2 s3 (fun hE=>⟨b,cells,ty,rfl,hh,RdVs.unbare (E:=({ E with S:=S' }:Env).add σ.nx (.pointer (some ⟨b,0,none⟩))) cs hcs,hones⟩)
  (fun b' hb'=>by
   simp only [aU,Option.some.injEq] at hb';subst hb';exact ⟨s0,(Array.getElem?_eq_some_iff.1 hh).1,hSb⟩) rfl rfl
 refine ⟨_, .tup [r, .own σ.nx],_, σ.nx+1,_,rfl,k1.rel,k1.bound,k2,?_,hK⟩;simp only [RdV];refine ⟨_,rfl,?_⟩;simp only [RdVs,and_true];exact ⟨RdV.unbare (E:=({ E with S:=S' }:Env).add σ.nx (.pointer (some ⟨b,0,none⟩))) r hrv,by simpa only [RdV] using k3⟩
def mkK (r:V) (cs':List V) (x:V) (σ : St):Prop :=
 match x with
 | .tup [y, .own i]=>y.lend (σ.h.del i)=r∧r.pure=true∧aFu (σ.h.look i) (σ.h.del i) cs'
 | _=>False
theorem aBs {w:World} {E:Env} {a b:V} {vs:Array Value} (h:RdVs w E [a,b] vs.toList):∃ x y,vs = #[x,y]∧RdV w E a x∧RdV w E b y:=by
 obtain ⟨l⟩:=vs;rcases l with _ | ⟨x,_ | ⟨y,_ | ⟨z,l⟩⟩⟩<;>simp only [RdVs,and_false,and_true] at h
 exact ⟨x,y,rfl,h⟩
theorem cmk_of {P:Program} {f:FuncId} {fn:Func} {c:Code} {args cs':List V} {r:V} {n:Nat} {rs:List ResultVar} (he:P.enters f=true) (hf:P.funcs[f]? = some fn) (hb:fn.body=some c) (hn:fn.ntmps=n) (hrs:fn.results.toList=rs)
  (h:AWP P 0 c (Ue P rs (mkK r cs')) (yC P n args [] 0)):CMk P f args r cs':=by
 refine ⟨he,fun w S vs hS hargs=>?_⟩
 let E0:Env:=⟨S,fun _=>none,fun _=>False,fun x=>x<w.heap.size,fun _=>none,none⟩
 have hrel:Rel w E0 []:=⟨fun i blk hl=>by simp [Heap.look] at hl,fun i hv hB=>by simp [E0] at hB,fun i hv hF=>by simp [E0] at hF,fun i hv b' hB hbk=>by simp [E0] at hB,fun i j hi hj b' hBi hBj _ _=>by simp [E0] at hBi,hS,fun x hx=>hx⟩
 refine kU hf hb hn hrs h hrel (fun i hi=>hi.elim) (fun i hi=>hi.elim) (vs:=vs) (RdVs.unbare (E:=E0) args hargs) ?_;intro v x σ' E' w' h1 hbd' h2 h3 hK;unfold mkK at hK;split at hK
 ·rename_i y i;obtain ⟨k1,k2,k3⟩:=hK;simp only [RdV] at h3;obtain ⟨us,rfl,h3⟩:=h3;obtain ⟨v0,v1,rfl,h4,h5⟩:=aBs h3;unfold aFu at k3;split at k3
  ·rename_i cs2 hl;obtain ⟨k4,k5⟩:=k3;obtain ⟨b',cells',ty',hB,hh',hcs',hones'⟩:=pJ h1 hl;simp only [RdV] at h5;rw [h5.2.2 _ (.inl hB)];have q:=h1.own i _ b' hB rfl;have hbs:w.heap.size≤b':=Nat.le_of_not_lt fun hlt=>q.2.2 ((h2.D b').2 hlt)
   obtain ⟨d1,d2⟩:=h1.drop hbd' i;refine ⟨v0,b',vQ (E'.drop i) (σ'.h.del i),ty',cells',rfl,hbs,fun x hx => .inl (h2.S x hx),fun x hx=>?_,fun x hx=>?_,?_,hh',?_,hones',⟨h2.os,h2.tape,h2.output,h2.size,fun k hk=>h2.keep k (.inr hk)⟩,fun hsb=>?_⟩
   ·rcases hx with hx | ⟨j,hv',_,hB',_,_,hbk⟩
    ·rcases h2.S' x hx with q | q
     ·exact .inl q
     ·exact .inr (Nat.le_of_not_lt fun hlt=>q hlt)
    ·have q:=(h1.own j hv' x (Jk hB').2 hbk).2.2;exact .inr (Nat.le_of_not_lt fun hlt=>q ((h2.D x).2 hlt))
   ·rcases hx with hx | ⟨j,hv',_,hB',_,_,hbk⟩
    ·exact h1.slt x hx
    ·exact (h1.own j hv' x (Jk hB').2 hbk).1
   ·have:=RdV.lend d1 y (by rw [k1];exact k2) (d2.rdV _ h4);rw [k1] at this;exact this
   ·have:=RdVs.lend d1 cs2 (by rw [k4];exact k5) (d2.rdVs _ hcs');rw [k4] at this;exact this
   ·rcases hsb with hx | ⟨j,hv',_,hB',_,_,hbk⟩
    ·exact q.2.1 hx
    ·obtain ⟨hne0,hB''⟩:=Jk hB';exact hne0 (h1.apart j i hv' _ b' hB'' hB hbk rfl)
  ·exact k3.elim
 ·exact hK.elim
attribute [go_sem] mkK
open Go.RowKit
@[go_sem] def idRen:Heap→Ren
 | []=>[]
 | (i,_)::r=>(i,some i)::idRen r
theorem aA {n0:Nat} {σ σ':St} (hok:wkOk n0 (idRen σ'.h) σ σ'):Jv n0 σ σ':=aJ _ hok
def Tb (b:Option Blk) (x:V):V :=
 match b with
 | some _=>x
 | none => .dead
mutual
def aJ5 (h:Heap):V→V
 | .own i=>Tb (h.look i) (.own i)
 | .ptr i o=>Tb (h.look i) (.ptr i o)
 | .rptr i k n j=>Tb (h.look i) (.rptr i k n j)
 | .rsl i k n j=>Tb (h.look i) (.rsl i k n j)
 | .agg cs => .agg (Bz h cs)
 | .tup cs => .tup (Bz h cs)
 | .cond g x => .cond g (aJ5 h x)
 | .clo f cs => .clo f (Bz h cs)
 | .t x => .t x
 | .elem k d xs i j => .elem k d xs i j
 | .dead => .dead
def Bz (h:Heap):List V→List V
 | []=>[]
 | x::xs=>aJ5 h x::Bz h xs
end
def aX (σ : St):St := { σ with fr:=Bz σ.h σ.fr }
def aW:List Nat→St→St
 | [], σ => σ
 | i::r, σ => aW r (bD i .dead σ)
attribute [go_sem] aW Tb aJ5 Bz aX
open Go.RowKit
def Lz:List Nat→Nat→Nat→Option Nat
 | [],_,_=>none
 | a::r,i,k=>if i=a then some k else Lz r i (k+1)
def Ch (is:List Nat) (nx j:Nat):Nat :=
 match is[j]? with
 | some i=>i
 | none=>nx+(j - is.length)
def xF (m:Nat) (g:Nat→Nat):Heap→Heap
 | []=>[]
 | (j,b)::r=>if j<m then xF m g r else (g j,b.ren g)::xF m g r
def aDh (i:Nat) (g:Nat→Nat) (b:Option Blk) (r:Heap):Heap :=
 match b with
 | some b=>(i,b.ren g)::r
 | none=>r
def outP (i:Nat) (old:Blk) (g:Nat→Nat) (h':Heap) (p:Option Nat) (r:Heap):Heap :=
 match p with
 | some j=>aDh i g (h'.look j) r
 | none=>(i,old)::r
def Hw (is:List Nat) (g:Nat→Nat) (h':Heap):Heap→Heap
 | []=>[]
 | (i,b)::r=>outP i b g h' (Lz is i 0) (Hw is g h' r)
def inH (m:Nat) (g:Nat→Nat) (H:Heap):Heap→Prop
 | []=>True
 | (j,b)::r=>(j<m∧yH m b.ment=true∧H.look (g j)=some (b.ren g))∧inH m g H r
def allB (m:Nat) (h:Heap):Bool:=(List.range m).all fun j=>(h.look j).isSome
def Rn (n:Nat) (h:Heap):Bool:=h.all fun p=>decide (p.1<n)
theorem Qz (i:Nat):∀ (a b:Heap),Heap.look (a++b) i=match Heap.look a i with | some x=>some x | none=>Heap.look b i
 | [],b=>rfl
 | (j,x)::r,b=>by
  simp only [List.cons_append,Heap.look];split
  ·rfl
  ·exact Qz i r b
theorem Wx:∀ {is:List Nat} {i k:Nat},i ∉ is→Lz is i k=none
 | [],_,_,_=>rfl
 | a::r,i,k,h=>by
  simp only [List.mem_cons,not_or] at h;rw [Lz,if_neg h.1,Wx h.2]
theorem aKf:∀ {is:List Nat} {j k:Nat} (h:j<is.length),is.Nodup→Lz is is[j] k=some (k+j)
 | a::r,0,k,h,_=>by simp [Lz]
 | a::r,j+1,k,h,hn=>by
  rw [List.nodup_cons] at hn;simp only [List.getElem_cons_succ,Lz];rw [if_neg (fun e=>hn.1 (by rw [← e];exact List.getElem_mem _)),aKf (by simpa using h) hn.2];congr 1;omega
section
variable {m n':Nat} {g:Nat→Nat} (hinj:∀ i j,i<n'→j<n'→g i=g j→i=j)
include hinj
theorem Xa {j:Nat} (hj:j<n'):∀ {h:Heap},Rn n' h=true→(xF m g h).look (g j)=if j<m then none else (h.look j).map (Blk.ren g)
 | [],_=>by simp [xF,Heap.look]
 | (k,b)::r,hk=>by
  simp only [Rn,List.all_cons,Bool.and_eq_true,decide_eq_true_eq] at hk;have ih:=Xa hj (h:=r) (by simpa [Rn] using hk.2);unfold xF
  by_cases hkm:k<m
  ·rw [if_pos hkm,ih];split
   ·rfl
   ·rename_i hjm;rw [Heap.look,if_neg (by omega)]
  ·rw [if_neg hkm,Heap.look]
   by_cases hjk:j=k
   ·subst hjk;rw [if_pos rfl,if_neg hkm,Heap.look,if_pos rfl];rfl
   ·rw [if_neg (fun e=>hjk (hinj _ _ hj hk.1 e)),ih,Heap.look,if_neg hjk]
end
theorem Qf {m n':Nat} {g:Nat→Nat} {i:Nat} (hi:∀ j,j<n'→g j≠i):∀ {h:Heap},Rn n' h=true→(xF m g h).look i=none
 | [],_=>rfl
 | (k,b)::r,hk=>by
  simp only [Rn,List.all_cons,Bool.and_eq_true,decide_eq_true_eq] at hk;have ih:=Qf hi (m:=m) (h:=r) (by simpa [Rn] using hk.2);unfold xF;split
  ·exact ih
  ·rw [Heap.look,if_neg (fun e=>hi k hk.1 e.symm),ih]
theorem Bb {is:List Nat} {g:Nat→Nat} {h':Heap} {i:Nat}:∀ {H:Heap},(Hw is g h' H).look i=match Lz is i 0 with | some j=>(match H.look i with | some _=>(h'.look j).map (Blk.ren g) | none=>none) | none=>H.look i
 | []=>by
  simp only [Hw,Heap.look];split<;>rfl
 | (k,b)::r=>by
  have ih:=Bb (is:=is) (g:=g) (h':=h') (i:=i) (H:=r);unfold Hw outP
  by_cases hik:i=k
  ·subst hik;cases hp:Lz is i 0 with
   | none=>simp only [Heap.look,if_true]
   | some j =>
    simp only [Heap.look,if_true];rw [hp] at ih;simp only at ih;unfold aDh;cases hl:Heap.look h' j with
    | none=>simp only [Option.map_none];rw [ih,hl];split<;>rfl
    | some b'=>simp only [Heap.look,if_true,Option.map_some]
  ·have hne:∀ r',(match Lz is k 0 with | some j=>aDh k g (Heap.look h' j) r' | none=>(k,b)::r').look i=Heap.look r' i:=fun r'=>by
    cases Lz is k 0 with
    | none=>simp only [Heap.look,if_neg hik]
    | some j =>
     simp only [aDh];cases Heap.look h' j with
     | none=>rfl
     | some b'=>simp only [Heap.look,if_neg hik]
   rw [hne,ih];simp only [Heap.look,if_neg hik]
theorem aL4 {m:Nat} {g:Nat→Nat} {H:Heap}:∀ {h:Heap},inH m g H h → ∀ j blk,h.look j=some blk→j<m∧yH m blk.ment=true∧H.look (g j)=some (blk.ren g)
 | [],_,j,blk,hl=>by simp [Heap.look] at hl
 | (k,b)::r,hi,j,blk,hl=>by
  rw [Heap.look] at hl;split at hl
  ·rename_i e;subst e;injection hl with hl;subst hl;exact hi.1
  ·exact aL4 hi.2 j blk hl
theorem aUn {m:Nat} {h:Heap} (ha:allB m h=true):∀ j,j<m → ∃ blk,h.look j=some blk:=by
 intro j hj;simp only [allB,List.all_eq_true,List.mem_range] at ha;have:=ha j hj;cases hl:h.look j with
 | none=>rw [hl] at this;cases this
 | some b=>exact ⟨b,rfl⟩
theorem xH {is:List Nat} {nx j:Nat} (h:j<is.length):Ch is nx j=is[j]:=by unfold Ch;rw [List.getElem?_eq_getElem h]
theorem Be {is:List Nat} {nx j:Nat} (h:is.length≤j):Ch is nx j=nx+(j - is.length):=by unfold Ch;rw [List.getElem?_eq_none h]
theorem cC {P:Program} {σ : St} {d:Option Tmp} {f:FuncId} {m n':Nat} {h h':Heap} {args xs:List V} {r:V} {K:St→Prop} (hc:CIO P f m h args r h' n') (is:List Nat) (hlen:is.length=m) (hmn:m≤n') (hnd:is.Nodup)
  (hin:inH m (Ch is σ.nx) σ.h h) (hall:allB m h=true) (hkeys:Rn n' h'=true) (hargs:yH m (V.ments args)=true) (hxs:xs=V.rens (Ch is σ.nx) args)
  (hK:K (({ σ with h:=xF m (Ch is σ.nx) h'++Hw is (Ch is σ.nx) h' σ.h,nx := σ.nx+(n' - m) }:St).put d (r.ren (Ch is σ.nx)))):ICall P σ d f xs K:=by
 subst hlen;refine nD hc.1 (fun E w vs hr hbd hvs=>?_);have hlow:=aL4 hin;have hal:=aUn hall;have hold:∀ j (hj:j<is.length),E.U is[j]∧is[j] < σ.nx ∧ ∃ blk, σ.h.look is[j]=some blk:=fun j hj=>by
  obtain ⟨blk,hb⟩:=hal j hj;have h2:=(hlow j blk hb).2.2;rw [xH hj] at h2;have h3:=hr.uses h2;exact ⟨h3,hbd _ h3,_,h2⟩
 have hinj:∀ i j,i<n'→j<n'→Ch is σ.nx i=Ch is σ.nx j→i=j:=fun i j hi hj he=>by
  by_cases hi1:i<is.length
  ·by_cases hj1:j<is.length
   ·rw [xH hi1,xH hj1] at he;exact (List.getElem_inj hnd).1 he
   ·rw [xH hi1,Be (by omega)] at he;have:=(hold i hi1).2.1;omega
  ·by_cases hj1:j<is.length
   ·rw [xH hj1,Be (by omega)] at he;have:=(hold j hj1).2.1;omega
   ·rw [Be (by omega),Be (by omega)] at he;omega
 have hnew:∀ j,is.length≤j→j<n' → ¬ E.U (Ch is σ.nx j):=fun j h1 h2 hU=>by
  rw [Be h1] at hU;have:=hbd _ hU;omega
 subst hxs;refine (aB6 hc hmn hinj hlow hal hargs hr hnew hvs).mono ?_;rintro e w' ⟨v,E',rfl,h1,h2,h3,h4⟩;refine ⟨v,_,_,_,E',rfl,h1 _ (fun j hj=>?_) (fun i hi=>?_),fun q hq=>?_,h2,h3,hK⟩
 ·rw [Qz,Xa hinj hj hkeys]
  by_cases hjm:j<is.length
  ·rw [if_pos hjm];simp only;rw [Bb,xH hjm,aKf hjm hnd,Nat.zero_add];obtain ⟨_,_,blk,hb⟩:=hold j hjm;simp only [hb]
  ·rw [if_neg hjm];cases hl:(Heap.look h' j).map (Blk.ren (Ch is σ.nx)) with
   | some x=>rfl
   | none =>
    simp only;have hno : σ.h.look (Ch is σ.nx j)=none:=by
     cases hl2 : σ.h.look (Ch is σ.nx j) with
     | none=>rfl
     | some b=>exact (hnew j (by omega) hj (hr.uses hl2)).elim
    rw [Bb,hno];split<;>rfl
 ·rw [Qz,Qf hi hkeys];simp only;rw [Bb,Wx];intro hmem;obtain ⟨j,hj,he⟩:=List.mem_iff_getElem.1 hmem;exact hi j (by omega) (by rw [xH hj];exact he)
 ·rcases h4 q hq with h4 | ⟨j,h5,h6,rfl⟩
  ·have:=hbd q h4;show q < σ.nx+(n' - is.length)
   omega
  ·rw [Be h5];show _ < σ.nx+(n' - is.length)
   omega
attribute [go_sem] Lz Ch xF aDh outP Hw inH yH V.ment V.ments Fm Qs Blk.ment ioK
open Go.RowKit
set_option maxRecDepth 4000
def Lx (P:Program) (ops:List Oper) (Q:Exit→St→Prop) (l:List Oper) (σ : St):Prop :=
 ∀ E a w,RelF E σ a w → ∀ E0 w0,Ext E0 w0 E w→wpListIn (Wd E.ro) 0 P ops.toArray (rD E0 w0 Q) l a w
theorem Ph {P:Program} {ops:List Oper} {Q:Exit→St→Prop} {l:List Oper} {σ : St} (h:tW P ops l (Q .normal) σ):Lx P ops Q l σ := Pa l σ h
theorem aCf {P:Program} {ops:List Oper} {Q:Exit→St→Prop} {l2:List Oper}:∀ (l:List Oper) (σ : St),tW P ops l (Lx P ops Q l2) σ → Lx P ops Q (l++l2) σ
 | [], σ,h=>h
 | o::r, σ,h=>by
  intro E a w hr E0 w0 hE;have next:∀ {σ'} {E':Env} {a' w'},tW P ops r (Lx P ops Q l2) σ'→RelF E' σ' a' w'→Ext E w E' w'→wpListIn (Wd E.ro) 0 P ops.toArray (rD E0 w0 Q) (r++l2) a' w':=fun h3 h1 h2=>by
   have:=aCf r _ h3 _ _ _ h1 E0 w0 (hE.trans h2);rwa [h2.ro] at this
  unfold tW Qg at h;rw [List.cons_append];unfold wpListIn;split at h
  ·rename_i hg;have hw:Region.wanted o (yielded ops.toArray a.tmps)=true:=by simp [Region.wanted,hg]
   rw [if_pos hw];exact wA h E a w hr _ _ fun a' w' E' σ' h1 h2 h3=>next h3 h1 h2
  ·rename_i j want hg;unfold aB2 at h;split at h
   ·rename_i g hgs;have hw:=zZ hr hg hgs;rw [hw];split at h
    ·obtain ⟨x,hK,hy⟩:=nS h;cases g with
     | true =>
      rw [if_pos rfl];exact sK (.inr (pY h)) (hy rfl E a w hr _ _ fun v w' E' h1 h2 h3 _=>next hK (h1.put o.dst (mX (by rw [RdV];exact ⟨fun _=>h3,fun h=>by cases h⟩))) h2)
     | false =>
      rw [if_neg (by simp)];exact ⟨fun _ _=>trivial,next hK (hr.put o.dst (mX (by rw [RdV];exact ⟨fun h=>(by cases h),fun _=>rfl⟩))) (Ext.refl E w)⟩
    ·cases g with
     | true =>
      rw [if_pos rfl];exact wA (h.1 rfl) E a w hr _ _ fun a' w' E' σ' h1 h2 h3=>next h3 h1 h2
     | false =>
      rw [if_neg (by simp)];exact ⟨fun _ _=>trivial,next (h.2 rfl) (hr.put o.dst (by simp only [RdV])) (Ext.refl E w)⟩
   ·exact h.elim
theorem Tt {P:Program} {n0 id:Nat} {ops:Array Oper} {Q:Exit→St→Prop} {σ : St} (h:Lx P ops.toList Q ops.toList σ):AWP P n0 (.region id ops false) Q σ := by
 intro E a w hr E0 w0 hU hE;have:=h E a w hr E0 w0 hE;rw [Array.toArray_toList] at this;exact wpIn_region_list this
theorem yD {P:Program} {n0 id:Nat} {ops:Array Oper} {Q:Exit→St→Prop} {σ : St} (n:Nat) (h:tW P ops.toList (ops.toList.take n) (Lx P ops.toList Q (ops.toList.drop n)) σ):AWP P n0 (.region id ops false) Q σ := by
 refine Tt ?_;have:=aCf (l2:=ops.toList.drop n) (ops.toList.take n) σ h;rwa [List.take_append_drop] at this
open Go.RowKit
set_option maxRecDepth 4000
def Blk.res (h:Heap):Blk→Blk
 | .row e k d xs => .row e k d (xs.map (V.ress h))
 | .box cs => .box (V.ress h cs)
 | .map es => .map es
 | .shr t => .shr t
 | .loop st pend tmps ps c d => .loop st pend (V.ress h tmps) ps c d
 | .defd => .defd
def Heap.res (h:Heap):Heap→Heap
 | []=>[]
 | (i,b)::r=>(i,b.res h)::Heap.res h r
theorem Heap.look_res (h:Heap) (i:Nat):∀ h2:Heap,(Heap.res h h2).look i=(h2.look i).map (Blk.res h)
 | []=>rfl
 | (j,b)::r=>by
  simp only [Heap.res,Heap.look];split
  ·rfl
  ·exact Heap.look_res h i r
theorem aCq (h:Heap):∀ xs:List V,(V.ress h xs).length=xs.length
 | []=>rfl
 | x::xs=>by simp only [V.ress,List.length_cons,aCq h xs]
theorem Km (h:Heap):∀ xs ys:List V,V.ress h (xs++ys)=V.ress h xs++V.ress h ys
 | [],ys=>rfl
 | x::xs,ys=>by simp only [List.cons_append,V.ress,Km h xs ys]
theorem Ez (h:Heap):∀ xs:List (List V),(xs.map (V.ress h)).flatten=V.ress h xs.flatten
 | []=>rfl
 | x::xs=>by simp only [List.map_cons,List.flatten_cons,Km,Ez h xs]
theorem Blk.rel_res {w:World} {E:Env} {h:Heap} (hr:Rel w E h) {b:Blk} {hv:Value} (hb:BlkRel w E b hv):BlkRel w E (b.res h) hv:=by
 cases b with
 | row e k d xs =>
  obtain ⟨cells,h1,h2,h3,h4⟩:=hb;refine ⟨cells,by rw [List.length_map];exact h1,by rw [Ez];exact RdVs.res hr _ h2,fun x hx=>?_,h4⟩;obtain ⟨y,hy,rfl⟩:=List.mem_map.1 hx;rw [aCq];exact h3 y hy
 | box cs =>
  obtain ⟨b,vs,ty,h1,h2,h3,h4⟩:=hb;exact ⟨b,vs,ty,h1,h2,RdVs.res hr _ h3,h4⟩
 | map es=>exact hb
 | shr t=>exact hb
 | loop st pend tmps ps c d =>
  obtain ⟨l,rec,h1,h2,h3,h4,h5,h6,h7,h8⟩:=hb;exact ⟨l,rec,h1,h2,h3,h4,h5,h6,h7,RdVs.res hr _ h8⟩
 | defd=>exact hb
theorem Blk.at_res {E:Env} {h:Heap} {i:Nat} {b:Blk}:E.at (b.res h) i=E.at b i:=by cases b<;>rfl
theorem Rel.res {w:World} {E:Env} {h:Heap} (hr:Rel w E h):Rel w E (Heap.res h h):=by
 refine ⟨fun i blk hl=>?_,fun i hv hB=>?_,hr.domF,hr.own,hr.apart,hr.slt,hr.dlt⟩
 ·rw [Heap.look_res] at hl;obtain ⟨b,hb,rfl⟩:=Option.map_eq_some_iff.1 hl;obtain ⟨hv,h1,h2⟩:=hr.has i b hb;exact ⟨hv,by rw [Blk.at_res];exact h1,Blk.rel_res hr h2⟩
 ·obtain ⟨h1,b,h2⟩:=hr.dom i hv hB;exact ⟨h1,_,by rw [Heap.look_res,h2];rfl⟩
def aSk (P:Program) (n0:Nat) (c:Code) (Q:Exit→St→Prop) (σ : St) (o:Option Heap):Prop :=
 match o with
 | some h=>AWP P n0 c Q { σ with h:=Heap.res h h,fr:=V.ress h σ.fr }
 | none=>False
theorem Tv {P:Program} {n0:Nat} {c:Code} {Q:Exit→St→Prop} {σ : St} (is:List Nat) (h:aSk P n0 c Q σ (giveL is σ.h)):AWP P n0 c Q σ := by
 unfold aSk at h;split at h
 ·rename_i h' hg;intro E a w hr E0 w0 hU hE;obtain ⟨E1,r1,r2,r3⟩:=RelF.giveL is (h := σ.h) hr hg;have:=h E1 a w ⟨Rel.res r1.rel,r1.bound,RdVs.res r1.rel _ r1.fr,r1.defers⟩ E0 w0 hU (hE.trans r2);rwa [r2.ro] at this
 ·exact h.elim
def aHu (Q:Exit→St→Prop) (e:Exit) (σ : St) (o:Option Heap):Prop :=
 match o with
 | some h=>Q e { σ with h:=Heap.res h h,fr:=V.ress h σ.fr }
 | none=>False
def giveQ (is:List Nat) (Q:Exit→St→Prop) (e:Exit) (σ : St):Prop:=aHu Q e σ (giveL is σ.h)
@[go_sem] theorem giveQ_eq {is:List Nat} {Q:Exit→St→Prop} {e:Exit} {fr:List V} {h:Heap} {nx:Nat} {df:List Dfr}:giveQ is Q e ⟨fr,h,nx,df⟩=aHu Q e ⟨fr,h,nx,df⟩ (giveL is h):=rfl
@[go_sem] theorem aQw (h:Heap):∀ l:List T,V.ress h (l.map .t)=l.map .t
 | []=>rfl
 | x::r=>by simp only [List.map_cons,V.ress,V.res,aQw h r]
@[go_sem] theorem aH0 (h:Heap):∀ l:List (List T),(aL l).map (V.ress h)=aL l
 | []=>rfl
 | x::r=>by
  have:=aH0 h r;unfold aL at this ⊢;simp only [List.map_cons,aQw,this]
attribute [go_sem] aSk aHu Blk.res Heap.res
open Go.RowKit Go.ChangeShapes Go.WideShapes
def aBb (w:World):Nat→Prop:=fun b=>b<w.heap.size
def Opens {α : Type} (P:Program) (t:TypeId) (c : α → List T):Prop :=
 ∀ {H:Type} (enc:TypeId×Value→H) (w:World) (spare:Nat→Bool) (held:Bool) (n:Nat) (cs:List Value) (x:DataW H×List MemPlace),DataW.trod enc P w 0 spare held n t cs=some x → ∃ a,RdTs w (aBb w) (c a) cs
section
variable {P:Program} {t:TypeId} {α β : Type}
theorem Opens.map {c : α → List T} {c' : β → List T} (g : α → β) (h:∀ a,c' (g a)=c a) (ho:Opens P t c):Opens P t c':=by
 intro H enc w spare held n cs x hx;obtain ⟨a,ha⟩:=ho enc w spare held n cs x hx;exact ⟨g a,by rw [h];exact ha⟩
theorem aHc (ht:P.underlying t=some .bool):Opens P t fun b:Bool=>[.lit (.bool b)]:=by
 intro H enc w spare held n cs x hx;obtain ⟨b,rfl,_⟩:=DataW.trod_bool ht hx;exact ⟨b, .lit _ rfl trivial,trivial⟩
theorem Xb {k:IntKind} (ht:P.underlying t=some (.int k)):Opens P t fun n:Int=>[.lit (.int k n)]:=by
 intro H enc w spare held n cs x hx;obtain ⟨b,rfl,_⟩:=DataW.trod_int ht hx;exact ⟨b, .lit _ rfl trivial,trivial⟩
theorem Ff (ht:P.underlying t=some .string):Opens P t fun s:ByteArray=>[.lit (.string s)]:=by
 intro H enc w spare held n cs x hx;obtain ⟨s,rfl,_,hs⟩:=DataW.trod_string ht hx;exact ⟨s, .lit _ rfl hs,trivial⟩
theorem Ln {Q:Nat → α → Prop}:∀ (n:Nat),(∀ i,i<n → ∃ a,Q i a) → ∃ al:List α,al.length=n ∧ ∀ i a,al[i]? = some a→Q i a
 | 0,_=>⟨[],rfl,by simp⟩
 | n+1,h=>by
  obtain ⟨al,h1,h2⟩:=Ln n fun i hi=>h i (by omega)
  obtain ⟨a,ha⟩:=h n (by omega);refine ⟨al ++ [a],by simp [h1],fun i b hb=>?_⟩
  by_cases hi:i<n
  ·rw [List.getElem?_append_left (by omega)] at hb;exact h2 i b hb
  ·have hi2:i<(al ++ [a]).length:=(List.getElem?_eq_some_iff.1 hb).1;have:i=n:=by simp [h1] at hi2;omega
   subst this;rw [List.getElem?_append_right (by omega),h1] at hb;simp at hb;subst hb;exact ha
theorem aP2 {w:World} {a:Addr} {v:Value} (h:w.cell? a=some v):a.spot=none:=by
 unfold World.cell? at h;split at h
 ·cases hs:a.spot with
  | none=>rfl
  | some x=>rw [hs] at h;simp at h
 ·cases h
theorem aTe {w:World} {a:Addr} {v:Value} (h:w.cell? a=some v):a.block<w.heap.size:=by
 unfold World.cell? at h;split at h
 ·rename_i hh;exact (Array.getElem?_eq_some_iff.1 hh).1
 ·cases h
theorem aK7 {w:World} {S:Nat→Prop}:∀ {xs:List T} {vs:List Value} {j:Nat} {x:T} {v:Value},RdTs w S xs vs→xs[j]? = some x→vs[j]? = some v→RdT w S x v
 | x::xs,v::vs,0,_,_,h,hx,hv=>by simp at hx hv;subst hx hv;exact h.1
 | x::xs,v::vs,j+1,_,_,h,hx,hv=>aK7 (j:=j) h.2 (by simpa using hx) (by simpa using hv)
 | [],_,_,_,_,_,hx,_=>by simp at hx
 | _::_,[],_,_,_,h,_,_=>h.elim
theorem fW {e:TypeId} {c : α → List T} {k:Nat} (d:List T) (ht:P.underlying t=some (.slice e)) (he:Opens P e c) (hk:P.cellsOf e=k) (hc:∀ a,(c a).length=k) (hpos : 0<k) :
  Opens P t fun al:List α => [.list k d (al.map c)]:=by
 subst hk;intro H enc w spare held n cs x hx;rcases DataW.trod_slice ht hx with ⟨rfl,_⟩ | ⟨a,len,cap,elems,rest,m,rfl,rfl,rfl,hb,hl,hm,hlen,hel,_,_⟩
 ·exact ⟨[], .list _ _ _ none 0 (Nat.zero_le _) (Nat.zero_le _) (fun _=>rfl) (by simp) (by simp) (by simp),trivial⟩
 ·obtain ⟨al,h1,h2⟩:=Ln (Q:=fun i x => ∃ cs,w.cells? 0 (a.add (i*P.cellsOf e)) (P.cellsOf e)=some cs∧RdTs w (aBb w) (c x) cs) len fun i hi=>by
   have h3:=hel i hi;rw [List.getElem?_eq_getElem (by omega)] at h3;obtain ⟨cs,h4,h5⟩:=Option.bind_eq_some_iff.1 h3;obtain ⟨y,hy⟩:=he enc w spare held m cs _ h5;exact ⟨y,cs,h4,hy⟩
  refine ⟨al,?_,trivial⟩;have hlen':(al.map c).length=len:=by simp [h1]
  rw [← hlen'];have key:∀ i y,al[i]? = some y → ∃ cs,RdTs w (aBb w) (c y) cs∧cs.length=P.cellsOf e∧a.spot=none∧a.block<w.heap.size ∧ ∀ j,j<P.cellsOf e→w.cell? ⟨a.block,a.off+i*P.cellsOf e+j,none⟩=cs[j]? := by
   intro i y hy;obtain ⟨cs,h3,h4⟩:=h2 i y hy;obtain ⟨_,h5,h6⟩:=World.cells?_some h3;have h0:=h6 0 hpos;rw [List.getElem?_eq_getElem (by omega)] at h0;have hlt:=aTe h0;have hsp:a.spot=none:=by
    have hl0 : 0<al.length:=by have:=(List.getElem?_eq_some_iff.1 hy).1;omega
    obtain ⟨cs0,g3,g4⟩:=h2 0 _ (List.getElem?_eq_getElem hl0);obtain ⟨_,g5,g6⟩:=World.cells?_some g3;have g0:=g6 0 hpos;rw [List.getElem?_eq_getElem (by omega),Nat.zero_mul] at g0;have e0:(a.add 0).add 0=a:=by simp [Addr.add]
    rw [e0] at g0;exact aP2 g0
   obtain ⟨b,off,sp⟩:=a;have hsp':sp=none:=hsp;subst hsp';rw [Addr.add_lit,Addr.add_lit] at hlt;refine ⟨cs,h4,h5,rfl,hlt,fun j hj=>?_⟩;have:=h6 j hj;rw [Addr.add_lit,Addr.add_lit] at this;exact this
  refine .list _ _ _ (some a) cap (by omega) (by omega) (fun h=>by cases h) ?_ ?_ ?_
  ·intro y hy;obtain ⟨z,_,rfl⟩:=List.mem_map.1 hy;exact hc z
  ·intro i y hy;rw [List.getElem?_map,Option.map_eq_some_iff] at hy;obtain ⟨z,hz,rfl⟩:=hy;obtain ⟨cs,k1,k2,k3,k4,k5⟩:=key i z hz;obtain ⟨b,off,sp⟩:=a;have k3':sp=none:=k3;subst k3';refine ⟨b,off,rfl,k4,fun j x hx=>?_⟩;have hj:j<P.cellsOf e:=by rw [← hc z];exact (List.getElem?_eq_some_iff.1 hx).1
   exact ⟨cs[j]'(by omega),by rw [k5 j hj,List.getElem?_eq_getElem (by omega)]⟩
  ·intro i y j x' b off u hy hx' hA hu;rw [List.getElem?_map,Option.map_eq_some_iff] at hy;obtain ⟨z,hz,rfl⟩:=hy;obtain ⟨cs,k1,k2,k3,k4,k5⟩:=key i z hz;injection hA with hA;subst hA;have hj:j<P.cellsOf e:=by rw [← hc z];exact (List.getElem?_eq_some_iff.1 hx').1
   rw [k5 j hj] at hu;exact aK7 k1 hx' hu
def La (P:Program):List Field→Nat→Option Nat
 | [],o=>some o
 | f::r,o=>if f.offset=o then La P r (o+P.cellsOf f.type) else none
theorem aE6 {P:Program}:∀ {fs:List Field} {o e:Nat},La P fs o=some e→o≤e
 | [],o,e,h=>by simp [La] at h;omega
 | f::r,o,e,h=>by
  unfold La at h;split at h
  ·have:=aE6 h;omega
  ·cases h
def aBd (P:Program) (fs:List Field) (c : α → List T):Prop :=
 ∀ {H:Type} (enc:TypeId×Value→H) (w:World) (spare:Nat→Bool) (held:Bool) (n:Nat) (cs:List Value),(∀ f∈fs, ∃ x,DataW.trod enc P w 0 spare held n f.type ((cs.drop f.offset).take (P.cellsOf f.type))=some x) →
  ∀ o e,La P fs o=some e → ∃ a,RdTs w (aBb w) (c a) ((cs.drop o).take (e - o))
theorem fG:aBd P [] fun _:Unit=>[]:=by
 intro H enc w spare held n cs _ o e h;simp [La] at h;subst h;exact ⟨(),by simp [RdTs]⟩
theorem aN {f:Field} {r:List Field} {c : α → List T} {c' : β → List T} (h1:Opens P f.type c) (h2:aBd P r c'):aBd P (f::r) fun x : α × β => c x.1++c' x.2:=by
 intro H enc w spare held n cs hx o e hl;unfold La at hl;split at hl
 ·rename_i ho;obtain ⟨x,hx1⟩:=hx f (by simp);obtain ⟨a,ha⟩:=h1 enc w spare held n _ _ hx1;obtain ⟨b,hb⟩:=h2 enc w spare held n cs (fun g hg=>hx g (by simp [hg])) _ _ hl;have hle:=aE6 hl;refine ⟨(a,b),?_⟩;have:(cs.drop o).take (e - o)=(cs.drop f.offset).take (P.cellsOf f.type)++(cs.drop (o+P.cellsOf f.type)).take (e - (o+P.cellsOf f.type)):=by
   rw [ho,show e - o=P.cellsOf f.type+(e - (o+P.cellsOf f.type)) by omega,List.take_add,List.drop_drop]
  rw [this];exact RdTs.append ha hb
 ·cases hl
theorem dP {fs:Array Field} {c : α → List T} (ht:P.underlying t=some (.struct fs)) (hl:La P fs.toList 0=some (P.cellsOf t)) (h:aBd P fs.toList c):Opens P t c:=by
 intro H enc w spare held n cs x hx;obtain ⟨xs,m,rfl,rfl,h1,h2,h3⟩:=DataW.trod_struct ht hx;obtain ⟨a,ha⟩:=h enc w spare held m cs (fun f hf=>by
  obtain ⟨i,hi,rfl⟩:=List.mem_iff_getElem.1 hf;have hi':i<fs.size:=by simpa using hi
  have:=h3 i fs[i] (by simp [hi']);rw [List.getElem?_eq_getElem (by omega)] at this;exact ⟨_,by simpa using this⟩) 0 _ hl
 refine ⟨a,?_⟩;simpa [← h1] using ha
end
def Ap {α : Type} (P:Program) (t:TypeId) (v : α → V):Prop :=
 ∀ {H:Type} (enc:TypeId×Value→H) (w:World) (spare:Nat→Bool) (held:Bool) (val:Value) (d:DataW H) (p:List MemPlace),Value.okWide P w .any 0 t val→DataW.Trod enc P w 0 spare held t val d p → ∃ a,RdV w (jF (aBb w)) (v a) val
section
variable {P:Program} {t:TypeId} {α β : Type}
theorem aDm {w:World} {S:Nat→Prop} {x:T} {u:Value} {l:List Value} (hl:l = [u]) (h:RdTs w S [x] l):RdV w (jF S) (.t x) u:=by
 subst hl;simp only [RdV];exact h.1
theorem Um (ht:P.underlying t=some .string):Ap P t fun s:ByteArray => .t (.lit (.string s)):=by
 rintro H enc w spare held val d p hv ⟨n,hn⟩;obtain ⟨b,rfl⟩:=okWide_string ht hv;obtain ⟨a,ha⟩:=Ff ht enc w spare held n _ _ hn;exact ⟨a,aDm rfl ha⟩
theorem aAb {e:TypeId} {x : α → T} (ht:P.underlying t=some (.slice e)) (ho:Opens P t fun a=>[x a]):Ap P t fun a => .t (x a):=by
 rintro H enc w spare held val d p hv ⟨n,hn⟩;obtain ⟨A,l,c,rfl⟩:=okWide_slice ht hv;obtain ⟨a,ha⟩:=ho enc w spare held n _ _ hn;exact ⟨a,aDm rfl ha⟩
theorem Ct {fs:Array Field} {c : α → List T} (ht:P.underlying t=some (.struct fs)) (ho:Opens P t c):Ap P t fun a => .agg ((c a).map .t):=by
 rintro H enc w spare held val d p hv ⟨n,hn⟩;obtain ⟨cs,rfl,hs⟩:=okWide_struct ht hv;obtain ⟨a,ha⟩:=ho enc w spare held n _ _ hn;have hcs:(Value.agg cs).cells.toList=cs.toList:=rfl;rw [hcs] at ha;refine ⟨a,?_⟩;simp only [RdV];refine ⟨cs,rfl,RdVs.ofT ha,?_⟩;have:∀ {xs:List T} {vs:List Value},RdTs w (aBb w) xs vs→vs.all (·.oneCell')=true:=by
  intro xs
  induction xs with
  | nil=>intro vs h;cases vs with
   | nil=>rfl
   | cons _ _=>exact h.elim
  | cons x xs ih=>intro vs h;cases vs with
   | nil=>exact h.elim
   | cons v vs=>simp only [List.all_cons,Bool.and_eq_true];exact ⟨h.1.one,ih h.2⟩
 exact this ha
def Mx (P:Program) (ts:List TypeId) (vs : α → List V):Prop :=
 ∀ {H:Type} (enc:TypeId×Value→H) (w:World) (spare:Nat→Bool) (held:Bool) (args:List Value) (ds:List (DataW H)) (p:List MemPlace),(∀ (j:Nat) t v,ts[j]? = some t→args[j]? = some v→Value.okWide P w .any 0 t v) →
  DataW.TrodAll enc P w 0 spare held ts args ds p → ∃ a,RdVs w (jF (aBb w)) (vs a) args
theorem aDk:Mx P [] fun _:Unit=>[]:=by
 intro H enc w spare held args ds p hv h;cases args with
 | nil=>exact ⟨(),by simp [RdVs]⟩
 | cons _ _=>cases ds<;>exact h.elim
theorem nU {ts:List TypeId} {v : α → V} {vs : β → List V} (h1:Ap P t v) (h2:Mx P ts vs):Mx P (t::ts) fun x : α × β => v x.1::vs x.2:=by
 intro H enc w spare held args ds p hv h;cases args with
 | nil=>cases ds<;>exact h.elim
 | cons u us =>
  cases ds with
  | nil=>exact h.elim
  | cons d ds =>
   obtain ⟨p1,p2,k1,k2,rfl⟩:=h;obtain ⟨a,ha⟩:=h1 enc w spare held u d p1 (hv 0 t u rfl rfl) k1;obtain ⟨b,hb⟩:=h2 enc w spare held us ds p2 (fun j t v ht hv'=>hv (j+1) t v (by simpa using ht) (by simpa using hv')) k2;exact ⟨(a,b),by simp only [RdVs];exact ⟨ha,hb⟩⟩
def aHq (P:Program) (ts:List TypeId):Bool:=ts.all fun t=>P.readableRec t&&decide (t<P.types.size)
theorem Ek {H:Type} {enc:TypeId×Value→H} (hl:laidOutB P=true) {W W':World} (hb:Below W.heap.size W W'):∀ {ts:List TypeId} {vs:List Value} {ds:List (DataW H)} {p:List MemPlace},aHq P ts=true →
  DataW.TrodAll enc P W 0 (fun _=>true) true ts vs ds p→DataW.TrodAll enc P W' 0 (fun b=>decide (b<W.heap.size)) true ts vs ds p
 | [],[],[],_,_,h=>h
 | t::ts,v::vs,d::ds,p,hk,h=>by
  obtain ⟨p1,p2,k1,k2,rfl⟩:=h;simp only [aHq,List.all_cons,Bool.and_eq_true,decide_eq_true_eq] at hk;refine ⟨p1,p2,Below.trod hl hk.1.1 hk.1.2 k1 hb ?_,Ek hl hb (by simpa [aHq] using hk.2) k2,rfl⟩;obtain ⟨m,hm⟩:=k1;exact DataW.trod_lt m _ _ _ hm
 | [],_::_,_,_,_,h=>h.elim
 | [],[],_::_,_,_,h=>h.elim
 | _::_,[],_,_,_,h=>h.elim
 | _::_,_::_,[],_,_,h=>h.elim
end
open Go.RowKit
theorem aNn {P:Program} {f:FuncId} {fn:Func} {s:ChangeSpec} {c:OpenClaim}
  (k1:c.wf (OpenSpec.ofChange s)=true) (k2:laidOutB P=true) (k3:mapsRowed P=true) (k4:fn.params.all (P.readableRec ·)=true) (k5:namedTie P c.named s.vars=true)
  (k6:(c.inPlace==P.inPlace f)=true) (k7:(c.unfollowed==P.unfollowed f)=true) (k8:(c.recurses==P.recurses f)=true) (k9:(c.named==P.varsNamed f)=true)
  (k10:(c.plainKeys==P.plainKeys)=true) (k11:P.stopsHeard=true) (k12:P.mayEnter=true) (k13:(c.lifted==P.liftsFinal)=true) (k14:(P.make==some c.make)=true) (k15:(c.pinned==c.pinnedBy)=true)
  (r1:((c.stops == [])&&(P.stops == [])&&(c.knobs == [])&&(P.stopKnobs == []))=true)
  (r2:(c.maps==(fn.params.toList++s.plain.varTypes P).any (P.mapsRec ·))=true) (r3:(c.ifaces==(fn.params.toList++s.plain.varTypes P).any (P.ifacesRec ·))=true) (r4:(c.mapsOut==P.mapsAmong fn.resultTypes.toList)=true)
  (r5:(c.loops==(fn.params.toList++s.plain.varTypes P).any (P.loopsFrom ·))=true) (r6:(c.wideKeys==(fn.params.toList++s.plain.varTypes P++fn.resultTypes.toList).any (P.wideKeysFrom ·))=true)
  (r7:s.vars.all (P.varReadable ·)=true) (r8:fn.resultTypes.all (fun t=>P.readableRec t&&decide (t<P.types.size))=true) (r9:(c.ifacesOut==fn.resultTypes.toList.any (P.ifacesRec ·))=true) (r10:(c.loopsOut==fn.resultTypes.toList.any (P.loopsFrom ·))=true)
  (r11:c.shortTexts.isNone=true) (r12:(c.kinds==(if c.domain.isEmpty then [] else fn.params.toList.map fun t=>match P.underlying t with | some (.int k)=>some k | _=>none))=true)
  (r13:(c.veiled==(fn.params.toList++s.plain.varTypes P++fn.resultTypes.toList).any (P.veiledRec ·))=true) (r14:c.veiledFits P fn.params.toList (fn.params.toList++s.plain.varTypes P++fn.resultTypes.toList)=true) :
  joinedFacts P f fn s c=true:=by
 simp only [Bool.and_eq_true] at r1;unfold joinedFacts;rw [k1,k2,k3,k4,k5,k6,k7,k8,k9,k10,k11,k12,k13,k14,k15,r1.1.1.1,r1.1.1.2,r1.1.2,r1.2,r2,r3,r4,r5,r6,r7,r8,r9,r10,r11,r13,r14];simp only [Bool.true_and,Bool.and_true];exact r12
open Go.RowKit
set_option maxRecDepth 4000
def SAny (P:Program) (ops:Array Oper) (Q:Exit→St→Prop) (f:Nat) (listed:Array Bool) (σ : St):Prop :=
 ∀ E a w,RelF E σ a w → ∀ E0 w0,Ext E0 w0 E w→wpAnyIn (Wd E.ro) 0 P .any ops (rD E0 w0 Q) f listed a w
section
variable {P:Program} {l:List Oper} {Q:Exit→St→Prop} {n0 m:Nat} {L:Log} {σT σ0:St} {rs:List Rec} {fT:Nat}
end
inductive RS where
 | op (i:Nat)
 | give (is:List Nat)
def RS.tree:List RS→OT
 | [] => .done
 | .op i::r => .step i (RS.tree r)
 | .give _::r=>RS.tree r
def aEn (K:St→Prop) (σ : St) (o:Option Heap):Prop :=
 match o with
 | some h=>K { σ with h:=Heap.res h h,fr:=V.ress h σ.fr }
 | none=>False
def opR (P:Program) (o:Option Oper) (σ : St) (K:St→Prop):Prop :=
 match o with
 | some o=>opG P o o.guard σ K
 | none=>False
where
 opG (P:Program) (o:Oper) (g:Option (Nat×Bool)) (σ : St) (K:St→Prop):Prop :=
  match g with
  | none=>uQ P σ o.dst o.op K
  | some _=>False
def Dk (P:Program) (l:List Oper) (K:St→Prop):List RS→St→Prop
 | [], σ => K σ
 | .op i::r, σ => opR P (l[i]?) σ (Dk P l K r)
 | .give is::r, σ => aEn (Dk P l K r) σ (giveL is σ.h)
@[go_sem] theorem rsteps_nil {P:Program} {l:List Oper} {K:St→Prop} {σ : St}:Dk P l K [] σ = K σ := rfl
@[go_sem] theorem rsteps_op {P:Program} {l:List Oper} {K:St→Prop} {σ : St} {i:Nat} {r:List RS}:Dk P l K (.op i::r) σ = opR P (l[i]?) σ (Dk P l K r):=rfl
@[go_sem] theorem rsteps_give {P:Program} {l:List Oper} {K:St→Prop} {σ : St} {is:List Nat} {r:List RS}:Dk P l K (.give is::r) σ = aEn (Dk P l K r) σ (giveL is σ.h):=rfl
attribute [go_sem] aEn opR opR.opG
open Go.RowKit
set_option maxRecDepth 4000
theorem aK6 {w:World} {E:Env}:∀ {xs:List T} {vs:List Value},RdVs w E (xs.map V.t) vs→RdTs w E.S xs vs
 | [],[],_=>trivial
 | x::xs,v::vs,h=>by
  simp only [List.map_cons,RdVs] at h;exact ⟨by have:=h.1;simpa only [RdV] using this,aK6 h.2⟩
 | [],_::_,h=>by simp only [List.map_nil,RdVs] at h
 | _::_,[],h=>by simp only [List.map_cons,RdVs] at h
def rowsT:List (List V)→Option (List (List T))
 | []=>some []
 | x::r=>rowsU (tCells x) (rowsT r)
where
 rowsU (a:Option (List T)) (b:Option (List (List T))):Option (List (List T)) :=
  match a,b with
  | some a,some b=>some (a::b)
  | _,_=>none
theorem Ny:∀ {x:List V} {a:List T},tCells x=some a→x=a.map V.t
 | [],a,h=>by
  simp only [tCells] at h;injection h with h;subst h;rfl
 | v::x,a,h=>by
  cases v with
  | t y =>
   simp only [tCells] at h;cases e:tCells x with
   | none=>rw [e] at h;cases h
   | some b =>
    rw [e] at h;injection h with h;subst h;rw [List.map_cons,Ny e]
  | _=>simp only [tCells] at h;cases h
theorem Wh:∀ {xs:List (List V)} {rows:List (List T)},rowsT xs=some rows→xs=aL rows
 | [],rows,h=>by
  injection h with h;subst h;rfl
 | x::xs,rows,h=>by
  unfold rowsT rowsT.rowsU at h;split at h
  ·rename_i a b h1 h2;injection h with h;subst h;rw [Ny h1,Wh h2];rfl
  ·cases h
def bsQ (k:Nat) (d:List T) (σ : St) (dst:Option Tmp) (K:St→Prop) (r:Option (List (List T))):Prop :=
 match r with
 | some rows=>K (σ.put dst (.t (.list k d rows)))
 | none=>False
def bsB (σ : St) (dst:Option Tmp) (K:St→Prop) (b:Blk):Prop :=
 match b with
 | .row _ k d xs=>bsQ k d σ dst K (rowsT xs)
 | _=>False
def bsG (l:List Oper) (σ : St) (g:Option (Nat×Bool)):Prop :=
 match g with
 | none=>True
 | some (j,want)=>mB l σ j want=some true
def bsC (P:Program) (l:List Oper) (σ : St) (o:Oper) (K:St→Prop):Prop:=bsG l σ o.guard∧kR (yG P σ o.op) (bsB σ o.dst K)
theorem aLs {P:Program} {l:List Oper} {σ : St} {o:Oper} {K:St→Prop} (h:bsC P l σ o K):∃ p e k d rows,yG P σ o.op=some (p, .row e k d (aL rows))∧p∧bsG l σ o.guard∧K (σ.put o.dst (.t (.list k d rows))):=by
 obtain ⟨hg,h⟩:=h;cases hr:yG P σ o.op with
 | none=>rw [hr] at h;exact h.elim
 | some pb =>
  obtain ⟨p,b⟩:=pb;rw [hr] at h;obtain ⟨hp,h⟩:=h;unfold bsB at h;split at h
  ·rename_i e k d xs;unfold bsQ at h;split at h
   ·rename_i rows hx;rw [Wh hx];exact ⟨p,e,k,d,rows,rfl,hp,hg,h⟩
   ·exact h.elim
  ·exact h.elim
theorem aPx {P:Program} {ops:List Oper} {n0 i:Nat} {o:Oper} {σ : St} {p:Prop} {e k:Nat} {d:List T} {rows:List (List T)} (hg:bsG ops σ o.guard) (h:yG P σ o.op=some (p, .row e k d (aL rows))) (hp:p) {M:List (Nat×Bool)} :
  Vld P ops n0 i o σ ⟨o.dst, .t (.list k d rows), .none⟩ M:=by
 refine ⟨rfl,fun t blk h=>(by rcases h with h | ⟨_,h⟩<;>cases h),fun σ' hnx hev hh hgs E a w next Q hr hlt hnU hn=>?_⟩;have h2:=aKr (o:=o) (σ := σ') (by rw [Xf hev];exact h) hp;have hw:Region.wanted o (yielded ops.toArray a.tmps)=true:=by
  cases hgd:o.guard with
  | none=>simp [Region.wanted,hgd]
  | some jw =>
   obtain ⟨j,want⟩:=jw;rw [hgd] at hg;refine zZ hr hgd ?_;rw [← show mB ops σ j want=some true from hg];unfold mB;split
   ·rename_i t ht;have:=hgs j want hgd t ht;simp only [St.ev] at this;rw [this]
   ·rfl
 unfold OW;rw [if_pos hw];obtain ⟨hv,w',hrun,hb,hone,hnew,hblk⟩:=h2.2 E a w hr;obtain ⟨k1,k2⟩:=hr.later (S':=fun b=>E.S b∨aU hv=some b) hb (fun _ h => .inl h) (fun b hb=>hb.imp id fun q=>(hnew b q).1) (fun b hb'=>by
  rcases hb' with hb' | hb'
  ·exact Nat.lt_of_lt_of_le (hr.rel.slt b hb') hb.size
  ·exact (hnew b hb').2)
 have hT:RdT w' (fun b=>E.S b∨aU hv=some b) (.list k d rows) hv:=by
  obtain ⟨cells,q1,q2,q3,q4⟩:=hblk _ k2;have e1:(aL rows).flatten=rows.flatten.map V.t:=by
   unfold aL;rw [List.map_flatten]
  rw [e1] at q2;refine Ay (S:=fun b=>E.S b∨aU hv=some b) (e:=e) (by simpa [aL] using q1) (aK6 q2) (fun x hx=>?_) (fun _ h=>h) (fun b hb => .inr hb);have:=q3 (x.map V.t) (by unfold aL;exact List.mem_map_of_mem hx);rwa [List.length_map] at this
 refine ⟨?_,fun c hc=>by rw [hc] at h;simp [yG] at h⟩;unfold Oper.wp;rw [hrun];exact hn _ w' _ (σ'.put o.dst (.t (.list k d rows))) dA (fun q=>by rw [eU];rfl) dB fZ (k1.put o.dst (by simp only [RdV];exact hT)) k2 fun q hq => .inl hq
def Vu (P:Program) (l:List Oper) (n0 i:Nat) (σ : St) (o:Oper) (b:Bool) (K:CK→St→Prop):Prop :=
 match b with
 | true=>bsC P l σ o (K .new)
 | false=>wC P l n0 i σ o.dst o.op o.guard (ckind P o.op o.guard) (K (ckind P o.op o.guard))
def Th (P:Program) (pu:List Nat) (l:List Oper) (n0:Nat) (fin:St→Prop):Nat→List Oper→Log→St→Prop
 | _,[],L, σ => Gr l n0 L=true∧fin σ
 | i,o::os,L, σ => Vu P l n0 i σ o (pu.contains i) (fun k=>Th P pu l n0 fin (i+1) os (eX i σ k (kB o.op) L))
theorem kF {P:Program} {pu:List Nat} {l:List Oper} {n0:Nat} {fin:St→Prop}:∀ (os:List Oper) (i:Nat) (L0:Log) (σ : St),Th P pu l n0 fin i os L0 σ → ∃ L rs σ',(∀ e∈L0,e∈L)∧Lv P l n0 L σ' i os rs σ ∧ Gr l n0 L=true∧fin σ'
 | [],i,L0, σ,h=>⟨L0,[], σ,fun _ h=>h,⟨rfl,rfl⟩,h.1,h.2⟩
 | o::os,i,L0, σ,h=>by
  have h:Vu P l n0 i σ o (pu.contains i) (fun k=>Th P pu l n0 fin (i+1) os (eX i σ k (kB o.op) L0)):=h;unfold Vu at h;split at h
  ·obtain ⟨p,e,k,d,rows,hr,hp,hg,hK⟩:=aLs h;obtain ⟨L,rs, σ',hsub,hS,hc,hf⟩:=kF os (i+1) _ _ hK;exact ⟨L,_, σ',fun e he=>hsub e (fL he),⟨_,rs, σ.put o.dst (.t (.list k d rows)),eE i L,rfl,aPx hg hr hp,fun e he=>bM.1 he,dA,fun q=>by rw [eU];rfl,dB,fZ,hS⟩,hc,hf⟩
  unfold wC at h;cases hk:ckind P o.op o.guard with
  | bad=>rw [hk] at h;exact h.elim
  | look =>
   rw [hk] at h;dsimp only at h;have hm:=Ef hk;obtain ⟨y,hK,hst⟩:=nT hm h;obtain ⟨L,rs, σ',hsub,hS,hc,hf⟩:=kF os (i+1) _ _ hK;have h2:dN P l σ o.dst o.op o.guard (fun s=>s = σ.put o.dst y):=hst σ (fun _ _=>rfl) (fun _ _ _ _ _ h=>h) (fun _ _ _ _ _=>rfl) _ rfl;obtain ⟨y',hy',hV⟩:=Ng (n0:=n0) (i:=i) (M:=eE i L) hm h2 (aHg hm hsub);refine ⟨L,_, σ',fun e he=>hsub e (fL he),⟨_,rs, σ.put o.dst y',eE i L,rfl,hV,fun e he=>bM.1 he,dA,fun q=>by rw [eU];rfl,dB,fZ,?_⟩,hc,hf⟩;rw [hy'];exact hS
  | new =>
   rw [hk] at h;dsimp only at h;have hg:=Jp hk;cases hr:yG P σ o.op with
   | none=>rw [hr] at h;exact h.elim
   | some pb =>
    obtain ⟨p,blk⟩:=pb;rw [hr] at h;obtain ⟨hp,hK⟩:=h;obtain ⟨L,rs, σ',hsub,hS,hc,hf⟩:=kF os (i+1) _ _ hK;have hV:Vld P l n0 i o σ ⟨o.dst, .own (n0+i), .new blk⟩ (eE i L):=Zg hg hr hp;refine ⟨L,_, σ',fun e he=>hsub e (fL he),⟨_,rs,({ σ with h:=(n0+i,blk) :: σ.h }:St).put o.dst (.own (n0+i)),eE i L,rfl,hV,fun e he=>bM.1 he,dA,fun q=>?_,dB,fZ,hS⟩,hc,hf⟩;rw [eU];simp only [Heap.look,tch];split<;>rfl
  | box =>
   rw [hk] at h;dsimp only at h;have hg:=Jq hk;obtain ⟨f,args,tys,ho⟩:∃ f args tys,o.op = .call { callee := .value (.func f),args:=args,argTypes:=tys }:=by
    unfold aU9 at h;split at h
    ·rename_i ho;exact ⟨_,_,_,ho⟩
    ·exact h.elim
   rw [ho] at h;have h:dC true (args.toList.map σ.ev) fun xs=>Gz P (n0+i) σ o.dst f xs _:=h
   obtain ⟨ys,h1,hys⟩:=eJ h;obtain ⟨t,cs,al,y,e,h2,hxs,hl,hp,ha,hB,hK⟩:=h1;obtain ⟨L,rs, σ',hsub,hS,hc,hf⟩:=kF os (i+1) _ _ hK;have hsub':∀ e∈eX i σ .box (kB o.op) L0,e∈L:=by rw [ho];exact hsub
   have h3:dC true (args.toList.map σ.ev) fun xs=>Gz P (n0+i) σ o.dst f xs (fun s=>s=(({ σ with h:=h2 }:St).put o.dst y)):=hys _ ⟨t,cs,al,y,e,h2,hxs,hl,hp,ha,hB,rfl⟩
   obtain ⟨y',e',h2',hy',hlk,hV⟩:=Zh (n0:=n0) (i:=i) (M:=eE i L) (ops:=l) hg ho h3 (fun x rr hal q hq=>by
    refine bM.2 (hsub' _ ?_);obtain ⟨t,rfl,ht⟩:=qJ hq;have:kB o.op = .tmp t::rr:=by rw [ho];exact hal
    rw [this,aAq];exact bX _ _ (.inr ⟨t,by simp,q,ht,rfl⟩))
   refine ⟨L,_, σ',fun e he=>hsub e (fL he),⟨_,rs,({ σ with h:=h2' }:St).put o.dst y',eE i L,rfl,hV,fun e he=>bM.1 he,dA,fun q=>?_,dB,fZ,by rw [hy'];exact hS⟩,hc,hf⟩;rw [eU];exact hlk q
  | store =>
   rw [hk] at h;dsimp only at h;have hg:=Af hk;obtain ⟨t,p,x,ho,hd⟩:∃ t p x,o.op = .store t p x∧o.dst=none:=by
    unfold storeC at h;split at h
    ·rename_i ho hd;exact ⟨_,_,_,ho,hd⟩
    ·exact h.elim
   rw [ho,hd] at h;have h:kR (rG P σ t p x) (storeC.kSt σ _):=h;cases hr:rG P σ t p x with
   | none=>rw [hr] at h;exact h.elim
   | some pb =>
    obtain ⟨pp,ib⟩:=pb;rw [hr] at h;obtain ⟨hp,hK⟩:=h;obtain ⟨L,rs, σ',hsub,hS,hc,hf⟩:=kF os (i+1) _ _ hK;have hsub':∀ e∈eX i σ .store [p] L0,e∈L:=hsub;obtain ⟨⟨old,hold⟩,hV⟩:=Ha (n0:=n0) (i:=i) (ops:=l) (M:=eE i L) hg hd ho hr hp (fun q hq=>by
     refine bM.2 (hsub' _ ?_);obtain ⟨t,rfl,ht⟩:=qJ hq;rw [Jb];exact bX _ _ (.inr ⟨t,by simp,q,ht,rfl⟩))
    refine ⟨L,_, σ',fun e he=>hsub' e (fL he),⟨_,rs, { σ with h := σ.h.set ib.1 ib.2 },eE i L,rfl,hV,fun e he=>bM.1 he,rfl,fun q=>?_,rfl,rfl,hS⟩,hc,hf⟩;show (σ.h.set ib.1 ib.2).look q=_
    rw [Heap.look_set _ _ _ hold];simp only [tch];split<;>rfl
  | app =>
   rw [hk] at h;dsimp only at h;have hg:=Jr hk;obtain ⟨s,x,t,t2,ht2,ho⟩:∃ s x t t2,rQ P t t2∧o.op = .call { callee := .builtin .append,args := #[s,x],argTypes := #[t,t2] }:=by
    unfold appC at h;split at h
    ·rename_i args tys ho;unfold appC.apL at h;split at h
     ·rename_i s x t t' hx ht;obtain ⟨ht2,_⟩:=h;have ha:args = #[s,x]:=by apply Array.ext';simpa using hx
      have hb:tys = #[t,t']:=by apply Array.ext';simpa using ht
      exact ⟨s,x,t,t',ht2,by rw [ho,ha,hb]⟩
     ·exact h.elim
    ·exact h.elim
   rw [ho] at h;have h:rQ P t t2∧kR (Uw P σ (P.elemT t) s x) (appC.kApp n0 i σ o.dst _):=h;cases hr:Uw P σ (P.elemT t) s x with
   | none=>rw [hr] at h;exact h.2.elim
   | some pb =>
    obtain ⟨pp,tb⟩:=pb;rw [hr] at h;obtain ⟨_,hp,hK⟩:=h;obtain ⟨L,rs, σ',hsub,hS,hc,hf⟩:=kF os (i+1) _ _ hK;have hsub':∀ e∈eX i σ .app [s,x] L0,e∈L:=hsub;have hV:Vld P l n0 i o σ ⟨o.dst, .own (n0+i),Mh tb.1 tb.2⟩ (eE i L):=Zj hg ht2 ho hr hp (fun q hq=>by
     refine bM.2 (hsub' _ ?_);obtain ⟨t,rfl,ht⟩:=qJ hq;rw [aAr];exact bX _ _ (.inr ⟨t,by simp,q,ht,rfl⟩)) (fun q hq=>by
     obtain ⟨u,hu⟩:=Fw (k := .app) (L:=L0) (l:=[s,x]) (by simp:x ∈ [s,x]) hq (i:=i);exact List.mem_map.2 ⟨(q,u),bM.2 (hsub' _ hu),rfl⟩)
    refine ⟨L,_, σ',fun e he=>hsub' e (fL he),⟨_,rs,({ σ with h:=(n0+i,tb.2)::Ee σ.h tb.1 }:St).put o.dst (.own (n0+i)),eE i L,rfl,hV,fun e he=>bM.1 he,dA,fun q=>?_,dB,fZ,hS⟩,hc,hf⟩;rw [eU];simp only [Heap.look];cases htb:tb.1 with
    | none =>
     simp only [Mh,tch,Ee];split<;>rfl
    | some q' =>
     simp only [Mh,tch,Ee];rw [Heap.look_del];split
     ·rfl
     ·split<;>rfl
theorem aF3 {P:Program} {n0 id:Nat} {l:List Oper} {Q:Exit→St→Prop} {σ : St} (pu:List Nat) (m:Nat) (t:OT) (hm:P.follows .mixedOrders=true) (hS:aTb l m=true)
  (hT:jV l.toArray (l.length - m) (gX (List.range m) (Array.replicate l.length false)) t true=true) (hlen:m≤l.length)
  (h:Th P pu l σ.nx (jU P l (Q .normal) t) 0 (l.take m) [] { σ with nx := σ.nx+m }):Lw P n0 id l.toArray Q σ := by
 intro E a w hr E0 w0 hU hE;refine wpIn_region_any hm ?_;have inv:HeadInv .any l.toArray l.toArray.size (Array.replicate l.length false):=by
  have:=mJ (ops:=l.toArray) (md := .any);simpa using this
 obtain ⟨L,rs, σT,_,hSt,hc,hf⟩:=kF _ _ _ _ h;have hdr:RelF E σ a { w with drawn:=w.drawn+1 }∧Ext E0 w0 E { w with drawn:=w.drawn+1 }:=by
  have hb:Below w.heap.size w { w with drawn:=w.drawn+1 }:=⟨rfl,rfl,rfl,Nat.le_refl _,fun _ _=>rfl⟩
  obtain ⟨k1,k2⟩:=hr.later hb (fun _ h=>h) (fun b hb => .inl hb) (fun b hb'=>hr.rel.slt b hb');exact ⟨k1,hE.trans k2⟩
 obtain ⟨hr1,hE1⟩:=hdr;have hr2:RelF E { σ with nx := σ.nx+m } a { w with drawn:=w.drawn+1 }:=⟨hr1.rel,fun i hi=>by have:=hr1.bound i hi;show i < σ.nx+m;omega,hr1.fr,hr1.defers⟩
 have hlenT:(l.take m).length=m:=by rw [List.length_take];omega
 have:=Te (Q:=Q) (fT:=l.length - m) hSt rfl hc hS hlen (fun listed hs hl=>by
  rw [xN hs hl];exact (wP _ t _ σT true hT hf).2 rfl) l.length (List.range m) (Array.replicate l.length false) { σ with nx := σ.nx+m } E a _ (by simp;omega) List.nodup_range (fun i=>by
   rw [List.mem_range,getD_replicate_false];simp) (fun i _=>getD_replicate_false _ _) inv (by
   rw [Gg];intro j hj;exact getD_replicate_false _ _) (fun q=>by
   rw [Bk];intro j r hj hX;rw [getD_replicate_false] at hX;cases hX) rfl rfl hr2 (fun q hq => .inl (hr1.bound q hq)) E0 w0 hE1
 simpa using this
section
variable {P:Program} {pu:List Nat} {l:List Oper} {n0 i:Nat} {fin:St→Prop} {L:Log} {σ : St}
@[go_sem] theorem cRunP_nil:Th P pu l n0 fin i [] L σ = (Gr l n0 L=true∧fin σ):=rfl
@[go_sem] theorem cRunP_cons {o:Oper} {os:List Oper}:Th P pu l n0 fin i (o::os) L σ = Vu P l n0 i σ o (pu.contains i) (fun k=>Th P pu l n0 fin (i+1) os (eX i σ k (kB o.op) L)):=rfl
@[go_sem] theorem stepP_true {o:Oper} {K:CK→St→Prop}:Vu P l n0 i σ o true K=bsC P l σ o (K .new):=rfl
@[go_sem] theorem stepP_false {o:Oper} {K:CK→St→Prop}:Vu P l n0 i σ o false K=wC P l n0 i σ o.dst o.op o.guard (ckind P o.op o.guard) (K (ckind P o.op o.guard)):=rfl
@[go_sem] theorem rowsT_t (xs:List (List T)):rowsT (aL xs)=some xs:=by
 induction xs with
 | nil=>rfl
 | cons x xs ih =>
  unfold aL at ih ⊢;rw [List.map_cons,rowsT,ih];have:∀ x:List T,tCells (x.map V.t)=some x:=fun x=>by
   induction x with
   | nil=>rfl
   | cons a x ih=>rw [List.map_cons];simp only [tCells,ih,Option.map_some]
  rw [this];rfl
end
attribute [go_sem] bsC bsG bsB bsQ rowsT rowsT.rowsU List.contains_cons List.contains_nil
open Go.RowKit
set_option maxRecDepth 4000
theorem semS_io {P:Program} {ops:List Oper} {Q:Exit→St→Prop} {o:Oper} {r:List Oper} {σ : St} {f:FuncId} {args:Array Operand} {tys:Array TypeId} (hg:o.guard=none) (ho:o.op = .call { callee := .value (.func f),args:=args,argTypes:=tys })
  (h:dC true (args.toList.map σ.ev) fun xs=>ICall P σ o.dst f xs (Lx P ops Q r)):Lx P ops Q (o::r) σ := by
 intro E a w hr E0 w0 hE;unfold wpListIn;have hw:Region.wanted o (yielded ops.toArray a.tmps)=true:=by simp [Region.wanted,hg]
 rw [if_pos hw];have hi:OpI P o σ (Lx P ops Q r):=sV (.inr fun c hc=>by rw [ho] at hc;cases hc) (Fd ho h);exact hi E a w hr _ _ fun a' w' E' σ' h1 h2 h3=>by
  have:=h3 E' a' w' h1 E0 w0 (hE.trans h2);rwa [h2.ro] at this
open Go.RowKit
set_option maxRecDepth 4000
def gopR (P:Program) (l:List Oper) (o:Option Oper) (σ : St) (K:St→Prop):Prop :=
 match o with
 | some o=>gopG P l o o.guard σ K
 | none=>False
where
 gopG (P:Program) (l:List Oper) (o:Oper) (g:Option (Nat×Bool)) (σ : St) (K:St→Prop):Prop :=
  match g with
  | none=>uQ P σ o.dst o.op K
  | some (j,want)=>mB l σ j want=some true∧uQ P σ o.dst o.op K
def Ec (P:Program) (l:List Oper) (K:St→Prop):List RS→St→Prop
 | [], σ => K σ
 | .op i::r, σ => gopR P l (l[i]?) σ (Ec P l K r)
 | .give is::r, σ => aEn (Ec P l K r) σ (giveL is σ.h)
@[go_sem] theorem gsteps_nil {P:Program} {l:List Oper} {K:St→Prop} {σ : St}:Ec P l K [] σ = K σ := rfl
@[go_sem] theorem gsteps_op {P:Program} {l:List Oper} {K:St→Prop} {σ : St} {i:Nat} {r:List RS}:Ec P l K (.op i::r) σ = gopR P l (l[i]?) σ (Ec P l K r):=rfl
@[go_sem] theorem gsteps_give {P:Program} {l:List Oper} {K:St→Prop} {σ : St} {is:List Nat} {r:List RS}:Ec P l K (.give is::r) σ = aEn (Ec P l K r) σ (giveL is σ.h):=rfl
attribute [go_sem] gopR gopR.gopG
open Go.RowKit
set_option maxRecDepth 4000
def apC (P:Program) (l:List Oper) (n0 i:Nat) (σ : St) (o:Oper) (K:St→Prop):Prop :=
 bsG l σ o.guard∧apO P n0 i σ o.dst o.op K
where
 apT (n0 i:Nat) (σ : St) (d:Option Tmp) (K:St→Prop) (old:Option Nat) (k:Nat) (dd:List T) (r:Option (List (List T))):Prop :=
  match r with
  | some rows=>K (({ σ with h:=(n0+i, .shr (.list k dd rows))::Ee σ.h old }:St).put d (.t (.list k dd rows)))
  | none=>False
 apB (n0 i:Nat) (σ : St) (d:Option Tmp) (K:St→Prop) (old:Option Nat) (b:Blk):Prop :=
  match b with
  | .row _ k dd xs=>apT n0 i σ d K old k dd (rowsT xs)
  | _=>False
 apP (n0 i:Nat) (σ : St) (d:Option Tmp) (K:St→Prop) (tb:Option Nat×Blk):Prop:=apB n0 i σ d K tb.1 tb.2
 apL (P:Program) (n0 i:Nat) (σ : St) (d:Option Tmp) (args:List Operand) (tys:List TypeId) (K:St→Prop):Prop :=
  match args,tys with
  | [s,x],[t,t']=>rQ P t t'∧kR (Uw P σ (P.elemT t) s x) (apP n0 i σ d K)
  | _,_=>False
 apO (P:Program) (n0 i:Nat) (σ : St) (d:Option Tmp) (op:Op) (K:St→Prop):Prop :=
  match op with
  | .call { callee := .builtin .append,args,argTypes }=>apL P n0 i σ d args.toList argTypes.toList K
  | _=>False
def aRq (pu pa:List Nat) (i:Nat):Nat:=if pu.contains i=true then 1 else if pa.contains i=true then 2 else 0
def aC3 (P:Program) (l:List Oper) (n0 i:Nat) (σ : St) (o:Oper) (m:Nat) (K:CK→St→Prop):Prop :=
 match m with
 | 1=>bsC P l σ o (K .new)
 | 2=>apC P l n0 i σ o (K .app)
 | _=>wC P l n0 i σ o.dst o.op o.guard (ckind P o.op o.guard) (K (ckind P o.op o.guard))
def aLg (P:Program) (pu pa:List Nat) (l:List Oper) (n0:Nat) (fin:St→Prop):Nat→List Oper→Log→St→Prop
 | _,[],L, σ => Gr l n0 L=true∧fin σ
 | i,o::os,L, σ => aC3 P l n0 i σ o (aRq pu pa i) (fun k=>aLg P pu pa l n0 fin (i+1) os (eX i σ k (kB o.op) L))
section
variable {P:Program} {pu pa:List Nat} {l:List Oper} {n0 i:Nat} {fin:St→Prop} {L:Log} {σ : St}
@[go_sem] theorem cRunQ_nil:aLg P pu pa l n0 fin i [] L σ = (Gr l n0 L=true∧fin σ):=rfl
@[go_sem] theorem cRunQ_cons {o:Oper} {os:List Oper}:aLg P pu pa l n0 fin i (o::os) L σ = aC3 P l n0 i σ o (aRq pu pa i) (fun k=>aLg P pu pa l n0 fin (i+1) os (eX i σ k (kB o.op) L)):=rfl
@[go_sem] theorem stepQ_1 {o:Oper} {K:CK→St→Prop}:aC3 P l n0 i σ o 1 K=bsC P l σ o (K .new):=rfl
@[go_sem] theorem stepQ_2 {o:Oper} {K:CK→St→Prop}:aC3 P l n0 i σ o 2 K=apC P l n0 i σ o (K .app):=rfl
@[go_sem] theorem stepQ_0 {o:Oper} {K:CK→St→Prop}:aC3 P l n0 i σ o 0 K=wC P l n0 i σ o.dst o.op o.guard (ckind P o.op o.guard) (K (ckind P o.op o.guard)):=rfl
end
attribute [go_sem] aRq apC apC.apO apC.apL apC.apP apC.apB apC.apT
open Go.RowKit
set_option maxRecDepth 4000
def copyE (P:Program) (σ : St) (t:TypeId) (s x:V) (K:St→V→Prop):Prop :=
 copyA (P.elemT t)
where
 copyC (i kk lo hi e k:Nat) (blk:Option Blk) (src:Option (List T×List (List V))):Prop :=
  match blk,src with
  | some (.row e' k' d xs),some (_,ys)=>e'=e∧k'=k∧kk=k∧0<ys.length∧lo+ys.length≤hi∧K { σ with h := σ.h.set i (.row e' k' d (xs.take lo++ys++xs.drop (lo+ys.length))) } (aC ys.length)
  | _,_=>False
 copyS (e k:Nat) (s:V):Prop :=
  match s with
  | .rsl i kk lo hi=>copyC i kk lo hi e k (σ.h.look i) (Dg σ.h k x)
  | _=>False
 copyB (e:Nat) (k:Option Nat):Prop :=
  match k with
  | some k=>copyS e k s
  | none=>False
 copyA (e:Option TypeId):Prop :=
  match e with
  | some e=>copyB e (P.szT e)
  | none=>False
def lastC (P:Program) (o:Option Oper) (σ : St) (K:St→Prop):Prop :=
 match o with
 | some o=>lastG o o.guard o.op
 | none=>False
where
 lastL (o:Oper) (args:List Operand) (tys:List TypeId):Prop :=
  match args,tys with
  | [s,x],[t,_]=>cS true (σ.ev s) fun s'=>cS true (σ.ev x) fun x'=>copyE P σ t s' x' fun σ' v=>K (σ'.put o.dst v)
  | _,_=>False
 lastO (o:Oper) (op:Op):Prop :=
  match op with
  | .call { callee := .builtin .copy,args,argTypes }=>lastL o args.toList argTypes.toList
  | _=>False
 lastG (o:Oper) (g:Option (Nat×Bool)) (op:Op):Prop :=
  match g with
  | none=>lastO o op
  | some _=>False
attribute [go_sem] lastC lastC.lastG lastC.lastO lastC.lastL copyE copyE.copyA copyE.copyB copyE.copyS copyE.copyC
open Go.RowKit
set_option maxRecDepth 4000
theorem RelF.giveT2 {w:World} {E:Env} {σ : St} {a:Act} {i:Nat} {blk:Blk} {hv:Value} {t:T} (hr:RelF E σ a w) (hl : σ.h.look i=some blk) (hB:E.B i=some hv) (hT:RdT w (fun b=>E.S b∨aU hv=some b) t hv) :
  ∃ E',RelF E' { σ with h := σ.h.set i (.shr t) } a w∧Ext E w E' w∧(∀ q,E'.U q→E.U q)∧E'.F i=some hv ∧ ∀ b,E.S b∨aU hv=some b→E'.S b:=by
 let E':Env := { S:=fun b=>E.S b∨aU hv=some b,B:=fun j=>if j=i then none else E.B j,U:=E.U,D:=E.D,F:=fun j=>if j=i then some hv else E.F j,ro:=E.ro }
 have hUi:E.U i:=(hr.rel.dom i hv hB).1;have hE:Ext E w E' w:=by
  refine ⟨rfl,rfl,rfl,Nat.le_refl _,fun _ _=>rfl,fun b hb => .inl hb,fun b hb=>?_,fun _ => .rfl,fun _ h=>h,fun j hj v hv'=>?_,fun j hj v hv'=>?_,rfl⟩
  ·rcases hb with hb | hb
   ·exact .inl hb
   ·exact .inr (hr.rel.own i hv b hB hb).2.2
  ·simp only [E'] at hv';split at hv'
   ·cases hv'
   ·exact hv'
  ·simp only [E',Env.Is] at hv'
   by_cases hji:j=i
   ·subst hji;simp only [if_true,reduceCtorEq,false_or,Option.some.injEq] at hv';subst hv';exact .inl hB
   ·simp only [if_neg hji] at hv';exact hv'
 refine ⟨E',⟨⟨fun j blk hlj=>?_,fun j v hBj=>?_,fun j v hFj=>?_,fun j v b hBj hbk=>?_,fun p q vp vq b hBp hBq hbp hbq=>?_,fun b hb=>?_,hr.rel.dlt⟩,hr.bound,hE.rdVs _ hr.fr,hE.defs hr.defers⟩,hE,fun _ h=>h,by simp [E'],fun b hb=>hb⟩
 ·rw [Heap.look_set _ _ _ hl] at hlj;split at hlj
  ·rename_i hji;injection hlj with hlj;subst hlj;exact ⟨hv,by simp [E',Env.at,hji],hT⟩
  ·rename_i hji;obtain ⟨v,hat,hrel⟩:=hr.rel.has j blk hlj;refine ⟨v,?_,hrel.keep hE fun _ _=>rfl⟩;cases blk<;>simpa [E',Env.at,hji] using hat
 ·simp only [E'] at hBj;split at hBj
  ·cases hBj
  ·rename_i hji;obtain ⟨q1,q2⟩:=hr.rel.dom j v hBj;refine ⟨q1,?_⟩;rw [Heap.look_set _ _ _ hl,if_neg hji];exact q2
 ·simp only [E'] at hFj ⊢
  by_cases hji:j=i
  ·subst hji;exact ⟨hUi,by simp⟩
  ·simp only [if_neg hji] at hFj ⊢;exact hr.rel.domF j v hFj
 ·simp only [E'] at hBj ⊢;split at hBj
  ·cases hBj
  ·rename_i hji;obtain ⟨q1,q2,q3⟩:=hr.rel.own j v b hBj hbk;refine ⟨q1,fun hs=>?_,q3⟩;rcases hs with hs | hs
   ·exact q2 hs
   ·exact hji (hr.rel.apart j i v hv b hBj hB hbk hs)
 ·simp only [E'] at hBp hBq;split at hBp
  ·cases hBp
  ·split at hBq
   ·cases hBq
   ·exact hr.rel.apart p q vp vq b hBp hBq hbp hbq
 ·rcases hb with hb | hb
  ·exact hr.rel.slt b hb
  ·exact (hr.rel.own i hv b hB hb).1
mutual
def V.gbx (i:Nat) (ts:List T):V→V
 | .own j=>if j=i then .elem ts.length ts [ts] 0 0 else .own j
 | .ptr j off=>if j=i then .elem ts.length ts [ts] 0 off else .ptr j off
 | .agg cs => .agg (V.gbxs i ts cs)
 | .tup cs => .tup (V.gbxs i ts cs)
 | .clo f cs => .clo f (V.gbxs i ts cs)
 | x=>x
def V.gbxs (i:Nat) (ts:List T):List V→List V
 | []=>[]
 | x::xs=>V.gbx i ts x::V.gbxs i ts xs
end
def GbOk (w:World) (E:Env) (i:Nat) (ts:List T):Prop := ∃ b,(∀ hv,E.Is i hv→hv = .pointer (some ⟨b,0,none⟩))∧(∃ hv,E.Is i hv)∧RdT w E.S (.list ts.length ts [ts]) (.slice (some ⟨b,0,none⟩) 1 1)
mutual
theorem RdV.gbx {w:World} {E:Env} {i:Nat} {ts:List T} (hg:GbOk w E i ts):∀ (x:V) {v:Value},RdV w E x v→RdV w E (x.gbx i ts) v
 | .own j,v,hx=>by
  unfold V.gbx;split
  ·rename_i hji;subst hji;obtain ⟨b,h1,⟨hv,h2⟩,h3⟩:=hg;simp only [RdV] at hx ⊢;have e1:=hx.2.2 hv h2;have e2:=h1 hv h2;subst e1 e2;exact ⟨b,0,1,h3,by simp,by simp⟩
  ·exact hx
 | .ptr j off,v,hx=>by
  unfold V.gbx;split
  ·rename_i hji;subst hji;obtain ⟨b,h1,⟨hv,h2⟩,h3⟩:=hg;simp only [RdV] at hx ⊢;obtain ⟨b',e1,e2⟩:=hx.2.2 hv h2;have e3:=h1 hv h2;rw [e3] at e1;injection e1 with e1;injection e1 with e1;injection e1 with e1;subst e1 e2;exact ⟨b,0,1,h3,by simp,by simp⟩
  ·exact hx
 | .agg cs,v,hx=>by
  simp only [V.gbx,RdV] at hx ⊢;obtain ⟨vs,hv,h1,h2⟩:=hx;exact ⟨vs,hv,RdVs.gbx hg cs h1,h2⟩
 | .tup cs,v,hx=>by
  simp only [V.gbx,RdV] at hx ⊢;obtain ⟨vs,hv,h1⟩:=hx;exact ⟨vs,hv,RdVs.gbx hg cs h1⟩
 | .clo f cs,v,hx=>by
  simp only [V.gbx,RdV] at hx ⊢;obtain ⟨vs,hv,h1⟩:=hx;exact ⟨vs,hv,RdVs.gbx hg cs h1⟩
 | .t x,v,hx=>by simpa only [V.gbx] using hx
 | .rptr i k n j,v,hx=>by simpa only [V.gbx] using hx
 | .rsl i k n j,v,hx=>by simpa only [V.gbx] using hx
 | .elem k d xs i j,v,hx=>by simpa only [V.gbx] using hx
 | .cond g x,v,hx=>by simpa only [V.gbx] using hx
 | .dead,v,hx=>by simpa only [V.gbx] using hx
theorem RdVs.gbx {w:World} {E:Env} {i:Nat} {ts:List T} (hg:GbOk w E i ts):∀ (xs:List V) {vs:List Value},RdVs w E xs vs→RdVs w E (V.gbxs i ts xs) vs
 | [],[],_=>by simp only [V.gbxs,RdVs]
 | x::xs,v::vs,hx=>by
  simp only [V.gbxs,RdVs] at hx ⊢;exact ⟨RdV.gbx hg x hx.1,RdVs.gbx hg xs hx.2⟩
 | [],_::_,h=>by simp only [RdVs] at h
 | _::_,[],h=>by simp only [RdVs] at h
end
def gbxT (h:Heap) (b:Option Blk):Option (List T) :=
 match b with
 | some (.box cs)=>lendCs (pB h) cs
 | _=>none
theorem RelF.gbx {w:World} {E:Env} {σ : St} {a:Act} {i:Nat} {ts:List T} (hr:RelF E σ a w) (hg:gbxT σ.h (σ.h.look i)=some ts) :
  ∃ E',RelF E' { σ with h := σ.h.del i,fr:=V.gbxs i ts σ.fr } a w∧Ext E w E' w ∧ ∀ q,E'.U q→E.U q:=by
 unfold gbxT at hg;split at hg
 ·rename_i cs hlk;obtain ⟨hv,hB,b,vs,ty,rfl,hh,h1,h2⟩:=hr.rel.has i _ hlk;have hT:RdTs w E.S ts vs.toList:=vV (fun x t v h1 h2=>Re hr.rel x t v h1 h2) hg h1;obtain ⟨E',r1,r2,r3,r4,r5⟩:=hr.giveT2 (t := .opq) hlk hB (.opq _ rfl);have hlen:=RdTs.len hT;have hcell:∀ (j:Nat) x,ts[j]? = some x → ∃ u,w.cell? ⟨b,0+0*ts.length+j,none⟩=some u∧vs.toList[j]? = some u:=by
   intro j x hj;have hjl:j<vs.toList.length:=by rw [← hlen];exact (List.getElem?_eq_some_iff.1 hj).1
   refine ⟨vs.toList[j],?_,List.getElem?_eq_getElem hjl⟩;simp only [World.cell?,hh,Nat.zero_mul,Nat.zero_add];simp
  have hg:GbOk w E' i ts:=by
   refine ⟨b,fun hv hI=>?_,⟨_, .inr r4⟩, .list ts.length ts [ts] (some ⟨b,0,none⟩) 1 (by simp [maxLen]) (by simp) (by simp) (by simp) ?_ ?_⟩
   ·exact r1.rel.isF r4 hI
   ·intro i' e he;cases i' with
    | zero =>
     simp at he;subst he;exact ⟨b,0,rfl,r5 b (.inr rfl),fun j x hj=>by obtain ⟨u,hu,_⟩:=hcell j x hj;exact ⟨u,hu⟩⟩
    | succ i'=>simp at he
   ·intro i' e j x b' off u he hj hA hu;cases i' with
    | zero =>
     simp at he;subst he;injection hA with hA;injection hA with hA1 hA2;subst hA1 hA2;obtain ⟨u',hu',hv'⟩:=hcell j x hj;rw [hu] at hu';injection hu' with hu';subst hu';exact (RdTs.nth j hT hj hv').mono r2.S fun _ _=>rfl
    | succ i'=>simp at he
  refine ⟨E',⟨⟨fun j blk hl=>?_,fun j hv hB'=>?_,r1.rel.domF,r1.rel.own,r1.rel.apart,r1.rel.slt,r1.rel.dlt⟩,r1.bound,RdVs.gbx hg _ r1.fr,r1.defers⟩,r2,r3⟩
  ·have hl0:(σ.h.del i).look j=some blk:=hl;rw [Heap.look_del] at hl0;split at hl0
   ·cases hl0
   ·rename_i hji;exact r1.rel.has j blk (by show (σ.h.set i (.shr .opq)).look j=_;rw [Heap.look_set _ _ _ hlk,if_neg hji];exact hl0)
  ·obtain ⟨q1,blk,q2⟩:=r1.rel.dom j hv hB';have hji:j≠i:=fun e=>by
    subst e;rw [(r1.rel.domF j _ r4).2] at hB';cases hB'
   refine ⟨q1,blk,?_⟩;show (σ.h.del i).look j=_
   rw [Heap.look_del,if_neg hji];have q3:(σ.h.set i (.shr .opq)).look j=some blk:=q2;rw [Heap.look_set _ _ _ hlk,if_neg hji] at q3;exact q3
 ·cases hg
def gbxA (P:Program) (n0:Nat) (c:Code) (Q:Exit→St→Prop) (σ : St) (i:Nat) (o:Option (List T)):Prop :=
 match o with
 | some ts=>AWP P n0 c Q { σ with h := σ.h.del i,fr:=V.gbxs i ts σ.fr }
 | none=>False
theorem aLt {P:Program} {n0:Nat} {c:Code} {Q:Exit→St→Prop} {σ : St} (i:Nat) (h:gbxA P n0 c Q σ i (gbxT σ.h (σ.h.look i))):AWP P n0 c Q σ := by
 unfold gbxA at h;split at h
 ·rename_i ts hg;intro E a w hr E0 w0 hU hE;obtain ⟨E1,r1,r2,r3⟩:=hr.gbx hg;have:=h E1 a w r1 E0 w0 hU (hE.trans r2);rwa [r2.ro] at this
 ·exact h.elim
attribute [go_sem] gbxA gbxT V.gbx V.gbxs
open Go.RowKit
set_option maxRecDepth 4000
def rmE (k:Value):List (Value×V)→List (Value×V)
 | []=>[]
 | e::es=>if mA k e.1=true then es else e::rmE k es
theorem RdEs.rm {w:World} {E:Env} {d:TypeDesc} {k:Value} (hk:gR d k=true):∀ {es:List (Value×V)} {l:List MapEntry},RdEs w E es l→gL d es=true →
  (kY k es=none→rmE k es=es) ∧ ∀ i j e,Instr.findNow d k l i=some (some (i+j,e))→RdEs w E (rmE k es) (l.eraseIdx j)
 | [],[],_,_=>⟨fun _=>rfl,fun i j e h=>by simp [Instr.findNow] at h⟩
 | (k',y)::es,m::l,hr,hks=>by
  obtain ⟨h1,h2,h3⟩:=hr;simp only [gL,Bool.and_eq_true] at hks;have hs:=Dh hk (h1 ▸ hks.1);have ih:=RdEs.rm hk h3 hks.2;simp only [kY,rmE,Instr.findNow];rw [hs,h1];cases hkb:mA k k' with
  | true =>
   refine ⟨fun h=>by simp at h,fun i j e h=>?_⟩;simp only [Option.some.injEq,Prod.mk.injEq] at h;have:j=0:=by omega
   subst this;simpa using h3
  | false =>
   simp only [Bool.false_eq_true,if_false];refine ⟨fun h=>by rw [ih.1 h],fun i j e h=>?_⟩;cases j with
   | zero =>
    exfalso;rcases findNow_ok hk (i+1) h3 hks.2 with ⟨_,q2⟩ | ⟨_,j',_,_,q2,_⟩
    ·rw [q2] at h;cases h
    ·rw [q2] at h;simp only [Option.some.injEq,Prod.mk.injEq] at h;omega
   | succ j =>
    refine ⟨h1,h2,ih.2 (i+1) j e ?_⟩;rw [h];congr 3;omega
 | [],_::_,h,_=>h.elim
 | _::_,[],h,_=>h.elim
def mapDelR (P:Program) (h:Heap) (u:Option (TypeId×TypeId)) (m k:V):RO Heap :=
 match u,m,k with
 | some (kt,_), .own i, .t (.lit kv)=>mdA (P.underlying kt) h i kv (h.look i)
 | _,_,_=>none
where
 mdA (d:Option TypeDesc) (h:Heap) (i:Nat) (kv:Value) (b:Option Blk):RO Heap :=
  match d,b with
  | some d,some (.map es)=>some (gR d kv=true∧gL d es=true,h.set i (.map (rmE kv es)))
  | _,_=>none
section
variable {P:Program} {σ : St} {o:Oper} {K:St→Prop}
theorem aMz {m k:Operand} {t:TypeId} {tys:Array TypeId} (ho:o.op = .call { callee := .builtin .delete,args := #[m,k],argTypes:=tys }) (ht:tys[0]? = some t) (hdst:o.dst=none)
  (h:cS true (σ.ev m) fun m'=>cS true (σ.ev k) fun k'=>kR (mapDelR P σ.h (P.mapT t) m' k') (fun h'=>K { σ with h:=h' })):OpW P o σ K:=by
 obtain ⟨m',h1,hm⟩:=bU h;obtain ⟨k',h2,hk⟩:=bU h1;clear h h1;unfold mapDelR mapDelR.mdA at h2;split at h2
 ·rename_i kt et i kv hu;split at h2
  ·rename_i d es hd hl;obtain ⟨⟨hkd,hks⟩,hK⟩:=h2;intro E a w hr next Q hn;have e1:=hm w E _ rfl (hr.ev m);have e2:=(aG (hk w E _ rfl (hr.ev k))).1;obtain ⟨hv,hB0,r,entries,clock,rfl,h3,h4,h5,h6⟩:=hr.rel.has i _ hl;have hB:E.B i=some (.map (some r)):=hB0;simp only [RdV] at e1;have e3:=e1.2.2 _ (.inl hB);unfold Program.mapT at hu;split at hu
   ·rename_i kt' et' hut;injection hu with hu;injection hu with q1 q2;subst q1 q2;have hgo:(getObj r).run P w = .ok (.map entries clock) w:=by simp [getObj,Sem.run,h3]
    have hexec:∀ w',(Builtin.delete_ tys o.type #[.map (some r),kv]).run P w = .ok (.tuple #[]) w'→(execOp a.eval o).run P w = .ok (.value (.tuple #[])) w':=by
     intro w' hw;simp [execOp,ho,resolve,invoke,builtin,e2,e3,hw]
    have hrlt:r<w.heap.size:=(Array.getElem?_eq_some_iff.1 h3).1;have fin:∀ w',(execOp a.eval o).run P w = .ok (.value (.tuple #[])) w'→RelF E { σ with h := σ.h.set i (.map (rmE kv es)) } a w'→Ext E w E w'→o.wp P a w next Q:=by
     intro w' hrun k1 k2;unfold Oper.wp;rw [hrun];have:a.put o.dst (.tuple #[])=a:=by rw [hdst];rfl
     show next (a.put o.dst (.tuple #[])) w'
     rw [this];exact hn _ w' _ _ k1 k2 hK
    rcases findNow_ok hkd 0 h4 hks with ⟨q1,q2⟩ | ⟨y,j,e,q1,q2,q3,q4,q5⟩
    ·have hup:=hr.upd (blk := .map (rmE kv es)) hB hl (by simpa [aU] using rW w r (.map entries clock)) (by simp) (fun hE=>by
      refine ⟨r,entries,clock,rfl,by simp [hrlt],?_,h5,h6⟩;rw [(RdEs.rm hkd h4 hks).1 q1];exact hE.rdEs _ h4) rfl
     refine fin _ (hexec _ ?_) hup.1 hup.2;simp only [Builtin.delete_,ht,List.getElem?_toArray,List.getElem?_cons_zero,List.getElem?_cons_succ,Sem.run_bind,run_underlying hut,Result.andThen_ok,hgo,kK hd hkd,kJ hd q2,tZ _ h3,Sem.run_pure]
    ·rw [Nat.zero_add] at q2;have hj:j<entries.size:=by
      have:=(List.getElem?_eq_some_iff.1 q4).1;simpa using this
     have htl:(entries.eraseIdxIfInBounds j).toList=entries.toList.eraseIdx j:=by simp [Array.eraseIdxIfInBounds,hj]
     have hup:=hr.upd (blk := .map (rmE kv es)) hB hl (by simpa [aU] using rW w r (.map (entries.eraseIdxIfInBounds j) clock)) (by simp) (fun hE=>by
      refine ⟨r,entries.eraseIdxIfInBounds j,clock,rfl,by simp [hrlt],?_,?_,?_⟩
      ·rw [htl];exact (RdEs.rm hkd (hE.rdEs _ h4) hks).2 0 j _ (by rw [Nat.zero_add];exact q2)
      ·rw [htl];exact fun e' he'=>h5 e' (List.mem_of_mem_eraseIdx he')
      ·rw [htl];exact h6.sublist ((List.eraseIdx_sublist _ _).map _)) rfl
     refine fin _ (hexec _ ?_) hup.1 hup.2;simp only [Builtin.delete_,ht,List.getElem?_toArray,List.getElem?_cons_zero,List.getElem?_cons_succ,Sem.run_bind,run_underlying hut,Result.andThen_ok,hgo,kK hd hkd,kJ hd q2,tZ _ h3,Sem.run_pure]
   ·cases hu
  ·exact h2.elim
 ·exact h2.elim
end
theorem aQm {P:Program} {ops:List Oper} {Q:Exit→St→Prop} {o:Oper} {r:List Oper} {σ : St} {m k:Operand} {t:TypeId} {tys:Array TypeId} (hg:o.guard=none)
  (ho:o.op = .call { callee := .builtin .delete,args := #[m,k],argTypes:=tys }) (ht:tys[0]? = some t) (hdst:o.dst=none)
  (h:cS true (σ.ev m) fun m'=>cS true (σ.ev k) fun k'=>kR (mapDelR P σ.h (P.mapT t) m' k') (fun h'=>Lx P ops Q r { σ with h:=h' })):Lx P ops Q (o::r) σ := by
 intro E a w hr E0 w0 hE;unfold wpListIn;have hw:Region.wanted o (yielded ops.toArray a.tmps)=true:=by simp [Region.wanted,hg]
 rw [if_pos hw];have hi:OpI P o σ (Lx P ops Q r):=sV (.inr fun c hc=>by rw [ho] at hc;cases hc) (aMz ho ht hdst h);exact hi E a w hr _ _ fun a' w' E' σ' h1 h2 h3=>by
  have:=h3 E' a' w' h1 E0 w0 (hE.trans h2);rwa [h2.ro] at this
attribute [go_sem] mapDelR mapDelR.mdA
open Go.RowKit
set_option maxRecDepth 4000
def IStep (P:Program) (o:Oper) (σ : St) (K:St→Prop):Prop:=o.guard=none∧OpI P o σ K
theorem IStep.mono {P:Program} {o:Oper} {σ : St} {K K':St→Prop} (hk:∀ σ,K σ → K' σ) (h:IStep P o σ K):IStep P o σ K' :=
 ⟨h.1,fun E a w hr next Q hn=>h.2 E a w hr next Q fun a' w' E' σ' h1 h2 h3=>hn a' w' E' σ' h1 h2 (hk _ h3)⟩
def Yj (P:Program) (ops:Array Oper) (K:St→Prop):Nat→Array Bool→St→Prop
 | 0,listed, σ => Region.ready .any ops listed = []∧K σ
 | f+1,listed, σ => (Region.ready .any ops listed = []→K σ) ∧ ∀ i∈Region.ready .any ops listed, ∃ o,ops[i]? = some o∧IStep P o σ (Yj P ops K f (listed.setIfInBounds i true))
theorem aF6 {P:Program} {ops:Array Oper} {Q:Exit→St→Prop}:∀ (f:Nat) (listed:Array Bool) (σ : St),Yj P ops (Q .normal) f listed σ → ∀ E a w,RelF E σ a w → ∀ E0 w0,Ext E0 w0 E w→wpAnyIn (Wd E.ro) 0 P .any ops (rD E0 w0 Q) f listed a w
 | 0,listed, σ,h,E,a,w,hr,E0,w0,hE=>⟨h.1, σ,E,hr,hE,h.2⟩
 | f+1,listed, σ,h,E,a,w,hr,E0,w0,hE=>by
  refine ⟨fun h0=>⟨σ,E,hr,hE,h.1 h0⟩,fun i hi=>?_⟩;obtain ⟨o,ho,hg,hs⟩:=h.2 i hi;unfold wpOpIn;rw [ho];dsimp only;have hw:Region.wanted o (yielded ops a.tmps)=true:=by simp [Region.wanted,hg]
  rw [if_pos hw];exact hs E a w hr _ _ fun a' w' E' σ' h1 h2 h3=>by
   have:=aF6 f _ σ' h3 E' a' w' h1 E0 w0 (hE.trans h2);rwa [h2.ro] at this
def aAw (P:Program) (o:Option Oper) (σ : St) (K:St→Prop):Prop :=
 match o with
 | some o=>o.guard=none∧uQ P σ o.dst o.op K
 | none=>False
def pD (P:Program) (l:List Oper) (K:St→Prop):OT→St→Prop
 | .done, σ => K σ
 | .step i t, σ => aAw P (l[i]?) σ (pD P l K t)
 | .alt a b, σ => pD P l K a σ ∧ pD P l K b σ
theorem Em {P:Program} {l:List Oper} {K:St→Prop}:∀ (f:Nat) (t:OT) (listed:Array Bool) (σ : St) (top:Bool),jV l.toArray f listed t top=true→pD P l K t σ →
  (∀ i∈t.heads, ∃ f',f=f'+1 ∧ ∃ o,l.toArray[i]? = some o∧IStep P o σ (Yj P l.toArray K f' (listed.setIfInBounds i true)))∧(top=true→Yj P l.toArray K f listed σ)
 | 0,t,listed, σ,top,hB,h=>by
  unfold jV at hB;simp only [Bool.and_eq_true,beq_iff_eq] at hB;refine ⟨fun i hi=>(by rw [hB.1] at hi;cases hi),fun _=>⟨hB.2,?_⟩⟩;have:∀ (t:OT),t.heads = []→pD P l K t σ → K σ := by
   intro t
   induction t with
   | done=>exact fun _ h=>h
   | step i t _=>intro h;simp [OT.heads] at h
   | alt a b iha ihb =>
    intro hh h;simp only [OT.heads,List.append_eq_nil_iff] at hh;exact iha hh.1 h.1
  exact this t hB.1 h
 | f+1, .done,listed, σ,top,hB,h=>by
  refine ⟨fun i hi=>(by cases hi),fun ht=>⟨fun _=>h,fun i hi=>?_⟩⟩;unfold jV at hB;rw [ht] at hB;simp only [Bool.not_true,Bool.false_or,beq_iff_eq] at hB;rw [hB] at hi;cases hi
 | f+1, .step i t,listed, σ,top,hB,h=>by
  unfold jV at hB;simp only [Bool.and_eq_true] at hB;obtain ⟨⟨h1,h2⟩,h3⟩:=hB;obtain ⟨o,ho⟩:=Option.isSome_iff_exists.1 h2;have hstep:IStep P o σ (Yj P l.toArray K f (listed.setIfInBounds i true)):=by
   have ho':l[i]? = some o:=by simpa using ho
   simp only [pD,ho',aAw] at h;exact IStep.mono (fun σ' hk=>(Em f t _ σ' true h3 hk).2 rfl) ⟨h.1,wA h.2⟩
  refine ⟨fun j hj=>?_,fun ht=>⟨fun h0=>?_,fun j hj=>?_⟩⟩
  ·simp only [OT.heads,List.mem_singleton] at hj;subst hj;exact ⟨f,rfl,o,ho,hstep⟩
  ·rw [ht] at h1;simp only [Bool.not_true,Bool.false_or,beq_iff_eq] at h1;rw [h1] at h0;cases h0
  ·rw [ht] at h1;simp only [Bool.not_true,Bool.false_or,beq_iff_eq] at h1;rw [h1] at hj;simp only [List.mem_singleton] at hj;subst hj;exact ⟨o,ho,by simpa using hstep⟩
 | f+1, .alt a b,listed, σ,top,hB,h=>by
  unfold jV at hB;simp only [Bool.and_eq_true] at hB;obtain ⟨⟨h1,h2⟩,h3⟩:=hB;have ha:=(Em (f+1) a listed σ false h2 h.1).1;have hb:=(Em (f+1) b listed σ false h3 h.2).1;have hall:∀ i∈(OT.alt a b).heads, ∃ f',f+1=f'+1 ∧ ∃ o,l.toArray[i]? = some o∧IStep P o σ (Yj P l.toArray K f' (listed.setIfInBounds i true)):=by
   intro i hi;simp only [OT.heads,List.mem_append] at hi;exact hi.elim (ha i) (hb i)
  refine ⟨hall,fun ht=>?_⟩;rw [ht] at h1;simp only [Bool.not_true,Bool.false_or,beq_iff_eq] at h1;refine ⟨fun h0=>?_,fun i hi=>?_⟩
  ·rw [h1] at h0;have hk:∀ (t:OT),t.heads = []→pD P l K t σ → K σ := by
    intro t
    induction t with
    | done=>exact fun _ h=>h
    | step i t _=>intro h;simp [OT.heads] at h
    | alt a b iha ihb =>
     intro hh h;simp only [OT.heads,List.append_eq_nil_iff] at hh;exact iha hh.1 h.1
   exact hk (.alt a b) h0 h
  ·rw [h1] at hi;obtain ⟨f',hf,o,ho,hs⟩:=hall i hi;have:f'=f:=by omega
   subst this;exact ⟨o,ho,by simpa using hs⟩
theorem aT1 {P:Program} {n0:Nat} {id:Nat} {l:List Oper} {Q:Exit→St→Prop} {σ : St} (t:OT) (hm:P.follows .mixedOrders=true)
  (hT:jV l.toArray l.length (Array.replicate l.length false) t true=true) (h:pD P l (Q .normal) t σ):Lw P n0 id l.toArray Q σ := by
 intro E a w hr E0 w0 hU hE;refine wpIn_region_any hm ?_;have hd:=(Em _ t _ σ true hT h).2 rfl;have hdr:RelF E σ a { w with drawn:=w.drawn+1 }∧Ext E0 w0 E { w with drawn:=w.drawn+1 }:=by
  have hb:Below w.heap.size w { w with drawn:=w.drawn+1 }:=⟨rfl,rfl,rfl,Nat.le_refl _,fun _ _=>rfl⟩
  obtain ⟨k1,k2⟩:=hr.later hb (fun _ h=>h) (fun b hb => .inl hb) (fun b hb'=>hr.rel.slt b hb');exact ⟨k1,hE.trans k2⟩
 have:=aF6 _ _ σ hd E a _ hdr.1 E0 w0 hdr.2;simpa using this
@[go_sem] theorem isteps_done {P:Program} {l:List Oper} {K:St→Prop} {σ : St}:pD P l K .done σ = K σ := rfl
@[go_sem] theorem isteps_step {P:Program} {l:List Oper} {K:St→Prop} {σ : St} {i:Nat} {t:OT}:pD P l K (.step i t) σ = aAw P (l[i]?) σ (pD P l K t):=rfl
@[go_sem] theorem isteps_alt {P:Program} {l:List Oper} {K:St→Prop} {σ : St} {a b:OT}:pD P l K (.alt a b) σ = (pD P l K a σ ∧ pD P l K b σ):=rfl
theorem aEe {P:Program} {σ : St} {o:Oper} {K:St→Prop}:aAw P (some o) σ K=(o.guard=none∧uQ P σ o.dst o.op K):=rfl
attribute [go_sem] aEe
open Go.RowKit
def Qr (ops:Array Oper):Nat→Nat→Nat→Bool
 | 0,_,_=>false
 | d+1,j,i=>match ops[j]? with
  | some oj=>(oj.after.any fun e=>Region.binds .any e&&e.on==i)||oj.after.any fun e=>Region.binds .any e&&Qr ops d e.on i
  | none=>false
theorem Fj {ops:Array Oper}:∀ (d j i:Nat),Qr ops d j i=true→vH .any ops d j i=true
 | 0,_,_,h=>by simp [Qr] at h
 | d+1,j,i,h=>by
  unfold Qr at h;unfold vH;cases ho:ops[j]? with
  | none=>rw [ho] at h;cases h
  | some oj =>
   rw [ho] at h;simp only [Bool.or_eq_true,Array.any_eq_true,Bool.and_eq_true] at h ⊢;rcases h with ⟨k,hk,h1,h2⟩ | ⟨k,hk,h1,h2⟩
   ·exact ⟨k,hk,h1, .inl h2⟩
   ·exact ⟨k,hk,h1, .inr (Fj d _ i h2)⟩
def chkEQ (l:List Oper) (n0:Nat) (L:Log) (e:Nat×Nat×Bool):Bool :=
 (L.all fun f => !(f.2.2&&f.2.1==e.2.1)||f.1==e.1||(if f.1<e.1 then Qr l.toArray 16 e.1 f.1 else Qr l.toArray 16 f.1 e.1))&&(decide (e.2.1<n0)||(decide (e.2.1 - n0<e.1)&&Qr l.toArray 16 e.1 (e.2.1 - n0)))
def chkLQ (l:List Oper) (n0:Nat) (L:Log):Bool:=L.all (chkEQ l n0 L)
theorem chkQ {l:List Oper} {n0:Nat} {L:Log} (h:chkLQ l n0 L=true):Gr l n0 L=true:=by
 unfold chkLQ at h;unfold Gr;rw [List.all_eq_true] at h ⊢;intro e he;have h1:=h e he;unfold chkEQ at h1;unfold aTc yM;rw [Bool.and_eq_true,List.all_eq_true] at h1 ⊢;refine ⟨fun f hf=>?_,?_⟩
 ·have h2:=h1.1 f hf;rw [Bool.or_eq_true] at h2 ⊢;rcases h2 with h2 | h2
  ·exact .inl h2
  ·right;split
   ·rename_i hc;rw [if_pos hc] at h2;exact Fj _ _ _ h2
   ·rename_i hc;rw [if_neg hc] at h2;exact Fj _ _ _ h2
 ·have h2:=h1.2;rw [Bool.or_eq_true] at h2 ⊢;rcases h2 with h2 | h2
  ·exact .inl h2
  ·right;rw [Bool.and_eq_true] at h2 ⊢;exact ⟨h2.1,Fj _ _ _ h2.2⟩
open Go.RowKit
set_option maxRecDepth 4000
def yT (x y:V):Prop :=
 match y with
 | .dead=>True
 | .t b=>match x with
  | .t a=>wkE a b
  | _=>False
 | y=>x=y
def Zx:List V→List V→Prop
 | [],[]=>True
 | x::xs,y::ys=>yT x y∧Zx xs ys
 | _,_=>False
theorem aQn {w:World} {E:Env} {x y:V} {v:Value} (h:yT x y) (hx:RdV w E x v):RdV w E y v:=by
 unfold yT at h;split at h
 ·simp only [RdV]
 ·split at h
  ·simp only [RdV] at hx ⊢;exact aPm h hx
  ·exact h.elim
 ·subst h;exact hx
theorem We {w:World} {E:Env}:∀ {xs ys:List V} {vs:List Value},Zx xs ys→RdVs w E xs vs→RdVs w E ys vs
 | [],[],[],_,_=>by simp only [RdVs]
 | x::xs,y::ys,v::vs,h,hx=>by
  simp only [RdVs] at hx ⊢;exact ⟨aQn h.1 hx.1,We h.2 hx.2⟩
 | [],[],_::_,_,hx=>by simp only [RdVs] at hx
 | _::_,_::_,[],_,hx=>by simp only [RdVs] at hx
 | [],_::_,_,h,_=>h.elim
 | _::_,[],_,h,_=>h.elim
theorem gG {n0:Nat} {σ σ':St} (hok : σ.h = σ'.h ∧ σ.nx ≤ σ'.nx ∧ σ.df = σ'.df∧Zx σ.fr σ'.fr):Jv n0 σ σ':=by
 obtain ⟨h1,h2,h3,h4⟩:=hok;intro E a w hr E0 w0 hU hE;exact ⟨E,⟨h1 ▸ hr.rel,fun i hi=>Nat.lt_of_lt_of_le (hr.bound i hi) h2,We h4 hr.fr,h3 ▸ hr.defers⟩,hE⟩
theorem wJ {n0:Nat} {a b c:St} (h1:Jv n0 a b) (h2:Jv n0 b c):Jv n0 a c:=by
 intro E x w hr E0 w0 hU hE;obtain ⟨E1,k1,k2⟩:=h1 E x w hr E0 w0 hU hE;exact h2 E1 x w k1 E0 w0 hU k2
def aRk (i e k:Nat) (d:List T) (σ : St):St := { σ with fr := σ.fr.set i (.own σ.nx),h:=(σ.nx, .row e k d []) :: σ.h,nx := σ.nx+1 }
theorem aBj {n0:Nat} {σ : St} (i e k:Nat) (d:List T) (hn:n0 ≤ σ.nx) (hi : σ.fr[i]? = some (.t (.lit (.slice none 0 0)))):Jv n0 σ (aRk i e k d σ):=by
 intro E a w hr E0 w0 hU hE;have hb:Below w.heap.size w w:=⟨rfl,rfl,rfl,Nat.le_refl _,fun _ _=>rfl⟩
 obtain ⟨k1,k2,k3⟩:=hr.add (hv := .slice none 0 0) (blk := .row e k d []) (S':=E.S) hb (fun _ h=>h) (fun b hb => .inl hb) hr.rel.slt
  (fun _=>⟨[],World.ownsRow_nil w 0 e k,by simp only [List.flatten_nil,RdVs],by simp,rfl⟩) (fun b hb'=>by simp [aU] at hb') rfl rfl
 obtain ⟨v,hv1,hv2⟩:=RdVs.get hr.fr hi;have hv3:=(aG hv2).1;subst hv3;refine ⟨_,⟨k1.rel,k1.bound,?_,k1.defers⟩,hE.trans k2⟩;have h5:=RdVs.set k3 i k1.fr;have h6:a.tmps.toList.set i (.slice none 0 0)=a.tmps.toList:=by
  apply List.ext_getElem?;intro j;rw [List.getElem?_set];split
  ·rename_i hij;subst hij;split
   ·exact hv1.symm
   ·rename_i hlt;exact (hlt (List.getElem?_eq_some_iff.1 hv1).1).elim
  ·rfl
 rw [h6] at h5;exact h5
theorem RdVs.setI {w:World} {E:Env} {x y:V} (hy:∀ v,RdV w E x v→RdV w E y v):∀ {xs:List V} {vs:List Value} (i:Nat),RdVs w E xs vs→xs[i]? = some x→RdVs w E (xs.set i y) vs
 | [],[],i,h,hx=>by simp at hx
 | x0::xs,v0::vs,0,h,hx=>by
  simp only [RdVs] at h;simp at hx;subst hx;simp only [List.set_cons_zero,RdVs];exact ⟨hy _ h.1,h.2⟩
 | x0::xs,v0::vs,i+1,h,hx=>by
  simp only [RdVs] at h;simp only [List.set_cons_succ,RdVs];exact ⟨h.1,RdVs.setI hy i h.2 (by simpa using hx)⟩
 | [],_::_,i,h,_=>by simp only [RdVs] at h
 | _::_,[],i,h,_=>by simp only [RdVs] at h
theorem Rel.recell {w:World} {E:Env} {h:Heap} {b:Nat} {cs cs':List V} (hr:Rel w E h) (hl:h.look b=some (.box cs)) (hc:∀ vs,RdVs w E cs vs→RdVs w E cs' vs):Rel w E (h.set b (.box cs')):=by
 refine ⟨fun i blk hi=>?_,fun i hv hB=>?_,hr.domF,hr.own,hr.apart,hr.slt,hr.dlt⟩
 ·rw [Heap.look_set _ _ _ hl] at hi;split at hi
  ·rename_i hib;subst hib;injection hi with hi;subst hi;obtain ⟨hv,h1,b',vs,ty,h2,h3,h4,h5⟩:=hr.has _ _ hl;exact ⟨hv,h1,b',vs,ty,h2,h3,hc _ h4,h5⟩
  ·exact hr.has i blk hi
 ·obtain ⟨q1,q2⟩:=hr.dom i hv hB;refine ⟨q1,?_⟩;rw [Heap.look_set _ _ _ hl];split
  ·exact ⟨_,rfl⟩
  ·exact q2
def aRm (b i e k:Nat) (d:List T) (cs:List V) (σ : St):St := { σ with h:=(σ.nx, .row e k d []) :: σ.h.set b (.box (cs.set i (.own σ.nx))),nx := σ.nx+1 }
theorem Va {n0:Nat} {σ : St} (b i e k:Nat) (d:List T) (cs:List V) (hn:n0 ≤ σ.nx) (hl : σ.h.look b=some (.box cs)) (hi:cs[i]? = some (.t (.lit (.slice none 0 0)))):Jv n0 σ (aRm b i e k d cs σ):=by
 intro E a w hr E0 w0 hU hE;have hb:Below w.heap.size w w:=⟨rfl,rfl,rfl,Nat.le_refl _,fun _ _=>rfl⟩
 have hbn:b ≠ σ.nx:=fun e=>by
  have:=hr.bound b (hr.rel.uses hl);omega
 obtain ⟨k1,k2,k3⟩:=hr.add (hv := .slice none 0 0) (blk := .row e k d []) (S':=E.S) hb (fun _ h=>h) (fun b hb => .inl hb) hr.rel.slt
  (fun _=>⟨[],World.ownsRow_nil w 0 e k,by simp only [List.flatten_nil,RdVs],by simp,rfl⟩) (fun b hb'=>by simp [aU] at hb') rfl rfl
 have h1:Heap.look ((σ.nx, .row e k d []) :: σ.h) b=some (.box cs):=by rw [Heap.look,if_neg hbn];exact hl
 have h2:=k1.rel.recell (cs':=cs.set i (.own σ.nx)) h1 fun vs hvs=>RdVs.setI (fun v hv=>by rw [(aG hv).1];exact k3) i hvs hi
 rw [Heap.set,if_neg hbn] at h2;exact ⟨_,⟨h2,k1.bound,k1.fr,k1.defers⟩,hE.trans k2⟩
@[go_sem] theorem Heap.set_set (h:Heap) (i:Nat) (a b:Blk):(h.set i a).set i b=h.set i b:=by
 induction h with
 | nil=>rfl
 | cons x r ih =>
  obtain ⟨k,c⟩:=x;simp only [Heap.set];split
  ·rename_i hk;simp only [Heap.set,if_pos hk]
  ·rename_i hk;simp only [Heap.set,if_neg hk,ih]
attribute [go_sem] Zx aRk aRm
section
variable {x:V}
@[go_sem high] theorem sameV_self:yT x x=True:=by
 unfold yT;split
 ·rfl
 ·dsimp only;exact aPk _
 ·simp
@[go_sem] theorem sameV_dead:yT x .dead=True:=rfl
@[go_sem] theorem sameV_t {b:T}:yT x (.t b)=match x with | .t a=>wkE a b | _=>False:=rfl
@[go_sem] theorem sameV_own {i:Nat}:yT x (.own i)=(x = .own i):=rfl
@[go_sem] theorem sameV_agg {l:List V}:yT x (.agg l)=(x = .agg l):=rfl
@[go_sem] theorem sameV_tup {l:List V}:yT x (.tup l)=(x = .tup l):=rfl
@[go_sem] theorem sameV_ptr {i o:Nat}:yT x (.ptr i o)=(x = .ptr i o):=rfl
end
open Go.RowKit
set_option maxRecDepth 4000
def XCall (P:Program) (σ : St) (d:Option Tmp) (f:FuncId) (xs:List V) (K:St→Prop):Prop :=
 ICall P σ d f xs fun s=>(sC σ.h s.h∧WFh s ∧ σ.nx≤s.nx)∧K s
theorem XCall.mono {P:Program} {σ : St} {d:Option Tmp} {f:FuncId} {xs:List V} {K K':St→Prop} (hk:∀ σ,K σ → K' σ) (h:XCall P σ d f xs K):XCall P σ d f xs K' :=
 ICall.mono (fun s hs=>⟨hs.1,hk s hs.2⟩) h
def yL (P:Program) (o:Oper) (σ : St) (K:St→Prop):Prop :=
 o.guard=none∧match o.op with
 | .call { callee := .value (.func f),args, .. }=>dC true (args.toList.map σ.ev) fun xs=>XCall P σ o.dst f xs K
 | _=>False
theorem Aq {P:Program} {o:Oper} {σ : St} {K:St→Prop} (h:yL P o σ K):∃ f args tys,o.guard=none∧o.op = .call { callee := .value (.func f),args:=args,argTypes:=tys }∧dC true (args.toList.map σ.ev) fun xs=>XCall P σ o.dst f xs K:=by
 obtain ⟨hg,h⟩:=h;split at h
 ·rename_i f args tys ho;exact ⟨f,args,_,hg,ho,h⟩
 ·exact h.elim
theorem Na {P:Program} {o:Oper} {σ : St} {K:St→Prop} {f:FuncId} {args:Array Operand} {tys:Array TypeId} (hg:o.guard=none) (ho:o.op = .call { callee := .value (.func f),args:=args,argTypes:=tys }) (h:dC true (args.toList.map σ.ev) fun xs=>XCall P σ o.dst f xs K):yL P o σ K:=by
 refine ⟨hg,?_⟩;rw [ho];exact h
theorem Mz {P:Program} {o:Oper} {σ : St} {K K':St→Prop} (hk:∀ σ,K σ → K' σ) (h:yL P o σ K):yL P o σ K':=by
 obtain ⟨f,args,tys,hg,ho,hu⟩:=Aq h;obtain ⟨ys,h1,h2⟩:=eJ hu;exact Na hg ho (h2 _ (XCall.mono hk h1))
theorem aG4 {P:Program} {σ : St} {o:Oper} {d:Option Tmp} {x:V} {K:St→Prop} (hop:∀ t,d=some t → .tmp t ∉ o.op.operands.toList) (hd:∀ t,d=some t→o.dst≠some t) (h:yL P o (σ.put d x) K) :
  yL P o σ fun σ'=>K (σ'.put d x)∧aJm σ σ' o.dst:=by
 obtain ⟨f,args,tys,hg,ho,hu⟩:=Aq h;refine Na hg ho ?_;have hargs:args.toList.map (σ.put d x).ev=args.toList.map σ.ev:=zM _ fun y hy=>Ed fun t ht e=>hop t ht (by rw [← e,ho];simp [Op.operands,Call.operands];exact .inr (by simpa using hy))
 rw [hargs] at hu;obtain ⟨ys,h1,h2⟩:=eJ hu;refine h2 _ ?_;have h1:ICall P (σ.put d x) o.dst f ys fun s=>(sC (σ.put d x).h s.h∧WFh s∧(σ.put d x).nx≤s.nx)∧K s:=h1
 show ICall P σ o.dst f ys _
 intro E w vs hr hb hv;refine (h1 E w vs (by rw [eU];exact hr) (by rw [dB];exact hb) hv).mono ?_;rintro e w' ⟨v,y,h',nx',E',q1,q2,q3,q4,q5,⟨r1,r2,r3⟩,q6⟩;have e1:(({ σ.put d x with h:=h',nx:=nx' }:St).put o.dst y)=(({ σ with h:=h',nx:=nx' }:St).put o.dst y).put d x:=by
  refine Eq.trans ?_ (sT hd);cases d<;>rfl
 dsimp only at e1;rw [e1] at r1 r2 r3 q6;rw [eU,eU] at r1;rw [dB,dB] at r3;have r2':WFh (({ σ with h:=h',nx:=nx' }:St).put o.dst y):=fun q hq=>by
  have:=r2 q (by rw [dB];exact hq);rwa [eU] at this
 refine ⟨v,y,h',nx',E',q1,q2,q3,q4,q5,⟨r1,r2',r3⟩,q6,r1,r2',fun z hz=>?_⟩;rw [Ed hz];cases z<;>rfl
def Er (P:Program) (ops:Array Oper) (b:Bool) (o:Oper) (σ : St) (K:St→Prop):Prop :=
 match b with
 | true=>yL P o σ K
 | false=>dN P ops.toList σ o.dst o.op o.guard K
theorem Df {P:Program} {ops:Array Oper} {b:Bool} {o:Oper} {σ : St} {K K':St→Prop} (hk:∀ σ,K σ → K' σ) (h:Er P ops b o σ K):Er P ops b o σ K':=by
 cases b with
 | true=>exact Mz hk h
 | false=>exact xG hk h
def Ae (P:Program) (ops:Array Oper) (xs:List Nat) (K:St→Prop):Nat→Array Bool→St→Prop
 | 0,listed, σ => Region.ready .any ops listed = []∧K σ
 | f+1,listed, σ => (Region.ready .any ops listed = []→K σ) ∧ ∀ i∈Region.ready .any ops listed, ∃ o,ops[i]? = some o∧Er P ops (xs.contains i) o σ (Ae P ops xs K f (listed.setIfInBounds i true))
theorem Su {P:Program} {ops:Array Oper} {xs:List Nat} {Q:Exit→St→Prop}:∀ (f:Nat) (listed:Array Bool) (σ : St),Ae P ops xs (Q .normal) f listed σ → ∀ E a w,RelF E σ a w → ∀ E0 w0,Ext E0 w0 E w→wpAnyIn (Wd E.ro) 0 P .any ops (rD E0 w0 Q) f listed a w
 | 0,listed, σ,h,E,a,w,hr,E0,w0,hE=>⟨h.1, σ,E,hr,hE,h.2⟩
 | f+1,listed, σ,h,E,a,w,hr,E0,w0,hE=>by
  refine ⟨fun h0=>⟨σ,E,hr,hE,h.1 h0⟩,fun i hi=>?_⟩;obtain ⟨o,ho,hs⟩:=h.2 i hi;unfold wpOpIn;rw [ho];dsimp only;cases hb:xs.contains i with
  | false =>
   rw [hb] at hs;have:=aDj (Q:=rD E0 w0 Q) (next:=wpAnyIn (Wd E.ro) 0 P .any ops (rD E0 w0 Q) f (listed.setIfInBounds i true)) hs hr (fun a' w' E' σ' h1 h2 h3=>by
    have:=Su f _ σ' h3 E' a' w' h1 E0 w0 (hE.trans h2);rwa [h2.ro] at this)
   simpa using this
  | true =>
   rw [hb] at hs;obtain ⟨g,args,tys,hg,hop,hu⟩:=Aq hs;have hw:Region.wanted o (yielded ops a.tmps)=true:=by simp [Region.wanted,hg]
   rw [if_pos hw];obtain ⟨ys,h1,h2⟩:=eJ hu;have hi:OpI P o σ (Ae P ops xs (Q .normal) f (listed.setIfInBounds i true)):=sV (.inr fun c hc=>by rw [hop] at hc;cases hc) (Fd hop (h2 _ (ICall.mono (fun s hs=>hs.2) h1)));exact hi E a w hr _ _ fun a' w' E' σ' h1 h2 h3=>by
    have:=Su f _ σ' h3 E' a' w' h1 E0 w0 (hE.trans h2);rwa [h2.ro] at this
theorem aF5 {P:Program} {ops:Array Oper} {xs:List Nat} {K:St→Prop} {i:Nat} {oi:Oper} {y:V} (hi:ops[i]? = some oi) (hix:xs.contains i=false)
  (hhv:∀ (j:Nat) oj,ops[j]? = some oj→zX P oj.op=true→xs.contains j=true∨vH .any ops 16 j i=true) :
  ∀ (fuel:Nat) (listed:Array Bool) (σ : St),HeadInv .any ops ops.size listed →
   (∀ j oj,ops[j]? = some oj→j≠i→listed.getD j true=false→(∀ e∈oj.after,Region.binds .any e=true→e.on≠i)→oi.apart ops oj=true) →
   i∈Region.ready .any ops listed→WFh σ →
   (∀ σ',mW σ σ' oi.op.operands.toList→sC σ.h σ'.h→(∀ j w,oi.guard=some (j,w) → ∀ t,eQ ops.toList j=some t → σ'.ev (.tmp t) = σ.ev (.tmp t)) → ∀ K':St→Prop,K' (σ'.put oi.dst y)→dN P ops.toList σ' oi.dst oi.op oi.guard K') →
   Ae P ops xs K fuel (listed.setIfInBounds i true) (σ.put oi.dst y)→Ae P ops xs K (fuel+1) listed σ := by
 have first:∀ σ K',dN P ops.toList σ oi.dst oi.op oi.guard K'→Er P ops (xs.contains i) oi σ K':=fun σ K' h=>by rw [hix];exact h
 intro fuel
 induction fuel with
 | zero =>
  intro listed σ inv hfree hr hw hst H;refine ⟨fun h=>(by rw [h] at hr;cases hr),fun j hj=>?_⟩
  by_cases hji:j=i
  ·subst hji;exact ⟨oi,hi,first _ _ (hst σ (fun _ _=>rfl) (fun _ _ h=>h) (fun _ _ _ _ _=>rfl) _ H)⟩
  ·have:=ready_mono hj hji;rw [H.1] at this;cases this
 | succ fuel ih =>
  intro listed σ inv hfree hr hw hst H;refine ⟨fun h=>(by rw [h] at hr;cases hr),fun j hj=>?_⟩
  by_cases hji:j=i
  ·subst hji;exact ⟨oi,hi,first _ _ (hst σ (fun _ _=>rfl) (fun _ _ h=>h) (fun _ _ _ _ _=>rfl) _ H)⟩
  ·obtain ⟨oj,hoj,hs⟩:=H.2 j (ready_mono hj hji);refine ⟨oj,hoj,?_⟩;obtain ⟨hjun,oj',hoj',hall⟩:=mem_ready.1 hj;rw [hoj] at hoj';injection hoj' with hoj';subst hoj';have hiu:=(mem_ready.1 hr).1;have hil:listed.getD i false=false:=getD_both hiu;have hnot:∀ e∈oj.after,Region.binds .any e=true→e.on≠i:=fun e he hb heq=>by
    have h1:=hall e he hb;rw [heq,hil] at h1;cases h1
   have hap:=hfree j oj hoj hji hjun hnot;obtain ⟨p1,p2,p3⟩:=Oper.apart_spec hap;have hjs:j<ops.size:=(Array.getElem?_eq_some_iff.1 hoj).1;have inv':=inv.set hj hjs;have hr':=ready_mono hr (Ne.symm hji);have hc:Er P ops (xs.contains j) oj σ (fun σ'=>Ae P ops xs K fuel ((listed.setIfInBounds i true).setIfInBounds j true) (σ'.put oi.dst y)∧aJm σ σ' oj.dst):=by
    cases hxj:xs.contains j with
    | true =>
     rw [hxj] at hs;exact aG4 (fun t ht=>tB (p1 t ht)) (fun t ht=>p2 t ht) hs
    | false =>
     rw [hxj] at hs;have hnh:zX P oj.op=false:=by
      cases hh:zX P oj.op with
      | false=>rfl
      | true =>
       have h3:=(hhv j oj hoj hh).resolve_left (by rw [hxj];simp);have:=nY inv 16 j h3 (fun ok hk e he hb=>by
        rw [hoj] at hk;injection hk with hk;subst hk;exact hall e he hb)
       rw [hil] at this;cases this
     exact Rv (fun t ht=>tB (p1 t ht)) (fun t j' w' ht hg=>qK (p1 t ht) hg) (fun t ht=>p2 t ht) hnh hw hs
   refine Df (fun σ' hk=>?_) hc;obtain ⟨hk1,hk2,hk3,hk4⟩:=hk;refine ih (listed.setIfInBounds j true) σ' inv' ?_ hr' hk3 ?_ ?_
   ·intro k ok hk hki hun hno;refine hfree k ok hk hki ?_ hno
    by_cases hjk:j=k
    ·subst hjk;exact hjun
    ·rw [getD_set_ne true hjk] at hun;exact hun
   ·intro σ'' he hh hg K' hK';refine hst σ'' (fun z hz=>?_) (fun q b hq=>hh q b (hk2 q b hq)) (fun j' w' hgd t ht=>?_) K' hK'
    ·rw [he z hz];exact hk4 z fun t ht e=>tB (p3 t ht) (e ▸ hz)
    ·rw [hg j' w' hgd t ht];refine hk4 _ fun t' ht' e=>?_
     injection e with e;subst e;exact qK (p3 _ ht') hgd ht
   ·rw [Array.setIfInBounds_comm _ _ hji];exact hk1
def planBX (P:Program) (ops:Array Oper) (xs:List Nat):List Nat→Array Bool→Bool
 | [],_=>true
 | i::r,listed=>(Region.ready .any ops listed).contains i&&Region.free .any ops listed i&&(ops[i]?).any (fN P ·.op) && !xs.contains i &&
   ((List.range ops.size).all fun j => !(ops[j]?).any (zX P ·.op)||(xs.contains j||vH .any ops 16 j i))&&planBX P ops xs r (listed.setIfInBounds i true)
def tU (P:Program) (l:List Oper) (b:Bool) (o:Option Oper) (σ : St) (K:St→Prop):Prop :=
 match o with
 | some o=>Er P l.toArray b o σ K
 | none=>False
def pS (P:Program) (l:List Oper) (xs:List Nat) (K:St→Prop):OT→St→Prop
 | .done, σ => K σ
 | .step i t, σ => tU P l (xs.contains i) (l[i]?) σ (pS P l xs K t)
 | .alt a b, σ => pS P l xs K a σ ∧ pS P l xs K b σ
theorem Nt {P:Program} {l:List Oper} {xs:List Nat} {K:St→Prop}:∀ (f:Nat) (t:OT) (listed:Array Bool) (σ : St) (top:Bool),jV l.toArray f listed t top=true→pS P l xs K t σ →
  (∀ i∈t.heads, ∃ f',f=f'+1 ∧ ∃ o,l.toArray[i]? = some o∧Er P l.toArray (xs.contains i) o σ (Ae P l.toArray xs K f' (listed.setIfInBounds i true)))∧(top=true→Ae P l.toArray xs K f listed σ)
 | 0,t,listed, σ,top,hB,h=>by
  unfold jV at hB;simp only [Bool.and_eq_true,beq_iff_eq] at hB;refine ⟨fun i hi=>(by rw [hB.1] at hi;cases hi),fun _=>⟨hB.2,?_⟩⟩;have:∀ (t:OT),t.heads = []→pS P l xs K t σ → K σ := by
   intro t
   induction t with
   | done=>exact fun _ h=>h
   | step i t _=>intro h;simp [OT.heads] at h
   | alt a b iha ihb =>
    intro hh h;simp only [OT.heads,List.append_eq_nil_iff] at hh;exact iha hh.1 h.1
  exact this t hB.1 h
 | f+1, .done,listed, σ,top,hB,h=>by
  refine ⟨fun i hi=>(by cases hi),fun ht=>⟨fun _=>h,fun i hi=>?_⟩⟩;unfold jV at hB;rw [ht] at hB;simp only [Bool.not_true,Bool.false_or,beq_iff_eq] at hB;rw [hB] at hi;cases hi
 | f+1, .step i t,listed, σ,top,hB,h=>by
  unfold jV at hB;simp only [Bool.and_eq_true] at hB;obtain ⟨⟨h1,h2⟩,h3⟩:=hB;obtain ⟨o,ho⟩:=Option.isSome_iff_exists.1 h2;have hstep:Er P l.toArray (xs.contains i) o σ (Ae P l.toArray xs K f (listed.setIfInBounds i true)):=by
   have ho':l[i]? = some o:=by simpa using ho
   simp only [pS,ho',tU] at h;exact Df (fun σ' hk=>(Nt f t _ σ' true h3 hk).2 rfl) h
  refine ⟨fun j hj=>?_,fun ht=>⟨fun h0=>?_,fun j hj=>?_⟩⟩
  ·simp only [OT.heads,List.mem_singleton] at hj;subst hj;exact ⟨f,rfl,o,ho,hstep⟩
  ·rw [ht] at h1;simp only [Bool.not_true,Bool.false_or,beq_iff_eq] at h1;rw [h1] at h0;cases h0
  ·rw [ht] at h1;simp only [Bool.not_true,Bool.false_or,beq_iff_eq] at h1;rw [h1] at hj;simp only [List.mem_singleton] at hj;subst hj;exact ⟨o,ho,by simpa using hstep⟩
 | f+1, .alt a b,listed, σ,top,hB,h=>by
  unfold jV at hB;simp only [Bool.and_eq_true] at hB;obtain ⟨⟨h1,h2⟩,h3⟩:=hB;have ha:=(Nt (f+1) a listed σ false h2 h.1).1;have hb:=(Nt (f+1) b listed σ false h3 h.2).1;have hall:∀ i∈(OT.alt a b).heads, ∃ f',f+1=f'+1 ∧ ∃ o,l.toArray[i]? = some o∧Er P l.toArray (xs.contains i) o σ (Ae P l.toArray xs K f' (listed.setIfInBounds i true)):=by
   intro i hi;simp only [OT.heads,List.mem_append] at hi;exact hi.elim (ha i) (hb i)
  refine ⟨hall,fun ht=>?_⟩;rw [ht] at h1;simp only [Bool.not_true,Bool.false_or,beq_iff_eq] at h1;refine ⟨fun h0=>?_,fun i hi=>?_⟩
  ·rw [h1] at h0;have hk:∀ (t:OT),t.heads = []→pS P l xs K t σ → K σ := by
    intro t
    induction t with
    | done=>exact fun _ h=>h
    | step i t _=>intro h;simp [OT.heads] at h
    | alt a b iha ihb =>
     intro hh h;simp only [OT.heads,List.append_eq_nil_iff] at hh;exact iha hh.1 h.1
   exact hk (.alt a b) h0 h
  ·rw [h1] at hi;obtain ⟨f',hf,o,ho,hs⟩:=hall i hi;have:f'=f:=by omega
   subst this;exact ⟨o,ho,by simpa using hs⟩
theorem RelF.wfh {E:Env} {σ : St} {a:Act} {w:World} (hr:RelF E σ a w):WFh σ := fun q hq=>by
 cases hl : σ.h.look q with
 | none=>rfl
 | some blk =>
  have:=hr.bound q (hr.rel.uses hl);omega
inductive PT where
 | done
 | look (i:Nat) (t:PT)
 | step (i:Nat) (t:PT)
def lookB (P:Program) (ops:Array Oper) (xs:List Nat) (listed:Array Bool) (i:Nat):Bool :=
 (Region.ready .any ops listed).contains i&&Region.free .any ops listed i&&(ops[i]?).any (fN P ·.op) && !xs.contains i &&
  ((List.range ops.size).all fun j => !(ops[j]?).any (zX P ·.op)||(xs.contains j||vH .any ops 16 j i))
def ptB (P:Program) (ops:Array Oper) (xs:List Nat):Nat→Array Bool→Bool→PT→Bool
 | 0,listed,_, .done=>Region.ready .any ops listed == []
 | 0,_,_,_=>false
 | _+1,listed,_, .done=>Region.ready .any ops listed == []
 | f+1,listed,w, .look i t=>w&&lookB P ops xs listed i&&ptB P ops xs f (listed.setIfInBounds i true) w t
 | f+1,listed,w, .step i t=>Region.ready .any ops listed == [i]&&(ops[i]?).isSome&&ptB P ops xs f (listed.setIfInBounds i true) (w&&xs.contains i) t
def nR (P:Program) (l:List Oper) (xs:List Nat) (K:St→Prop):PT→St→Prop
 | .done, σ => K σ
 | .look i t, σ => psteps.pstepsO P l (l[i]?) σ (nR P l xs K t)
 | .step i t, σ => tU P l (xs.contains i) (l[i]?) σ (nR P l xs K t)
theorem aPf {P:Program} {o:Oper} {σ : St} {K:St→Prop} (h:yL P o σ K):yL P o σ fun s=>WFh s∧K s:=by
 obtain ⟨f,args,tys,hg,ho,hu⟩:=Aq h;obtain ⟨ys,h1,h2⟩:=eJ hu;exact Na hg ho (h2 _ (ICall.mono (fun s hs=>⟨hs.1,hs.1.2.1,hs.2⟩) h1))
theorem aKa {P:Program} {l:List Oper} {xs:List Nat} {K:St→Prop}:∀ (f:Nat) (t:PT) (listed:Array Bool) (w:Bool) (σ : St),ptB P l.toArray xs f listed w t=true→HeadInv .any l.toArray l.toArray.size listed→(w=true→WFh σ) →
  nR P l xs K t σ → Ae P l.toArray xs K f listed σ
 | 0, .done,listed,w, σ,hB,inv,hw,h=>by
  unfold ptB at hB;exact ⟨by simpa using hB,h⟩
 | 0, .look _ _,listed,w, σ,hB,_,_,_=>by cases hB
 | 0, .step _ _,listed,w, σ,hB,_,_,_=>by cases hB
 | f+1, .done,listed,w, σ,hB,inv,hw,h=>by
  unfold ptB at hB;have h0:Region.ready .any l.toArray listed = []:=by simpa using hB
  exact ⟨fun _=>h,fun i hi=>by rw [h0] at hi;cases hi⟩
 | f+1, .look i t,listed,w, σ,hB,inv,hw,h=>by
  unfold ptB lookB at hB;simp only [Bool.and_eq_true] at hB;obtain ⟨⟨bw,⟨⟨⟨b1,b2⟩,b3⟩,b3x⟩,b4⟩,b5⟩:=hB;have hr:i∈Region.ready .any l.toArray listed:=by simpa using b1
  obtain ⟨oi,ho,hm⟩:∃ oi,l.toArray[i]? = some oi∧fN P oi.op=true:=by
   cases hq:l.toArray[i]? with
   | none=>rw [hq] at b3;cases b3
   | some oi=>rw [hq] at b3;exact ⟨oi,rfl,by simpa using b3⟩
  have ho':l[i]? = some oi:=by simpa using ho
  simp only [nR,ho',psteps.pstepsO] at h;obtain ⟨y,hk,hst0⟩:=nT hm h;have hst:∀ σ',mW σ σ' oi.op.operands.toList→sC σ.h σ'.h→(∀ j w,oi.guard=some (j,w) → ∀ t,eQ l j=some t → σ'.ev (.tmp t) = σ.ev (.tmp t)) → ∀ K':St→Prop,K' (σ'.put oi.dst y)→dN P l σ' oi.dst oi.op oi.guard K' :=
   fun σ' he hh hg K' hk'=>hst0 σ' he (fun y _ q b _ hq=>hh q b hq) hg K' hk'
  have his:i<l.toArray.size:=(Array.getElem?_eq_some_iff.1 ho).1;refine aF5 (y:=y) ho (by simpa using b3x) (fun j oj hoj hh=>?_) f listed σ inv (Region.free_spec ho b2) hr (hw bw) hst ?_
  ·have hj:=(List.all_eq_true.1 b4) j (List.mem_range.2 (Array.getElem?_eq_some_iff.1 hoj).1);simp only [hoj,Option.any_some,hh,Bool.not_true,Bool.false_or,Bool.or_eq_true] at hj;exact hj
  ·exact aKa f t _ w _ b5 (inv.set hr his) (fun q=>(zV (hw q)).2.1) hk
 | f+1, .step i t,listed,w, σ,hB,inv,hw,h=>by
  unfold ptB at hB;simp only [Bool.and_eq_true,beq_iff_eq] at hB;obtain ⟨⟨h1,h2⟩,h3⟩:=hB;obtain ⟨o,ho⟩:=Option.isSome_iff_exists.1 h2;have ho':l[i]? = some o:=by simpa using ho
  have hi:i∈Region.ready .any l.toArray listed:=by rw [h1];simp
  have his:i<l.toArray.size:=(Array.getElem?_eq_some_iff.1 ho).1;refine ⟨fun h0=>(by rw [h1] at h0;cases h0),fun j hj=>?_⟩;rw [h1] at hj;simp only [List.mem_singleton] at hj;subst hj;refine ⟨o,ho,?_⟩;simp only [nR,ho',tU] at h;cases hx:xs.contains j with
  | true =>
   rw [hx] at h h3;exact Mz (fun σ' hk=>aKa f t _ _ σ' h3 (inv.set hi his) (fun _=>hk.1) hk.2) (aPf h)
  | false =>
   rw [hx,Bool.and_false] at h3;rw [hx] at h;exact Df (b:=false) (fun σ' hk=>aKa f t _ _ σ' h3 (inv.set hi his) (fun q=>by cases q) hk) h
theorem aT0 {P:Program} {n0:Nat} {id:Nat} {l:List Oper} {Q:Exit→St→Prop} {σ : St} (xs:List Nat) (t:PT) (hm:P.follows .mixedOrders=true)
  (hT:ptB P l.toArray xs l.length (Array.replicate l.length false) true t=true) (h:nR P l xs (Q .normal) t σ):Lw P n0 id l.toArray Q σ := by
 intro E a w hr E0 w0 hU hE;refine wpIn_region_any hm ?_;have inv:HeadInv .any l.toArray l.toArray.size (Array.replicate l.length false):=by
  have:=mJ (ops:=l.toArray) (md := .any);simpa using this
 have hd:=aKa _ t _ true σ hT inv (fun _=>hr.wfh) h;have hdr:RelF E σ a { w with drawn:=w.drawn+1 }∧Ext E0 w0 E { w with drawn:=w.drawn+1 }:=by
  have hb:Below w.heap.size w { w with drawn:=w.drawn+1 }:=⟨rfl,rfl,rfl,Nat.le_refl _,fun _ _=>rfl⟩
  obtain ⟨k1,k2⟩:=hr.later hb (fun _ h=>h) (fun b hb => .inl hb) (fun b hb'=>hr.rel.slt b hb');exact ⟨k1,hE.trans k2⟩
 have:=Su _ _ σ hd E a _ hdr.1 E0 w0 hdr.2;simpa using this
section
variable {P:Program} {l:List Oper} {xs:List Nat} {K:St→Prop} {σ : St}
@[go_sem] theorem ptsteps_done:nR P l xs K .done σ = K σ := rfl
@[go_sem] theorem ptsteps_look {i:Nat} {t:PT}:nR P l xs K (.look i t) σ = psteps.pstepsO P l (l[i]?) σ (nR P l xs K t):=rfl
@[go_sem] theorem ptsteps_step {i:Nat} {t:PT}:nR P l xs K (.step i t) σ = tU P l (xs.contains i) (l[i]?) σ (nR P l xs K t):=rfl
end
section
variable {P:Program} {l:List Oper} {xs:List Nat} {K:St→Prop} {σ : St}
@[go_sem] theorem xsteps_done:pS P l xs K .done σ = K σ := rfl
@[go_sem] theorem xsteps_step {i:Nat} {t:OT}:pS P l xs K (.step i t) σ = tU P l (xs.contains i) (l[i]?) σ (pS P l xs K t):=rfl
@[go_sem] theorem xsteps_alt {a b:OT}:pS P l xs K (.alt a b) σ = (pS P l xs K a σ ∧ pS P l xs K b σ):=rfl
@[go_sem] theorem xstepsO_false {o:Oper}:tU P l false (some o) σ K=dN P l σ o.dst o.op o.guard K:=rfl
@[go_sem] theorem xstepsO_true {o:Oper}:tU P l true (some o) σ K=yL P o σ K:=rfl
end
attribute [go_sem] yL
theorem Cc {P:Program} {n0:Nat} {c:Code} {Q:Exit→St→Prop} {σ : St} (h:WFh σ → AWP P n0 c Q σ):AWP P n0 c Q σ := by
 intro E a w hr E0 w0 hU hE;exact h hr.wfh E a w hr E0 w0 hU hE
