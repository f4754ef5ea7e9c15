/- Proved here: Reading of slices as lists, kept over later worlds, and regions that draw their order. -/
import Derived.WalkSpells
import Derived.WalkLawsBesides
import Derived.BigQuiet
import Derived.Lib.Hide
import Derived.Deep.RegionLaw
import Derived.Deep.CutRange
import Derived.Deep.AppendLies
import Derived.Deep.RegionHeld3
import Derived.StillTail
import Derived.Great.BuildSlice
import Derived.Laws.AppendOwnNone
set_option linter.unusedSimpArgs false
set_option linter.unusedVariables false
set_option linter.unusedSectionVars false
set_option linter.unnecessarySimpa false
namespace Go.Proofs.YtkjdkbmfaamhaaaGreat
open Go.RowKit
def Sl{α:Type}(f:α->List Value)(k:Nat)(w:World)(A:Option Addr)(xs:List α):Prop:=
 ∀i x,xs[i]?=some x ->∃b off,A=some ⟨b,off,none⟩ /\∀j v,(f x)[j]?=some v->w.cell? ⟨b,off+i*k+j,none⟩=some v
theorem aJn{w:World}{a:Addr}{v:Value}(h:w.cell? a=some v):a.block<w.heap.size:=World.block_lt_of_cell? _ _ h
theorem Sl.later{α:Type}{f:α->List Value}{k:Nat}{w w':World}{A:Option Addr}{xs:List α}(h:Sl f k w A xs)(hb:Below w.heap.size w w'):Sl f k w' A xs:=by
 intro i x hx;obtain⟨b,off,rfl,hc⟩:=h i x hx;exact⟨b,off,rfl,λj v hj=>(hb.cell (aJn (hc j v hj))).trans (hc j v hj)⟩
theorem zW(w:World)(o:Obj):Below w.heap.size w (w.alloc o):=(Below.refl _ _).alloc (Nat.le_refl _) o
theorem Sl.alloc{α:Type}{f:α->List Value}{k:Nat}{w:World}{A:Option Addr}{xs:List α}(h:Sl f k w A xs)(o:Obj):Sl f k (w.alloc o) A xs:=
 h.later (zW w o)
def aJb{α:Type}(p:α->Bool):List α->Nat->Int
 |[],_=> -1
 |x::r,k=>if p x then (k:Int)else aJb p r (k+1)
def idx{α:Type}(p:α->Bool)(l:List α):Int:=aJb p l 0
structure Later (w:World) where
 w':World
 h:Below w.heap.size w w'
instance laterInh (w:World):Inhabited (Later w):=⟨⟨w,Below.refl _ _⟩⟩
def Later.of{w w':World}(h:Below w.heap.size w w'):Later w:=⟨w',h⟩
def Sl1{α:Type}(f:α->Value)(w:World)(A:Option Addr)(xs:List α):Prop:=
 ∀i x,xs[i]?=some x ->∃b off,A=some ⟨b,off,none⟩/\w.cell? ⟨b,off+i,none⟩=some (f x)
theorem Sl1.later{α:Type}{f:α->Value}{w w':World}{A:Option Addr}{xs:List α}(h:Sl1 f w A xs)(hb:Below w.heap.size w w'):Sl1 f w' A xs:=by
 intro i x hx;obtain⟨b,off,rfl,hc⟩:=h i x hx;exact⟨b,off,rfl,(hb.cell (aJn hc)).trans hc⟩
theorem Sl1.alloc{α:Type}{f:α->Value}{w:World}{A:Option Addr}{xs:List α}(h:Sl1 f w A xs)(o:Obj):Sl1 f (w.alloc o) A xs:=
 h.later (zW w o)
theorem Sl1.nil{α:Type}(f:α->Value)(w:World)(A:Option Addr):Sl1 f w A []:=λi x h=>by simp at h
theorem Sl.nil{α:Type}(f:α->List Value)(k:Nat)(w:World)(A:Option Addr):Sl f k w A []:=λi x h=>by simp at h
section
variable {α:Type} {f:α->List Value} {k:Nat}
theorem aQg{w:World}{base e n:Nat}{v:Value}{xs:List Value}(h:w.ownsRow base e k v n xs):∃A c,v=.slice A n c/\n<=maxLen:=by
 rcases h.2 with ⟨h1,h2⟩|⟨g,cap,cur,hv,_,hg,h3,h4,_⟩
 .exact⟨none,0,by rw[h1,h2],by rw[h2];exact Nat.zero_le _⟩
 .exact⟨_,_,hv,by omega⟩
end
theorem aLd{w w':World}{base e k n:Nat}{v:Value}{xs:List Value}(h:w.ownsRow base e k v n xs)(hb:Below w.heap.size w w'):w'.ownsRow base e k v n xs:=
 h.kept (row:=none) ⟨hb.os,hb.tape,hb.output,hb.size,λi hi _=>hb.block i hi⟩ (by cases h2:v.ownBlock<;>simp)
section
variable {P:Program} {ops:Array Oper} {Q:Exit->Act->World->Prop} {md:Region.Mode} {fin:Nat->Bool}
def Cl(b w:World):Prop:=Below b.heap.size b w
theorem Cl.refl(b:World):Cl b b:=Below.refl _ _
theorem Cl.trans{a b c:World}(h:Cl a b)(k:Cl b c):Cl a c:=Below.trans h (Below.mono k h.size)
def YieldsS(P:Program)(ops:Array Oper)(b:World)(o:Oper)(v:Value)(a:Act):Prop:=
 (Region.wanted o (yielded ops a.tmps)=true /\∀w,Cl b w->((execOp a.eval o).run P w=.ok (.value v) w\/((execOp a.eval o).run P w=.ok .skip w/\v=undef))) \/
 (Region.wanted o (yielded ops a.tmps)=false/\v=undef)
theorem YieldsS.later{b b':World}{o:Oper}{v:Value}{a:Act}(h:YieldsS P ops b o v a)(hb:Cl b b'):YieldsS P ops b' o v a:=by
 rcases h with ⟨h1,h2⟩|h
 .exact .inl ⟨h1,λw hw=>h2 w (hb.trans hw)⟩
 .exact .inr h
theorem YieldsS.of_same{b:World}{o:Oper}{v:Value}{a a':Act}(hy:YieldsS P ops b o v a)(he:execOp a'.eval o=execOp a.eval o)
  (hw:Region.wanted o (yielded ops a'.tmps)=Region.wanted o (yielded ops a.tmps)):YieldsS P ops b o v a':=by
 unfold YieldsS at*;rw[he,hw];exact hy
def Xk(P:Program)(md:Region.Mode)(ops:Array Oper)(Q:Exit->Act->World->Prop)(fin:Nat->Bool):Nat->Array Bool->Act->World->Prop
 |0,listed,a,w=>Region.ready md ops listed=[]/\Q .normal a w
 |f+1,listed,a,w=>(Region.ready md ops listed=[]->Q .normal a w) /\
  ∀i∈Region.ready md ops listed,
   (∃o v,ops[i]?=some o/\YieldsS P ops w o v a/\Xk P md ops Q fin f (listed.setIfInBounds i true) (a.put o.dst v) w) \/
   (fin i=false/\wpOp P ops Q i (λa' w'=>Cl w w'/\Xk P md ops Q fin f (listed.setIfInBounds i true) a' w') a w) \/
   (fin i=true/\wpOp P ops Q i (λa' w'=>Xk P md ops Q fin f (listed.setIfInBounds i true) a' w') a w)
def zN(md:Region.Mode)(ops:Array Oper):Nat->Nat->Nat->Bool
 |0,_,_=>false
 |d+1,j,i=>match ops[j]? with
  |some oj=>oj.after.any λe=>Region.binds md e&&(e.on==i||zN md ops d e.on i)
  |none=>false
theorem nZ{i:Nat}{listed:Array Bool}(inv:HeadInv md ops ops.size listed):∀(d j:Nat),zN md ops d j i=true ->
  (∀oj,ops[j]?=some oj ->∀e∈oj.after,Region.binds md e=true->listed.getD e.on false=true)->listed.getD i false=true
 |0,_,h,_=>by simp[zN]at h
 |d+1,j,h,hj=>by
  unfold zN at h;cases ho:ops[j]? with
  |none=>simp[ho]at h
  |some oj=>
   rw[ho]at h;obtain⟨e,he,hb⟩:=Array.any_eq_true'.1 h;simp only[Bool.and_eq_true,Bool.or_eq_true,beq_iff_eq]at hb;have hl:=hj oj ho e he hb.1;rcases hb.2 with h1|h1
   .rw[<-h1];exact hl
   .exact nZ inv d e.on h1 (λok hk e' he' hb'=>inv.closed e.on ok hk hl e' he' hb')
def Yt:Op->Bool
 | .move _| .assign _=>true
 |_=>false
theorem YieldsS.any{b b':World}{o:Oper}{v:Value}{a:Act}(hn:Yt o.op=true)(h:YieldsS P ops b o v a):YieldsS P ops b' o v a:=by
 rcases h with ⟨h1,h2⟩|h
 .refine .inl ⟨h1,λw hw=>?_⟩;have h3:=h2 b (Cl.refl b);cases hop:o.op with
  |move x=>simp only[execOp,hop,Sem.run_pure]at h3⊢; simpa using h3
  |assign x=>simp only[execOp,hop,Sem.run_pure]at h3⊢; simpa using h3
  |_=>rw[hop]at hn;simp[Yt]at hn
 .exact .inr h
theorem YieldsS.put{b:World}{oi oj:Oper}{v:Value}(hap:oi.apart ops oj=true)(hsi:∀cs b,oi.op ≠ .select cs b){a:Act}(hy:YieldsS P ops b oi v a)(u:Value):
  YieldsS P ops b oi v (a.put oj.dst u):=
 hy.of_same (execOp_put oi hsi a oj.dst u (Oper.apart_spec hap).2.2) (wanted_put oi a oj.dst u (Oper.apart_spec hap).2.2)
def noCall:Op->Bool
 | .call { callee:=.builtin .len,.. }=>true
 | .call { callee:=.builtin .cap,.. }=>true
 | .call _| .go _| .defer _| .send .. | .recv .. | .select .. =>false
 |_=>true
def NoEnter(s:Sem Next):Prop:=∀(P:Program) (w w':World) (f:FuncId) (args:Array Value),s.run P w ≠ .ok (.enter f args) w'
def pickQ:List Oper->List Bool->List Oper
 |o::l,true::m=>o::pickQ l m
 |_::l,false::m=>pickQ l m
 |_,_=>[]
def lexQ(md:Region.Mode)(ops:Array Oper)(fins:List Nat):List Bool->Nat->Array Bool->Bool
 |[],_,_=>true
 |true::m,k,listed=>(Region.ready md ops listed).contains k&&Region.free md ops listed k&&((fins.all λj=>zN md ops 16 j k)||((ops[k]?).map (Yt ·.op)).getD false)&&((ops[k]?).map (noCall ·.op)).getD false &&
   lexQ md ops fins m (k+1) (listed.setIfInBounds k true)
 |false::m,k,listed=>lexQ md ops fins m (k+1) listed
def aJ1:List Bool->Nat->Array Bool->Array Bool
 |[],_,listed=>listed
 |true::m,k,listed=>aJ1 m (k+1) (listed.setIfInBounds k true)
 |false::m,k,listed=>aJ1 m (k+1) listed
def aS6:List Bool->Nat
 |[]=>0
 |true::m=>aS6 m+1
 |false::m=>aS6 m
theorem rE:HeadInv md ops ops.size (Array.replicate ops.size false):=by
 refine⟨by simp,λj oj hj hl e he hb=>?_,λt h1 h2=>by omega⟩;exfalso;rcases Nat.lt_or_ge j ops.size with h|h
 .simp[h]at hl
 .simp[h]at hl
def TailKeep(P:Program)(md:Region.Mode)(ops:Array Oper)(Q:Exit->Act->World->Prop)(fin:Nat->Bool)(f:Nat)(listed:Array Bool)(i:Nat)(a:Act)(w:World):Prop:=
 ∃o,ops[i]?=some o/\o.guard=none /\∀K:Act->World->Prop,(∀a' w',Below w.heap.size w w'->Xk P md ops Q fin f (listed.setIfInBounds i true) a' w'->K a' w')->o.wp P a w K Q
end
end Go.Proofs.YtkjdkbmfaamhaaaGreat
namespace Go.Proofs.YtkjdkbmfaamhaaaGreat
open Go.RowKit
inductive T where
 |lit (v:Value)
 |list (k:Nat) (d:List T) (xs:List (List T))
 |map (es:List (Value×Bool×List T))
 |opq
instance:Inhabited T:=⟨.lit undef⟩
def Sm:Value->Prop
 | .string s=>s.size<=maxLen
 |_=>True
def EntV(g:Bool)(xs:List T)(v:Value):Prop:=(g=true ->∃vs,v=.agg vs/\vs.size=xs.length)/\(g=false->v.oneCell'=true/\xs.length=1)
inductive RdT (w:World) (S:Nat->Prop):T->Value->Prop
 |lit (v:Value) (h1:v.oneCell'=true) (hf:Sm v):RdT w S (.lit v) v
 |list (k:Nat) (d:List T) (xs:List (List T)) (A:Option Addr) (c:Nat) (hm:xs.length<=maxLen) (hc:xs.length<=c) (hn:A=none->c=0) (hk:∀e∈xs,e.length=k)
   (ha:∀i e,xs[i]?=some e ->∃b off,A=some ⟨b,off,none⟩/\S b /\∀(j:Nat) x,e[j]?=some x ->∃u,w.cell? ⟨b,off+i*k+j,none⟩=some u)
   (hr:∀(i:Nat) e (j:Nat) x b off u,xs[i]?=some e->e[j]?=some x->A=some ⟨b,off,none⟩->w.cell? ⟨b,off+i*k+j,none⟩=some u->RdT w S x u) :
   RdT w S (.list k d xs) (.slice A xs.length c)
 |map (es:List (Value×Bool×List T)) (r:Nat) (entries:Array MapEntry) (clock:Nat) (hS:S r) (hh:w.heap[r]?=some (.map entries clock)) (hl:es.length=entries.size) (hbn:(∀e∈entries.toList,e.born<clock)/\(entries.toList.map (·.born)).Nodup)
   (hf:∀(i:Nat) k g xs e,es[i]?=some (k,g,xs)->entries[i]?=some e->e.key=k/\EntV g xs e.val)
   (hr:∀(i:Nat) k g xs e (j:Nat) x u,es[i]?=some (k,g,xs)->entries[i]?=some e->xs[j]?=some x->e.val.cells[j]?=some u->RdT w S x u) :
   RdT w S (.map es) (.map (some r))
 |opq (v:Value) (h1:v.oneCell'=true):RdT w S .opq v
theorem Ws{w w':World}{b:Nat}(h:w'.heap[b]?=w.heap[b]?)(o:Nat):w'.cell? ⟨b,o,none⟩=w.cell? ⟨b,o,none⟩:=World.cell?_of_block (w:=w) h
theorem RdT.mono{w w':World}{S S':Nat->Prop}(hS:∀b,S b->S' b)(hw:∀b,S b->w'.heap[b]?=w.heap[b]?){x:T}{v:Value}(h:RdT w S x v):RdT w' S' x v:=by
 induction h with
 |lit v h1 hf=>exact .lit v h1 hf
 |list k d xs A c hm hc hn hk ha hr ih=>
  refine .list k d xs A c hm hc hn hk ?_ ?_
  .intro i e hi;obtain⟨b,off,hA,hb,hj⟩:=ha i e hi;refine⟨b,off,hA,hS b hb,λj x hx=>?_⟩;obtain⟨u,hu⟩:=hj j x hx;exact⟨u,by rw[Ws (hw b hb)];exact hu⟩
  .intro i e j x b off u hi hj hA hu;obtain⟨b',off',hA',hb,_⟩:=ha i e hi;rw[hA]at hA';injection hA' with hA';injection hA' with h1 h2;subst h1 h2;rw[Ws (hw b hb)]at hu;exact ih i e j x b off u hi hj hA hu
 |opq v h1=>exact .opq v h1
 |map es r entries clock hS0 hh hl hbn hf hr ih=>exact .map es r entries clock (hS r hS0) (by rw[hw r hS0];exact hh) hl hbn hf ih
theorem RdT.one{w:World}{S:Nat->Prop}{x:T}{v:Value}(h:RdT w S x v):v.oneCell'=true:=by
 cases h with
 |lit _ h1 _=>exact h1
 |opq _ h1=>exact h1
 |list=>rfl
 |map=>rfl
def RdTs(w:World)(S:Nat->Prop):List T->List Value->Prop
 |[],[]=>True
 |x::xs,v::vs=>RdT w S x v/\RdTs w S xs vs
 |_,_=>False
theorem RdTs.nth{w:World}{S:Nat->Prop}:∀{xs:List T} {vs:List Value} (j:Nat) {x:T} {u:Value},RdTs w S xs vs->xs[j]?=some x->vs[j]?=some u->RdT w S x u
 |[],[],j,x,u,_,hx,_=>by simp at hx
 |x0::xs,v0::vs,0,x,u,h,hx,hu=>by simp at hx hu;subst hx hu;exact h.1
 |x0::xs,v0::vs,j+1,x,u,h,hx,hu=>RdTs.nth j h.2 (by simpa using hx) (by simpa using hu)
 |[],_::_,_,_,_,h,_,_=>h.elim
 |_::_,[],_,_,_,h,_,_=>h.elim
theorem aBe{w:World}{S:Nat->Prop}:∀{xs:List T} {vs:List Value},xs.length=vs.length->(∀(j:Nat) x u,xs[j]?=some x->vs[j]?=some u->RdT w S x u)->RdTs w S xs vs
 |[],[],_,_=>trivial
 |x::xs,v::vs,hl,h=>⟨h 0 x v rfl rfl,aBe (by simpa using hl) λj y u hy hu=>h (j+1) y u (by simpa using hy) (by simpa using hu)⟩
 |[],_::_,hl,_=>by simp at hl
 |_::_,[],hl,_=>by simp at hl
structure Env where
 S:Nat->Prop
 B:Nat->Option Value
 U:Nat->Prop
 D:Nat->Prop
 F:Nat->Option Value:=λ_=>none
 ro:Option Nat:=none
def Env.Is(E:Env)(i:Nat)(hv:Value):Prop:=E.B i=some hv\/E.F i=some hv
inductive V where
 |t (x:T)
 |agg (cs:List V)
 |tup (vs:List V)
 |own (i:Nat)
 |ptr (i off:Nat)
 |rptr (i k n j:Nat)
 |rsl (i k lo hi:Nat)
 |elem (k:Nat) (d:List T) (xs:List (List T)) (i j:Nat)
 |cond (g:Bool) (x:V)
 |clo (f:FuncId) (cs:List V)
 |dead
instance:Inhabited V:=⟨.dead⟩
mutual
def RdV(w:World)(E:Env):V->Value->Prop
 | .t x,v=>RdT w E.S x v
 | .agg cs,v=>∃vs:Array Value,v=.agg vs/\RdVs w E cs vs.toList/\vs.toList.all (·.oneCell')=true
 | .tup cs,v=>∃vs:Array Value,v=.tuple vs/\RdVs w E cs vs.toList
 | .own i,v=>v.oneCell'=true/\E.U i /\∀hv,E.Is i hv->v=hv
 | .ptr i off,v=>v.oneCell'=true/\E.U i /\∀hv,E.Is i hv ->∃b,hv=.pointer (some ⟨b,0,none⟩)/\v=.pointer (some ⟨b,off,none⟩)
 | .rptr i k n j,v=>v.oneCell'=true/\E.U i /\∀hv,E.Is i hv ->∃b m c,hv=.slice (some ⟨b,0,none⟩) m c/\n<m/\v=.pointer (some ⟨b,n*k+j,none⟩)
 | .rsl i k lo hi,v=>v.oneCell'=true/\E.U i /\∀hv,E.Is i hv ->∃A n c,hv=.slice A n c/\lo<=hi/\hi<=n/\v=.slice (if c=lo then A else A.map (·.add (lo*k))) (hi-lo) (c-lo)
 | .elem k d xs i j,v=>∃b off c,RdT w E.S (.list k d xs) (.slice (some ⟨b,off,none⟩) xs.length c)/\i<xs.length/\v=.pointer (some ⟨b,off+i*k+j,none⟩)
 | .cond g x,v=>(g=true->RdV w E x v)/\(g=false->v=undef)
 | .clo f cs,v=>∃vs:Array Value,v=.func (.func f) #[] vs/\RdVs w E cs vs.toList
 | .dead,_=>True
def RdVs(w:World)(E:Env):List V->List Value->Prop
 |[],[]=>True
 |x::xs,v::vs=>RdV w E x v/\RdVs w E xs vs
 |_,_=>False
end
inductive Blk where
 |box (cs:List V)
 |row (e k:Nat) (d:List T) (xs:List (List V))
 |map (es:List (Value×V))
 |shr (t:T)
 |loop (st:LoopState) (pend:Option Code) (tmps:List V) (ps:List Tmp) (assign body:Code)
 |defd
def Blk.lendable:Blk->Bool
 | .row .. =>true
 | .map _=>true
 | .box _=>true
 |_=>false
def mkV(m:Bool×List T):V:=
 match m with
 |(true,ts)=> .agg (ts.map .t)
 |(false,[t])=> .t t
 |_=> .dead
def tEs(es:List (Value×Bool×List T)):List (Value×V):=es.map λe=>(e.1,mkV e.2)
def aV:Value->Option Nat
 | .pointer (some a)=>some a.block
 | .slice (some a) _ _=>some a.block
 | .map (some r)=>some r
 | .func (.yield l) _ _=>some l
 |_=>none
def RdEs(w:World)(E:Env):List (Value×V)->List MapEntry->Prop
 |[],[]=>True
 |(k,x)::xs,e::es=>e.key=k/\RdV w E x e.val/\RdEs w E xs es
 |_,_=>False
def BlkRel(w:World)(E:Env):Blk->Value->Prop
 | .box cs,hv=>∃b vs ty,hv=.pointer (some ⟨b,0,none⟩)/\w.heap[b]?=some (.cells vs ty (0,0))/\RdVs w E cs vs.toList/\vs.toList.all (·.oneCell')=true
 | .row e k d xs,hv=>∃cells,w.ownsRow 0 e k hv xs.length cells/\RdVs w E xs.flatten cells/\(∀x∈xs,x.length=k)/\cells.all (·.oneCell')=true
 | .map es,hv=>∃r entries clock,hv=.map (some r)/\w.heap[r]?=some (.map entries clock)/\RdEs w E es entries.toList/\(∀e∈entries.toList,e.born<clock)/\(entries.toList.map (·.born)).Nodup
 | .shr t,hv=>RdT w E.S t hv
 | .loop st pend tmps ps assign body,hv=>∃l rec,hv=.func (.yield l) #[] #[]/\w.heap[l]?=some (.loop rec)/\rec.state=st/\rec.pending=pend/\rec.params.toList=ps/\rec.assign=assign/\rec.body=body/\RdVs w E tmps rec.tmps.toList
 | .defd,hv=>∃b,hv=.pointer (some ⟨b,0,none⟩)/\w.heap[b]?=some (.deferred (some []))
def Env.at(E:Env)(blk:Blk)(i:Nat):Option Value:=
 match blk with
 | .shr _=>E.F i
 |_=>E.B i
abbrev Heap:=List (Nat×Blk)
def Heap.look(h:Heap)(i:Nat):Option Blk:=
 match h with
 |[]=>none
 |(j,b)::r=>if i=j then some b else Heap.look r i
structure Rel (w:World) (E:Env) (h:Heap):Prop where
 has:∀i blk,h.look i=some blk ->∃hv,E.at blk i=some hv/\BlkRel w E blk hv
 dom:∀i hv,E.B i=some hv->E.U i /\∃blk,h.look i=some blk
 domF:∀i hv,E.F i=some hv->E.U i/\E.B i=none
 own:∀i hv b,E.B i=some hv->aV hv=some b->b<w.heap.size /\¬E.S b /\¬E.D b
 apart:∀i j hi hj b,E.B i=some hi->E.B j=some hj->aV hi=some b->aV hj=some b->i=j
 slt:∀b,E.S b->b<w.heap.size
 dlt:∀b,E.D b->b<w.heap.size
structure Ext (E0:Env) (w0:World) (E:Env) (w:World):Prop where
 os:w.os=w0.os
 tape:w.tape=w0.tape
 output:w.output=w0.output
 size:w0.heap.size<=w.heap.size
 keep:∀b,E0.S b\/E0.D b->w.heap[b]?=w0.heap[b]?
 S:∀b,E0.S b->E.S b
 S':∀b,E.S b->E0.S b \/¬E0.D b
 D:∀b,E.D b↔E0.D b
 U:∀i,E0.U i->E.U i
 B:∀i,E0.U i ->∀hv,E.B i=some hv->E0.B i=some hv
 W:∀i,E0.U i ->∀hv,E.Is i hv->E0.Is i hv
 ro:E.ro=E0.ro
theorem Rel.is{w:World}{E:Env}{h:Heap}{i:Nat}{h0 hv:Value}(hr:Rel w E h)(hB:E.B i=some h0)(hb:E.Is i hv):hv=h0:=by
 rcases hb with hb|hb
 .rw[hB]at hb;injection hb with hb;exact hb.symm
 .rw[(hr.domF i hv hb).2]at hB;cases hB
theorem Rel.uses{w:World}{E:Env}{h:Heap}{i:Nat}{blk:Blk}(hr:Rel w E h)(hl:h.look i=some blk):E.U i:=by
 obtain⟨hv,hat,_⟩:=hr.has i blk hl;cases blk<;>first|exact(hr.domF i hv hat).1|exact(hr.dom i hv hat).1
theorem Rel.isF{w:World}{E:Env}{h:Heap}{i:Nat}{h0 hv:Value}(hr:Rel w E h)(hF:E.F i=some h0)(hb:E.Is i hv):hv=h0:=by
 rcases hb with hb|hb
 .rw[(hr.domF i h0 hF).2]at hb;cases hb
 .rw[hF]at hb;injection hb with hb;exact hb.symm
theorem Ext.refl(E:Env)(w:World):Ext E w E w:=
 ⟨rfl,rfl,rfl,Nat.le_refl _,λ_ _=>rfl,λ_ h=>h,λ_ h=> .inl h,λ_=> .rfl,λ_ h=>h,λ_ _ _ h=>h,λ_ _ _ h=>h,rfl⟩
theorem Ext.trans{E0 E1 E2:Env}{w0 w1 w2:World}(h:Ext E0 w0 E1 w1)(k:Ext E1 w1 E2 w2):Ext E0 w0 E2 w2 where
 os:=k.os.trans h.os
 tape:=k.tape.trans h.tape
 output:=k.output.trans h.output
 size:=Nat.le_trans h.size k.size
 keep:=λb hb=>(k.keep b (hb.imp (h.S b) ((h.D b).2))).trans (h.keep b hb)
 S:=λb hb=>k.S b (h.S b hb)
 S':=λb hb=>by
  rcases k.S' b hb with h1|h1
  .exact h.S' b h1
  .exact .inr λhd=>h1 ((h.D b).2 hd)
 D:=λb=>(k.D b).trans (h.D b)
 U:=λi hi=>k.U i (h.U i hi)
 B:=λi hi hv hb=>h.B i hi hv (k.B i (h.U i hi) hv hb)
 W:=λi hi hv hb=>h.W i hi hv (k.W i (h.U i hi) hv hb)
 ro:=k.ro.trans h.ro
theorem Ext.rdT{E0 E:Env}{w0 w:World}(h:Ext E0 w0 E w){x:T}{v:Value}(hx:RdT w0 E0.S x v):RdT w E.S x v:=
 hx.mono h.S λb hb=>h.keep b (.inl hb)
mutual
theorem Ext.rdV{E0 E:Env}{w0 w:World}(h:Ext E0 w0 E w):∀(x:V) {v:Value},RdV w0 E0 x v->RdV w E x v
 | .t x,v,hx=>by
  simp only[RdV]at hx⊢;exact h.rdT hx
 | .agg cs,v,hx=>by
  simp only[RdV]at hx⊢;obtain⟨vs,hv,h1,h2⟩:=hx;exact⟨vs,hv,Ext.rdVs h cs h1,h2⟩
 | .tup cs,v,hx=>by
  simp only[RdV]at hx⊢;obtain⟨vs,hv,h1⟩:=hx;exact⟨vs,hv,Ext.rdVs h cs h1⟩
 | .own i,v,hx=>by
  simp only[RdV]at hx⊢;exact⟨hx.1,h.U i hx.2.1,λhv hb=>hx.2.2 hv (h.W i hx.2.1 hv hb)⟩
 | .ptr i off,v,hx=>by
  simp only[RdV]at hx⊢;exact⟨hx.1,h.U i hx.2.1,λhv hb=>hx.2.2 hv (h.W i hx.2.1 hv hb)⟩
 | .rptr i k n j,v,hx=>by
  simp only[RdV]at hx⊢;exact⟨hx.1,h.U i hx.2.1,λhv hb=>hx.2.2 hv (h.W i hx.2.1 hv hb)⟩
 | .rsl i k n j,v,hx=>by
  simp only[RdV]at hx⊢;exact⟨hx.1,h.U i hx.2.1,λhv hb=>hx.2.2 hv (h.W i hx.2.1 hv hb)⟩
 | .elem k d xs i j,v,hx=>by
  simp only[RdV]at hx⊢;obtain⟨b,off,c,h1,h2⟩:=hx;exact⟨b,off,c,h.rdT h1,h2⟩
 | .cond g x,v,hx=>by
  simp only[RdV]at hx⊢;exact⟨λhg=>Ext.rdV h x (hx.1 hg),hx.2⟩
 | .clo f cs,v,hx=>by
  simp only[RdV]at hx⊢;obtain⟨vs,hv,h1⟩:=hx;exact⟨vs,hv,Ext.rdVs h cs h1⟩
 | .dead,v,hx=>by simp only[RdV]
theorem Ext.rdVs{E0 E:Env}{w0 w:World}(h:Ext E0 w0 E w):∀(xs:List V) {vs:List Value},RdVs w0 E0 xs vs->RdVs w E xs vs
 |[],[],hx=>by simp only[RdVs]
 |x::xs,v::vs,hx=>by
  simp only[RdVs]at hx⊢;exact⟨Ext.rdV h x hx.1,Ext.rdVs h xs hx.2⟩
 |[],_::_,hx=>by simp only[RdVs]at hx
 |_::_,[],hx=>by simp only[RdVs]at hx
end
theorem Ext.rdEs{E0 E:Env}{w0 w:World}(h:Ext E0 w0 E w):∀(xs:List (Value×V)) {es:List MapEntry},RdEs w0 E0 xs es->RdEs w E xs es
 |[],[],hx=>trivial
 |(k,x)::xs,e::es,hx=>⟨hx.1,h.rdV x hx.2.1,Ext.rdEs h xs hx.2.2⟩
 |[],_::_,hx=>hx.elim
 |_::_,[],hx=>hx.elim
inductive Dfr where
 |fn (g:FuncId)
 |fnc (g:FuncId) (cs:List V)
 |mark (i:Nat)
 |rnd
structure St where
 fr:List V
 h:Heap
 nx:Nat
 df:List Dfr:=[]
def DefRel(w:World)(E:Env):List Dfr->List Deferred->Prop
 |[],ds=>ds=[]/\E.ro=none
 | .rnd::gs,ds=>gs=[]/\ds=[]/\E.ro.isSome=true
 | .fn g::gs,d::ds=>(∃cap,d={ target:=.fn (.func g) cap,args:=#[] })/\DefRel w E gs ds
 | .fnc g cs::gs,d::ds=>(∃cap:Array Value,d={ target:=.fn (.func g) cap,args:=#[] }/\RdVs w E cs cap.toList)/\DefRel w E gs ds
 | .mark i::gs,d::ds=>(∃b,d={ target:=.collected b,args:=#[] }/\RdV w E (.own i) (.pointer (some ⟨b,0,none⟩)))/\DefRel w E gs ds
 | .fnc _ _::_,[]=>False
 | .fn _::_,[]=>False
 | .mark _::_,[]=>False
theorem Ext.defs{E0 E:Env}{w0 w:World}(h:Ext E0 w0 E w):∀{df:List Dfr} {ds:List Deferred},DefRel w0 E0 df ds->DefRel w E df ds
 |[],ds,hx=>⟨hx.1,h.ro.trans hx.2⟩
 | .rnd::gs,ds,hx=>⟨hx.1,hx.2.1,by rw[h.ro];exact hx.2.2⟩
 | .fn g::gs,d::ds,hx=>⟨hx.1,Ext.defs h hx.2⟩
 | .fnc g cs::gs,d::ds,hx=>by
  obtain⟨⟨b,h1,h2⟩,h3⟩:=hx;exact⟨⟨b,h1,h.rdVs _ h2⟩,Ext.defs h h3⟩
 | .mark i::gs,d::ds,hx=>by
  obtain⟨⟨b,h1,h2⟩,h3⟩:=hx;exact⟨⟨b,h1,h.rdV _ h2⟩,Ext.defs h h3⟩
 | .fn _::_,[],hx=>hx.elim
 | .fnc _ _::_,[],hx=>hx.elim
 | .mark _::_,[],hx=>hx.elim
def xU:List Dfr->Bool
 |[]=>false
 | .rnd::_=>true
 |_::gs=>xU gs
theorem DefRel.ro{w:World}{E:Env}:∀{df:List Dfr} {ds:List Deferred},DefRel w E df ds->xU df=false->E.ro=none
 |[],ds,h,_=>h.2
 | .rnd::gs,ds,h,hi=>by cases hi
 | .fn g::gs,d::ds,h,hi=>DefRel.ro h.2 hi
 | .fnc g cs::gs,d::ds,h,hi=>DefRel.ro h.2 hi
 | .mark i::gs,d::ds,h,hi=>DefRel.ro h.2 hi
 | .fn _::_,[],h,_=>h.elim
 | .fnc _ _::_,[],h,_=>h.elim
 | .mark _::_,[],h,_=>h.elim
def aL6(E:Env):List Dfr:=
 match E.ro with
 |none=>[]
 |some _=>[.rnd]
theorem Lx{w:World}{E:Env}:DefRel w E (aL6 E) []:=by
 unfold aL6;cases h:E.ro with
 |none=>exact⟨rfl,h⟩
 |some l=>exact⟨rfl,rfl,by rw[h];rfl⟩
structure RelF (E:Env) (σ:St) (a:Act) (w:World):Prop where
 rel:Rel w E σ.h
 bound:∀i,E.U i->i<σ.nx
 fr:RdVs w E σ.fr a.tmps.toList
 defers:DefRel w E σ.df a.defers
theorem RdVs.get{w:World}{E:Env}:∀{xs:List V} {vs:List Value} {i:Nat} {x:V},RdVs w E xs vs->xs[i]?=some x ->∃v,vs[i]?=some v/\RdV w E x v
 |[],[],i,x,_,hx=>by simp at hx
 |x0::xs,v0::vs,0,x,h,hx=>by
  simp only[RdVs]at h;simp at hx;subst hx;exact⟨v0,rfl,h.1⟩
 |x0::xs,v0::vs,i+1,x,h,hx=>by
  simp only[RdVs]at h;simp at hx⊢;exact RdVs.get h.2 hx
 |[],_::_,i,x,h,hx=>by simp only[RdVs]at h
 |_::_,[],i,x,h,hx=>by simp only[RdVs]at h
theorem RdVs.len{w:World}{E:Env}:∀{xs:List V} {vs:List Value},RdVs w E xs vs->xs.length=vs.length
 |[],[],_=>rfl
 |x0::xs,v0::vs,h=>by
  simp only[RdVs]at h;simp[RdVs.len h.2]
 |[],_::_,h=>by simp only[RdVs]at h
 |_::_,[],h=>by simp only[RdVs]at h
theorem RdVs.set{w:World}{E:Env}{x:V}{v:Value}(hx:RdV w E x v):∀{xs:List V} {vs:List Value} (i:Nat),RdVs w E xs vs->RdVs w E (xs.set i x) (vs.set i v)
 |[],[],i,h=>by simp only[RdVs,List.set_nil]
 |x0::xs,v0::vs,0,h=>by
  simp only[RdVs]at h;simp only[List.set_cons_zero,RdVs];exact⟨hx,h.2⟩
 |x0::xs,v0::vs,i+1,h=>by
  simp only[RdVs]at h;simp only[List.set_cons_succ,RdVs];exact⟨h.1,RdVs.set hx i h.2⟩
 |[],_::_,i,h=>by simp only[RdVs]at h
 |_::_,[],i,h=>by simp only[RdVs]at h
def aD2:Value->Bool
 | .string s=>decide (s.size<=maxLen)
 |_=>true
theorem aRv{v:Value}(h:aD2 v=true):Sm v:=by
 cases v<;>simp_all[aD2,Sm]
def Qd:Value->V
 | .agg cs=>if cs.toList.all (λv=>v.oneCell'&&aD2 v)then .agg (cs.toList.map λv=> .t (.lit v))else .dead
 | .tuple _=> .dead
 |v=>if aD2 v then .t (.lit v)else .dead
def St.ev(σ:St):Operand->V
 | .tmp t=> σ.fr.getD t .dead
 | .const v=>Qd v
 | .func f=> .t (.lit (.func (.func f) #[] #[]))
 | .global _=> .dead
theorem sV{w:World}{E:Env}:∀(cs:List Value),(cs.all λv=>v.oneCell'&&aD2 v)=true->RdVs w E (cs.map λv=> .t (.lit v)) cs
 |[],_=>by simp only[List.map_nil,RdVs]
 |v::r,h=>by
  simp only[List.all_cons,Bool.and_eq_true]at h;simp only[List.map_cons,RdVs,RdV];exact⟨.lit v h.1.1 (aRv h.1.2),sV r (by simpa using h.2)⟩
theorem eU{w:World}{E:Env}{v:Value}(h1:v.oneCell'=true)(h2:aD2 v=true):RdV w E (.t (.lit v)) v:=by
 simp only[RdV];exact .lit v h1 (aRv h2)
theorem aH7{w:World}{E:Env}{c:Prop}[Decidable c]{x:V}{v:Value}(h:c->RdV w E x v):RdV w E (if c then x else .dead) v:=by
 split
 .exact h ‹_›
 .simp only[RdV]
theorem aBd{w:World}{E:Env}(v:Value):RdV w E (Qd v) v:=by
 cases v with
 |agg cs=>
  unfold Qd;refine aH7 λh=>?_
  simp only[RdV];exact⟨cs,rfl,sV _ h,by simp only[List.all_eq_true,Bool.and_eq_true]at h⊢; exact λx hx=>(h x hx).1⟩
 |tuple _=>unfold Qd;simp only[RdV]
 |_=>unfold Qd;refine aH7 λh=>?_;exact eU (by rfl) h
theorem RelF.ev{E:Env}{σ:St}{a:Act}{w:World}(h:RelF E σ a w)(x:Operand):RdV w E (σ.ev x) (a.eval x):=by
 cases x with
 |tmp t=>
  simp only[St.ev,Act.eval];cases hx:σ.fr[t]? with
  |none=>simp[List.getD_eq_getElem?_getD,hx,RdV]
  |some y=>
   obtain⟨v,hv,hr⟩:=RdVs.get h.fr hx;have e1:σ.fr.getD t .dead=y:=by simp[List.getD_eq_getElem?_getD,hx]
   have e2:a.tmps.getD t undef=v:=by
    have:a.tmps[t]?=some v:=by simpa using hv
    simp[Array.getD_eq_getD_getElem?,this]
   rw[e1,e2];exact hr
 |const v=>exact aBd v
 |global g=>simp only[St.ev,RdV]
 |func f=>simp only[St.ev,Act.eval,RdV];exact .lit _ rfl trivial
def St.put(σ:St)(d:Option Tmp)(x:V):St:=
 match d with
 |some t=>{ σ with fr:= σ.fr.set t x }
 |none=> σ
theorem RelF.put{E:Env}{σ:St}{a:Act}{w:World}(h:RelF E σ a w)(d:Option Tmp){x:V}{v:Value}(hx:RdV w E x v):RelF E (σ.put d x) (a.put d v) w:=by
 cases d with
 |none=>exact h
 |some t=>
  refine⟨h.rel,h.bound,?_,h.defers⟩;simp only[St.put,Act.put,Array.toList_setIfInBounds];exact RdVs.set hx t h.fr
def _root_.Go.Program.szT(P:Program)(t:TypeId):Option Nat:=(P.info? t).map (·.size)
def _root_.Go.Program.aggT(P:Program)(t:TypeId):Option Bool:=
 match P.underlying t with
 |some (.struct _)|some (.array _ _)=>some true
 |some _=>some false
 |none=>none
def _root_.Go.Program.fldT(P:Program)(t:TypeId)(f:Nat):Option (Nat×TypeId):=
 match P.underlying t with
 |some (.struct fs)=>(fs[f]?).map λx=>(x.offset,x.type)
 |_=>none
def _root_.Go.Program.elemT(P:Program)(t:TypeId):Option TypeId:=
 match P.underlying t with
 |some (.slice e)=>some e
 |_=>none
def _root_.Go.Program.zeroT(P:Program)(t:TypeId):Option (List Value):=((P.info? t).bind (·.zero)).map (·.cells.toList)
theorem jD{P:Program}{t:TypeId}{n:Nat}(h:P.szT t=some n)(w:World):(sizeOf t).run P w=.ok n w:=by
 unfold Program.szT at h;cases hi:P.info? t with
 |none=>simp[hi]at h
 |some i=>simp[hi]at h;simp[sizeOf,typeInfo,hi,h]
theorem Bc{P:Program}{t:TypeId}{b:Bool}(h:P.aggT t=some b)(w:World):(isAgg t).run P w=.ok b w:=by
 unfold Program.aggT at h;cases hu:P.underlying t with
 |none=>simp[hu]at h
 |some d=>
  rw[hu]at h;simp only[isAgg,Sem.run_bind,run_underlying hu,Result.andThen_ok];cases d<;>simp at h<;>subst h<;>rfl
def V.cells:V->List V
 | .agg cs=>cs
 |x=>[x]
def Ph(P:Program)(t:TypeId)(cs:List V)(off:Nat):Option V:=
 match P.aggT t,P.szT t with
 |some true,some n=>some (.agg ((cs.drop off).take n))
 |some false,_=>cs[off]?
 |_,_=>none
theorem RdVs.drop{w:World}{E:Env}:∀{xs:List V} {vs:List Value} (n:Nat),RdVs w E xs vs->RdVs w E (xs.drop n) (vs.drop n)
 |xs,vs,0,h=>by simpa using h
 |[],[],n+1,h=>by simp only[List.drop_nil];exact h
 |x0::xs,v0::vs,n+1,h=>by
  simp only[RdVs]at h;simp only[List.drop_succ_cons];exact RdVs.drop n h.2
 |[],_::_,_+1,h=>by simp only[RdVs]at h
 |_::_,[],_+1,h=>by simp only[RdVs]at h
theorem RdVs.take{w:World}{E:Env}:∀{xs:List V} {vs:List Value} (n:Nat),RdVs w E xs vs->RdVs w E (xs.take n) (vs.take n)
 |xs,vs,0,h=>by simp only[List.take_zero,RdVs]
 |[],[],n+1,h=>by simp only[List.take_nil];exact h
 |x0::xs,v0::vs,n+1,h=>by
  simp only[RdVs]at h;simp only[List.take_succ_cons,RdVs];exact⟨h.1,RdVs.take n h.2⟩
 |[],_::_,_+1,h=>by simp only[RdVs]at h
 |_::_,[],_+1,h=>by simp only[RdVs]at h
theorem RdVs.append{w:World}{E:Env}:∀{xs ys:List V} {vs us:List Value},RdVs w E xs vs->RdVs w E ys us->RdVs w E (xs++ys) (vs++us)
 |[],ys,[],us,_,h=>h
 |x0::xs,ys,v0::vs,us,h,k=>by
  simp only[RdVs]at h;simp only[List.cons_append,RdVs];exact⟨h.1,RdVs.append h.2 k⟩
 |[],_,_::_,_,h,_=>by simp only[RdVs]at h
 |_::_,_,[],_,h,_=>by simp only[RdVs]at h
theorem RdVs.ofT{w:World}{E:Env}:∀{xs:List T} {vs:List Value},RdTs w E.S xs vs->RdVs w E (xs.map .t) vs
 |[],[],_=>by simp only[List.map_nil,RdVs]
 |x::xs,v::vs,h=>by
  simp only[List.map_cons,RdVs,RdV];exact⟨h.1,RdVs.ofT h.2⟩
 |[],_::_,h=>h.elim
 |_::_,[],h=>h.elim
def V.isCell:V->Bool
 | .agg _| .tup _| .cond _ _| .dead=>false
 |_=>true
theorem RdV.one{w:World}{E:Env}{x:V}{v:Value}(hx:x.isCell=true)(h:RdV w E x v):v.oneCell'=true:=by
 cases x with
 |t x=>simp only[RdV]at h;exact h.one
 |own i=>simp only[RdV]at h;exact h.1
 |ptr i off=>simp only[RdV]at h;exact h.1
 |rptr i k n j=>simp only[RdV]at h;exact h.1
 |rsl i k n j=>simp only[RdV]at h;exact h.1
 |elem k d xs i j=>simp only[RdV]at h;obtain⟨b,off,c,_,_,rfl⟩:=h;rfl
 |clo f cs=>simp only[RdV]at h;obtain⟨vs,rfl,_⟩:=h;rfl
 |agg _=>simp[V.isCell]at hx
 |tup _=>simp[V.isCell]at hx
 |cond _ _=>simp[V.isCell]at hx
 |dead=>simp[V.isCell]at hx
theorem RdVs.ones{w:World}{E:Env}:∀{xs:List V} {vs:List Value},xs.all V.isCell=true->RdVs w E xs vs->vs.all (·.oneCell')=true
 |[],[],_,_=>rfl
 |x::xs,v::vs,hx,h=>by
  simp only[RdVs]at h;simp only[List.all_cons,Bool.and_eq_true]at hx⊢;exact⟨RdV.one hx.1 h.1,RdVs.ones hx.2 h.2⟩
 |[],_::_,_,h=>by simp only[RdVs]at h
 |_::_,[],_,h=>by simp only[RdVs]at h
theorem aHp{P:Program}{w:World}{E:Env}{t:TypeId}{cs:List V}{vs:Array Value}{off:Nat}{x:V}(h1:RdVs w E cs vs.toList)(h2:vs.toList.all (·.oneCell')=true)
  (h:Ph P t cs off=some x):∃v,(part t vs off).run P w=.ok v w/\RdV w E x v:=by
 unfold Ph at h;split at h
 .rename_i n ha hs;injection h with h;subst h;refine⟨.agg (vs.extract off (off+n)),?_,?_⟩
  .simp[part,Bc ha,jD hs]
  .simp only[RdV];refine⟨_,rfl,?_,?_⟩
   .have:=RdVs.take n (RdVs.drop off h1);simpa[List.drop_take,Nat.add_sub_cancel_left]using this
   .simp only[List.all_eq_true]at h2⊢;intro v hv;simp only[Array.toList_extract,List.extract_eq_take_drop]at hv;exact h2 v (List.mem_of_mem_drop (List.mem_of_mem_take hv))
 .rename_i ha;obtain⟨v,hv,hr⟩:=RdVs.get h1 h;refine⟨v,?_,hr⟩;have hv':vs[off]?=some v:=by simpa using hv
  simp[part,Bc ha,hv']
 .cases h
def YV(P:Program)(o:Oper)(σ:St)(x:V):Prop:=
 ∀E a w,RelF E σ a w ->∀(next:Act->World->Prop) Q,(∀v w' E',RelF E' σ a w'->Ext E w E' w'->RdV w' E' x v->(∀q,E'.U q->E.U q)->next (a.put o.dst v) w')->o.wp P a w next Q
theorem cU{P:Program}{o:Oper}{σ:St}{x:V}(h:∀E a w,RelF E σ a w ->∃v,(execOp a.eval o).run P w=.ok (.value v) w/\RdV w E x v):YV P o σ x:=by
 intro E a w hr next Q hn;obtain⟨v,he,hv⟩:=h E a w hr;unfold Oper.wp;rw[he];exact hn v w E hr (Ext.refl E w) hv (λ_ h=>h)
def dB(G:Bool)(x:V)(K:V->Prop):Prop:=
 match x with
 | .cond g y=>(G=true->g=true)/\K y
 |y=>K y
theorem cB{G:Bool}{x:V}{K:V->Prop}(h:dB G x K):∃y,K y /\∀(w:World) (E:Env) v,G=true->RdV w E x v->RdV w E y v:=by
 unfold dB at h;split at h
 .exact⟨_,h.2,λw E v hG hx=>by simp only[RdV]at hx;exact hx.1 (h.1 hG)⟩
 .exact⟨_,h,λw E v _ hx=>hx⟩
def aM4(op:BinOp)(k:IntKind)(a b:Int):Option (Prop×Value):=
 match op with
 | .add=>some (True,.int k (k.wrap (a+b)))
 | .sub=>some (True,.int k (k.wrap (a-b)))
 | .mul=>some (True,.int k (k.wrap (a*b)))
 | .quo=>some (b≠0,.int k (k.wrap (a.tdiv b)))
 | .rem=>some (b≠0,.int k (a.tmod b))
 | .eql=>some (True,.bool (a==b))
 | .neq=>some (True,.bool (a != b))
 | .lss=>some (True,.bool (decide (a<b)))
 | .leq=>some (True,.bool (decide (a<=b)))
 | .gtr=>some (True,.bool (decide (a>b)))
 | .geq=>some (True,.bool (decide (a>=b)))
 | .and=>some (True,.int k (bits .and k a b))
 | .or=>some (True,.int k (bits .or k a b))
 | .xor=>some (True,.int k (bits .xor k a b))
 | .andNot=>some (True,.int k (bits .andNot k a b))
 | .shl=>some (0<=b,.int k (k.wrap (a*2 ^ min b.toNat k.bits)))
 | .shr=>some (0<=b,.int k (a/2 ^ min b.toNat k.bits))
def shB(op:BinOp)(k:IntKind)(a b:Int):Option (Prop×Value):=
 match op with
 | .shl=>some (0<=b,.int k (k.wrap (a*2 ^ min b.toNat k.bits)))
 | .shr=>some (0<=b,.int k (a/2 ^ min b.toNat k.bits))
 |_=>none
def aKq(op:BinOp)(a b:ByteArray):Option (Prop×Value):=
 match op with
 | .add=>some (((a.size+b.size:Nat):Int)<=IntKind.i64.max,.string (a++b))
 | .eql=>some (True,.bool (a.toList==b.toList))
 | .neq=>some (True,.bool (!(a.toList==b.toList)))
 | .lss=>some (True,.bool (Op.bytesLess a.toList b.toList))
 | .gtr=>some (True,.bool (!(Op.bytesLess a.toList b.toList||a.toList==b.toList)))
 |_=>none
def aG9(P:Program)(op:BinOp)(t:TypeId)(x y:Value):Option (Prop×Value):=
 match x,y with
 | .int k a,.int k' b=>if k=k' then aM4 op k a b else shB op k a b
 | .string a,.string b=>aKq op a b
 | .bool a,.bool b=>
  match P.underlying t,op with
  |some .bool,.eql=>some (True,.bool (a==b))
  |some .bool,.neq=>some (True,.bool (!(a==b)))
  |_,_=>none
 |_,_=>none
theorem zC{P:Program}{op:BinOp}{t:TypeId}{x y:Operand}{a b:Value}(ha:a.oneCell'=true)(h1:a ≠ .nilIface)(w:World):(eqGuard op t x y a b).run P w=.ok () w:=by
 unfold eqGuard;cases a with
 |nilIface=>exact absurd rfl h1
 |agg _=>simp[Value.oneCell']at ha
 |_=>split<;>rfl
theorem intB_ok{P:Program}{op:BinOp}{t:TypeId}{k:IntKind}{a b:Int}{v:Value}{p:Prop}(h:aM4 op k a b=some (p,v))(hp:p)(w:World):
  (binOp op t (.int k a) (.int k b)).run P w=.ok v w:=by
 cases op<;>simp only[aM4,Option.some.injEq,Prod.mk.injEq]at h<;>obtain⟨rfl,rfl⟩:=h <;>
  first|rfl|(rw[binOp_shl,shift_shl_any _ _ _ _ hp];rfl)|(rw[binOp_shr,shift_shr_any _ _ _ _ hp];rfl)|(show(if _ then _ else _:Sem Value).run P w=_;rw[if_neg (by simp)];first|rfl|(show(Op.intDiv _ _ _ _).run P w=_;unfold Op.intDiv;rw[if_neg hp];rfl))
theorem shB_ok{P:Program}{op:BinOp}{t:TypeId}{k k':IntKind}{a b:Int}{v:Value}{p:Prop}(h:shB op k a b=some (p,v))(hp:p)(w:World):
  (binOp op t (.int k a) (.int k' b)).run P w=.ok v w:=by
 cases op<;>simp only[shB,reduceCtorEq,Option.some.injEq,Prod.mk.injEq]at h<;>obtain⟨rfl,rfl⟩:=h <;>
  first|(rw[binOp_shl,shift_shl_any _ _ _ _ hp];rfl)|(rw[binOp_shr,shift_shr_any _ _ _ _ hp];rfl)
theorem strB_ok{P:Program}{op:BinOp}{t:TypeId}{a b:ByteArray}{v:Value}{p:Prop}(h:aKq op a b=some (p,v))(hp:p)(w:World):
  (binOp op t (.string a) (.string b)).run P w=.ok v w:=by
 cases op<;>simp only[aKq,reduceCtorEq,Option.some.injEq,Prod.mk.injEq]at h<;>obtain⟨rfl,rfl⟩:=h <;>
  first|rfl|(show(if _ then _ else _:Sem Value).run P w=_;rw[if_neg (by omega)];rfl)
theorem Rj{P:Program}{t:TypeId}(hu:P.underlying t=some .bool)(a b:Bool)(w:World):(Op.equal t (.bool a) (.bool b)).run P w=.ok (a==b) w:=by
 have h:∀d,(Op.equalIn (d+1) t (.bool a) (.bool b)).run P w=.ok (a==b) w:=λd=>by
  rw[Op.equalIn];simp only[Sem.run_bind,run_underlying hu,Result.andThen_ok,Sem.run_pure]
 exact h 9999
theorem binS_ok{P:Program}{op:BinOp}{t:TypeId}{x y v:Value}{p:Prop}(h:aG9 P op t x y=some (p,v))(hp:p)(w:World):
  (binOp op t x y).run P w=.ok v w/\x.oneCell'=true/\x ≠ .nilIface:=by
 unfold aG9 at h;split at h
 .rename_i k a k' b;split at h
  .rename_i hk;subst hk;exact⟨intB_ok h hp w,rfl,by simp⟩
  .exact⟨shB_ok h hp w,rfl,by simp⟩
 .rename_i a b;exact⟨strB_ok h hp w,rfl,by simp⟩
 .rename_i a b;refine⟨?_,rfl,by simp⟩;split at h
  .rename_i hu;cases h;show((do pure (.bool (<-Op.equal t (.bool a) (.bool b)))):Sem Value).run P w=_
   simp only[Sem.run_bind,Rj hu,Result.andThen_ok,Sem.run_pure]
  .rename_i hu;cases h;show((do pure (.bool (!(<-Op.equal t (.bool a) (.bool b))))):Sem Value).run P w=_
   simp only[Sem.run_bind,Rj hu,Result.andThen_ok,Sem.run_pure]
  .cases h
 .cases h
abbrev aA (n:Int):V:=.t (.lit (.int .i64 n))
abbrev aR (b:Bool):V:=.t (.lit (.bool b))
abbrev cF (s:ByteArray):V:=.t (.lit (.string s))
section
variable {P:Program} {G:Bool} {σ:St} {o:Oper} {K:V->Prop}
theorem aHg{x:Operand}(ho:o.op=.move x\/o.op=.assign x)(h:K (σ.ev x)):∃x,K x/\(G=true->YV P o σ x):=
 ⟨_,h,λ_=>cU λE a w hr=>⟨a.eval x,by rcases ho with ho|ho<;>simp[execOp,ho],hr.ev x⟩⟩
def aQc(G b:Bool)(x y:V)(K:V->Prop):Prop:=
 match x,y with
 | .t (.lit (.bool p)),.t (.lit (.bool q))=>K (aR (bif b then p else q))
 | .cond g (.t (.lit (.bool p))),.t (.lit (.bool q))=>((G&&b)=true->g=true)/\K (aR (bif b then p else q))
 | .t (.lit (.bool p)),.cond g (.t (.lit (.bool q)))=>((G && !b)=true->g=true)/\K (aR (bif b then p else q))
 |_,_=>False
theorem ps_pick{c x y:Operand}(ho:o.op=.pick c x y)
  (h:dB G (σ.ev c) λc'=>match c' with
   | .t (.lit (.bool b))=>aQc G b (σ.ev x) (σ.ev y) K
   |_=>False):∃x,K x/\(G=true->YV P o σ x):=by
 obtain⟨c',h,hc⟩:=cB h;split at h
 .rename_i b;unfold aQc at h;split at h
  .rename_i p q ex ey;refine⟨_,h,λhG=>cU λE a w hr=>⟨if b then a.eval x else a.eval y,?_,?_⟩⟩
   .have hcv:=hc w E (a.eval c) hG (hr.ev c);simp only[RdV]at hcv;cases hcv':a.eval c with
    |bool b'=>rw[hcv']at hcv;cases hcv;simp[execOp,ho,hcv',asBool]
    |_=>rw[hcv']at hcv;cases hcv
   .have h1:=hr.ev x;have h2:=hr.ev y;rw[ex]at h1;rw[ey]at h2;cases b
    .simpa using h2
    .simpa using h1
  .rename_i g p q ex ey;refine⟨_,h.2,λhG=>cU λE a w hr=>⟨if b then a.eval x else a.eval y,?_,?_⟩⟩
   .have hcv:=hc w E (a.eval c) hG (hr.ev c);simp only[RdV]at hcv;cases hcv':a.eval c with
    |bool b'=>rw[hcv']at hcv;cases hcv;simp[execOp,ho,hcv',asBool]
    |_=>rw[hcv']at hcv;cases hcv
   .have h1:=hr.ev x;have h2:=hr.ev y;rw[ex]at h1;rw[ey]at h2;cases b
    .simpa using h2
    .have h3:=h.1 (by simp[hG]);rw[RdV]at h1;simpa using h1.1 h3
  .rename_i g p q ex ey;refine⟨_,h.2,λhG=>cU λE a w hr=>⟨if b then a.eval x else a.eval y,?_,?_⟩⟩
   .have hcv:=hc w E (a.eval c) hG (hr.ev c);simp only[RdV]at hcv;cases hcv':a.eval c with
    |bool b'=>rw[hcv']at hcv;cases hcv;simp[execOp,ho,hcv',asBool]
    |_=>rw[hcv']at hcv;cases hcv
   .have h1:=hr.ev x;have h2:=hr.ev y;rw[ex]at h1;rw[ey]at h2;cases b
    .have h3:=h.1 (by simp[hG]);rw[RdV]at h2;simpa using h2.1 h3
    .simpa using h1
  .exact h.elim
 .exact h.elim
theorem aBf{w:World}{S:Nat->Prop}{v u:Value}(h:RdT w S (.lit v) u):u=v/\v.oneCell'=true/\Sm v:=by
 cases h with
 |lit _ h1 h2=>exact⟨rfl,h1,h2⟩
theorem aJ{w:World}{E:Env}{v u:Value}(h:RdV w E (.t (.lit v)) u):u=v/\v.oneCell'=true/\Sm v:=by
 simp only[RdV]at h;exact aBf h
def unV(op:UnOp)(x:V)(K:V->Prop):Prop:=
 match op,x with
 | .not,.t (.lit (.bool b))=>K (aR (!b))
 | .neg,.t (.lit (.int k n))=>K (.t (.lit (.int k (k.wrap (0-n)))))
 |_,_=>False
theorem ps_unop{op:UnOp}{t:TypeId}{x:Operand}(ho:o.op=.unOp op t x)(h:dB G (σ.ev x) λx'=>unV op x' K):∃x,K x/\(G=true->YV P o σ x):=by
 obtain⟨c',h,hc⟩:=cB h;unfold unV at h;split at h
 .refine⟨_,h,λhG=>cU λE a w hr=>⟨.bool (!_),?_,eU rfl rfl⟩⟩;have:=(aJ (hc w E _ hG (hr.ev x))).1;simp[execOp,ho,this,Op.unary]
 .refine⟨_,h,λhG=>cU λE a w hr=>⟨.int _ (IntKind.wrap _ (0-_)),?_,eU rfl rfl⟩⟩;have:=(aJ (hc w E _ hG (hr.ev x))).1;simp[execOp,ho,this,Op.unary,Op.intArith]
 .exact h.elim
def EqV(P:Program)(t:TypeId)(xs ys:List V)(b:Bool):Prop:=
 ∀(w:World) (E:Env) (vs us:Array Value),RdVs w E xs vs.toList->RdVs w E ys us.toList->(Op.equal t (.agg vs) (.agg us)).run P w=.ok b w /\∀x y,(eqGuard .eql t x y (.agg vs) (.agg us)).run P w=.ok () w
def aTt(P:Program)(G:Bool)(op:BinOp)(t:TypeId)(x y:V)(K:V->Prop):Prop:=
 match x,y with
 | .t (.lit a),.t (.lit b)=>
  match aG9 P op t a b with
  |some (p,v)=>(G=true->p)/\K (.t (.lit v))
  |none=>False
 | .agg xs,.agg ys=>
  match op with
  | .eql=>∃b,(G=true->EqV P t xs ys b)/\K (aR b)
  | .neq=>∃b,(G=true->EqV P t xs ys b)/\K (aR (!b))
  |_=>False
 |_,_=>False
theorem aRk{op:BinOp}{k:IntKind}{a b:Int}{v:Value}{p:Prop}(h:aM4 op k a b=some (p,v)):v.oneCell'=true/\Sm v:=by
 cases op<;>simp only[aM4,Option.some.injEq,Prod.mk.injEq]at h<;>obtain⟨rfl,rfl⟩:=h<;>exact⟨rfl,trivial⟩
theorem shB_one{op:BinOp}{k:IntKind}{a b:Int}{v:Value}{p:Prop}(h:shB op k a b=some (p,v)):v.oneCell'=true/\Sm v:=by
 cases op<;>simp only[shB,reduceCtorEq,Option.some.injEq,Prod.mk.injEq]at h<;>obtain⟨rfl,rfl⟩:=h<;>exact⟨rfl,trivial⟩
theorem aP7{op:BinOp}{a b:ByteArray}{v:Value}{p:Prop}(h:aKq op a b=some (p,v))(hp:p):v.oneCell'=true/\Sm v:=by
 cases op<;>simp only[aKq,reduceCtorEq,Option.some.injEq,Prod.mk.injEq]at h<;>obtain⟨rfl,rfl⟩:=h<;>refine⟨rfl,?_⟩ <;>
  first|trivial|(have hm:IntKind.i64.max=9223372036854775807:=rfl;simp only[Sm,ByteArray.size_append,maxLen,hm]at hp⊢; omega)
theorem aTu{op:BinOp}{t:TypeId}{x y v:Value}{p:Prop}(h:aG9 P op t x y=some (p,v))(hp:p):v.oneCell'=true/\Sm v:=by
 unfold aG9 at h;split at h
 .split at h
  .exact aRk h
  .exact shB_one h
 .exact aP7 h hp
 .split at h<;>first|(cases h;exact⟨rfl,trivial⟩)|cases h
 .cases h
theorem aBs{op:BinOp}{t u:TypeId}{x y:Operand}(ho:o.op=.binOp op t x y u)
  (h:dB G (σ.ev x) λx'=>dB G (σ.ev y) λy'=>aTt P G op t x' y' K):∃x,K x/\(G=true->YV P o σ x):=by
 obtain⟨x',h,hx⟩:=cB h;obtain⟨y',h,hy⟩:=cB h;unfold aTt at h;split at h
 .rename_i va vb;split at h
  .rename_i p v hb;refine⟨_,h.2,λhG=>cU λE a w hr=>⟨v,?_,?_⟩⟩
   .have e1:=(aJ (hx w E _ hG (hr.ev x))).1;have e2:=(aJ (hy w E _ hG (hr.ev y))).1;obtain⟨h1,h2,h3⟩:=binS_ok hb (h.1 hG) w;simp only[execOp,ho,e1,e2,Sem.run_bind,zC h2 h3,Result.andThen_ok,h1,Sem.run_pure]
   .obtain⟨h1,h2⟩:=aTu hb (h.1 hG);simp only[RdV];exact .lit v h1 h2
  .exact h.elim
 .rename_i xs ys;split at h
  .obtain⟨b,h1,h2⟩:=h;refine⟨_,h2,λhG=>cU λE a w hr=>⟨.bool b,?_,eU rfl rfl⟩⟩;have e1:=hx w E _ hG (hr.ev x);have e2:=hy w E _ hG (hr.ev y);simp only[RdV]at e1 e2;obtain⟨vs,e3,r1,_⟩:=e1;obtain⟨us,e4,r2,_⟩:=e2;obtain⟨q1,q2⟩:=h1 hG w E vs us r1 r2;have q3:(binOp .eql t (.agg vs) (.agg us)).run P w=.ok (.bool b) w:=by
    show((do pure (.bool (<-Op.equal t (.agg vs) (.agg us)))):Sem Value).run P w=_
    simp only[Sem.run_bind,q1,Result.andThen_ok,Sem.run_pure]
   simp only[execOp,ho,e3,e4,Sem.run_bind,q2,q3,Result.andThen_ok,Sem.run_pure]
  .obtain⟨b,h1,h2⟩:=h;refine⟨_,h2,λhG=>cU λE a w hr=>⟨.bool (!b),?_,eU rfl rfl⟩⟩;have e1:=hx w E _ hG (hr.ev x);have e2:=hy w E _ hG (hr.ev y);simp only[RdV]at e1 e2;obtain⟨vs,e3,r1,_⟩:=e1;obtain⟨us,e4,r2,_⟩:=e2;obtain⟨q1,q2⟩:=h1 hG w E vs us r1 r2;have q3:(binOp .neq t (.agg vs) (.agg us)).run P w=.ok (.bool (!b)) w:=by
    show((do pure (.bool (!(<-Op.equal t (.agg vs) (.agg us))))):Sem Value).run P w=_
    simp only[Sem.run_bind,q1,Result.andThen_ok,Sem.run_pure]
   have q4:(eqGuard .neq t x y (.agg vs) (.agg us)).run P w=.ok () w:=q2 x y;simp only[execOp,ho,e3,e4,Sem.run_bind,q4,q3,Result.andThen_ok,Sem.run_pure]
  .exact h.elim
 .exact h.elim
theorem aF3{x:Operand}{i:Nat}(ho:o.op=.extract x i)
  (h:dB G (σ.ev x) λx'=>match x' with
   | .tup vs=>match vs[i]? with
    |some v=>K v
    |none=>False
   |_=>False):∃x,K x/\(G=true->YV P o σ x):=by
 obtain⟨x',h,hx⟩:=cB h;split at h
 .rename_i vs;split at h
  .rename_i y hy;refine⟨_,h,λhG=>cU λE a w hr=>?_⟩;have e1:=hx w E _ hG (hr.ev x);simp only[RdV]at e1;obtain⟨us,e3,r1⟩:=e1;obtain⟨v,hv,hr'⟩:=RdVs.get r1 hy;have hv':us[i]?=some v:=by simpa using hv
   exact⟨v,by simp[execOp,ho,e3,Instr.extract,hv'],hr'⟩
  .exact h.elim
 .exact h.elim
theorem aQ8{t:TypeId}{x:Operand}{f:Nat}(ho:o.op=.field t x f)
  (h:dB G (σ.ev x) λx'=>match x',P.fldT t f with
   | .agg cs,some (off,ft)=>match Ph P ft cs off with
    |some v=>K v
    |none=>False
   |_,_=>False):∃x,K x/\(G=true->YV P o σ x):=by
 obtain⟨x',h,hx⟩:=cB h;split at h
 .rename_i cs off ft hf;split at h
  .rename_i y hy;refine⟨_,h,λhG=>cU λE a w hr=>?_⟩;have e1:=hx w E _ hG (hr.ev x);simp only[RdV]at e1;obtain⟨us,e3,r1,r2⟩:=e1;obtain⟨v,hv,hr'⟩:=aHp r1 r2 hy (P:=P);refine⟨v,?_,hr'⟩;unfold Program.fldT at hf;split at hf
   .rename_i fs hu;cases hfs:fs[f]? with
    |none=>simp[hfs]at hf
    |some fd=>
     simp[hfs]at hf;obtain⟨rfl,rfl⟩:=hf;simp[execOp,ho,e3,Instr.field,run_underlying hu,hfs,asAgg,hv]
   .cases hf
  .exact h.elim
 .exact h.elim
end
def nth(d:List T)(xs:List (List T))(i:Nat):List T:=(xs[i]?).getD d
theorem uS{α:Type}(f:α->List T)(a:α)(xs:List α)(i:Nat):nth (f a) (xs.map f) i=f (xs.getD i a):=by
 unfold nth;rw[List.getD_eq_getElem?_getD,List.getElem?_map];cases xs[i]? <;> rfl
def pL(d:List T)(xs:List (List V))(i:Nat):List V:=(xs[i]?).getD (d.map .t)
def aS(xs:List (List T)):List (List V):=xs.map (List.map .t)
theorem aF7{d:List T}{xs:List (List T)}{i:Nat}:pL d (aS xs) i=(nth d xs i).map .t:=by
 unfold pL aS nth;rw[List.getElem?_map];cases xs[i]? <;> rfl
theorem Ay{xs:List (List T)}:(aS xs).length=xs.length:=by simp[aS]
theorem Hs{d:List T}{xs:List (List V)}{i:Nat}(h:i<xs.length):xs[i]?=some (pL d xs i):=by
 unfold pL;rw[List.getElem?_eq_getElem h];rfl
theorem rT{d:List T}{xs:List (List T)}{i:Nat}(h:i<xs.length):xs[i]?=some (nth d xs i):=by
 simp[nth,h]
theorem Yf{w:World}{S:Nat->Prop}:∀(e:List T) (f:Nat->Option Value),(∀(j:Nat) x,e[j]?=some x ->∃u,f j=some u/\RdT w S x u) ->
  ∃vs,RdTs w S e vs /\∀j v,vs[j]?=some v->f j=some v
 |[],f,_=>⟨[],trivial,by simp⟩
 |x::r,f,h=>by
  obtain⟨u,hu,hx⟩:=h 0 x rfl;obtain⟨vs,h1,h2⟩:=Yf r (λj=>f (j+1)) (λj y hy=>h (j+1) y (by simpa using hy));refine⟨u::vs,⟨hx,h1⟩,λj v hv=>?_⟩;cases j with
  |zero=>simp at hv;subst hv;exact hu
  |succ j=>exact h2 j v (by simpa using hv)
theorem vX{w:World}{S:Nat->Prop}:∀{e:List T} {vs:List Value},RdTs w S e vs->vs.all (·.oneCell')=true
 |[],[],_=>rfl
 |x::e,v::vs,h=>by simp only[List.all_cons,Bool.and_eq_true];exact⟨h.1.one,vX h.2⟩
 |[],_::_,h=>h.elim
 |_::_,[],h=>h.elim
theorem RdTs.len{w:World}{S:Nat->Prop}:∀{e:List T} {vs:List Value},RdTs w S e vs->e.length=vs.length
 |[],[],_=>rfl
 |x::e,v::vs,h=>by simp[RdTs.len h.2]
 |[],_::_,h=>h.elim
 |_::_,[],h=>h.elim
theorem RdTs.drop{w:World}{S:Nat->Prop}:∀{e:List T} {vs:List Value} (n:Nat),RdTs w S e vs->RdTs w S (e.drop n) (vs.drop n)
 |_,_,0,h=>by simpa using h
 |[],[],n+1,h=>by simp only[List.drop_nil];exact h
 |x::e,v::vs,n+1,h=>by simp only[List.drop_succ_cons];exact RdTs.drop n h.2
 |[],_::_,_+1,h=>h.elim
 |_::_,[],_+1,h=>h.elim
theorem RdTs.take{w:World}{S:Nat->Prop}:∀{e:List T} {vs:List Value} (n:Nat),RdTs w S e vs->RdTs w S (e.take n) (vs.take n)
 |_,_,0,h=>by simp only[List.take_zero,RdTs]
 |[],[],n+1,h=>by simp only[List.take_nil];exact h
 |x::e,v::vs,n+1,h=>by simp only[List.take_succ_cons];exact⟨h.1,RdTs.take n h.2⟩
 |[],_::_,_+1,h=>h.elim
 |_::_,[],_+1,h=>h.elim
theorem RdTs.append{w:World}{S:Nat->Prop}:∀{e f:List T} {vs us:List Value},RdTs w S e vs->RdTs w S f us->RdTs w S (e++f) (vs++us)
 |[],_,[],_,_,h=>h
 |x::e,f,v::vs,us,h,k=>⟨h.1,RdTs.append h.2 k⟩
 |[],_,_::_,_,h,_=>h.elim
 |_::_,_,[],_,h,_=>h.elim
theorem mC{α:Type}{k:Nat}:∀(xs:List (List α)) (n:Nat) (e:List α),(∀x∈xs,x.length=k)->xs[n]?=some e->((xs.flatten).drop (n*k)).take k=e
 |[],n,e,_,h=>by simp at h
 |x::r,0,e,hk,h=>by
  simp at h;subst h;have:=hk x (by simp);subst this;simp
 |x::r,n+1,e,hk,h=>by
  have h1:=hk x (by simp);rw[List.flatten_cons,Nat.add_mul,Nat.one_mul,Nat.add_comm (n*k) k,<-List.drop_drop];have:(x++r.flatten).drop k=r.flatten:=by rw[<-h1];simp
  rw[this];exact mC r n e (λy hy=>hk y (by simp[hy])) (by simpa using h)
theorem rX{α:Type}{k:Nat}:∀(xs:List (List α)),(∀x∈xs,x.length=k)->xs.flatten.length=xs.length*k
 |[],_=>by simp
 |x::r,h=>by
  rw[List.flatten_cons,List.length_append,rX r (λy hy=>h y (by simp[hy])),h x (by simp),List.length_cons,Nat.add_mul];omega
theorem aBg{w:World}{S:Nat->Prop}{k:Nat}{d:List T}{xs:List (List T)}{b off n c i:Nat}(h:RdT w S (.list k d xs) (.slice (some ⟨b,off,none⟩) n c))(hi:i<xs.length):
  ∃vs,RdTs w S (nth d xs i) vs /\∀j v,vs[j]?=some v->w.cell? ⟨b,off+i*k+j,none⟩=some v:=by
 cases h with
 |list _ _ _ _ _ hm hc hnn hk ha hr=>
  refine Yf _ (λj=>w.cell? ⟨b,off+i*k+j,none⟩) λj x hx=>?_
  obtain⟨b',off',hA,_,hj⟩:=ha i _ (rT hi);injection hA with hA;injection hA with h1 h2;subst h1 h2;obtain⟨u,hu⟩:=hj j x hx;exact⟨u,hu,hr i _ j x _ _ u (rT hi) hx rfl hu⟩
def wD(P:Program)(t:TypeId)(cs:List V)(off:Nat):Option V:=
 match P.aggT t,P.szT t with
 |some true,some n=>if off+n<=cs.length then some (.agg ((cs.drop off).take n))else none
 |some false,_=>cs[off]?
 |_,_=>none
theorem qM{P:Program}{w:World}{E:Env}{b o off:Nat}{t:TypeId}{x:V}{cs:List V}{vs:List Value}(hcell:∀j v,vs[j]?=some v->w.cell? ⟨b,o+j,none⟩=some v)
  (h1:RdVs w E cs vs) (h2:vs.all (·.oneCell')=true) (h:wD P t cs off=some x):∃v,(loadVar t ⟨b,o+off,none⟩).run P w=.ok v w/\RdV w E x v:=by
 unfold wD at h;split at h
 .rename_i n ha hs;split at h
  .rename_i hn;injection h with h;subst h;have hl:((vs.drop off).take n).length=n:=by have:=RdVs.len h1;simp;omega
   have hlc:=run_loadCells_list (P:=P) w ⟨b,o+off,none⟩ ((vs.drop off).take n) (by
    intro j v hv;rw[Addr.add_lit];have:vs[off+j]?=some v:=by
     rw[List.getElem?_take]at hv;split at hv
     .rw[List.getElem?_drop]at hv;exact hv
     .cases hv
    rw[<-hcell _ _ this,Nat.add_assoc])
   rw[hl]at hlc;refine⟨.agg ((vs.drop off).take n).toArray,?_,?_⟩
   .simp only[loadVar,Sem.run_bind,Bc ha,Result.andThen_ok,if_true,jD hs,hlc,Sem.run_pure]
   .simp only[RdV];refine⟨_,rfl,RdVs.take n (RdVs.drop off h1),?_⟩;simp only[List.all_eq_true]at h2⊢;intro v hv;exact h2 v (List.mem_of_mem_drop (List.mem_of_mem_take hv))
  .cases h
 .rename_i ha;obtain⟨v,hv,hr⟩:=RdVs.get h1 h;refine⟨v,?_,hr⟩;have hc:=hcell off v hv;simp only[loadVar,Sem.run_bind,Bc ha,Result.andThen_ok,Bool.false_eq_true,if_false,run_load,hc]
 .cases h
section
variable {P:Program} {G:Bool} {σ:St} {o:Oper} {K:V->Prop}
theorem qY{E:Env}{h:Heap}{w:World}{i:Nat}{cs:List V}(hr:Rel w E h)(hl:h.look i=some (.box cs)):
  ∃b vs ty,E.B i=some (.pointer (some ⟨b,0,none⟩))/\w.heap[b]?=some (.cells vs ty (0,0))/\RdVs w E cs vs.toList/\vs.toList.all (·.oneCell')=true:=by
 obtain⟨hv,h1,b,vs,ty,rfl,h2,h3⟩:=hr.has i _ hl;exact⟨b,vs,ty,h1,h2,h3⟩
theorem yA{w:World}{b:Nat}{vs:Array Value}{ty:TypeId}{f:Nat×Nat}(h:w.heap[b]?=some (.cells vs ty f)):∀j v,vs.toList[j]?=some v->w.cell? ⟨b,0+j,none⟩=some v:=by
 intro j v hv;simp only[World.cell?,h,Nat.zero_add];simpa using hv
theorem aPw{E:Env}{h:Heap}{w:World}{i e k n:Nat}{d:List T}{xs:List (List V)}(hr:Rel w E h)(hl:h.look i=some (.row e k d xs))(hn:n<xs.length):
  ∃b c vs,E.B i=some (.slice (some ⟨b,0,none⟩) xs.length c)/\RdVs w E (pL d xs n) vs/\vs.all (·.oneCell')=true /\∀j v,vs[j]?=some v->w.cell? ⟨b,n*k+j,none⟩=some v:=by
 obtain⟨hv,h1,cells,h2,h3,h4,h5⟩:=hr.has i _ hl;have h2':=h2;rcases h2.2 with ⟨rfl,h0⟩|⟨g,cap,cur,rfl,_,hg,hcap,_,hcs,htake⟩
 .omega
 .have hp:=mC xs n _ h4 (Hs (d:=d) hn);refine⟨g,cap,(cells.drop (n*k)).take k,h1,?_,?_,?_⟩
  .rw[<-hp];exact RdVs.take k (RdVs.drop (n*k) h3)
  .simp only[List.all_eq_true]at h5⊢;exact λv hv=>h5 v (List.mem_of_mem_drop (List.mem_of_mem_take hv))
  .intro j v hv;rw[List.getElem?_take]at hv;split at hv
   .rw[List.getElem?_drop,<-htake,List.getElem?_take]at hv;split at hv
    .simp only[World.cell?,hg];simpa using hv
    .cases hv
   .cases hv
def aHz(P:Program)(G:Bool)(h:Heap)(t:TypeId)(x:V)(K:V->Prop):Prop:=
 match x with
 | .own i=>match h.look i with
  |some (.box cs)=>match wD P t cs 0 with
   |some v=>K v
   |none=>False
  |_=>False
 | .ptr i off=>match h.look i with
  |some (.box cs)=>match wD P t cs off with
   |some v=>K v
   |none=>False
  |_=>False
 | .elem k d xs i j=>match wD P t ((nth d xs i).map .t) j with
  |some v=>K v
  |none=>False
 | .rptr i k n j=>match h.look i with
  |some (.row _ k' d xs)=>if k'=k then (match wD P t (pL d xs n) j with
   |some v=>(G=true->n<xs.length)/\K v
   |none=>False)else False
  |some (.shr (.list k' d xs))=>if k'=k then (match wD P t ((nth d xs n).map .t) j with
   |some v=>(G=true->n<xs.length)/\K v
   |none=>False)else False
  |_=>False
 |_=>False
theorem tF{t:TypeId}{a:Addr}(w:World):(Instr.loadAt t (.pointer (some a))).run P w=(loadVar t a).run P w:=by
 simp[Instr.loadAt,Instr.sureAddr]
theorem ps_load{t:TypeId}{x:Operand}(ho:o.op=.load t x)(h:dB G (σ.ev x) λx'=>aHz P G σ.h t x' K):∃x,K x/\(G=true->YV P o σ x):=by
 obtain⟨x',h,hx⟩:=cB h;unfold aHz at h;split at h
 .rename_i i;split at h
  .rename_i cs hl;split at h
   .rename_i v hv;refine⟨v,h,λhG=>cU λE a w hr=>?_⟩;obtain⟨b,vs,ty,hB,hh,h1,h2⟩:=qY hr.rel hl;have e1:=hx w E _ hG (hr.ev x);simp only[RdV]at e1;have e2:=e1.2.2 _ (.inl hB);obtain⟨u,hu,hru⟩:=qM (P:=P) (o:=0) (yA hh) h1 h2 hv;exact⟨u,by simp only[execOp,ho,e2,tF,Sem.run_bind,hu,Result.andThen_ok,Sem.run_pure],hru⟩
   .exact h.elim
  .exact h.elim
 .rename_i i off;split at h
  .rename_i cs hl;split at h
   .rename_i v hv;refine⟨v,h,λhG=>cU λE a w hr=>?_⟩;obtain⟨b,vs,ty,hB,hh,h1,h2⟩:=qY hr.rel hl;have e1:=hx w E _ hG (hr.ev x);simp only[RdV]at e1;obtain⟨b',e3,e2⟩:=e1.2.2 _ (.inl hB);injection e3 with e3;injection e3 with e3;injection e3 with e3;subst e3;obtain⟨u,hu,hru⟩:=qM (P:=P) (o:=0) (yA hh) h1 h2 hv;rw[Nat.zero_add]at hu;exact⟨u,by simp only[execOp,ho,e2,tF,Sem.run_bind,hu,Result.andThen_ok,Sem.run_pure],hru⟩
   .exact h.elim
  .exact h.elim
 .rename_i k d xs i j;split at h
  .rename_i v hv;refine⟨v,h,λhG=>cU λE a w hr=>?_⟩;have e1:=hx w E _ hG (hr.ev x);simp only[RdV]at e1;obtain⟨b,off,c,h1,h2,e2⟩:=e1;obtain⟨vs,h3,h4⟩:=aBg h1 h2;obtain⟨u,hu,hru⟩:=qM (P:=P) h4 (RdVs.ofT h3) (vX h3) hv;exact⟨u,by simp only[execOp,ho,e2,tF,Sem.run_bind,hu,Result.andThen_ok,Sem.run_pure],hru⟩
  .exact h.elim
 .rename_i i k n j;split at h
  .rename_i e k' d xs hl;split at h
   .rename_i hk;subst hk;split at h
    .rename_i v hv;refine⟨v,h.2,λhG=>cU λE a w hr=>?_⟩;have e1:=hx w E _ hG (hr.ev x);simp only[RdV]at e1;obtain⟨b,c,vs,hB,h3,h3',h4⟩:=aPw hr.rel hl (h.1 hG);obtain⟨b',m,c',e3,_,e2⟩:=e1.2.2 _ (.inl hB);injection e3 with e3;injection e3 with e3;injection e3 with e3;subst e3;obtain⟨u,hu,hru⟩:=qM (P:=P) h4 h3 h3' hv;exact⟨u,by simp only[execOp,ho,e2,tF,Sem.run_bind,hu,Result.andThen_ok,Sem.run_pure],hru⟩
    .exact h.elim
   .exact h.elim
  .rename_i k' d xs hl;split at h
   .rename_i hk;subst hk;split at h
    .rename_i v hv;refine⟨v,h.2,λhG=>cU λE a w hr=>?_⟩;have e1:=hx w E _ hG (hr.ev x);simp only[RdV]at e1;obtain⟨hv',hF,hT⟩:=hr.rel.has i _ hl;obtain⟨b,m,c',e3,_,e2⟩:=e1.2.2 _ (.inr hF);have hT':RdT w E.S (.list k' d xs) (.slice (some ⟨b,0,none⟩) m c'):=by rw[<-e3];exact hT
     obtain⟨vs,h3,h4⟩:=aBg hT' (h.1 hG);obtain⟨u,hu,hru⟩:=qM (P:=P) h4 (RdVs.ofT h3) (vX h3) hv;rw[Nat.zero_add]at hu;exact⟨u,by simp only[execOp,ho,e2,tF,Sem.run_bind,hu,Result.andThen_ok,Sem.run_pure],hru⟩
    .exact h.elim
   .exact h.elim
  .exact h.elim
 .exact h.elim
def tY(h:Heap)(off:Nat)(x:V)(K:V->Prop):Prop:=
 match x with
 | .own i=>match h.look i with
  |some (.box _)=>K (.ptr i off)
  |_=>False
 | .ptr i o=>match h.look i with
  |some (.box _)=>K (.ptr i (o+off))
  |_=>False
 | .elem k d xs i j=>K (.elem k d xs i (j+off))
 | .rptr i k n j=>match h.look i with
  |some (.row ..)=>K (.rptr i k n (j+off))
  |some (.shr _)=>K (.rptr i k n (j+off))
  |_=>False
 |_=>False
theorem aB3{s ft:TypeId}{f off n:Nat}(hf:P.fldT s f=some (off,ft))(hs:P.szT ft=some (n+1))(b q:Nat)(w:World):
  (Instr.fieldAt s (.pointer (some ⟨b,q,none⟩)) f).run P w=.ok (.pointer (some ⟨b,q+off,none⟩)) w:=by
 unfold Program.fldT at hf;split at hf
 .rename_i fs hu;cases hfs:fs[f]? with
  |none=>simp[hfs]at hf
  |some fd=>
   simp[hfs]at hf;obtain⟨rfl,rfl⟩:=hf;simp[Instr.fieldAt,run_underlying hu,hfs,Instr.sureAddr,fieldPlace,jD hs,Addr.add_lit]
 .cases hf
theorem Yk{t:TypeId}{x:Operand}{f:Nat}(ho:o.op=.fieldAddr t x f)
  (h:dB G (σ.ev x) λx'=>match P.fldT t f with
   |some (off,ft)=>match P.szT ft with
    |some (_+1)=>tY σ.h off x' K
    |_=>False
   |none=>False):∃x,K x/\(G=true->YV P o σ x):=by
 obtain⟨x',h,hx⟩:=cB h;split at h
 .rename_i off ft hf;split at h
  .rename_i n hs;have hrun:∀(E:Env) (a:Act) (w:World) (b q:Nat),a.eval x=.pointer (some ⟨b,q,none⟩)->(execOp a.eval o).run P w=.ok (.value (.pointer (some ⟨b,q+off,none⟩))) w:=by
    intro E a w b q he;simp only[execOp,ho,he,Sem.run_bind,aB3 hf hs,Result.andThen_ok,Sem.run_pure]
   unfold tY at h;split at h
   .rename_i i;split at h
    .rename_i cs hl;refine⟨_,h,λhG=>cU λE a w hr=>?_⟩;have e1:=hx w E _ hG (hr.ev x);obtain⟨b,vs,ty,hB,hh,h1,h2⟩:=qY hr.rel hl;simp only[RdV]at e1;refine⟨_,hrun E a w _ _ (e1.2.2 _ (.inl hB)),?_⟩;simp only[RdV];exact⟨rfl,e1.2.1,λhv hb=>⟨b,hr.rel.is hB hb,by simp⟩⟩
    .exact h.elim
   .rename_i i q;split at h
    .rename_i cs hl;refine⟨_,h,λhG=>cU λE a w hr=>?_⟩;have e1:=hx w E _ hG (hr.ev x);obtain⟨b,vs,ty,hB,hh,h1,h2⟩:=qY hr.rel hl;simp only[RdV]at e1;obtain⟨b',e3,e2⟩:=e1.2.2 _ (.inl hB);injection e3 with e3;injection e3 with e3;injection e3 with e3;subst e3;refine⟨_,hrun E a w _ _ e2,?_⟩;simp only[RdV];exact⟨rfl,e1.2.1,λhv hb=>⟨b,hr.rel.is hB hb,by simp⟩⟩
    .exact h.elim
   .rename_i k d xs i j;refine⟨_,h,λhG=>cU λE a w hr=>?_⟩;have e1:=hx w E _ hG (hr.ev x);simp only[RdV]at e1;obtain⟨b,off',c,h1,h2,e2⟩:=e1;refine⟨_,hrun E a w _ _ e2,?_⟩;simp only[RdV];exact⟨b,off',c,h1,h2,by rw[Nat.add_assoc _ j off]⟩
   .rename_i i k n' j;split at h
    .rename_i e k' d xs hl;refine⟨_,h,λhG=>cU λE a w hr=>?_⟩;have e1:=hx w E _ hG (hr.ev x);obtain⟨hv,hB,_⟩:=hr.rel.has i _ hl;simp only[RdV]at e1;obtain⟨b',m,c',e3,e4,e2⟩:=e1.2.2 _ (.inl hB);refine⟨_,hrun E a w _ _ e2,?_⟩;simp only[RdV];exact⟨rfl,e1.2.1,λhv' hb=>⟨b',m,c',by rw[hr.rel.is hB hb];exact e3,e4,by rw[Nat.add_assoc _ j off]⟩⟩
    .rename_i t' hl;refine⟨_,h,λhG=>cU λE a w hr=>?_⟩;have e1:=hx w E _ hG (hr.ev x);obtain⟨hv,hF,_⟩:=hr.rel.has i _ hl;simp only[RdV]at e1;obtain⟨b',m,c',e3,e4,e2⟩:=e1.2.2 _ (.inr hF);refine⟨_,hrun E a w _ _ e2,?_⟩;simp only[RdV];exact⟨rfl,e1.2.1,λhv' hb=>⟨b',m,c',by rw[hr.rel.isF hF hb];exact e3,e4,by rw[Nat.add_assoc _ j off]⟩⟩
    .exact h.elim
   .exact h.elim
  .exact h.elim
 .exact h.elim
def xT(P:Program)(G:Bool)(h:Heap)(t:TypeId)(x ix:V)(K:V->Prop):Prop:=
 match ix,P.elemT t with
 | .t (.lit (.int _ n)),some e=>
  match x with
  | .t (.list k d xs)=>if P.szT e=some k then (G=true->0<=n/\n<xs.length)/\K (.elem k d xs n.toNat 0)else False
  | .own i=>match h.look i with
   |some (.row _ k d xs)=>if P.szT e=some k then (G=true->0<=n/\n<xs.length)/\K (.rptr i k n.toNat 0)else False
   |some (.shr (.list k d xs))=>if P.szT e=some k then (G=true->0<=n/\n<xs.length)/\K (.elem k d xs n.toNat 0)else False
   |_=>False
  |_=>False
 |_,_=>False
theorem zB{t e:TypeId}{k:Nat}(ht:P.elemT t=some e)(hk:P.szT e=some k){b off m c:Nat}{kk:IntKind}{n:Int}(h0:0<=n)(h1:n<m)(w:World):
  (Instr.indexAt t (.slice (some ⟨b,off,none⟩) m c) (.int kk n)).run P w=.ok (.pointer (some ⟨b,off+n.toNat*k,none⟩)) w:=by
 unfold Program.elemT at ht;split at ht
 .rename_i e' hu;injection ht with ht;subst ht;simp[Instr.indexAt,asIntOf,run_underlying hu,jD hk,h0,h1,Addr.add_lit]
 .cases ht
def indexV(P:Program)(G:Bool)(t:TypeId)(x ix:V)(K:V->Prop):Prop:=
 match x,ix,P.underlying t with
 | .t (.lit (.string s)),.t (.lit (.int _ n)),some .string=>(G=true->0<=n/\n<s.size)/\K (.t (.lit (.int .u8 (s.data.toList.getD n.toNat 0).toNat)))
 |_,_,_=>False
end
def jM(S:Nat->Prop):Env:=⟨S,λ_=>none,λ_=>False,λ_=>False,λ_=>none,none⟩
mutual
def V.pure:V->Bool
 | .t _| .elem .. | .dead=>true
 | .agg cs=>V.pures cs
 | .tup cs=>V.pures cs
 | .cond _ x=>V.pure x
 | .clo _ cs=>V.pures cs
 | .own _| .ptr .. | .rptr .. | .rsl .. =>false
def V.pures:List V->Bool
 |[]=>true
 |x::xs=>V.pure x&&V.pures xs
end
mutual
theorem RdV.unbare{w:World}{E:Env}:∀(x:V) {v:Value},RdV w (jM E.S) x v->RdV w E x v
 | .t x,v,h=>by simp only[RdV]at h⊢; exact h
 | .agg cs,v,h=>by
  simp only[RdV]at h⊢;obtain⟨vs,hv,h1,h2⟩:=h;exact⟨vs,hv,RdVs.unbare cs h1,h2⟩
 | .tup cs,v,h=>by
  simp only[RdV]at h⊢;obtain⟨vs,hv,h1⟩:=h;exact⟨vs,hv,RdVs.unbare cs h1⟩
 | .own i,v,h=>by simp only[RdV]at h;exact h.2.1.elim
 | .ptr i off,v,h=>by simp only[RdV]at h;exact h.2.1.elim
 | .rptr i k n j,v,h=>by simp only[RdV]at h;exact h.2.1.elim
 | .rsl i k n j,v,h=>by simp only[RdV]at h;exact h.2.1.elim
 | .elem k d xs i j,v,h=>by simp only[RdV]at h⊢; exact h
 | .cond g x,v,h=>by
  simp only[RdV]at h⊢;exact⟨λhg=>RdV.unbare x (h.1 hg),h.2⟩
 | .clo f cs,v,h=>by
  simp only[RdV]at h⊢;obtain⟨vs,hv,h1⟩:=h;exact⟨vs,hv,RdVs.unbare cs h1⟩
 | .dead,v,h=>by simp only[RdV]
theorem RdVs.unbare{w:World}{E:Env}:∀(xs:List V) {vs:List Value},RdVs w (jM E.S) xs vs->RdVs w E xs vs
 |[],[],h=>by simp only[RdVs]
 |x::xs,v::vs,h=>by simp only[RdVs]at h⊢; exact⟨RdV.unbare x h.1,RdVs.unbare xs h.2⟩
 |[],_::_,h=>by simp only[RdVs]at h
 |_::_,[],h=>by simp only[RdVs]at h
end
mutual
theorem RdV.bare{w:World}{E:Env}:∀(x:V) {v:Value},x.pure=true->RdV w E x v->RdV w (jM E.S) x v
 | .t x,v,_,h=>by simp only[RdV]at h⊢; exact h
 | .agg cs,v,hp,h=>by
  simp only[V.pure]at hp;simp only[RdV]at h⊢;obtain⟨vs,hv,h1,h2⟩:=h;exact⟨vs,hv,RdVs.bare cs hp h1,h2⟩
 | .tup cs,v,hp,h=>by
  simp only[V.pure]at hp;simp only[RdV]at h⊢;obtain⟨vs,hv,h1⟩:=h;exact⟨vs,hv,RdVs.bare cs hp h1⟩
 | .own i,v,hp,h=>by simp[V.pure]at hp
 | .ptr i off,v,hp,h=>by simp[V.pure]at hp
 | .rptr i k n j,v,hp,h=>by simp[V.pure]at hp
 | .rsl i k n j,v,hp,h=>by simp[V.pure]at hp
 | .elem k d xs i j,v,_,h=>by simp only[RdV]at h⊢; exact h
 | .cond g x,v,hp,h=>by
  simp only[V.pure]at hp;simp only[RdV]at h⊢;exact⟨λhg=>RdV.bare x hp (h.1 hg),h.2⟩
 | .clo f cs,v,hp,h=>by
  simp only[V.pure]at hp;simp only[RdV]at h⊢;obtain⟨vs,hv,h1⟩:=h;exact⟨vs,hv,RdVs.bare cs hp h1⟩
 | .dead,v,_,h=>by simp only[RdV]
theorem RdVs.bare{w:World}{E:Env}:∀(xs:List V) {vs:List Value},V.pures xs=true->RdVs w E xs vs->RdVs w (jM E.S) xs vs
 |[],[],_,h=>by simp only[RdVs]
 |x::xs,v::vs,hp,h=>by
  simp only[V.pures,Bool.and_eq_true]at hp;simp only[RdVs]at h⊢;exact⟨RdV.bare x hp.1 h.1,RdVs.bare xs hp.2 h.2⟩
 |[],_::_,_,h=>by simp only[RdVs]at h
 |_::_,[],_,h=>by simp only[RdVs]at h
end
def _root_.Go.Program.enters(P:Program)(f:FuncId):Bool:=
 match P.funcs[f]? with
 |some fn=> !(fn.name == "runtime.NumGoroutine") && !fn.body.isNone
 |none=>false
def aL(P:Program)(f:FuncId)(args:List V)(r:V):Prop:=
 P.enters f=true /\∀(w:World) (S:Nat->Prop) (vs:List Value),(∀b,S b->b<w.heap.size)->RdVs w (jM S) args vs ->
  Calls P f vs.toArray w λe w'=>∃v S',e=.returned v/\(∀b,S b->S' b)/\(∀b,S' b->S b\/w.heap.size<=b)/\(∀b,S' b->b<w'.heap.size) /\
   RdV w' (jM S') r v/\Below w.heap.size w w'
def lendCs(f:V->Option T):List V->Option (List T)
 |[]=>some []
 |x::xs=>match f x,lendCs f xs with
  |some t,some ts=>some (t::ts)
  |_,_=>none
def lendRs(f:V->Option T):List (List V)->Option (List (List T))
 |[]=>some []
 |x::xs=>match lendCs f x,lendRs f xs with
  |some t,some ts=>some (t::ts)
  |_,_=>none
def Cq(f:V->Option T)(x:V):Option (Bool×List T):=
 match x with
 | .agg cs=>match lendCs f cs with
  |some ts=>some (true,ts)
  |none=>none
 | .ptr _ _=>some (false,[.opq])
 |x=>match f x with
  |some t=>some (false,[t])
  |none=>none
def nL(f:V->Option T):List (Value×V)->Option (List (Value×Bool×List T))
 |[]=>some []
 |(k,x)::r=>match Cq f x,nL f r with
  |some m,some rs=>some ((k,m)::rs)
  |_,_=>none
def Vq(f:V->Option T):Option Blk->Option T
 |some (.map es)=>match nL f es with
  |some ts=>some (.map ts)
  |none=>none
 |some (.row _ k d xs)=>match lendRs f xs with
  |some ts=>some (.list k d ts)
  |none=>none
 |some (.shr t)=>some t
 |some (.box _)=>some .opq
 |_=>none
def aX(h:Heap):Nat->V->Option T
 |_,.t x=>some x
 |n+1,.own i=>Vq (aX h n) (h.look i)
 |_,_=>none
def Dn(i:Nat)(o:Option (List T)):V:=
 match o with
 |some ts=> .elem ts.length ts [ts] 0 0
 |none=> .own i
def Dp(f:V->Option T)(i:Nat)(b:Option Blk)(v:V):V:=
 match b with
 |some (.box cs)=>Dn i (lendCs f cs)
 |_=>v
def vF(i:Nat)(o:Option T):V:=
 match o with
 |some t=> .t t
 |none=> .own i
def Qg(f:V->Option T)(i:Nat)(b:Option Blk)(o:Option T):V:=Dp f i b (vF i o)
theorem lendBo_cases(f:V->Option T)(i:Nat)(b:Option Blk)(v:V):(∃cs,b=some (.box cs)/\Dp f i b v=Dn i (lendCs f cs))\/Dp f i b v=v:=by
 unfold Dp;split
 .exact .inl ⟨_,rfl,rfl⟩
 .exact .inr rfl
mutual
def V.lend(h:Heap):V->V
 | .own i=>Qg (aX h 5) i (h.look i) (aX h 6 (.own i))
 | .agg cs=> .agg (V.lends h cs)
 | .tup cs=> .tup (V.lends h cs)
 | .clo f cs=> .clo f (V.lends h cs)
 |x=>x
def V.lends(h:Heap):List V->List V
 |[]=>[]
 |x::xs=>V.lend h x::V.lends h xs
end
def V.scal:V->Bool
 | .t (.lit _)=>true
 | .agg cs=>cs.all λc=>match c with
  | .t (.lit _)=>true
  |_=>false
 | .tup cs=>cs.all λc=>match c with
  | .t (.lit _)=>true
  |_=>false
 |_=>false
def wE(E:Env)(h:Heap)(b:Nat):Prop:=E.S b \/∃i hv blk,E.B i=some hv/\h.look i=some blk/\blk.lendable=true/\aV hv=some b
theorem aLy(f:V->Option T)(hf:∀x,f (.t x)=some x)(hcs:∀ts:List T,lendCs f (ts.map .t)=some ts):∀m:Bool×List T,(m.1=false->m.2.length=1)->Cq f (mkV m)=some m
 |(true,ts),_=>by simp only[mkV,Cq,hcs]
 |(false,[t]),_=>by simp only[mkV,Cq,hf]
 |(false,[]),h=>by simp at h
 |(false,_::_::_),h=>by simp at h
theorem wH(f:V->Option T)(hf:∀x,f (.t x)=some x):∀(ts:List T),lendCs f (ts.map .t)=some ts
 |[]=>rfl
 |t::ts=>by simp only[List.map_cons,lendCs,hf,wH f hf ts]
theorem Fq(f:V->Option T)(hf:∀x,f (.t x)=some x):∀(xs:List (List T)),lendRs f (aS xs)=some xs
 |[]=>rfl
 |x::xs=>by
  have:=Fq f hf xs;unfold aS at this⊢;simp only[List.map_cons,lendRs,wH f hf,this]
theorem kG(h:Heap)(n:Nat)(x:T):aX h n (.t x)=some x:=by cases n<;>rfl
theorem Dm{f:V->Option T}:∀{xs:List V} {ts:List T},lendCs f xs=some ts->ts.length=xs.length
 |[],ts,h=>by simp[lendCs]at h;subst h;rfl
 |x::xs,ts,h=>by
  simp only[lendCs]at h;split at h
  .rename_i t ts' _ h2;injection h with h;subst h;simp[Dm h2]
  .cases h
theorem tT{f:V->Option T}:∀{xs:List (List V)} {ts:List (List T)},lendRs f xs=some ts->ts.length=xs.length
 |[],ts,h=>by simp[lendRs]at h;subst h;rfl
 |x::xs,ts,h=>by
  simp only[lendRs]at h;split at h
  .rename_i t ts' _ h2;injection h with h;subst h;simp[tT h2]
  .cases h
theorem tU{f:V->Option T}{k:Nat}:∀{xs:List (List V)} {ts:List (List T)},lendRs f xs=some ts->(∀x∈xs,x.length=k) ->∀t∈ts,t.length=k
 |[],ts,h,_=>by simp[lendRs]at h;subst h;simp
 |x::xs,ts,h,hk=>by
  simp only[lendRs]at h;split at h
  .rename_i t ts' h1 h2;injection h with h;subst h;intro t' ht';rcases List.mem_cons.1 ht' with rfl|ht'
   .rw[Dm h1];exact hk x (by simp)
   .exact tU h2 (λy hy=>hk y (by simp[hy])) t' ht'
  .cases h
theorem wJ{w:World}{E:Env}{S':Nat->Prop}{f:V->Option T}(hf:∀x t v,f x=some t->RdV w E x v->RdT w S' t v):∀{xs:List V} {ts:List T} {vs:List Value},lendCs f xs=some ts->RdVs w E xs vs->RdTs w S' ts vs
 |[],ts,[],h,_=>by simp[lendCs]at h;subst h;trivial
 |x::xs,ts,v::vs,h,hr=>by
  simp only[lendCs]at h;simp only[RdVs]at hr;split at h
  .rename_i t ts' h1 h2;injection h with h;subst h;exact⟨hf x t v h1 hr.1,wJ hf h2 hr.2⟩
  .cases h
 |[],_,_::_,_,h=>by simp only[RdVs]at h
 |_::_,_,[],_,h=>by simp only[RdVs]at h
theorem vG{f:V->Option T}:∀{xs ys:List V} {ts us:List T},lendCs f xs=some ts->lendCs f ys=some us->lendCs f (xs++ys)=some (ts++us)
 |[],ys,ts,us,h,k=>by simp[lendCs]at h;subst h;simpa using k
 |x::xs,ys,ts,us,h,k=>by
  simp only[lendCs]at h;split at h
  .rename_i t ts' h1 h2;injection h with h;subst h;simp only[List.cons_append,lendCs,h1,vG h2 k]
  .cases h
theorem rV{f:V->Option T}:∀{xs:List (List V)} {ts:List (List T)},lendRs f xs=some ts->lendCs f xs.flatten=some ts.flatten
 |[],ts,h=>by simp[lendRs]at h;subst h;rfl
 |x::xs,ts,h=>by
  simp only[lendRs]at h;split at h
  .rename_i t ts' h1 h2;injection h with h;subst h;rw[List.flatten_cons,List.flatten_cons];exact vG h1 (rV h2)
  .cases h
theorem Lz{w:World}{S S':Nat->Prop}{e k:Nat}{d:List T}{xs:List (List T)}{hv:Value}{cells:List Value}(h2:w.ownsRow 0 e k hv xs.length cells)(h3:RdTs w S xs.flatten cells)
  (h4:∀x∈xs,x.length=k) (hS:∀b,S b->S' b) (hb:∀b,aV hv=some b->S' b):RdT w S' (.list k d xs) hv:=by
 rcases h2.2 with ⟨rfl,h0⟩|⟨g,cap,cur,rfl,_,hg,hcap,hm,hcs,htake⟩
 .have hx:xs=[]:=List.eq_nil_of_length_eq_zero h0;subst hx;exact .list k d [] none 0 (by simp[maxLen]) (Nat.le_refl _) (λ_=>rfl) (by simp) (by simp) (by simp)
 .have hcell:∀n,n<xs.length ->∃vs,RdTs w S (nth d xs n) vs /\∀j v,vs[j]?=some v->w.cell? ⟨g,0+n*k+j,none⟩=some v:=by
   intro n hn;have hp:=mC xs n _ h4 (rT (d:=d) hn);refine⟨(cells.drop (n*k)).take k,?_,?_⟩
   .rw[<-hp];exact RdTs.take k (RdTs.drop (n*k) h3)
   .intro j v hv;rw[List.getElem?_take]at hv;split at hv
    .rw[List.getElem?_drop,<-htake,List.getElem?_take]at hv;split at hv
     .simp only[World.cell?,hg,Nat.zero_add];simpa using hv
     .cases hv
    .cases hv
  have key:∀{e:List T} {vs:List Value},RdTs w S e vs ->∀(j:Nat) x,e[j]?=some x ->∃v,vs[j]?=some v/\RdT w S x v:=by
   intro e vs hr j x hx;obtain⟨v,hv,hr'⟩:=RdVs.get (RdVs.ofT (E:=jM S) hr) (i:=j) (x:=.t x) (by simp[hx]);exact⟨v,hv,by simp only[RdV]at hr';exact hr'⟩
  refine .list k d xs _ cap (by omega) hcap (by simp) h4 ?_ ?_
  .intro i e hi;have hlt:i<xs.length:=(List.getElem?_eq_some_iff.1 hi).1;refine⟨g,0,rfl,hb g rfl,λj x hx=>?_⟩;obtain⟨vs,h5,h6⟩:=hcell i hlt;have:e=nth d xs i:=by simp[nth,hi]
   subst this;obtain⟨v,hv,_⟩:=key h5 j x hx;exact⟨v,h6 j v hv⟩
  .intro i e j x b off u hi hj hA hu;injection hA with hA;injection hA with hA1 hA2;subst hA1 hA2;have hlt:i<xs.length:=(List.getElem?_eq_some_iff.1 hi).1;obtain⟨vs,h5,h6⟩:=hcell i hlt;have:e=nth d xs i:=by simp[nth,hi]
   subst this;obtain⟨v,hv,hr⟩:=key h5 j x hj;have:=h6 j v hv;rw[hu]at this;injection this with this;subst this;exact hr.mono hS λ_ _=>rfl
theorem Qh{f:V->Option T}:∀{cs:List V} {ts:List T},lendCs f cs=some ts ->∀(j:Nat) t,ts[j]?=some t ->∃c,cs[j]?=some c/\f c=some t
 |[],ts,h,j,t,ht=>by simp[lendCs]at h;subst h;simp at ht
 |c::cs,ts,h,j,t,ht=>by
  simp only[lendCs]at h;split at h
  .rename_i t0 ts' h1 h2;injection h with h;subst h;cases j with
   |zero=>simp at ht;subst ht;exact⟨c,rfl,h1⟩
   |succ j=>exact Qh h2 j t (by simpa using ht)
  .cases h
theorem aLz{w:World}{E:Env}{f:V->Option T}{x:V}{g:Bool}{ts:List T}{v:Value}(h:Cq f x=some (g,ts))(hone:∀y t,f y=some t->y.isCell=true)(hx:RdV w E x v):
  EntV g ts v /\∀(j:Nat) t u,ts[j]?=some t->v.cells[j]?=some u->t=.opq/\u.oneCell'=true \/∃y,f y=some t/\RdV w E y u/\(∀cs,x=.agg cs->y∈cs)/\((∀cs,x ≠ .agg cs)->y=x):=by
 unfold Cq at h;split at h
 .rename_i cs;split at h
  .rename_i ts' hts;injection h with h;injection h with h1 h2;subst h1 h2;simp only[RdV]at hx;obtain⟨vs,rfl,h1,h2⟩:=hx;have hl:=RdVs.len h1;refine⟨⟨λ_=>⟨vs,rfl,?_⟩,λh=>(by cases h)⟩,λj t u ht hu=>?_⟩
   .rw[Dm hts];simpa using hl.symm
   .obtain⟨c,hc,hft⟩:=Qh hts j t ht;obtain⟨u',hu',hr⟩:=RdVs.get h1 hc;have hu2:vs[j]?=some u:=hu;have hu3:vs[j]?=some u':=by simpa using hu'
    rw[hu2]at hu3;injection hu3 with hu3;subst hu3;exact .inr ⟨c,hft,hr,λcs' he=>by injection he with he;subst he;exact List.mem_of_getElem? hc,λhne=>(hne _ rfl).elim⟩
  .cases h
 .injection h with h;injection h with h1 h2;subst h1 h2;simp only[RdV]at hx;have h1:=hx.1;refine⟨⟨λh=>(by cases h),λ_=>⟨h1,rfl⟩⟩,λj t' u ht' hu=> .inl ?_⟩;have hc:v.cells=#[v]:=by cases v<;>first|rfl|simp[Value.oneCell']at h1
  rw[hc]at hu;cases j with
  |zero=>
   simp at ht' hu;subst ht' hu;exact⟨rfl,h1⟩
  |succ j=>simp at ht'
 .rename_i hna hnp;split at h
  .rename_i t ht;injection h with h;injection h with h1 h2;subst h1 h2;have h1:=RdV.one (hone _ _ ht) hx;refine⟨⟨λh=>(by cases h),λ_=>⟨h1,rfl⟩⟩,λj t' u ht' hu=>?_⟩;have hc:v.cells=#[v]:=by cases v<;>first|rfl|simp[Value.oneCell']at h1
   rw[hc]at hu;cases j with
   |zero=>
    simp at ht' hu;subst ht' hu;exact .inr ⟨x,ht,hx,λcs he=>(hna cs he).elim,λ_=>rfl⟩
   |succ j=>simp at ht'
  .cases h
theorem Br{w:World}{E:Env}{f:V->Option T}(hone:∀y t,f y=some t->y.isCell=true):∀{xs:List (Value×V)} {ts:List (Value×Bool×List T)} {es:List MapEntry},nL f xs=some ts->RdEs w E xs es ->
  ts.length=es.length /\∀(i:Nat) k g l e,ts[i]?=some (k,g,l)->es[i]?=some e->e.key=k/\EntV g l e.val /\∃x,xs[i]?=some (k,x) /\∀(j:Nat) t u,l[j]?=some t->e.val.cells[j]?=some u->t=.opq/\u.oneCell'=true \/∃y,f y=some t/\RdV w E y u/\(∀cs,x=.agg cs->y∈cs)/\((∀cs,x ≠ .agg cs)->y=x)
 |[],ts,[],h,_=>by simp[nL]at h;subst h;exact⟨rfl,λi k g l e h=>by simp at h⟩
 |(k0,x0)::xs,ts,e0::es,h,hx=>by
  simp only[nL]at h;split at h
  .rename_i m rs h1 h2;injection h with h;subst h;obtain⟨q1,q2⟩:=Br hone h2 hx.2.2;refine⟨by simp[q1],λi k g l e hi he=>?_⟩;cases i with
   |zero=>
    simp only[List.getElem?_cons_zero,Option.some.injEq]at hi he;obtain⟨g',l'⟩:=m;injection hi with hi1 hi2;injection hi2 with hi2 hi3;subst hi1 hi2 hi3 he;obtain⟨r1,r2⟩:=aLz h1 hone hx.2.1;exact⟨hx.1,r1,x0,rfl,r2⟩
   |succ i=>
    obtain⟨r1,r2,x,r3,r4⟩:=q2 i k g l e (by simpa using hi) (by simpa using he);exact⟨r1,r2,x,by simpa using r3,r4⟩
  .cases h
 |[],_,_::_,_,hx=>hx.elim
 |_::_,_,[],_,hx=>hx.elim
theorem Qj(h:Heap):∀(n:Nat) (y:V) (t:T),aX h n y=some t->y.isCell=true
 |n,.t _,_,_=>rfl
 |n,.own _,_,_=>rfl
 |n,.agg _,t,h1=>by cases n<;>simp[aX]at h1
 |n,.tup _,t,h1=>by cases n<;>simp[aX]at h1
 |n,.ptr _ _,t,h1=>by cases n<;>simp[aX]at h1
 |n,.rptr _ _ _ _,t,h1=>by cases n<;>simp[aX]at h1
 |n,.rsl _ _ _ _,t,h1=>by cases n<;>simp[aX]at h1
 |n,.elem _ _ _ _ _,t,h1=>by cases n<;>simp[aX]at h1
 |n,.cond _ _,t,h1=>by cases n<;>simp[aX]at h1
 |n,.clo _ _,t,h1=>by cases n<;>simp[aX]at h1
 |n,.dead,t,h1=>by cases n<;>simp[aX]at h1
theorem Fr{w:World}{E:Env}{h:Heap}{S':Nat->Prop}(hr:Rel w E h)(hS:∀b,E.S b->S' b)(hO:∀i hv blk,E.B i=some hv->h.look i=some blk->blk.lendable=true ->∀b,aV hv=some b->S' b):
  ∀(n:Nat) (x:V) (t:T) (v:Value),aX h n x=some t->RdV w E x v->RdT w S' t v
 |n,.t x,t,v,h1,hx=>by
  rw[kG]at h1;injection h1 with h1;subst h1;simp only[RdV]at hx;exact hx.mono hS λ_ _=>rfl
 |n+1,.own i,t,v,h1,hx=>by
  simp only[aX]at h1;unfold Vq at h1;split at h1
  .rename_i es hl;split at h1
   .rename_i ts hts;injection h1 with h1;subst h1;obtain⟨hv,hB,r,entries,clock,rfl,h2,h3,h3b⟩:=hr.has i _ hl;simp only[RdV]at hx;have:=hx.2.2 _ (.inl hB);subst this;obtain⟨q1,q2⟩:=Br (Qj h n) hts h3;refine .map ts r entries clock (hO i _ _ hB hl rfl r rfl) h2 (by simpa using q1) h3b (λi' k g l e hi he=>?_) λi' k g l e j x u hi he hj hu=>?_
    .obtain⟨r1,r2,_⟩:=q2 i' k g l e hi (by simpa using he);exact⟨r1,r2⟩
    .obtain⟨_,_,_,_,r4⟩:=q2 i' k g l e hi (by simpa using he);rcases r4 j x u hj hu with ⟨rfl,ho⟩|⟨y,y1,y2,_⟩
     .exact .opq _ ho
     exact Fr hr hS hO n y x u y1 y2
   .cases h1
  .rename_i e k d xs hl;split at h1
   .rename_i ts hts;injection h1 with h1;subst h1;obtain⟨hv,hB,cells,h2,h3,h4,h5⟩:=hr.has i _ hl;simp only[RdV]at hx;have:=hx.2.2 hv (.inl hB);subst this;rw[<-tT hts]at h2;refine Lz (S:=S') h2 ?_ (tU hts h4) (λ_ h=>h) (hO i _ _ hB hl rfl);exact wJ (λx t v h1 h2=>Fr hr hS hO n x t v h1 h2) (rV hts) h3
   .cases h1
  .rename_i t' hl;injection h1 with h1;subst h1;obtain⟨hv,hF,hT⟩:=hr.has i _ hl;simp only[RdV]at hx;have:=hx.2.2 hv (.inr hF);subst this;exact RdT.mono hS (λ_ _=>rfl) hT
  .injection h1 with h1;subst h1;simp only[RdV]at hx;exact .opq _ hx.1
  .cases h1
 |0,.own i,t,v,h1,hx=>by simp[aX]at h1
 |n,.agg _,t,v,h1,hx=>by cases n<;>simp[aX]at h1
 |n,.tup _,t,v,h1,hx=>by cases n<;>simp[aX]at h1
 |n,.ptr _ _,t,v,h1,hx=>by cases n<;>simp[aX]at h1
 |n,.rptr _ _ _ _,t,v,h1,hx=>by cases n<;>simp[aX]at h1
 |n,.rsl _ _ _ _,t,v,h1,hx=>by cases n<;>simp[aX]at h1
 |n,.elem _ _ _ _ _,t,v,h1,hx=>by cases n<;>simp[aX]at h1
 |n,.cond _ _,t,v,h1,hx=>by cases n<;>simp[aX]at h1
 |n,.clo _ _,t,v,h1,hx=>by cases n<;>simp[aX]at h1
 |n,.dead,t,v,h1,hx=>by cases n<;>simp[aX]at h1
mutual
theorem RdV.lend{w:World}{E:Env}{h:Heap}(hr:Rel w E h):∀(x:V) {v:Value},(x.lend h).pure=true->RdV w E x v->RdV w (jM (wE E h)) (x.lend h) v
 | .own i,v,hp,hx=>by
  unfold V.lend Qg at hp⊢;rcases lendBo_cases (aX h 5) i (h.look i) (vF i (aX h 6 (.own i)))with ⟨cs,hlk,heq⟩|heq
  .rw[heq]at hp ⊢
   .unfold Dn at hp⊢;split at hp
    .rename_i ts hts;obtain⟨hv,hB,b,vs,ty,rfl,hh,h1,h2⟩:=hr.has i _ hlk;simp only[RdV]at hx;have:=hx.2.2 _ (.inl hB);subst this;have hT:RdTs w (wE E h) ts vs.toList:=wJ (λx t v h1 h2=>Fr (S':=wE E h) hr (λb hb=> .inl hb) (λi hv blk hB hl hm b hb=> .inr ⟨i,hv,blk,hB,hl,hm,hb⟩) 5 x t v h1 h2) hts h1;have hlen:=RdTs.len hT;have hcell:∀(j:Nat) x,ts[j]?=some x ->∃u,w.cell? ⟨b,0+0*ts.length+j,none⟩=some u/\vs.toList[j]?=some u:=by
      intro j x hj;have hjl:j<vs.toList.length:=by rw[<-hlen];exact(List.getElem?_eq_some_iff.1 hj).1
      refine⟨vs.toList[j],?_,List.getElem?_eq_getElem hjl⟩;simp only[World.cell?,hh,Nat.zero_mul,Nat.zero_add];simp
     refine(show RdV w (jM (wE E h)) (.elem ts.length ts [ts] 0 0) _ from ?_);simp only[RdV];refine⟨b,0,1,.list ts.length ts [ts] (some ⟨b,0,none⟩) 1 (by simp[maxLen]) (by simp) (by simp) (by simp) ?_ ?_,by simp,by simp⟩
     .intro i' e he;cases i' with
      |zero=>
       simp at he;subst he;exact⟨b,0,rfl,.inr ⟨i,_,_,hB,hlk,rfl,rfl⟩,λj x hj=>by obtain⟨u,hu,_⟩:=hcell j x hj;exact⟨u,hu⟩⟩
      |succ i'=>simp at he
     .intro i' e j x b' off u he hj hA hu;cases i' with
      |zero=>
       simp at he;subst he;injection hA with hA;injection hA with hA1 hA2;subst hA1 hA2;obtain⟨u',hu',hv'⟩:=hcell j x hj;rw[hu]at hu';injection hu' with hu';subst hu';exact RdTs.nth j hT hj hv'
      |succ i'=>simp at he
    .simp[V.pure]at hp
  rw[heq]at hp⊢;cases hl:aX h 6 (.own i)with
  |none=>rw[hl]at hp;simp[vF,V.pure]at hp
  |some t=>
   simp only[vF];have:=Fr (S':=wE E h) hr (λb hb=> .inl hb) (λi hv blk hB hl hm b hb=> .inr ⟨i,hv,blk,hB,hl,hm,hb⟩) 6 _ _ _ hl hx;simp only[RdV];exact this
 | .agg cs,v,hp,hx=>by
  simp only[V.lend,V.pure]at hp⊢;simp only[RdV]at hx⊢;obtain⟨vs,hv,h1,h2⟩:=hx;exact⟨vs,hv,RdVs.lend hr cs hp h1,h2⟩
 | .t x,v,hp,hx=>by
  simp only[V.lend,RdV]at hx⊢;exact hx.mono (λb hb=> .inl hb) λ_ _=>rfl
 | .elem k d xs i j,v,hp,hx=>by
  simp only[V.lend,RdV]at hx⊢;obtain⟨b,off,c,h1,h2⟩:=hx;exact⟨b,off,c,h1.mono (λb hb=> .inl hb) λ_ _=>rfl,h2⟩
 | .dead,v,hp,hx=>by simp only[V.lend,RdV]
 | .tup cs,v,hp,hx=>by
  simp only[V.lend,V.pure]at hp⊢;simp only[RdV]at hx⊢;obtain⟨vs,hv,h1⟩:=hx;exact⟨vs,hv,RdVs.lend hr cs hp h1⟩
 | .cond g x,v,hp,hx=>by
  simp only[V.lend]at hp⊢;have h1:=RdV.bare _ hp hx;have hE:Ext (jM E.S) w (jM (wE E h)) w:=⟨rfl,rfl,rfl,Nat.le_refl _,λ_ _=>rfl,λb hb=> .inl hb,λ_ _=> .inr id,λ_=> .rfl,λ_ h=>h,λ_ h=>h.elim,λ_ h=>h.elim,rfl⟩
  exact hE.rdV _ h1
 | .ptr i off,v,hp,hx=>by simp[V.lend,V.pure]at hp
 | .rptr i k n j,v,hp,hx=>by simp[V.lend,V.pure]at hp
 | .rsl i k n j,v,hp,hx=>by simp[V.lend,V.pure]at hp
 | .clo f cs,v,hp,hx=>by
  simp only[V.lend,V.pure]at hp⊢;simp only[RdV]at hx⊢;obtain⟨vs,hv,h1⟩:=hx;exact⟨vs,hv,RdVs.lend hr cs hp h1⟩
theorem RdVs.lend{w:World}{E:Env}{h:Heap}(hr:Rel w E h):∀(xs:List V) {vs:List Value},V.pures (V.lends h xs)=true->RdVs w E xs vs->RdVs w (jM (wE E h)) (V.lends h xs) vs
 |[],[],_,_=>by simp only[V.lends,RdVs]
 |x::xs,v::vs,hp,hx=>by
  simp only[V.lends,V.pures,Bool.and_eq_true]at hp;simp only[V.lends,RdVs]at hx⊢;exact⟨RdV.lend hr x hp.1 hx.1,RdVs.lend hr xs hp.2 hx.2⟩
 |[],_::_,_,h=>by simp only[RdVs]at h
 |_::_,[],_,h=>by simp only[RdVs]at h
end
theorem Rel.later{w w':World}{E:Env}{h:Heap}{S':Nat->Prop}(hr:Rel w E h)(hb:Below w.heap.size w w')(h1:∀b,E.S b->S' b)(h2:∀b,S' b->E.S b\/w.heap.size<=b)
  (h3:∀b,S' b->b<w'.heap.size):Rel w' { E with S:=S' } h/\Ext E w { E with S:=S' } w':=by
 have hE:Ext E w { E with S:=S' } w':=by
  refine⟨hb.os,hb.tape,hb.output,hb.size,λb hb'=>hb.block b (hb'.elim (hr.slt b) (hr.dlt b)),h1,λb hb'=>?_,λ_=> .rfl,λ_ h=>h,λ_ _ _ h=>h,λ_ _ _ h=>h,rfl⟩;rcases h2 b hb' with h|h
  .exact .inl h
  .exact .inr λhd=>by have:=hr.dlt b hd;omega
 refine⟨⟨λi blk hl=>?_,hr.dom,hr.domF,λi hv b hB hbk=>?_,hr.apart,h3,λb hb'=>Nat.lt_of_lt_of_le (hr.dlt b hb') hb.size⟩,hE⟩
 .obtain⟨hv,hB,hrel⟩:=hr.has i blk hl;refine⟨hv,by cases blk<;>exact hB,?_⟩;cases blk with
  |box cs=>
   obtain⟨b,vs,ty,rfl,hh,hvs,h1s⟩:=hrel;refine⟨b,vs,ty,rfl,?_,hE.rdVs cs hvs,h1s⟩;rw[hb.block b (Array.getElem?_eq_some_iff.1 hh).1];exact hh
  |row e k d xs=>
   obtain⟨cells,h5,h6,h7⟩:=hrel;exact⟨cells,aLd h5 hb,hE.rdVs _ h6,h7⟩
  |map es=>
   obtain⟨r,entries,clock,rfl,h5,h6,h7⟩:=hrel;exact⟨r,entries,clock,rfl,by rw[hb.block r (Array.getElem?_eq_some_iff.1 h5).1];exact h5,hE.rdEs _ h6,h7⟩
  |shr t=>exact hE.rdT hrel
  |loop st pend tmps ps assign body=>
   obtain⟨l,rec,rfl,h5,h6,h7,h8,h9,h10,h11⟩:=hrel;exact⟨l,rec,rfl,by rw[hb.block l (Array.getElem?_eq_some_iff.1 h5).1];exact h5,h6,h7,h8,h9,h10,hE.rdVs _ h11⟩
  |defd=>
   obtain⟨b,rfl,h5⟩:=hrel;exact⟨b,rfl,by rw[hb.block b (Array.getElem?_eq_some_iff.1 h5).1];exact h5⟩
 .obtain⟨o1,o2,o3⟩:=hr.own i hv b hB hbk;refine⟨Nat.lt_of_lt_of_le o1 hb.size,λhs=>?_,o3⟩;rcases h2 b hs with h|h
  .exact o2 h
  .omega
theorem RelF.later{w w':World}{E:Env}{σ:St}{a:Act}{S':Nat->Prop}(hr:RelF E σ a w)(hb:Below w.heap.size w w')(h1:∀b,E.S b->S' b)(h2:∀b,S' b->E.S b\/w.heap.size<=b)
  (h3:∀b,S' b->b<w'.heap.size):RelF { E with S:=S' } σ a w'/\Ext E w { E with S:=S' } w':=by
 obtain⟨k1,k2⟩:=hr.rel.later hb h1 h2 h3;exact⟨⟨k1,hr.bound,k2.rdVs _ hr.fr,k2.defs hr.defers⟩,k2⟩
theorem aBc{w:World}{E E':Env}{w':World}{r:V}{v:Value}(hs:r.scal=true)(h:RdV w E r v):RdV w' E' r v:=by
 have key:∀(cs:List V) (vs:List Value),(cs.all λc=>match c with
  | .t (.lit _)=>true
  |_=>false)=true->RdVs w E cs vs->RdVs w' E' cs vs:=by
  intro cs
  induction cs with
  |nil=>intro vs _ h;cases vs with
   |nil=>simp only[RdVs]
   |cons _ _=>simp only[RdVs]at h
  |cons c cs ih=>
   intro vs hc h;cases vs with
   |nil=>simp only[RdVs]at h
   |cons v vs=>
    simp only[List.all_cons,Bool.and_eq_true]at hc;simp only[RdVs]at h⊢;refine⟨?_,ih vs hc.2 h.2⟩;have hc1:=hc.1;split at hc1
    .obtain⟨rfl,q1,q2⟩:=aJ h.1;simp only[RdV];exact .lit _ q1 q2
    .cases hc1
 unfold V.scal at hs;split at hs
 .obtain⟨rfl,q1,q2⟩:=aJ h;simp only[RdV];exact .lit _ q1 q2
 .simp only[RdV]at h⊢;obtain⟨vs,hv,h1,h2⟩:=h;exact⟨vs,hv,key _ _ hs h1,h2⟩
 .simp only[RdV]at h⊢;obtain⟨vs,hv,h1⟩:=h;exact⟨vs,hv,key _ _ hs h1⟩
 .cases hs
def eE(G:Bool):List V->(List V->Prop)->Prop
 |[],K=>K []
 |x::xs,K=>dB G x λx'=>eE G xs λxs'=>K (x'::xs')
theorem mP{G:Bool}:∀{xs:List V} {K:List V->Prop},eE G xs K ->∃ys,K ys /\∀(w:World) (E:Env) vs,G=true->RdVs w E xs vs->RdVs w E ys vs
 |[],K,h=>⟨[],h,λ_ _ _ _ h=>h⟩
 |x::xs,K,h=>by
  obtain⟨x',h1,hx⟩:=cB h;obtain⟨xs',h2,hxs⟩:=mP h1;refine⟨_,h2,λw E vs hG hr=>?_⟩;cases vs with
  |nil=>simp only[RdVs]at hr
  |cons v vs=>
   simp only[RdVs]at hr⊢;exact⟨hx w E v hG hr.1,hxs w E vs hG hr.2⟩
theorem Bs{f g:V->Option T}(hfg:∀x t,f x=some t->g x=some t):∀{xs:List V} {ts:List T},lendCs f xs=some ts->lendCs g xs=some ts
 |[],ts,h=>h
 |x::xs,ts,h=>by
  simp only[lendCs]at h⊢;split at h
  .rename_i t ts' h1 h2;rw[hfg x t h1,Bs hfg h2];exact h
  .cases h
theorem Vp{f g:V->Option T}(hfg:∀x t,f x=some t->g x=some t):∀{xs:List (List V)} {ts:List (List T)},lendRs f xs=some ts->lendRs g xs=some ts
 |[],ts,h=>h
 |x::xs,ts,h=>by
  simp only[lendRs]at h⊢;split at h
  .rename_i t ts' h1 h2;rw[Bs hfg h1,Vp hfg h2];exact h
  .cases h
theorem aR9{f g:V->Option T}(hfg:∀x t,f x=some t->g x=some t){x:V}{m:Bool×List T}(h:Cq f x=some m):Cq g x=some m:=by
 unfold Cq at h⊢;split at h
 .split at h
  .rename_i ts h1;rw[Bs hfg h1];exact h
  .cases h
 .exact h
 .rename_i hna hnp;split at h
  .rename_i t h1;have h2:=hfg _ _ h1;cases x<;>first|exact(hna _ rfl).elim|exact(hnp _ _ rfl).elim|(simp only[h2];exact h)
  .cases h
theorem aCj{f g:V->Option T}(hfg:∀x t,f x=some t->g x=some t):∀{xs:List (Value×V)} {ts:List (Value×Bool×List T)},nL f xs=some ts->nL g xs=some ts
 |[],ts,h=>h
 |(k,x)::xs,ts,h=>by
  simp only[nL]at h⊢;split at h
  .rename_i m rs h1 h2;rw[aR9 hfg h1,aCj hfg h2];exact h
  .cases h
theorem eX(h:Heap):∀(n:Nat) (x:V) (t:T),aX h n x=some t->aX h (n+1) x=some t
 |n,.t x,t,h1=>by rw[kG]at h1⊢; exact h1
 |n+1,.own i,t,h1=>by
  simp only[aX]at h1⊢;unfold Vq at h1⊢;split at h1
  .rename_i es hl;split at h1
   .rename_i ts hts;have hts':nL (λx=>aX h (n+1) x) es=some ts:=aCj (f:=aX h n) (g:=aX h (n+1)) (λx t hx=>eX h n x t hx) hts;rw[show nL (aX h (n+1)) es=some ts from hts'];exact h1
   .cases h1
  .rename_i e k d xs hl;split at h1
   .rename_i ts hts;have hts':lendRs (λx=>aX h (n+1) x) xs=some ts:=Vp (f:=aX h n) (g:=aX h (n+1)) (λx t hx=>eX h n x t hx) hts;rw[show lendRs (aX h (n+1)) xs=some ts from hts'];exact h1
   .cases h1
  .exact h1
  .exact h1
  .cases h1
 |0,.own i,t,h1=>by simp[aX]at h1
 |n,.agg _,t,h1=>by cases n<;>simp[aX]at h1
 |n,.tup _,t,h1=>by cases n<;>simp[aX]at h1
 |n,.ptr _ _,t,h1=>by cases n<;>simp[aX]at h1
 |n,.rptr _ _ _ _,t,h1=>by cases n<;>simp[aX]at h1
 |n,.rsl _ _ _ _,t,h1=>by cases n<;>simp[aX]at h1
 |n,.elem _ _ _ _ _,t,h1=>by cases n<;>simp[aX]at h1
 |n,.cond _ _,t,h1=>by cases n<;>simp[aX]at h1
 |n,.clo _ _,t,h1=>by cases n<;>simp[aX]at h1
 |n,.dead,t,h1=>by cases n<;>simp[aX]at h1
mutual
def V.lend1(h:Heap):V->V
 | .own i=>Qg (aX h 0) i (h.look i) (aX h 1 (.own i))
 | .agg cs=> .agg (V.lends1 h cs)
 | .tup cs=> .tup (V.lends1 h cs)
 | .clo f cs=> .clo f (V.lends1 h cs)
 |x=>x
def V.lends1(h:Heap):List V->List V
 |[]=>[]
 |x::xs=>V.lend1 h x::V.lends1 h xs
end
mutual
theorem aRa{h:Heap}:∀(x:V),(x.lend1 h).pure=true->x.lend h=x.lend1 h
 | .own i,hp=>by
  unfold V.lend1 Qg at hp;unfold V.lend V.lend1 Qg;rcases lendBo_cases (aX h 0) i (h.look i) (vF i (aX h 1 (.own i)))with ⟨cs,hlk,heq⟩|heq
  .rw[heq]at hp⊢;rw[hlk];show Dn i (lendCs (aX h 5) cs)=_
   .unfold Dn at hp⊢;split at hp
    .rename_i ts hts;have h5:lendCs (λx=>aX h 5 x) cs=some ts:=Bs (f:=aX h 0) (g:=aX h 5) (λx t hx=>eX h 4 _ t (eX h 3 _ t (eX h 2 _ t (eX h 1 _ t (eX h 0 _ t hx))))) hts;rw[show lendCs (aX h 5) cs=some ts from h5]
    .simp[V.pure]at hp
  rw[heq]at hp⊢;cases hl:aX h 1 (.own i)with
  |none=>rw[hl]at hp;simp[vF,V.pure]at hp
  |some t=>
   rw[hl]at heq;rw[eX h 5 _ t (eX h 4 _ t (eX h 3 _ t (eX h 2 _ t (eX h 1 _ t hl))))];rcases lendBo_cases (aX h 5) i (h.look i) (vF i (some t))with ⟨cs,hlk,_⟩|h2
   .rw[hlk]at heq;simp only[Dp,vF]at heq;unfold Dn at heq;split at heq<;>cases heq
   .exact h2
 | .agg cs,hp=>by simp only[V.lend1,V.pure,V.lend]at hp⊢; rw[wG cs hp]
 | .tup cs,hp=>by simp only[V.lend1,V.pure,V.lend]at hp⊢; rw[wG cs hp]
 | .clo f cs,hp=>by simp only[V.lend1,V.pure,V.lend]at hp⊢; rw[wG cs hp]
 | .t _,_=>by simp only[V.lend1,V.lend]
 | .ptr ..,_=>by simp only[V.lend1,V.lend]
 | .rptr ..,_=>by simp only[V.lend1,V.lend]
 | .rsl ..,_=>by simp only[V.lend1,V.lend]
 | .elem ..,_=>by simp only[V.lend1,V.lend]
 | .cond ..,_=>by simp only[V.lend1,V.lend]
 | .dead,_=>by simp only[V.lend1,V.lend]
theorem wG{h:Heap}:∀(xs:List V),V.pures (V.lends1 h xs)=true->V.lends h xs=V.lends1 h xs
 |[],_=>rfl
 |x::xs,hp=>by
  simp only[V.lends1,V.pures,V.lends,Bool.and_eq_true]at hp⊢;rw[aRa x hp.1,wG xs hp.2]
end
def Dw(P:Program)(G:Bool)(h:Heap)(f:FuncId)(xs:List V)(K:V->Prop):Prop:=
 if V.pures xs=true then ∃r,(G=true->aL P f xs r)/\K r
 else V.pures (V.lends1 h xs)=true /\∃r,(G=true->aL P f (V.lends1 h xs) r)/\r.scal=true/\K r
theorem mZ{P:Program}{ρ:Operand->Value}{o:Oper}{f:FuncId}{args:Array Operand}{tys:Array TypeId}(ho:o.op=.call { callee:=.value (.func f),args:=args,argTypes:=tys })
  (hρ:ρ (.func f)=.func (.func f) #[] #[]) (he:P.enters f=true) (w:World):(execOp ρ o).run P w=.ok (.enter f (args.map ρ)) w:=by
 unfold Program.enters at he;split at he
 .rename_i fn hf;simp only[Bool.and_eq_true,Bool.not_eq_true']at he;have hn : ¬fn.name = "runtime.NumGoroutine" :=by simpa using he.1
  have hb : ¬fn.body=none:=λh=>by rw[h]at he;simp at he
  simp[execOp,ho,resolve,hρ,Deferred.ofValue,invoke,callFunc,hf,hn,hb]
 .cases he
theorem kL{w:World}{E:Env}{σ:St}{a:Act}(hr:RelF E σ a w):∀(l:List Operand),RdVs w E (l.map σ.ev) (l.map a.eval)
 |[]=>by simp only[List.map_nil,RdVs]
 |x::l=>by simp only[List.map_cons,RdVs];exact⟨hr.ev x,kL hr l⟩
theorem ps_call{P:Program}{G:Bool}{σ:St}{o:Oper}{K:V->Prop}{f:FuncId}{args:Array Operand}{tys:Array TypeId}(ho:o.op=.call { callee:=.value (.func f),args:=args,argTypes:=tys })
  (h:eE G (args.toList.map σ.ev) λxs=>Dw P G σ.h f xs K):∃x,K x/\(G=true->YV P o σ x):=by
 obtain⟨ys,h1,hys⟩:=mP h;unfold Dw at h1;split at h1
 .rename_i hp;obtain⟨r,hC,hK⟩:=h1;refine⟨r,hK,λhG E a w hr next Q hn=>?_⟩;have hvs:=hys w E _ hG (kL hr args.toList);obtain⟨he,hcall⟩:=hC hG;have h2:=hcall w E.S _ hr.rel.slt (RdVs.bare _ hp hvs);unfold Oper.wp;rw[mZ ho rfl he];simp only[Oper.upon];have e1:(args.toList.map a.eval).toArray=args.map a.eval:=by apply Array.ext';simp only[Array.toList_map]
  rw[e1]at h2;refine Calls.mono h2 ?_;rintro e w' ⟨v,S',rfl,q1,q2,q3,q4,q5⟩;obtain⟨k1,k2⟩:=hr.later q5 q1 q2 q3;exact hn v w' _ k1 k2 (RdV.unbare (E:={ E with S:=S' }) r q4) (λ_ h=>h)
 .obtain⟨hp,r,hC,hs,hK⟩:=h1;have hle:=wG ys hp;rw[<-hle]at hp hC;refine⟨r,hK,λhG E a w hr next Q hn=>?_⟩;have hvs:=hys w E _ hG (kL hr args.toList);obtain⟨he,hcall⟩:=hC hG;have h2:=hcall w (wE E σ.h) _ (λb hb=>by
   rcases hb with hb|⟨i,hv,_,hB,_,_,hbk⟩
   .exact hr.rel.slt b hb
   .exact(hr.rel.own i hv b hB hbk).1) (RdVs.lend hr.rel _ hp hvs)
  unfold Oper.wp;rw[mZ ho rfl he];simp only[Oper.upon];have e1:(args.toList.map a.eval).toArray=args.map a.eval:=by apply Array.ext';simp only[Array.toList_map]
  rw[e1]at h2;refine Calls.mono h2 ?_;rintro e w' ⟨v,S',rfl,q1,q2,q3,q4,q5⟩;obtain⟨k1,k2⟩:=hr.later q5 (λ_ h=>h) (λb hb=> .inl hb) (λb hb=>Nat.lt_of_lt_of_le (hr.rel.slt b hb) q5.size);exact hn v w' _ k1 k2 (aBc hs q4) (λ_ h=>h)
section
variable {P:Program} {G:Bool} {σ:St} {o:Oper} {K:V->Prop}
def lenV(P:Program)(h:Heap)(t:TypeId)(x:V)(K:V->Prop):Prop:=
 match P.underlying t,x with
 |some .string,.t (.lit (.string s))=>K (aA s.size)
 |some (.slice _),.t (.list _ _ xs)=>K (aA xs.length)
 |some (.slice _),.t (.lit (.slice _ n _))=>K (aA n)
 |some (.slice _),.own i=>match h.look i with
  |some (.row _ _ _ xs)=>K (aA xs.length)
  |some (.shr (.list _ _ xs))=>K (aA xs.length)
  |_=>False
 |some (.array n _),_=>K (aA n)
 |some (.map _ _),.t (.map es)=>K (aA es.length)
 |some (.map _ _),.own i=>match h.look i with
  |some (.map es)=>K (aA es.length)
  |_=>False
 |_,_=>False
theorem RdEs.len{w:World}{E:Env}:∀{xs:List (Value×V)} {es:List MapEntry},RdEs w E xs es->xs.length=es.length
 |[],[],_=>rfl
 |_::_,_::_,h=>by simp[RdEs.len h.2.2]
 |[],_::_,h=>h.elim
 |_::_,[],h=>h.elim
theorem uP{args:Array Operand}{x:Operand}{t:TypeId}{tys:Array TypeId}(ho:o.op=.call { callee:=.builtin .len,args:=#[x],argTypes:=tys })(ht:tys[0]?=some t){ρ:Operand->Value}{w:World}{n:Nat}
  (h:(Builtin.len_ tys o.type #[ρ x]).run P w=.ok (.int .i64 n) w):(execOp ρ o).run P w=.ok (.value (.int .i64 n)) w:=by
 simp[execOp,ho,resolve,invoke,builtin,h]
theorem Bf{w:World}{S:Nat->Prop}{k:Nat}{d:List T}{xs:List (List T)}{v:Value}(h:RdT w S (.list k d xs) v):∃A c,v=.slice A xs.length c/\xs.length<=c:=by
 cases h with
 |list _ _ _ A c hm hc=>exact⟨A,c,rfl,hc⟩
theorem ps_len{x:Operand}{t:TypeId}{tys:Array TypeId}(ho:o.op=.call { callee:=.builtin .len,args:=#[x],argTypes:=tys })(ht:tys[0]?=some t)
  (h:dB G (σ.ev x) λx'=>lenV P σ.h t x' K):∃x,K x/\(G=true->YV P o σ x):=by
 obtain⟨x',h1,hx⟩:=cB h;unfold lenV at h1;split at h1
 .rename_i s hu;refine⟨_,h1,λhG=>cU λE a w hr=>⟨_,uP (args:=#[]) ho ht (n:=s.size) ?_,eU rfl rfl⟩⟩;rw[(aJ (hx w E _ hG (hr.ev x))).1];simp[Builtin.len_,ht,run_underlying hu,goInt]
 .rename_i xs hu;refine⟨_,h1,λhG=>cU λE a w hr=>⟨_,uP (args:=#[]) ho ht (n:=xs.length) ?_,eU rfl rfl⟩⟩;have e1:=hx w E _ hG (hr.ev x);simp only[RdV]at e1;obtain⟨A,c,e2,_⟩:=Bf e1;rw[e2];simp[Builtin.len_,ht,run_underlying hu,goInt]
 .rename_i n _ hu;refine⟨_,h1,λhG=>cU λE a w hr=>⟨_,uP (args:=#[]) ho ht (n:=n) ?_,eU rfl rfl⟩⟩;rw[(aJ (hx w E _ hG (hr.ev x))).1];simp[Builtin.len_,ht,run_underlying hu,goInt]
 .rename_i i hu;split at h1
  .rename_i e k d xs hl;refine⟨_,h1,λhG=>cU λE a w hr=>⟨_,uP (args:=#[]) ho ht (n:=xs.length) ?_,eU rfl rfl⟩⟩;have e1:=hx w E _ hG (hr.ev x);simp only[RdV]at e1;obtain⟨hv,hB,cells,h2,_⟩:=hr.rel.has i _ hl;obtain⟨A,c,e3,_⟩:=aQg h2;rw[e1.2.2 _ (.inl hB),e3];simp[Builtin.len_,ht,run_underlying hu,goInt]
  .rename_i k d xs hl;refine⟨_,h1,λhG=>cU λE a w hr=>⟨_,uP (args:=#[]) ho ht (n:=xs.length) ?_,eU rfl rfl⟩⟩;have e1:=hx w E _ hG (hr.ev x);simp only[RdV]at e1;obtain⟨hv,hF,hT⟩:=hr.rel.has i _ hl;obtain⟨A,c,e3,_⟩:=Bf (show RdT w E.S (.list k d xs) hv from hT);rw[e1.2.2 _ (.inr hF),e3];simp[Builtin.len_,ht,run_underlying hu,goInt]
  .exact h1.elim
 .rename_i n _ hu;refine⟨_,h1,λhG=>cU λE a w hr=>⟨_,uP (args:=#[]) ho ht (n:=n) ?_,eU rfl rfl⟩⟩;simp[Builtin.len_,ht,run_underlying hu,goInt]
 .rename_i es hu;refine⟨_,h1,λhG=>cU λE a w hr=>⟨_,uP (args:=#[]) ho ht (n:=es.length) ?_,eU rfl rfl⟩⟩;have e1:=hx w E _ hG (hr.ev x);simp only[RdV]at e1;generalize a.eval x=v at e1;cases e1 with
  |map _ r entries clock hS hh hl hbn hf hrr=>
   have hgo:(getObj r).run P w=.ok (.map entries clock) w:=by simp[getObj,Sem.run,hh]
   simp[Builtin.len_,ht,run_underlying hu,goInt,hgo,hl]
 .rename_i i hu;split at h1
  .rename_i es hl;refine⟨_,h1,λhG=>cU λE a w hr=>⟨_,uP (args:=#[]) ho ht (n:=es.length) ?_,eU rfl rfl⟩⟩;have e1:=hx w E _ hG (hr.ev x);simp only[RdV]at e1;obtain⟨hv,hB,r,entries,clock,rfl,h2,h3,_⟩:=hr.rel.has i _ hl;rw[e1.2.2 _ (.inl hB)];have:=RdEs.len h3;simp only[Array.length_toList]at this;have hgo:(getObj r).run P w=.ok (.map entries clock) w:=by simp[getObj,Sem.run,h2]
   simp[Builtin.len_,ht,run_underlying hu,goInt,hgo,this]
  .exact h1.elim
 .exact h1.elim
def _root_.Go.Program.plT(P:Program)(t:TypeId):Option (List (Nat×Nat)):=
 match P.underlying t with
 |some (.struct fields)=>fields.toList.mapM λf=>(P.info? f.type).map λi=>(f.offset,i.size)
 |some (.array n e)=>(P.info? e).map λi=>(List.range n).map λj=>(j*i.size,i.size)
 |_=>none
def pT(place:Nat->Option (Nat×Nat)):List V->List (Nat×V)->Option (List V)
 |cells,[]=>some cells
 |cells,(i,v)::rest=>
  match place i with
  |none=>none
  |some (off,size)=>if v.cells.length≠size\/off+v.cells.length>cells.length\/v.cells.all V.isCell=false then none
   else pT place (cells.take off++v.cells++cells.drop (off+v.cells.length)) rest
def vL(G:Bool):List (Nat×V)->(List (Nat×V)->Prop)->Prop
 |[],K=>K []
 |(i,x)::r,K=>dB G x λx'=>vL G r λr'=>K ((i,x')::r')
def Gu(w:World)(E:Env):List (Nat×V)->List (Nat×Value)->Prop
 |[],[]=>True
 |(i,x)::xs,(j,v)::vs=>i=j/\RdV w E x v/\Gu w E xs vs
 |_,_=>False
theorem yS{G:Bool}:∀{xs:List (Nat×V)} {K:List (Nat×V)->Prop},vL G xs K ->∃ys,K ys /\∀(w:World) (E:Env) vs,G=true->Gu w E xs vs->Gu w E ys vs
 |[],K,h=>⟨[],h,λ_ _ _ _ h=>h⟩
 |(i,x)::xs,K,h=>by
  obtain⟨x',h1,hx⟩:=cB h;obtain⟨xs',h2,hxs⟩:=yS h1;refine⟨_,h2,λw E vs hG hr=>?_⟩;cases vs with
  |nil=>simp only[Gu]at hr
  |cons v vs=>
   obtain⟨j,v⟩:=v;simp only[Gu]at hr⊢;exact⟨hr.1,hx w E v hG hr.2.1,hxs w E vs hG hr.2.2⟩
theorem Cs:∀(l:List Value) (off k:Nat) (cs:Array Value),off+k+l.length<=cs.size ->
  ((l.zipIdx k).foldl (λcs (c,j)=>cs.setIfInBounds (off+j) c) cs).toList=cs.toList.take (off+k)++l++cs.toList.drop (off+k+l.length)
 |[],off,k,cs,h=>by simp
 |v::l,off,k,cs,h=>by
  simp only[List.zipIdx_cons,List.foldl_cons];simp only[List.length_cons]at h;rw[Cs l off (k+1) _ (by simp;omega)];simp only[Array.toList_setIfInBounds,List.length_cons];have e1:off+(k+1)=off+k+1:=by omega
  rw[e1];have hlt:off+k<cs.toList.length:=by simp;omega
  rw[List.take_set,List.drop_set_of_lt (by omega),List.take_add_one,List.set_append_right _ _ (by simp;omega)];have e2:off+k-(cs.toList.take (off+k)).length=0:=by simp;omega
  rw[e2,List.getElem?_eq_getElem hlt];simp;omega
theorem V.cells_ok{w:World}{E:Env}{x:V}{v:Value}(h:RdV w E x v)(hc:x.cells.all V.isCell=true):RdVs w E x.cells v.cells.toList:=by
 cases x with
 |agg cs=>
  simp only[RdV]at h;obtain⟨vs,rfl,h1,_⟩:=h;exact h1
 |t x=>
  have:=RdV.one rfl h;cases v<;>first|(simp only[V.cells,Value.cells,RdVs,RdV]at h⊢; exact⟨h,trivial⟩)|simp[Value.oneCell']at this
 |own i=>
  have:=RdV.one rfl h;cases v<;>first|(simp only[V.cells,Value.cells,RdVs];exact⟨h,trivial⟩)|simp[Value.oneCell']at this
 |ptr i j=>
  have:=RdV.one rfl h;cases v<;>first|(simp only[V.cells,Value.cells,RdVs];exact⟨h,trivial⟩)|simp[Value.oneCell']at this
 |rptr i k n j=>
  have:=RdV.one rfl h;cases v<;>first|(simp only[V.cells,Value.cells,RdVs];exact⟨h,trivial⟩)|simp[Value.oneCell']at this
 |rsl i k n j=>
  have:=RdV.one rfl h;cases v<;>first|(simp only[V.cells,Value.cells,RdVs];exact⟨h,trivial⟩)|simp[Value.oneCell']at this
 |elem k d xs i j=>
  have:=RdV.one rfl h;cases v<;>first|(simp only[V.cells,Value.cells,RdVs];exact⟨h,trivial⟩)|simp[Value.oneCell']at this
 |clo f cs=>
  have:=RdV.one rfl h;cases v<;>first|(simp only[V.cells,Value.cells,RdVs];exact⟨h,trivial⟩)|simp[Value.oneCell']at this
 |tup cs=>simp[V.cells,V.isCell]at hc
 |cond g x=>simp[V.cells,V.isCell]at hc
 |dead=>simp[V.cells,V.isCell]at hc
theorem Mh{w:World}{E:Env}(pv pc:Nat->Option (Nat×Nat))(hpc:∀i x,pv i=some x->pc i=some x):∀(parts:List (Nat×V)) (vparts:List (Nat×Value)) (cells:List V) (cs:Array Value) (out:List V),
  Gu w E parts vparts->RdVs w E cells cs.toList->cs.toList.all (·.oneCell')=true->pT pv cells parts=some out ->
  ∃r,Instr.fill pc cs vparts=some r/\RdVs w E out r.toList/\r.toList.all (·.oneCell')=true
 |[],[],cells,cs,out,_,h1,h2,h=>by
  simp only[pT,Option.some.injEq]at h;subst h;exact⟨cs,rfl,h1,h2⟩
 |(i,x)::parts,(j,v)::vparts,cells,cs,out,hp,h1,h2,h=>by
  simp only[Gu]at hp;obtain⟨rfl,hx,hp⟩:=hp;unfold pT at h;unfold Instr.fill;split at h
  .cases h
  .rename_i off size hpl;split at h
   .cases h
   .rename_i hcond;simp only[not_or,Decidable.not_not,Nat.not_lt,Bool.not_eq_false]at hcond;obtain⟨c1,c2,c3⟩:=hcond;have hcells:=V.cells_ok hx c3;have hl:=RdVs.len hcells;have hl2:=RdVs.len h1;simp only[Array.length_toList]at hl hl2;simp only[hpc _ _ hpl];have hno : ¬(v.cells.size≠size\/off+v.cells.size>cs.size):=by omega
    have hno2 : ¬((v.cells.size≠size||off+v.cells.size>cs.size)=true):=by simpa using hno
    rw[if_neg (by simpa using hno)];have hz:(v.cells.zipIdx.foldl (λcs (c,j)=>cs.setIfInBounds (off+j) c) cs).toList=cs.toList.take off++v.cells.toList++cs.toList.drop (off+v.cells.size):=by
     have:=Cs v.cells.toList off 0 cs (by simp;omega);simp only[Nat.add_zero,Array.length_toList]at this;rw[<-this];congr 1;rw[<-Array.foldl_toList];simp
    refine Mh pv pc hpc parts vparts _ _ out hp ?_ ?_ h
    .rw[hz];have e1:v.cells.size=x.cells.length:=hl.symm;rw[e1];exact RdVs.append (RdVs.append (RdVs.take off h1) hcells) (RdVs.drop _ h1)
    .rw[hz];have hv1:=RdVs.ones c3 hcells;simp only[List.all_append,Bool.and_eq_true,List.all_eq_true]at h2 hv1⊢;exact⟨⟨λy hy=>h2 y (List.mem_of_mem_take hy),hv1⟩,λy hy=>h2 y (List.mem_of_mem_drop hy)⟩
 |[],_::_,_,_,_,hp,_,_,_=>by simp only[Gu]at hp
 |_::_,[],_,_,_,hp,_,_,_=>by simp only[Gu]at hp
def pP(z:List Value):List V:=z.map λv=> .t (.lit v)
def cE(z:List Value):Bool:=z.all λv=>v.oneCell'&&aD2 v
def Zt(P:Program)(G:Bool)(t:TypeId)(parts:List (Nat×V))(K:V->Prop):Prop:=
 match P.plT t,P.zeroT t with
 |some pl,some z=>cE z=true/\vL G parts λps=>match pT (λi=>pl[i]?) (pP z) ps with
  |some cs=>K (.agg cs)
  |none=>False
 |_,_=>False
theorem Pa{w:World}{E:Env}{a:Act}(hr:RelF E σ a w):∀(l:List (Nat×Operand)),Gu w E (l.map λ(i,x)=>(i,σ.ev x)) (l.map λ(i,x)=>(i,a.eval x))
 |[]=>by simp only[List.map_nil,Gu]
 |(i,x)::l=>by simp only[List.map_cons,Gu];exact⟨trivial,hr.ev x,Pa hr l⟩
theorem sX{t:TypeId}{z:List Value}(h:P.zeroT t=some z):∃it v,P.info? t=some it/\it.zero=some v/\v.cells.toList=z:=by
 unfold Program.zeroT at h;cases hi:P.info? t with
 |none=>simp[hi]at h
 |some it=>
  cases hz:it.zero with
  |none=>simp[hi,hz]at h
  |some v=>exact⟨it,v,rfl,hz,by simpa[hi,hz]using h⟩
theorem aQ9{t:TypeId}{parts:Array (Nat×Operand)}(ho:o.op=.build t parts)(h:Zt P G t (parts.toList.map λ(i,x)=>(i,σ.ev x)) K):∃x,K x/\(G=true->YV P o σ x):=by
 unfold Zt at h;split at h
 .rename_i pl z hpl hz;obtain⟨hzo,h⟩:=h;obtain⟨ys,h1,hys⟩:=yS h;split at h1
  .rename_i cs hf;refine⟨_,h1,λhG=>cU λE a w hr=>?_⟩;obtain⟨it,zv,hi,hzv,hzc⟩:=sX hz;have hps:=hys w E _ hG (Pa hr parts.toList);have hzo':zv.cells.toList.all (·.oneCell')=true:=by
    rw[hzc];unfold cE at hzo;simp only[List.all_eq_true,Bool.and_eq_true]at hzo⊢;exact λx hx=>(hzo x hx).1
   have hz1:RdVs w E (pP z) zv.cells.toList:=by rw[hzc];exact sV z hzo
   have key:∃r,P.built t (parts.map λ(i,x)=>(i,a.eval x)).toList=some r/\RdVs w E cs r.toList/\r.toList.all (·.oneCell')=true:=by
    unfold Program.plT at hpl;unfold Program.built;have e1:(parts.map λ(i,x)=>(i,a.eval x)).toList=parts.toList.map λ(i,x)=>(i,a.eval x):=by simp
    rw[e1];split at hpl
    .rename_i fs hu;simp only[hi,hu,hzv,hpl];exact Mh _ _ (λi x hx=>by simpa using hx) ys _ _ _ cs hps hz1 hzo' hf
    .rename_i n e hu;cases hie:P.info? e with
     |none=>simp[hie]at hpl
     |some ie=>
      simp only[hie,Option.map_some,Option.some.injEq]at hpl;simp only[hi,hu,hzv,hie];refine Mh _ _ (λi x hx=>?_) ys _ _ _ cs hps hz1 hzo' hf;rw[<-hpl]at hx;simp only[List.getElem?_map]at hx;cases hq:(List.range n)[i]? with
      |none=>simp[hq]at hx
      |some q=>
       have:q=i:=by
        have:=List.getElem?_eq_some_iff.1 hq;obtain⟨h1,h2⟩:=this;simpa using h2.symm
       subst this;simpa[hq]using hx
    .cases hpl
   obtain⟨r,hb,hr1,hr2⟩:=key;refine⟨.agg r,?_,?_⟩
   .simp only[execOp,ho,Sem.run_bind,run_build w t _ r hb,Result.andThen_ok,Sem.run_pure]
   .simp only[RdV];exact⟨r,rfl,hr1,hr2⟩
  .exact h1.elim
 .exact h.elim
def Bp(h:Heap)(x:V)(K:V->Prop):Prop:=
 match x with
 | .own i=>match h.look i with
  |some (.box _)=>K (.own i)
  |_=>False
 | .ptr i off=>match h.look i with
  |some (.box _)=>K (.ptr i off)
  |_=>False
 | .elem k d xs i j=>K (.elem k d xs i j)
 | .rptr i k n j=>match h.look i with
  |some (.row ..)=>K (.rptr i k n j)
  |some (.shr _)=>K (.rptr i k n j)
  |_=>False
 | .clo f cs=>K (.clo f cs)
 | .t (.lit (.func (.func f) a b))=>K (.t (.lit (.func (.func f) a b)))
 |_=>False
theorem aBq{x:Operand}(ho:o.op=.nilCheck x)(h:dB G (σ.ev x) λx'=>Bp σ.h x' K):∃x,K x/\(G=true->YV P o σ x):=by
 obtain⟨x',h1,hx⟩:=cB h;unfold Bp at h1;split at h1
 .rename_i i;split at h1
  .rename_i cs hl;refine⟨_,h1,λhG=>cU λE a w hr=>?_⟩;have e1:=hx w E _ hG (hr.ev x);obtain⟨b,vs,ty,hB,_⟩:=qY hr.rel hl;have e2:=e1;simp only[RdV]at e2;have e3:=e2.2.2 _ (.inl hB);exact⟨a.eval x,by simp[execOp,ho,e3],e1⟩
  .exact h1.elim
 .rename_i i off;split at h1
  .rename_i cs hl;refine⟨_,h1,λhG=>cU λE a w hr=>?_⟩;have e1:=hx w E _ hG (hr.ev x);obtain⟨b,vs,ty,hB,_⟩:=qY hr.rel hl;have e2:=e1;simp only[RdV]at e2;obtain⟨b',_,e3⟩:=e2.2.2 _ (.inl hB);exact⟨a.eval x,by simp[execOp,ho,e3],e1⟩
  .exact h1.elim
 .refine⟨_,h1,λhG=>cU λE a w hr=>?_⟩;have e1:=hx w E _ hG (hr.ev x);have e2:=e1;simp only[RdV]at e2;obtain⟨b,off,c,_,_,e3⟩:=e2;exact⟨a.eval x,by simp[execOp,ho,e3],e1⟩
 .rename_i i k n j;split at h1
  .rename_i e k' d xs hl;refine⟨_,h1,λhG=>cU λE a w hr=>?_⟩;have e1:=hx w E _ hG (hr.ev x);obtain⟨hv,hB,_⟩:=hr.rel.has i _ hl;have e2:=e1;simp only[RdV]at e2;obtain⟨b',m,c',_,_,e3⟩:=e2.2.2 _ (.inl hB);exact⟨a.eval x,by simp[execOp,ho,e3],e1⟩
  .rename_i t' hl;refine⟨_,h1,λhG=>cU λE a w hr=>?_⟩;have e1:=hx w E _ hG (hr.ev x);obtain⟨hv,hF,_⟩:=hr.rel.has i _ hl;have e2:=e1;simp only[RdV]at e2;obtain⟨b',m,c',_,_,e3⟩:=e2.2.2 _ (.inr hF);exact⟨a.eval x,by simp[execOp,ho,e3],e1⟩
  .exact h1.elim
 .refine⟨_,h1,λhG=>cU λE a w hr=>?_⟩;have e1:=hx w E _ hG (hr.ev x);have e2:=e1;simp only[RdV]at e2;obtain⟨vs,e3,_⟩:=e2;exact⟨a.eval x,by simp[execOp,ho,e3],e1⟩
 .refine⟨_,h1,λhG=>cU λE a w hr=>?_⟩;have e1:=hx w E _ hG (hr.ev x);have e3:=(aJ e1).1;exact⟨a.eval x,by simp[execOp,ho,e3],e1⟩
 .exact h1.elim
def aJh(P:Program)(s d:TypeId)(x:V)(K:V->Prop):Prop:=
 match P.underlying s,P.underlying d,x with
 |some _,some (.int k),.t (.lit (.int _ n))=>K (.t (.lit (.int k (k.wrap n))))
 |some _,some .string,.t (.lit (.string b))=>K (.t (.lit (.string b)))
 |some _,some .string,.t (.lit (.int _ n))=>K (.t (.lit (.string (Utf8.encode n))))
 |_,_,_=>False
theorem Kw(n:Int):(Utf8.encode n).size<=4:=by
 unfold Utf8.encode;dsimp only;generalize(if Utf8.valid n=true then n.toNat else Utf8.runeError)=c;split
 .exact(by decide:1<=4)
 .split
  .exact(by decide:2<=4)
  .split
   .exact(by decide:3<=4)
   .exact(by decide:4<=4)
theorem aF4{s d:TypeId}{x:Operand}(ho:o.op=.convert s d x)(h:dB G (σ.ev x) λx'=>aJh P s d x' K):∃x,K x/\(G=true->YV P o σ x):=by
 obtain⟨x',h1,hx⟩:=cB h;unfold aJh at h1;split at h1
 .rename_i ds k kk n hs hd;refine⟨_,h1,λhG=>cU λE a w hr=>⟨.int k (k.wrap n),?_,eU rfl rfl⟩⟩;have e1:=(aJ (hx w E _ hG (hr.ev x))).1;simp only[execOp,ho,e1,Sem.run_bind,convert,run_underlying hs,run_underlying hd,Result.andThen_ok,Conv.intToInt,Sem.run_pure]
 .rename_i ds b hs hd;refine⟨_,h1,λhG=>cU λE a w hr=>⟨.string b,?_,?_⟩⟩
  .have e1:=(aJ (hx w E _ hG (hr.ev x))).1;simp only[execOp,ho,e1,Sem.run_bind,convert,run_underlying hs,run_underlying hd,Result.andThen_ok,Sem.run_pure]
  .have e1:=aJ (hx w E _ hG (hr.ev x));simp only[RdV];exact .lit _ e1.2.1 e1.2.2
 .rename_i ds kk n hs hd;refine⟨_,h1,λhG=>cU λE a w hr=>⟨.string (Utf8.encode n),?_,?_⟩⟩
  .have e1:=(aJ (hx w E _ hG (hr.ev x))).1;simp only[execOp,ho,e1,Sem.run_bind,convert,run_underlying hs,run_underlying hd,Result.andThen_ok,Conv.intToString,Sem.run_pure]
  .simp only[RdV];exact .lit _ rfl (Nat.le_trans (Kw n) (by unfold maxLen;decide))
 .exact h1.elim
end
def Heap.set(h:Heap)(i:Nat)(blk:Blk):Heap:=
 match h with
 |[]=>[]
 |(j,b)::r=>if i=j then (j,blk)::r else (j,b)::Heap.set r i blk
def Heap.del(h:Heap)(i:Nat):Heap:=
 match h with
 |[]=>[]
 |(j,b)::r=>if i=j then Heap.del r i else (j,b)::Heap.del r i
theorem Heap.look_set(h:Heap)(i:Nat)(blk:Blk){old:Blk}(hl:h.look i=some old)(j:Nat):(h.set i blk).look j=if j=i then some blk else h.look j:=by
 induction h with
 |nil=>simp[Heap.look]at hl
 |cons x r ih=>
  obtain⟨k,b⟩:=x;simp only[Heap.set,Heap.look]at hl ⊢
  by_cases hik:i=k
  .subst hik;simp only[if_true,Heap.look];split<;>rfl
  .rw[if_neg hik]at hl⊢;simp only[Heap.look]
   by_cases hjk:j=k
   .subst hjk;rw[if_pos rfl,if_neg (λh=>hik h.symm),if_pos rfl]
   .rw[if_neg hjk,ih hl,if_neg hjk]
theorem Heap.look_del(h:Heap)(i j:Nat):(h.del i).look j=if j=i then none else h.look j:=by
 induction h with
 |nil=>simp[Heap.look,Heap.del]
 |cons x r ih=>
  obtain⟨k,b⟩:=x;simp only[Heap.del,Heap.look]
  by_cases hik:i=k
  .subst hik;rw[if_pos rfl,ih]
   by_cases hj:j=i
   .rw[if_pos hj,if_pos hj]
   .rw[if_neg hj,if_neg hj,if_neg hj]
  .rw[if_neg hik];simp only[Heap.look]
   by_cases hjk:j=k
   .subst hjk;rw[if_pos rfl,if_neg (λh=>hik h.symm),if_pos rfl]
   .rw[if_neg hjk,ih,if_neg hjk]
theorem Heap.del_set(h:Heap)(i:Nat)(b:Blk):(h.set i b).del i=h.del i:=by
 induction h with
 |nil=>rfl
 |cons x r ih=>
  obtain⟨k,c⟩:=x;simp only[Heap.set,Heap.del];split
  .rename_i hk;simp only[Heap.del,if_pos hk]
  .rename_i hk;simp only[Heap.del,if_neg hk,ih]
theorem BlkRel.keep{w w':World}{E E':Env}(hE:Ext E w E' w'):∀{blk:Blk} {hv:Value},BlkRel w E blk hv->(∀b,aV hv=some b->w'.heap[b]?=w.heap[b]?)->BlkRel w' E' blk hv
 | .box cs,hv,h,hk=>by
  obtain⟨b,vs,ty,rfl,hh,hvs,h1s⟩:=h;exact⟨b,vs,ty,rfl,by rw[hk b rfl];exact hh,hE.rdVs cs hvs,h1s⟩
 | .row e k d xs,hv,h,hk=>by
  obtain⟨cells,h5,h6,h7⟩:=h;refine⟨cells,⟨h5.1,?_⟩,hE.rdVs _ h6,h7⟩;rcases h5.2 with h|⟨g,cap,cur,rfl,r1,r2,r3⟩
  .exact .inl h
  .exact .inr ⟨g,cap,cur,rfl,r1,by rw[hk g rfl];exact r2,r3⟩
 | .map es,hv,h,hk=>by
  obtain⟨r,entries,clock,rfl,h5,h6,h7⟩:=h;exact⟨r,entries,clock,rfl,by rw[hk r rfl];exact h5,hE.rdEs _ h6,h7⟩
 | .shr t,hv,h,hk=>hE.rdT h
 | .loop st pend tmps ps assign body,hv,h,hk=>by
  obtain⟨l,rec,rfl,h5,h6,h7,h8,h9,h10,h11⟩:=h;exact⟨l,rec,rfl,by rw[hk l rfl];exact h5,h6,h7,h8,h9,h10,hE.rdVs _ h11⟩
 | .defd,hv,h,hk=>by
  obtain⟨b,rfl,h5⟩:=h;exact⟨b,rfl,by rw[hk b rfl];exact h5⟩
def Blk.mine:Blk->Bool
 | .shr _=>false
 |_=>true
theorem mF{E:Env}{blk:Blk}{i:Nat}(h:blk.mine=true):E.at blk i=E.B i:=by
 cases blk<;>first|rfl|cases h
def Env.add(E:Env)(i:Nat)(hv:Value):Env:={ E with B:=λj=>if j=i then some hv else E.B j,U:=λj=>j=i\/E.U j }
theorem Ext.add{E0 E:Env}{w0 w:World}(h:Ext E0 w0 E w){i:Nat}(hi : ¬E0.U i)(hv:Value):Ext E0 w0 (E.add i hv) w:=
 ⟨h.os,h.tape,h.output,h.size,h.keep,h.S,h.S',h.D,λj hj=> .inr (h.U j hj),λj hj hv' hb=>by
  simp only[Env.add]at hb;split at hb
  .rename_i hji;subst hji;exact(hi hj).elim
  .exact h.B j hj hv' hb,λj hj hv' hb=>by
  have hji:j≠i:=λh=>hi (h ▸ hj)
  simp only[Env.Is,Env.add,if_neg hji]at hb;exact h.W j hj hv' hb,h.ro⟩
theorem RelF.add{w w':World}{E:Env}{σ:St}{a:Act}{hv:Value}{blk:Blk}{S':Nat->Prop}(hr:RelF E σ a w)(hb:Below w.heap.size w w')(h1:∀b,E.S b->S' b)(h2:∀b,S' b->E.S b\/w.heap.size<=b)
  (h3:∀b,S' b->b<w'.heap.size) (hblk:Ext E w (({ E with S:=S' }:Env).add σ.nx hv) w'->BlkRel w' (({ E with S:=S' }:Env).add σ.nx hv) blk hv)
  (hnew:∀b,aV hv=some b->w.heap.size<=b/\b<w'.heap.size /\¬S' b) (hone:hv.oneCell'=true) (hm:blk.mine=true) :
  RelF (({ E with S:=S' }:Env).add σ.nx hv) { σ with h:=(σ.nx,blk)::σ.h,nx:= σ.nx+1 } a w'/\Ext E w (({ E with S:=S' }:Env).add σ.nx hv) w' /\
   RdV w' (({ E with S:=S' }:Env).add σ.nx hv) (.own σ.nx) hv:=by
 obtain⟨k1,k2⟩:=hr.rel.later hb h1 h2 h3;have hnU : ¬E.U σ.nx:=λh=>by have:=hr.bound _ h;omega
 have hnB:E.B σ.nx=none:=by
  cases h:E.B σ.nx with
  |none=>rfl
  |some v=>exact(hnU (hr.rel.dom _ _ h).1).elim
 have hE:=k2.add hnU hv;have hE':Ext { E with S:=S' } w' (({ E with S:=S' }:Env).add σ.nx hv) w':=(Ext.refl ({ E with S:=S' }:Env) w').add (E0:=({ E with S:=S' }:Env)) hnU hv;refine⟨⟨⟨λi blk' hl=>?_,λi v hB=>?_,λi v hF=>?_,λi v b hB hbk=>?_,λi j hi hj b hBi hBj hbi hbj=>?_,h3,k1.dlt⟩,λi hi=>?_,hE.rdVs _ hr.fr,hE.defs hr.defers⟩,hE,?_⟩
 .simp only[Heap.look]at hl;split at hl
  .rename_i hi;subst hi;injection hl with hl;subst hl;exact⟨hv,by rw[mF hm];simp[Env.add],hblk hE⟩
  .rename_i hi;obtain⟨hv',hB,hrel⟩:=k1.has i blk' hl;exact⟨hv',by cases blk'<;>simp[Env.add,Env.at,hi]at hB ⊢ <;> exact hB,hrel.keep hE' λ_ _=>rfl⟩
 .simp only[Env.add]at hB;simp only[Env.add,Heap.look];split at hB
  .rename_i hi;subst hi;exact⟨.inl rfl,blk,by simp⟩
  .rename_i hi;obtain⟨q1,q2⟩:=hr.rel.dom i v hB;exact⟨.inr q1,by simp[hi];exact q2⟩
 .obtain⟨q1,q2⟩:=hr.rel.domF i v hF;refine⟨.inr q1,?_⟩;simp only[Env.add];rw[if_neg (λh=>hnU (show E.U σ.nx from by rw[<-h];exact q1))];exact q2
 .simp only[Env.add]at hB;split at hB
  .injection hB with hB;subst hB;obtain⟨q1,q2,q3⟩:=hnew b hbk;exact⟨q2,q3,λhd=>by have:=hr.rel.dlt b hd;omega⟩
  .exact k1.own i v b hB hbk
 .simp only[Env.add]at hBi hBj;split at hBi
  .rename_i hi';split at hBj
   .rename_i hj';rw[hi',hj']
   .injection hBi with hBi;subst hBi;have:=(hnew b hbi).1;have:=(hr.rel.own j hj b hBj hbj).1;omega
  .split at hBj
   .injection hBj with hBj;subst hBj;have:=(hnew b hbj).1;have:=(hr.rel.own i hi b hBi hbi).1;omega
   .exact hr.rel.apart i j hi hj b hBi hBj hbi hbj
 .simp only[Env.add]at hi;rcases hi with rfl|hi
  .exact Nat.lt_succ_self _
  .have:=hr.bound i hi;show i<σ.nx+1;omega
 .simp only[RdV];refine⟨hone,.inl rfl,λhv' hB=>?_⟩;rcases hB with hB|hB
  .simp[Env.add]at hB;exact hB
  .exact(hnU (hr.rel.domF _ _ hB).1).elim
def St.add(σ:St)(blk:Blk):St:={ σ with h:=(σ.nx,blk)::σ.h,nx:= σ.nx+1 }
def OpW(P:Program)(o:Oper)(σ:St)(K:St->Prop):Prop:=
 ∀E a w,RelF E σ a w ->∀(next:Act->World->Prop) Q,(∀a' w' E' σ',RelF E' σ' a' w'->Ext E w E' w'->K σ'->next a' w')->o.wp P a w next Q
theorem Yp{P:Program}{o:Oper}{σ:St}{K:St->Prop}{x:V}(h:YV P o σ x)(hK:K (σ.put o.dst x)):OpW P o σ K:=by
 intro E a w hr next Q hn;exact h E a w hr next Q λv w' E' h1 h2 h3 _=>hn _ w' E' _ (h1.put o.dst h3) h2 hK
section
variable {P:Program} {σ:St} {o:Oper} {K:St->Prop}
def Gv(P:Program)(o:Oper)(σ:St)(blk:Blk):Prop:=blk.mine=true /\∀E a w,RelF E σ a w ->∃hv w',(execOp a.eval o).run P w=.ok (.value hv) w'/\Below w.heap.size w w'/\hv.oneCell'=true /\
      (∀b,aV hv=some b->w.heap.size<=b/\b<w'.heap.size) /\∀E',Ext E w E' w'->BlkRel w' E' blk hv
theorem Bj{blk:Blk}{x:V}(hx:x=.own σ.nx)(h:Gv P o σ blk)
  (hK:K ((σ.add blk).put o.dst x)):OpW P o σ K:=by
 intro E a w hr next Q hn;obtain⟨hv,w',hrun,hb,hone,hnew,hblk⟩:=h.2 E a w hr;have h0:∀b,E.S b->b<w.heap.size:=hr.rel.slt;obtain⟨k1,k2,k3⟩:=hr.add (S':=E.S) hb (λ_ h=>h) (λb hb=> .inl hb) (λb hb'=>Nat.lt_of_lt_of_le (h0 b hb') hb.size) (λhE=>hblk _ hE)
  (λb hb'=>⟨(hnew b hb').1,(hnew b hb').2,λhs=>by have:=h0 b hs;have:=(hnew b hb').1;omega⟩) hone h.1
 unfold Oper.wp;rw[hrun];subst hx;exact hn _ w' _ _ (k1.put o.dst k3) k2 hK
theorem kU(w:World)(ob:Obj):Below w.heap.size w (w.alloc ob):=zW w ob
theorem size_alloc(w:World)(ob:Obj):(w.alloc ob).heap.size=w.heap.size+1:=by show(w.heap.push ob).size=_;simp
def boxV(x:V)(K:Blk->Prop):Prop:=x.cells.all V.isCell=true/\K (.box x.cells)
theorem Ns(t:TypeId)(v:Value)(w:World):(newVar t v).run P w=.ok ⟨w.heap.size,0,none⟩ (w.alloc (.cells v.cells t)):=by
 simp[newVar,newRow]
theorem aHt{t:TypeId}{x:Operand}{K:Blk->Prop}(ho:o.op=.box t x)(h:dB true (σ.ev x) λx'=>boxV x' K):∃blk,K blk/\Gv P o σ blk:=by
 obtain⟨x',h1,hx⟩:=cB h;obtain⟨hc,hK⟩:=h1;refine⟨_,hK,rfl,λE a w hr=>?_⟩;have e1:=hx w E _ rfl (hr.ev x);have e2:=V.cells_ok e1 hc;refine⟨.pointer (some ⟨w.heap.size,0,none⟩),w.alloc (.cells (a.eval x).cells t),?_,kU w _,rfl,?_,?_⟩
 .simp[execOp,ho,Instr.box,Ns]
 .intro b hb;simp only[aV,Option.some.injEq]at hb;subst hb;exact⟨Nat.le_refl _,by rw[size_alloc];omega⟩
 .intro E' hE;exact⟨w.heap.size,_,t,rfl,heap_alloc_new w _,hE.rdVs _ e2,RdVs.ones hc e2⟩
theorem ow_box{t:TypeId}{x:Operand}(ho:o.op=.box t x)(h:dB true (σ.ev x) λx'=>boxV x' λblk=>K ((σ.add blk).put o.dst (.own σ.nx))):OpW P o σ K:=by
 obtain⟨blk,hK,hN⟩:=aHt ho h;exact Bj rfl hN hK
theorem Vh{t:TypeId}{z:List Value}(ho:o.op=.alloc t)(hz:P.zeroT t=some z)(hzo:cE z=true):Gv P o σ (.box (pP z)):=by
 refine⟨rfl,?_⟩;intro E a w hr;obtain⟨it,zv,hi,hzv,hzc⟩:=sX hz;refine⟨.pointer (some ⟨w.heap.size,0,none⟩),w.alloc (.cells zv.cells t),?_,kU w _,rfl,?_,?_⟩
 .simp[execOp,ho,Instr.alloc,Ns,zeroValue,typeInfo,hi,hzv]
 .intro b hb;simp only[aV,Option.some.injEq]at hb;subst hb;exact⟨Nat.le_refl _,by rw[size_alloc];omega⟩
 .intro E' hE;refine⟨w.heap.size,_,t,rfl,heap_alloc_new w _,by rw[hzc];exact sV z hzo,?_⟩;rw[hzc];unfold cE at hzo;simp only[List.all_eq_true,Bool.and_eq_true]at hzo⊢;exact λx hx=>(hzo x hx).1
theorem aQn{t:TypeId}{z:List Value}(ho:o.op=.alloc t)(hz:P.zeroT t=some z)(hzo:cE z=true)(hK:K ((σ.add (.box (pP z))).put o.dst (.own σ.nx))):OpW P o σ K:=Bj rfl (Vh ho hz hzo) hK
theorem RelF.upd{w w':World}{E:Env}{a:Act}{i:Nat}{hv:Value}{old blk:Blk}(hr:RelF E σ a w)(hB:E.B i=some hv)(hl:σ.h.look i=some old)(hg:w.grownBy w' (aV hv))(hsz:w'.heap.size=w.heap.size)
  (hblk:Ext E w E w'->BlkRel w' E blk hv) (hm:blk.mine=true):RelF E { σ with h:= σ.h.set i blk } a w'/\Ext E w E w':=by
 have hne:∀b,E.S b\/E.D b->some b≠aV hv:=λb hb he=>by
  obtain⟨_,q2,q3⟩:=hr.rel.own i hv b hB he.symm;exact hb.elim q2 q3
 have hE:Ext E w E w':=⟨hg.os,hg.tape,hg.output,hg.size,λb hb=>hg.block b (hb.elim (hr.rel.slt b) (hr.rel.dlt b)) (hne b hb),λ_ h=>h,λ_ h=> .inl h,λ_=> .rfl,λ_ h=>h,λ_ _ _ h=>h,λ_ _ _ h=>h,rfl⟩
 refine⟨⟨⟨λj blk' hlj=>?_,λj v hBj=>?_,hr.rel.domF,λj v b hBj hbk=>?_,hr.rel.apart,λb hb=>by rw[hsz];exact hr.rel.slt b hb,λb hb=>by rw[hsz];exact hr.rel.dlt b hb⟩,hr.bound,hE.rdVs _ hr.fr,hE.defs hr.defers⟩,hE⟩
 .rw[Heap.look_set _ _ _ hl]at hlj;split at hlj
  .rename_i hji;subst hji;injection hlj with hlj;subst hlj;exact⟨hv,by rw[mF hm];exact hB,hblk hE⟩
  .rename_i hji;obtain⟨v,hBj,hrel⟩:=hr.rel.has j blk' hlj;refine⟨v,hBj,?_⟩;cases hmj:blk'.mine with
   |true=>
    have hBj':E.B j=some v:=by rw[<-mF hmj];exact hBj
    refine hrel.keep hE λb hb=>?_
    refine hg.block b (hr.rel.own j v b hBj' hb).1 λhe=>?_
    exact hji (hr.rel.apart j i v hv b hBj' hB hb he.symm)
   |false=>
    cases blk'<;>first|exact hE.rdT hrel|simp[Blk.mine]at hmj
 .obtain⟨q1,q2⟩:=hr.rel.dom j v hBj;refine⟨q1,?_⟩;rw[Heap.look_set _ _ _ hl];split
  .exact⟨_,rfl⟩
  .exact q2
 .obtain⟨q1,q2⟩:=hr.rel.own j v b hBj hbk;exact⟨by rw[hsz];exact q1,q2⟩
def kN(cs:List V)(off:Nat)(xs:List V):List V:=cs.take off++xs++cs.drop (off+xs.length)
def tCells:List V->Option (List T)
 |[]=>some []
 | .t x::r=>(tCells r).map (x :: ·)
 |_::_=>none
def Cy(P:Program)(h:Heap)(t:TypeId)(p x:V)(K:Heap->Prop):Prop:=
 x.cells.all V.isCell=true/\P.szT t=some x.cells.length /\
 match p with
 | .own i=>match h.look i with
  |some (.box cs)=>x.cells.length<=cs.length/\K (h.set i (.box (kN cs 0 x.cells)))
  |_=>False
 | .ptr i off=>match h.look i with
  |some (.box cs)=>off+x.cells.length<=cs.length/\K (h.set i (.box (kN cs off x.cells)))
  |_=>False
 | .rptr i k n j=>match h.look i with
  |some (.row e k' d xs)=>k'=k/\n<xs.length/\j+x.cells.length<=k/\K (h.set i (.row e k d (xs.set n (kN (pL d xs n) j x.cells))))
  |_=>False
 |_=>False
theorem Kc{t:TypeId}{b off n:Nat}{v:Value}{cur:Array Value}{ty:TypeId}{w:World}(hg:w.heap[b]?=some (.cells cur ty (0,0)))(hs:P.szT t=some v.cells.size)(hfit:off+v.cells.size<=cur.size)
  (h1:v.cells.toList.all (·.oneCell')=true):(Instr.storeAt t (.pointer (some ⟨b,off,none⟩)) v).run P w=.ok () (w.setRow b (cur.toList.take off++v.cells.toList++cur.toList.drop (off+v.cells.size)).toArray):=by
 have:=run_storeCells_at P b off ty v.cells.toList 0 cur w hg (by simpa using hfit) (λx hx=>(List.all_eq_true.1 h1) x hx);simp only[Nat.add_zero,Array.length_toList]at this;simp[Instr.storeAt,Instr.sureAddr,storeVar,jD hs,this]
theorem Fx(w:World)(b:Nat)(cs:Array Value):w.grownBy (w.setRow b cs) (some b):=
 ⟨rfl,rfl,rfl,by simp,λk _ hk=>setRow_other w b k cs λh=>hk (by rw[h])⟩
theorem Uc{w:World}{E:Env}{a:Act}{i b off:Nat}{cs:List V}{x:V}{v:Value}{vs:Array Value}{ty t:TypeId}(hr:RelF E σ a w)(hl:σ.h.look i=some (.box cs))(hB:E.B i=some (.pointer (some ⟨b,0,none⟩)))
  (hh:w.heap[b]?=some (.cells vs ty (0,0))) (hvs:RdVs w E cs vs.toList) (h1:vs.toList.all (·.oneCell')=true) (hx:RdV w E x v) (hc:x.cells.all V.isCell=true) (hs:P.szT t=some x.cells.length)
  (hfit:off+x.cells.length<=cs.length):∃w',(Instr.storeAt t (.pointer (some ⟨b,off,none⟩)) v).run P w=.ok () w'/\RelF E { σ with h:= σ.h.set i (.box (kN cs off x.cells)) } a w'/\Ext E w E w':=by
 have hcells:=V.cells_ok hx hc;have hl1:=RdVs.len hcells;have hl2:=RdVs.len hvs;simp only[Array.length_toList]at hl1 hl2;have hones:=RdVs.ones hc hcells;refine⟨_,Kc (n:=0) hh (by rw[<-hl1];exact hs) (by omega) hones,?_⟩;refine hr.upd hB hl (by simpa[aV]using Fx w b _) (by simp) (λhE=>?_) rfl;refine⟨b,_,ty,rfl,setRow_heap w b vs _ ty _ hh,?_,?_⟩
 .refine hE.rdVs _ ?_;rw[<-hl1];exact RdVs.append (RdVs.append (RdVs.take off hvs) hcells) (RdVs.drop _ hvs)
 .simp only[List.all_append,Bool.and_eq_true,List.all_eq_true]at h1 hones⊢;exact⟨⟨λy hy=>h1 y (List.mem_of_mem_take hy),hones⟩,λy hy=>h1 y (List.mem_of_mem_drop hy)⟩
end
theorem aMe{α:Type}(L:List α)(a k m:Nat)(h:m<=k):((L.drop a).take k).drop m++L.drop (a+k)=L.drop (a+m):=by
 rw[<-List.drop_drop,<-List.drop_drop];generalize L.drop a=M;rw[List.drop_take,show M.drop k=(M.drop m).drop (k-m) from by rw[List.drop_drop];congr 1;omega];exact List.take_append_drop _ _
theorem Ku{α:Type}{k:Nat}:∀(xs:List (List α)) (n:Nat) (e':List α),(∀x∈xs,x.length=k)->n<xs.length->e'.length=k->(xs.set n e').flatten=xs.flatten.take (n*k)++e'++xs.flatten.drop (n*k+k)
 |[],n,e',_,h,_=>by simp at h
 |x::r,0,e',hk,_,he=>by
  have:=hk x (by simp);simp[this]
 |x::r,n+1,e',hk,hn,he=>by
  have h1:=hk x (by simp);rw[List.set_cons_succ,List.flatten_cons,Ku r n e' (λy hy=>hk y (by simp[hy])) (by simpa using hn) he,List.flatten_cons];have e1:(n+1)*k=x.length+n*k:=by rw[Nat.add_mul,h1];omega
  rw[e1,List.take_append,List.take_of_length_le (by omega:x.length<=x.length+n*k),Nat.add_sub_cancel_left];have e2:x.length+n*k+k=x.length+(n*k+k):=by omega
  rw[e2,List.drop_append,List.drop_of_length_le (by omega:x.length<=x.length+(n*k+k)),Nat.add_sub_cancel_left];simp
section
variable {P:Program} {σ:St} {o:Oper} {K:St->Prop}
theorem Pn{σ':St}(h:∀E a w,RelF E σ a w ->∃w',(execOp a.eval o).run P w=.ok .skip w'/\RelF E σ' a w'/\Ext E w E w')(hd:o.dst=none)(hK:K σ'):OpW P o σ K:=by
 intro E a w hr next Q hn;obtain⟨w',hrun,k1,k2⟩:=h E a w hr;unfold Oper.wp;rw[hrun];have:a.put o.dst undef=a:=by rw[hd];rfl
 show next (a.put o.dst undef) w'
 rw[this];exact hn _ w' _ _ k1 k2 hK
theorem xD{t:TypeId}{p x:Operand}(ho:o.op=.store t p x){ρ:Operand->Value}{w w':World}(h:(Instr.storeAt t (ρ p) (ρ x)).run P w=.ok () w'):(execOp ρ o).run P w=.ok .skip w':=by
 simp only[execOp,ho,Sem.run_bind,h,Result.andThen_ok,Sem.run_pure]
def aU4(P:Program)(o:Oper)(σ σ':St):Prop:=∀E a w,RelF E σ a w ->∃w',(execOp a.eval o).run P w=.ok .skip w'/\RelF E σ' a w'/\Ext E w E w'
theorem Nj{t:TypeId}{p x:Operand}(ho:o.op=.store t p x)(h:dB true (σ.ev p) λp'=>dB true (σ.ev x) λx'=>Cy P σ.h t p' x' λh'=>K { σ with h:=h' }):∃σ',K σ'/\aU4 P o σ σ':=by
 obtain⟨p',h1,hp⟩:=cB h;obtain⟨x',h2,hx⟩:=cB h1;obtain⟨hc,hs,h3⟩:=h2;split at h3
 .rename_i i;split at h3
  .rename_i cs hl;refine⟨_,h3.2,λE a w hr=>?_⟩;obtain⟨b,vs,ty,hB,hh,hvs,h1s⟩:=qY hr.rel hl;have e1:=hp w E _ rfl (hr.ev p);simp only[RdV]at e1;obtain⟨w',hrun,k1,k2⟩:=Uc (P:=P) hr hl hB hh hvs h1s (hx w E _ rfl (hr.ev x)) hc hs (by omega:0+x'.cells.length<=cs.length);refine⟨w',xD ho ?_,k1,k2⟩;rw[e1.2.2 _ (.inl hB)];exact hrun
  .exact h3.elim
 .rename_i i off;split at h3
  .rename_i cs hl;refine⟨_,h3.2,λE a w hr=>?_⟩;obtain⟨b,vs,ty,hB,hh,hvs,h1s⟩:=qY hr.rel hl;have e1:=hp w E _ rfl (hr.ev p);simp only[RdV]at e1;obtain⟨b',e3,e2⟩:=e1.2.2 _ (.inl hB);injection e3 with e3;injection e3 with e3;injection e3 with e3;subst e3;obtain⟨w',hrun,k1,k2⟩:=Uc (P:=P) hr hl hB hh hvs h1s (hx w E _ rfl (hr.ev x)) hc hs h3.1;refine⟨w',xD ho ?_,k1,k2⟩;rw[e2];exact hrun
  .exact h3.elim
 .rename_i i k n j;split at h3
  .rename_i e k' d xs hl;obtain⟨hk,hn,hj,hK⟩:=h3;subst hk;refine⟨_,hK,λE a w hr=>?_⟩;obtain⟨hv,hB,cells,h5,h6,h7,h8⟩:=hr.rel.has i _ hl;have h5':=h5;rcases h5.2 with ⟨_,h0⟩|⟨g,cap,cur,rfl,_,hg,hcap,hcm,hcs,htake⟩
   .omega
   .have e1:=hp w E _ rfl (hr.ev p);simp only[RdV]at e1;obtain⟨b',m,c,e3,_,e2⟩:=e1.2.2 _ (.inl hB);injection e3 with e3 e4 e5;injection e3 with e3;injection e3 with e3;subst e3;have hcells:=V.cells_ok (hx w E _ rfl (hr.ev x)) hc;have hl1:=RdVs.len hcells;simp only[Array.length_toList]at hl1;have hnk:n*k'+k'<=xs.length*k':=by
     have:(n+1)*k'<=xs.length*k':=Nat.mul_le_mul_right k' hn;rw[Nat.add_mul,Nat.one_mul]at this;exact this
    have hck:xs.length*k'<=cap*k':=Nat.mul_le_mul_right k' hcap;have hones:=RdVs.ones hc hcells;have hrun:=Kc (P:=P) (n:=0) (t:=t) (off:=n*k'+j) hg (by rw[<-hl1];exact hs) (by omega) hones;refine⟨_,xD ho (by rw[e2];exact hrun),?_⟩;have hlen:cells.length=xs.length*k':=h5.1;refine hr.upd hB hl (by simpa[aV]using Fx w g _) (by simp) (λhE=>?_) rfl;have hT:=hE.rdVs _ h6;have hV:=hE.rdVs _ hcells;unfold kN;generalize x'.cells=ts at*;generalize hvl:(a.eval x).cells=va at*;have hnl:(pL d xs n).length=k':=h7 _ (List.mem_of_getElem? (Hs hn));have hcurl:cur.toList.length=cap*k':=by simpa using hcs
    refine⟨cells.take (n*k'+j)++va.toList++cells.drop (n*k'+j+va.size),⟨?_,.inr ⟨g,cap,_,by simp,Nat.zero_le _,setRow_heap w g cur _ e _ hg,by simpa using hcap,hcm,?_,?_⟩⟩,?_,?_,?_⟩
    .simp only[List.length_append,List.length_take,List.length_drop,Array.length_toList,List.length_set];omega
    .simp only[List.size_toArray,List.length_append,List.length_take,List.length_drop,Array.length_toList];omega
    .simp only[List.length_set];rw[<-htake,List.take_append,List.take_append,List.take_take,List.take_take,List.drop_take];simp only[List.length_append,List.length_take,Array.length_toList,List.take_drop];rw[Nat.min_eq_left (by omega:n*k'+j<=xs.length*k'),Nat.min_eq_right (by omega:n*k'+j<=xs.length*k'),Nat.min_eq_left (by omega:n*k'+j<=cur.size),
      List.take_of_length_le (by simp;omega:va.toList.length<=xs.length*k'-(n*k'+j))]
    .rw[Ku xs n _ h7 hn (by simp only[List.length_append,List.length_take,List.length_drop];omega)];have hp1:=mC xs n _ h7 (Hs (d:=d) hn);have q1:(pL d xs n).take j=(xs.flatten.drop (n*k')).take j:=by rw[<-hp1,List.take_take,Nat.min_eq_left (by omega)]
     have q2:(pL d xs n).drop (j+ts.length)++xs.flatten.drop (n*k'+k')=xs.flatten.drop (n*k'+(j+ts.length)):=by
      rw[<-hp1];exact aMe _ _ _ _ hj
     have q3:xs.flatten.take (n*k')++(pL d xs n).take j=xs.flatten.take (n*k'+j):=by
      rw[q1,List.take_add]
     have q4:xs.flatten.take (n*k')++((pL d xs n).take j++ts++(pL d xs n).drop (j+ts.length))++xs.flatten.drop (n*k'+k')=xs.flatten.take (n*k'+j)++ts++xs.flatten.drop (n*k'+(j+ts.length)):=by
      rw[<-q3,<-q2];simp only[List.append_assoc]
     rw[q4];have e6:va.size=ts.length:=by omega
     have e7:n*k'+j+va.size=n*k'+(j+ts.length):=by omega
     rw[e7]at hT hV⊢;exact RdVs.append (RdVs.append (RdVs.take _ hT) hV) (RdVs.drop _ hT)
    .intro y hy;rcases List.mem_or_eq_of_mem_set hy with hy|rfl
     .exact h7 y hy
     .simp only[List.length_append,List.length_take,List.length_drop];omega
    .simp only[List.all_append,Bool.and_eq_true,List.all_eq_true]at h8 hones⊢;exact⟨⟨λy hy=>h8 y (List.mem_of_mem_take hy),hones⟩,λy hy=>h8 y (List.mem_of_mem_drop hy)⟩
  .exact h3.elim
 .exact h3.elim
theorem aQh{t:TypeId}{p x:Operand}(ho:o.op=.store t p x)(hd:o.dst=none)(h:dB true (σ.ev p) λp'=>dB true (σ.ev x) λx'=>Cy P σ.h t p' x' λh'=>K { σ with h:=h' }):OpW P o σ K:=by
 obtain⟨σ',hK,hS⟩:=Nj ho h;exact Pn hS hd hK
end
def Src(w:World)(E:Env)(k:Nat)(ys:List (List V))(v:Value):Prop:=
 ∃A c news,v=.slice A ys.length c/\RdVs w E ys.flatten news/\news.all (·.oneCell')=true/\(∀y∈ys,y.length=k)/\(A=none->v=.slice none 0 0) /\∀ad,A=some ad ->∀j u,news[j]?=some u->w.cell? (ad.add j)=some u
theorem Cx(ys:List (List T)):(aS ys).flatten=ys.flatten.map .t:=by
 unfold aS;rw[List.map_flatten]
theorem He{k:Nat}{ys:List (List T)}(h:∀y∈ys,y.length=k):∀y∈aS ys,y.length=k:=by
 intro y hy;unfold aS at hy;obtain⟨z,hz,rfl⟩:=List.mem_map.1 hy;rw[List.length_map];exact h z hz
def SrcT(w:World)(S:Nat->Prop)(k:Nat)(ys:List (List T))(v:Value):Prop:=
 ∃A c news,v=.slice A ys.length c/\RdTs w S ys.flatten news/\(∀y∈ys,y.length=k)/\(A=none->v=.slice none 0 0) /\∀ad,A=some ad ->∀j u,news[j]?=some u->w.cell? (ad.add j)=some u
theorem SrcT.src{w:World}{E:Env}{k:Nat}{ys:List (List T)}{v:Value}(h:SrcT w E.S k ys v):Src w E k (aS ys) v:=by
 obtain⟨A,c,news,h1,h2,h3,h4⟩:=h;exact⟨A,c,news,by rw[Ay];exact h1,by rw[Cx];exact RdVs.ofT h2,vX h2,He h3,h4⟩
theorem aAn{w:World}{S:Nat->Prop}{k:Nat}{d:List T}{ys:List (List T)}{v:Value}(h:RdT w S (.list k d ys) v):SrcT w S k ys v:=by
 cases h with
 |list _ _ _ A c hm hc hnn hk ha hr=>
  cases A with
  |none=>
   have:ys=[]:=by
    cases ys with
    |nil=>rfl
    |cons y r=>obtain⟨b,off,hA,_⟩:=ha 0 y rfl;cases hA
   subst this;exact⟨none,c,[],rfl,trivial,hk,λ_=>by rw[hnn rfl];rfl,λad h=>by cases h⟩
  |some ad=>
   by_cases hys:ys=[]
   .subst hys;exact⟨some ad,c,[],rfl,trivial,hk,(λh=>by cases h),λad' _ j u hu=>by simp at hu⟩
   .have hb:∃b off,ad=⟨b,off,none⟩:=by
     cases ys with
     |nil=>exact(hys rfl).elim
     |cons y r=>obtain⟨b,off,hA,_⟩:=ha 0 y rfl;injection hA with hA;exact⟨b,off,hA⟩
    obtain⟨b,off,rfl⟩:=hb;obtain⟨news,h1,h2⟩:=Yf (w:=w) (S:=S) ys.flatten (λj=>w.cell? ⟨b,off+j,none⟩) (by
     intro j x hx;have hlt:j<ys.flatten.length:=(List.getElem?_eq_some_iff.1 hx).1;have hk0:0<k:=by
      rcases Nat.eq_zero_or_pos k with h0|h0
      .rw[rX ys hk,h0]at hlt;omega
      .exact h0
     rw[rX ys hk]at hlt;have hi:j/k<ys.length:=(Nat.div_lt_iff_lt_mul hk0).2 hlt;have hj:j/k*k+j%k=j:=by rw[Nat.mul_comm];exact Nat.div_add_mod j k
     have hmod:=Nat.mod_lt j hk0;have hp:=mC ys (j/k) _ hk (rT (d:=d) hi);have hx':(nth d ys (j/k))[j%k]?=some x:=by
      rw[<-hp,List.getElem?_take,if_pos hmod,List.getElem?_drop,hj];exact hx
     obtain⟨b',off',hA,_,hc'⟩:=ha (j/k) _ (rT (d:=d) hi);injection hA with hA;injection hA with e1 e2;subst e1 e2;obtain⟨u,hu⟩:=hc' (j%k) x hx';rw[Nat.add_assoc,hj]at hu;exact⟨u,hu,hr (j/k) _ (j%k) x _ _ u (rT hi) hx' rfl (by rw[Nat.add_assoc,hj];exact hu)⟩)
    exact⟨_,c,news,rfl,h1,hk,(λh=>by cases h),λad had j u hu=>by
     injection had with had;subst had;rw[Addr.add_lit];exact h2 j u hu⟩
theorem src_row{w:World}{E:Env}{e k:Nat}{d:List T}{ys:List (List V)}{hv:Value}(h:BlkRel w E (.row e k d ys) hv):Src w E k ys hv:=by
 obtain⟨cells,h2,h3,h4,h5⟩:=h;have h2':=h2;rcases h2.2 with ⟨rfl,h0⟩|⟨g,cap,cur,rfl,_,hg,hcap,hm,hcs,htake⟩
 .have:ys=[]:=List.eq_nil_of_length_eq_zero h0;subst this;exact⟨none,0,cells,rfl,h3,h5,h4,λ_=>rfl,λad h=>by cases h⟩
 .refine⟨_,cap,cells,rfl,h3,h5,h4,(λh=>by cases h),λad had j u hu=>?_⟩;injection had with had;subst had;exact h2'.cells rfl j u hu
def Cz(h:Heap)(k:Nat)(x:V):Option (List T×List (List V)):=
 match x with
 | .t (.list k' d ys)=>if k'=k then some (d,aS ys)else none
 | .own i=>match h.look i with
  |some (.row _ k' d ys)=>if k'=k then some (d,ys)else none
  |some (.shr (.list k' d ys))=>if k'=k then some (d,aS ys)else none
  |_=>none
 | .rsl i k' lo hi=>match h.look i with
  |some (.row _ k'' d ys)=>if k''=k/\k'=k then some (d,(ys.take hi).drop lo)else none
  |_=>none
 | .t (.lit (.slice none 0 0))=>some ([],[])
 |_=>none
theorem Ax{α:Type}{k:Nat}:∀(ys:List (List α)) (h:Nat),(∀y∈ys,y.length=k)->(ys.take h).flatten=ys.flatten.take (h*k)
 |_,0,_=>by simp
 |[],h+1,_=>by simp
 |y::ys,h+1,hk=>by
  have hy:=hk y List.mem_cons_self;have e1:List.take ((h+1)*k) y=y:=List.take_of_length_le (by rw[hy,Nat.add_mul];omega);have e2:(h+1)*k-y.length=h*k:=by rw[hy,Nat.add_mul];omega
  rw[List.take_succ_cons,List.flatten_cons,List.flatten_cons,Ax ys h (λz hz=>hk z (List.mem_cons_of_mem _ hz)),List.take_append,e1,e2]
theorem Wf{α:Type}{k:Nat}:∀(ys:List (List α)) (h:Nat),(∀y∈ys,y.length=k)->(ys.drop h).flatten=ys.flatten.drop (h*k)
 |_,0,_=>by simp
 |[],h+1,_=>by simp
 |y::ys,h+1,hk=>by
  have hy:=hk y List.mem_cons_self;have e1:List.drop ((h+1)*k) y=[]:=List.drop_of_length_le (by rw[hy,Nat.add_mul];omega);have e2:(h+1)*k-y.length=h*k:=by rw[hy,Nat.add_mul];omega
  rw[List.drop_succ_cons,List.flatten_cons,Wf ys h (λz hz=>hk z (List.mem_cons_of_mem _ hz)),List.drop_append,e1,e2,List.nil_append]
theorem aP5{α:Type}{k:Nat}(ys:List (List α))(lo hi:Nat)(hk:∀y∈ys,y.length=k):((ys.take hi).drop lo).flatten=(ys.flatten.take (hi*k)).drop (lo*k):=by
 rw[Wf _ _ (λy hy=>hk y (List.mem_of_mem_take hy)),Ax _ _ hk]
theorem Kj{w:World}{e k n c hi:Nat}{A:Option Addr}{cells:List Value}(h:w.ownsRow 0 e k (.slice A n c) n cells)(hh:hi<=n):
  w.ownsRow 0 e k (.slice (if c=0 then A else A.map (·.add (0*k))) (hi-0) (c-0)) hi (cells.take (hi*k))/\(Value.slice (if c=0 then A else A.map (·.add (0*k))) (hi-0) (c-0)).ownBlock=aV (.slice A n c):=by
 rcases h.2 with ⟨h1,h0⟩|⟨g,cap,cur,h1,hb,hg,hcap,hm,hcs,htake⟩
 .injection h1 with h1 h2 h3;subst h1 h2 h3;have:hi=0:=by omega
  subst this;exact⟨⟨by simp,.inl ⟨rfl,rfl⟩⟩,rfl⟩
 .injection h1 with h1 h2 h3;subst h1 h3;have e1:(if c=0 then some (⟨g,0,none⟩:Addr)else (some (⟨g,0,none⟩:Addr)).map (·.add (0*k)))=some ⟨g,0,none⟩:=by
   split
   .rfl
   .simp[Addr.add_lit]
  rw[e1];have hle:hi*k<=n*k:=Nat.mul_le_mul_right k hh;refine⟨⟨by rw[List.length_take,h.1];omega,.inr ⟨g,c,cur,rfl,hb,hg,by omega,hm,hcs,?_⟩⟩,rfl⟩;rw[<-htake,List.take_take,Nat.min_eq_left hle]
theorem src_sub{w:World}{E:Env}{e k n c lo hi:Nat}{A:Option Addr}{d:List T}{ys:List (List V)}(h:BlkRel w E (.row e k d ys) (.slice A n c))(hlh:lo<=hi)(hhn:hi<=n):
  Src w E k ((ys.take hi).drop lo) (.slice (if c=lo then A else A.map (·.add (lo*k))) (hi-lo) (c-lo)):=by
 obtain⟨cells,h2,h3,h4,h5⟩:=h;have hn:n=ys.length:=by
  rcases h2.2 with ⟨h1,h0⟩|⟨g,cap,cur,h1,_⟩
  .injection h1 with h1 hh2 h3;omega
  .injection h1
 have hl:((ys.take hi).drop lo).length=hi-lo:=by rw[List.length_drop,List.length_take];omega
 have hmem:∀y∈(ys.take hi).drop lo,y∈ys:=λy hy=>List.mem_of_mem_take (List.mem_of_mem_drop hy)
 refine⟨_,c-lo,(cells.take (hi*k)).drop (lo*k),by rw[hl],?_,?_,λy hy=>h4 y (hmem y hy),?_,?_⟩
 .rw[aP5 ys lo hi h4];exact RdVs.drop _ (RdVs.take _ h3)
 .rw[List.all_eq_true]at h5⊢;exact λv hv=>h5 v (List.mem_of_mem_take (List.mem_of_mem_drop hv))
 .intro hA;rcases h2.2 with ⟨h1,h0⟩|⟨g,cap,cur,h1,_,hg,hcap,_⟩
  .injection h1 with h1 hh2 h3;subst h1 h3;have q1:hi=0:=by omega
   have q2:lo=0:=by omega
   subst q1 q2;rfl
  .injection h1 with h1 hh2 h3;subst h1;split at hA<;>cases hA
 .intro ad had j u hu;have hlt:=(List.getElem?_eq_some_iff.1 hu).1;have hcl:cells.length=ys.length*k:=h2.1;have hlk:lo*k<=hi*k:=Nat.mul_le_mul_right k hlh;have hhk:hi*k<=ys.length*k:=Nat.mul_le_mul_right k (by omega);rw[List.length_drop,List.length_take,Nat.min_eq_left (by omega)]at hlt;have hlohi:lo≠hi:=by
   rintro rfl;omega
  rw[List.getElem?_drop,List.getElem?_take,if_pos (by omega)]at hu;have h2':=h2;rcases h2.2 with ⟨h1,h0⟩|⟨g,cap,cur,h1,_,hg,hcap,_⟩
  .omega
  .injection h1 with h1 hh2 h3;subst h1 h3;rw[if_neg (by omega)]at had;simp only[Option.map_some,Option.some.injEq]at had;subst had;have:=h2'.cells rfl (lo*k+j) u hu;rw[Addr.add_lit]at this⊢;rw[Addr.add_lit];rw[Nat.zero_add]at this;simpa[Nat.add_assoc]using this
theorem rA{w:World}{E:Env}{h:Heap}{k:Nat}{x:V}{v:Value}{d:List T}{ys:List (List V)}(hr:Rel w E h)(hx:RdV w E x v)(hs:Cz h k x=some (d,ys)):Src w E k ys v:=by
 unfold Cz at hs;split at hs
 .rename_i k' d' ys';split at hs
  .rename_i hk;injection hs with hs;injection hs with h1 h2;subst h1 h2 hk;simp only[RdV]at hx;exact(aAn hx).src
  .cases hs
 .rename_i i;split at hs
  .rename_i e k' d' ys' hl;split at hs
   .rename_i hk;injection hs with hs;injection hs with h1 h2;subst h1 h2 hk;obtain⟨hv,hB,hrel⟩:=hr.has i _ hl;simp only[RdV]at hx;rw[hx.2.2 _ (.inl hB)];exact src_row hrel
   .cases hs
  .rename_i k' d' ys' hl;split at hs
   .rename_i hk;injection hs with hs;injection hs with h1 h2;subst h1 h2 hk;obtain⟨hv,hF,hrel⟩:=hr.has i _ hl;simp only[RdV]at hx;rw[hx.2.2 _ (.inr hF)];exact(aAn hrel).src
   .cases hs
  .cases hs
 .rename_i i k' lo hi;split at hs
  .rename_i e k'' d' ys' hl;split at hs
   .rename_i hk;injection hs with hs;injection hs with h1 h2;subst h1 h2;obtain⟨hk1,hk2⟩:=hk;subst hk1 hk2;obtain⟨hv,hB,hrel⟩:=hr.has i _ hl;simp only[RdV]at hx;obtain⟨A,n,c,rfl,q1,q2,q3⟩:=hx.2.2 _ (.inl hB);rw[q3];exact src_sub hrel q1 q2
   .cases hs
  .cases hs
 .injection hs with hs;injection hs with h1 h2;subst h1 h2;rw[(aJ hx).1];exact⟨none,0,[],rfl,by simp only[List.flatten_nil,RdVs],rfl,by simp,λ_=>rfl,λad h=>by cases h⟩
 .cases hs
def _root_.Go.Program.bytesT(P:Program)(e:TypeId):Option Nat:=(P.info? e).map (·.bytes)
theorem gY{w:World}{B e k n:Nat}{v:Value}{xs:List Value}(h:w.ownsRow B e k v n xs):v.ownBlock=aV v/\v.oneCell'=true:=by
 rcases h.2 with ⟨rfl,_⟩|⟨g,cap,cur,rfl,_⟩<;>exact⟨rfl,rfl⟩
section
variable {P:Program} {σ:St} {o:Oper} {K:St->Prop}
theorem nM{w:World}{E:Env}{e k by':Nat}{t ty:TypeId}{v s:Value}{xs ys:List (List V)}{cells:List Value}(ht:P.elemT t=some e)(hsz:P.szT e=some k)(hby:P.bytesT e=some by')(hz:(P.zeroT e).map (·.length)=some k)
  (hk0:0<k) (hown:w.ownsRow 0 e k v xs.length cells) (hsrc:Src w E k ys s) (h1:xs.length+ys.length<=maxLen) (h2:(xs.length+ys.length)*by'<=140737488355328) :
  ∃v' w' news,(Builtin.append_ #[t,t] ty #[v,s]).run P w=.ok v' w'/\RdVs w E ys.flatten news/\news.all (·.oneCell')=true/\w'.ownsRow 0 e k v' (xs.length+ys.length) (cells++news)/\w.grownBy w' v.ownBlock/\(v'.ownBlock=v.ownBlock\/v'.ownBlock=some w.heap.size):=by
 obtain⟨A,c,news,rfl,hn,hones,hyk,hA,hcell⟩:=hsrc;unfold Program.elemT at ht;split at ht
 .rename_i e' hu;injection ht with ht;subst ht;unfold Program.szT at hsz;unfold Program.bytesT at hby;cases hi:P.info? e' with
  |none=>simp[hi]at hsz
  |some ie=>
   simp only[hi,Option.map_some,Option.some.injEq]at hsz hby;cases A with
   |none=>
    have h0:=hA rfl;injection h0 with _ h0 h00;have hys:ys=[]:=List.eq_nil_of_length_eq_zero h0;subst hys;have hnews:news=[]:=by
     have:=RdVs.len hn;simp at this;exact List.eq_nil_of_length_eq_zero (by simpa using this.symm)
    subst hnews;refine⟨v,w,[],?_,hn,rfl,by simpa using hown,⟨rfl,rfl,rfl,Nat.le_refl _,λ_ _ _=>rfl⟩,.inl rfl⟩;rw[h00];exact run_append_owned_none (P:=P) (w:=w) 0 t ty e' ie k hu hi v xs.length cells hown
   |some ad=>
    obtain⟨it,zv,hi',hzv,hzc⟩:∃it v,P.info? e'=some it/\it.zero=some v/\v.cells.toList.length=k:=by
     cases hzz:P.zeroT e' with
     |none=>simp[hzz]at hz
     |some z=>
      obtain⟨it,v,q1,q2,q3⟩:=sX hzz;exact⟨it,v,q1,q2,by rw[q3];simpa[hzz]using hz⟩
    rw[hi]at hi';injection hi' with hi';subst hi';have hl:news.length=ys.length*k:=by rw[<-RdVs.len hn,rX ys hyk]
    obtain⟨v',w',q1,q2,q3,_,q5⟩:=run_append_own_at (P:=P) w 0 t ty e' ie zv k by' hu hi hzv hsz hby (by simpa using hzc) hk0 v xs.length cells hown ad ys.length c news hl (hcell ad rfl)
     (λu hu=>(List.all_eq_true.1 hones) u hu) h1 h2 (Nat.zero_le _)
    exact⟨v',w',news,q1,hn,hones,q2,q3,q5⟩
 .cases ht
def Env.move(E:Env)(i j:Nat)(hv:Value):Env:={ E with B:=λq=>if q=j then some hv else if q=i then none else E.B q,U:=λq=>q=j\/E.U q }
theorem RelF.grow{w w':World}{E:Env}{a:Act}{i:Nat}{hv hv':Value}{old blk:Blk}(hr:RelF E σ a w)(hB:E.B i=some hv)(hl:σ.h.look i=some old)(hg:w.grownBy w' (aV hv))
  (hb':aV hv'=aV hv\/aV hv'=some w.heap.size) (hlt:∀b,aV hv'=some b->b<w'.heap.size) (hone:hv'.oneCell'=true)
  (hblk:Ext E w (E.move i σ.nx hv') w'->BlkRel w' (E.move i σ.nx hv') blk hv') (hm:blk.mine=true) :
  RelF (E.move i σ.nx hv') { σ with h:=(σ.nx,blk)::σ.h.del i,nx:= σ.nx+1 } a w'/\Ext E w (E.move i σ.nx hv') w'/\RdV w' (E.move i σ.nx hv') (.own σ.nx) hv':=by
 have hnU : ¬E.U σ.nx:=λh=>by have:=hr.bound _ h;omega
 have hne:∀b,E.S b\/E.D b->some b≠aV hv:=λb hb he=>by
  obtain⟨_,q2,q3⟩:=hr.rel.own i hv b hB he.symm;exact hb.elim q2 q3
 have hE:Ext E w (E.move i σ.nx hv') w':=⟨hg.os,hg.tape,hg.output,hg.size,λb hb=>hg.block b (hb.elim (hr.rel.slt b) (hr.rel.dlt b)) (hne b hb),λ_ h=>h,λ_ h=> .inl h,λ_=> .rfl,λ_ h=> .inr h,λq hq v hv=>by
  simp only[Env.move]at hv;split at hv
  .rename_i h;subst h;exact(hnU hq).elim
  .split at hv
   .cases hv
   .exact hv,λq hq v hv=>by
  have hqn:q≠σ.nx:=λh=>hnU (h ▸ hq)
  simp only[Env.Is,Env.move,if_neg hqn]at hv;rcases hv with hv|hv
  .split at hv
   .cases hv
   .exact .inl hv
  .exact .inr hv,rfl⟩
 have hfresh:∀b,aV hv'=some b->(aV hv=some b\/b=w.heap.size):=λb hb=>by
  rcases hb' with h|h
  .exact .inl (h ▸ hb)
  .rw[hb]at h;injection h with h;exact .inr h
 have hother:∀j v b,j≠i->E.B j=some v->aV v=some b->aV hv'≠some b:=λj v b hji hBj hb he=>by
  rcases hfresh b he with h|h
  .exact hji (hr.rel.apart j i v hv b hBj hB hb h)
  .have:=(hr.rel.own j v b hBj hb).1;omega
 refine⟨⟨⟨λj blk' hlj=>?_,λj v hBj=>?_,λj v hF=>?_,λj v b hBj hbk=>?_,λp q vp vq b hBp hBq hbp hbq=>?_,λb hb=>Nat.lt_of_lt_of_le (hr.rel.slt b hb) hg.size,λb hb=>Nat.lt_of_lt_of_le (hr.rel.dlt b hb) hg.size⟩,λj hj=>?_,hE.rdVs _ hr.fr,hE.defs hr.defers⟩,hE,?_⟩
 .simp only[Heap.look]at hlj;split at hlj
  .rename_i hj;subst hj;injection hlj with hlj;subst hlj;exact⟨hv',by rw[mF hm];simp[Env.move],hblk hE⟩
  .rename_i hj;rw[Heap.look_del]at hlj;split at hlj
   .cases hlj
   .rename_i hji;obtain⟨v,hBj,hrel⟩:=hr.rel.has j blk' hlj;cases hmj:blk'.mine with
    |true=>
     rw[mF hmj]at hBj;refine⟨v,by rw[mF hmj];simp[Env.move,hj,hji,hBj],hrel.keep hE λb hb=>hg.block b (hr.rel.own j v b hBj hb).1 λhe=>hji (hr.rel.apart j i v hv b hBj hB hb he.symm)⟩
    |false=>
     cases blk'<;>first|exact⟨v,hBj,hE.rdT hrel⟩|simp[Blk.mine]at hmj
 .simp only[Env.move]at hBj;simp only[Env.move,Heap.look];split at hBj
  .rename_i hj;exact⟨.inl hj,blk,by rw[if_pos hj]⟩
  .rename_i hj;split at hBj
   .cases hBj
   .rename_i hji;obtain⟨q1,q2⟩:=hr.rel.dom j v hBj;exact⟨.inr q1,by rw[if_neg hj,Heap.look_del,if_neg hji];exact q2⟩
 .obtain⟨q1,q2⟩:=hr.rel.domF j v hF;refine⟨.inr q1,?_⟩;simp only[Env.move];rw[if_neg (λh=>hnU (show E.U σ.nx from by rw[<-h];exact q1))];split
  .rfl
  .exact q2
 .simp only[Env.move]at hBj;split at hBj
  .injection hBj with hBj;subst hBj;refine⟨hlt b hbk,?_⟩;rcases hfresh b hbk with h|h
   .obtain⟨_,q2,q3⟩:=hr.rel.own i hv b hB h;exact⟨q2,q3⟩
   .exact⟨λhs=>by have:=hr.rel.slt b hs;omega,λhs=>by have:=hr.rel.dlt b hs;omega⟩
  .split at hBj
   .cases hBj
   .obtain⟨q1,q2⟩:=hr.rel.own j v b hBj hbk;exact⟨Nat.lt_of_lt_of_le q1 hg.size,q2⟩
 .simp only[Env.move]at hBp hBq;split at hBp
  .rename_i hp;split at hBq
   .rename_i hq;rw[hp,hq]
   .split at hBq
    .cases hBq
    .rename_i hqi;injection hBp with hBp;subst hBp;exact(hother q vq b hqi hBq hbq hbp).elim
  .split at hBp
   .cases hBp
   .rename_i hpi;split at hBq
    .injection hBq with hBq;subst hBq;exact(hother p vp b hpi hBp hbp hbq).elim
    .split at hBq
     .cases hBq
     .exact hr.rel.apart p q vp vq b hBp hBq hbp hbq
 .simp only[Env.move]at hj;rcases hj with rfl|hj
  .exact Nat.lt_succ_self _
  .have:=hr.bound j hj;show j<σ.nx+1;omega
 .simp only[RdV];refine⟨hone,.inl rfl,λv hBj=>?_⟩;rcases hBj with hBj|hBj
  .simp[Env.move]at hBj;exact hBj
  .exact(hnU (hr.rel.domF _ _ hBj).1).elim
def Mp(P:Program)(σ:St)(t:TypeId)(s x:V)(K:St->V->Prop):Prop:=
 match P.elemT t with
 |none=>False
 |some e=>match P.szT e,P.bytesT e,P.zeroT e with
  |some k,some by',some z=>z.length=k/\0<k/\(match s with
   | .own i=>match σ.h.look i,Cz σ.h k x with
    |some (.row e' k' d xs),some (_,ys)=>e'=e/\k'=k/\xs.length+ys.length<=maxLen/\(xs.length+ys.length)*by'<=140737488355328 /\
      K { σ with h:=(σ.nx,.row e' k' d (xs++ys))::σ.h.del i,nx:= σ.nx+1 } (.own σ.nx)
    |_,_=>False
   | .rsl i kk lo hi=>match σ.h.look i,Cz σ.h k x with
    |some (.row e' k' d xs),some (_,ys)=>e'=e/\k'=k/\kk=k/\lo=0/\hi+ys.length<=maxLen/\(hi+ys.length)*by'<=140737488355328 /\
      K { σ with h:=(σ.nx,.row e' k' d (xs.take hi++ys))::σ.h.del i,nx:= σ.nx+1 } (.own σ.nx)
    |_,_=>False
   | .t (.lit (.slice none 0 0))=>match Cz σ.h k x with
    |some (d,ys)=>ys.length<=maxLen/\ys.length*by'<=140737488355328/\K (σ.add (.row e k d ys)) (.own σ.nx)
    |none=>False
   |_=>False)
  |_,_,_=>False
def yM(P:Program)(t t':TypeId):Prop:=t=t'\/P.elemT t'=P.elemT t
theorem Jf{t e:TypeId}(h:P.elemT t=some e):P.underlying t=some (.slice e):=by
 unfold Program.elemT at h;split at h
 .rename_i e' hu;injection h with h;subst h;exact hu
 .cases h
theorem aGc{t t' ty e:TypeId}{s x:Value}(h1:P.elemT t=some e)(h2:yM P t t')(w:World):(Builtin.append_ #[t,t'] ty #[s,x]).run P w=(Builtin.append_ #[t,t] ty #[s,x]).run P w:=by
 rcases h2 with rfl|h2
 .rfl
 .have hu:=Jf h1;have hu':=Jf (h2.trans h1);unfold Builtin.append_;cases s<;>simp[run_underlying hu,run_underlying hu']
theorem qB{s x:Operand}{t t' e:TypeId}(ht:P.elemT t=some e)(ht':yM P t t')(ho:o.op=.call { callee:=.builtin .append,args:=#[s,x],argTypes:=#[t,t'] }){ρ:Operand->Value}{w w':World}{v:Value}
  (h:(Builtin.append_ #[t,t] o.type #[ρ s,ρ x]).run P w=.ok v w'):(execOp ρ o).run P w=.ok (.value v) w':=by
 simp[execOp,ho,resolve,invoke,builtin,aGc ht ht',h]
theorem aLe{s x:Operand}{t t2:TypeId}(ht2:yM P t t2)(ho:o.op=.call { callee:=.builtin .append,args:=#[s,x],argTypes:=#[t,t2] })
  (h:dB true (σ.ev s) λs'=>dB true (σ.ev x) λx'=>Mp P σ t s' x' λσ' v=>K (σ'.put o.dst v)):OpW P o σ K:=by
 obtain⟨s',h1,hs⟩:=cB h;obtain⟨x',h2,hx⟩:=cB h1;unfold Mp at h2;split at h2
 .exact h2.elim
 .rename_i e ht;split at h2
  .rename_i k by' z hsz hby hz
   obtain⟨hzl,hk0,h3⟩:=h2;have hz':(P.zeroT e).map (·.length)=some k:=by rw[hz];simp[hzl]
   split at h3
   .rename_i i;split at h3
    .rename_i e' k' d xs d' ys hl hsrc;obtain⟨rfl,rfl,q1,q2,hK⟩:=h3;intro E a w hr next Q hn;obtain⟨hv,hB,hrel⟩:=hr.rel.has i _ hl;obtain⟨cells,r1,r2,r3,r4⟩:=hrel;have e1:=hs w E _ rfl (hr.ev s);simp only[RdV]at e1;have e2:=e1.2.2 _ (.inl hB);obtain⟨v',w',news,p1,p2,p2',p3,p4,p5⟩:=nM (P:=P) (ty:=o.type) ht hsz hby hz' hk0 r1 (rA hr.rel (hx w E _ rfl (hr.ev x)) hsrc) q1 q2;obtain⟨o1,o2⟩:=gY r1;obtain⟨o3,o4⟩:=gY p3;rw[o1]at p4 p5;rw[o3]at p5;have hlen:(xs++ys).length=xs.length+ys.length:=List.length_append;obtain⟨k1,k2,k3⟩:=hr.grow (blk:=.row e' k' d (xs++ys)) hB hl p4 p5 (λb hb=>(p3.lt b (o3.trans hb)).2) o4 (λhE=>by
      refine⟨cells++news,by rw[hlen];exact p3,?_,?_,?_⟩
      .rw[List.flatten_append];exact RdVs.append (hE.rdVs _ r2) (hE.rdVs _ p2)
      .intro y hy;rcases List.mem_append.1 hy with hy|hy
       .exact r3 y hy
       .obtain⟨_,_,_,_,_,_,hyk,_⟩:=rA hr.rel (hx w E _ rfl (hr.ev x)) hsrc;exact hyk y hy
      .rw[List.all_append,r4,p2'];rfl) rfl
     unfold Oper.wp;rw[qB ht ht2 ho (by rw[e2];exact p1)];exact hn _ w' _ _ (k1.put o.dst k3) k2 hK
    .exact h3.elim
   .rename_i i kk lo hi;split at h3
    .rename_i e' k' d xs d' ys hl hsrc;obtain⟨rfl,rfl,rfl,rfl,q1,q2,hK⟩:=h3;intro E a w hr next Q hn;obtain⟨hv,hB,hrel⟩:=hr.rel.has i _ hl;obtain⟨cells,r1,r2,r3,r4⟩:=hrel;have e1:=hs w E _ rfl (hr.ev s);simp only[RdV]at e1;obtain⟨A,n,c,rfl,_,hhn,e2⟩:=e1.2.2 _ (.inl hB);have hn':n=xs.length:=by
      rcases r1.2 with ⟨h1,h0⟩|⟨g,cap,cur,h1,_⟩
      .injection h1 with h1 hh2 h3;omega
      .injection h1
     subst hn';obtain⟨r1',ob⟩:=Kj r1 hhn;have hxl:(xs.take hi).length=hi:=by rw[List.length_take];omega
     obtain⟨v',w',news,p1,p2,p2',p3,p4,p5⟩:=nM (P:=P) (ty:=o.type) (xs:=xs.take hi) ht hsz hby hz' hk0 (by rw[hxl];exact r1') (rA hr.rel (hx w E _ rfl (hr.ev x)) hsrc) (by rw[hxl];exact q1) (by rw[hxl];exact q2);obtain⟨o3,o4⟩:=gY p3;rw[ob]at p4 p5;rw[o3]at p5;have hlen:(xs.take hi++ys).length=(xs.take hi).length+ys.length:=List.length_append;obtain⟨k1,k2,k3⟩:=hr.grow (blk:=.row e' kk d (xs.take hi++ys)) hB hl p4 p5 (λb hb=>(p3.lt b (o3.trans hb)).2) o4 (λhE=>by
      refine⟨cells.take (hi*kk)++news,by rw[hlen];exact p3,?_,?_,?_⟩
      .rw[List.flatten_append,Ax _ _ r3];exact RdVs.append (hE.rdVs _ (RdVs.take _ r2)) (hE.rdVs _ p2)
      .intro y hy;rcases List.mem_append.1 hy with hy|hy
       .exact r3 y (List.mem_of_mem_take hy)
       .obtain⟨_,_,_,_,_,_,hyk,_⟩:=rA hr.rel (hx w E _ rfl (hr.ev x)) hsrc;exact hyk y hy
      .rw[List.all_append,p2',Bool.and_true,List.all_eq_true];rw[List.all_eq_true]at r4;exact λv hv=>r4 v (List.mem_of_mem_take hv)) rfl
     unfold Oper.wp;rw[qB ht ht2 ho (by rw[e2];exact p1)];exact hn _ w' _ _ (k1.put o.dst k3) k2 hK
    .exact h3.elim
   .split at h3
    .rename_i d ys hsrc;obtain⟨q1,q2,hK⟩:=h3;refine Bj rfl ⟨rfl,λE a w hr=>?_⟩ hK;have e1:=(aJ (hs w E _ rfl (hr.ev s))).1;have hsr:=rA hr.rel (hx w E _ rfl (hr.ev x)) hsrc;obtain⟨v',w',news,p1,p2,p2',p3,p4,p5⟩:=nM (P:=P) (ty:=o.type) (xs:=[]) ht hsz hby hz' hk0 (World.ownsRow_nil w 0 e k) hsr (by simpa using q1) (by simpa using q2);obtain⟨o3,o4⟩:=gY p3;have hbel:Below w.heap.size w w':=⟨p4.os,p4.tape,p4.output,p4.size,λb hb=>p4.block b hb (by simp[Value.ownBlock])⟩
     refine⟨v',w',qB ht ht2 ho (by rw[e1];exact p1),hbel,o4,λb hb=>?_,λE' hE=>?_⟩
     .rw[o3]at p5;rcases p5 with h|h
      .rw[h]at hb;simp[Value.ownBlock]at hb
      .rw[h]at hb;injection hb with hb;subst hb;exact⟨Nat.le_refl _,(p3.lt _ (o3.trans h)).2⟩
     .refine⟨news,by simpa using p3,hE.rdVs _ p2,?_,p2'⟩;obtain⟨_,_,_,_,_,_,hyk,_⟩:=hsr;exact hyk
    .exact h3.elim
   .exact h3.elim
  .exact h2.elim
def pU{α:Type}(k n:Nat)(ts:List α):List (List α):=(List.range n).map λi=>(ts.drop (i*k)).take k
theorem aMq{α:Type}{k n:Nat}{ts:List α}(h:ts.length=n*k):∀y∈pU k n ts,y.length=k:=by
 intro y hy;unfold pU at hy;obtain⟨i,hi,rfl⟩:=List.mem_map.1 hy;rw[List.mem_range]at hi;have:(i+1)*k<=n*k:=Nat.mul_le_mul_right k hi;rw[Nat.add_mul,Nat.one_mul]at this;simp only[List.length_take,List.length_drop];omega
theorem Rw{α:Type}{k:Nat}:∀(n:Nat) (ts:List α),ts.length=n*k->(pU k n ts).flatten=ts
 |0,ts,h=>by simp[pU];exact List.eq_nil_of_length_eq_zero (by simpa using h)
 |n+1,ts,h=>by
  have ih:=Rw (k:=k) n (ts.drop k) (by rw[List.length_drop,h,Nat.add_mul];omega);unfold pU at ih⊢;rw[List.range_succ_eq_map,List.map_cons,List.flatten_cons,List.map_map];have e1:((λi=>(ts.drop (i*k)).take k) ∘ Nat.succ)=λi=>((ts.drop k).drop (i*k)).take k:=by
   funext i;simp only[Function.comp,Nat.succ_eq_add_one,List.drop_drop,Nat.add_mul,Nat.one_mul,Nat.add_comm]
  rw[e1,ih];simp
def sA(P:Program)(t:TypeId)(n:Nat)(parts:List (Nat×V))(K:Blk->Prop):Prop:=
 match P.elemT t with
 |none=>False
 |some e=>match P.szT e,P.zeroT e with
  |some k,some z=>z.length=k/\cE z=true/\n*k<=2 ^ 24/\0<k/\vL true parts λps=>
   match pT (λi=>some (i*k,k)) (pP ((List.range (n*k)).map λi=>z.getD (i%z.length) undef)) ps with
   |some cs=>cs.length=n*k/\K (.row e k (z.map .lit) (pU k n cs))
   |none=>False
  |_,_=>False
theorem Lk(w:World)(t e:TypeId)(ie:TypeInfo)(hu:P.underlying t=some (.slice e))(hie:P.info? e=some ie):
  (Instr.buildSlice t 0 #[]).run P w=.ok (.slice (some ⟨w.heap.size,0,none⟩) 0 0) (w.alloc (.cells #[] e)):=by
 simp[Instr.buildSlice,run_underlying hu,sizeOf,typeInfo,hie,newRow,Instr.fill];have:Array.map (λ_=>(default:Value)) (Array.range 0)=#[]:=by apply Array.ext';simp
 rw[this]
theorem zL{t:TypeId}{n:Nat}{parts:Array (Nat×Operand)}{K:Blk->Prop}(ho:o.op=.buildSlice t n parts)(h:sA P t n (parts.toList.map λ(i,x)=>(i,σ.ev x)) K):∃blk,K blk/\Gv P o σ blk:=by
 unfold sA at h;split at h
 .exact h.elim
 .rename_i e ht;split at h
  .rename_i k z hsz hz;obtain⟨hzl,hzo,hsm,hpos,h⟩:=h;obtain⟨ys,h1,hys⟩:=yS h;split at h1
   .rename_i cs hf
    .obtain⟨htl,hK⟩:=h1;refine⟨_,hK,rfl,λE a w hr=>?_⟩;obtain⟨it,zv,hi,hzv,hzc⟩:=sX hz;have hps:=hys w E _ rfl (Pa hr parts.toList);unfold Program.elemT at ht;split at ht
     .rename_i e' hu;injection ht with ht;subst ht;rcases Nat.eq_zero_or_pos n with hn0|hn0
      .subst hn0;have hpl:parts.toList=[]:=by
        cases hpp:parts.toList with
        |nil=>rfl
        |cons p r=>
         exfalso;obtain⟨i,x⟩:=p;rw[hpp]at hps;cases ys with
         |nil=>simp only[List.map_cons,Gu]at hps
         |cons y ys=>
          obtain⟨j,y⟩:=y;unfold pT at hf;dsimp only at hf;split at hf
          .cases hf
          .rename_i hno;rw[not_or,not_or]at hno;obtain⟨q1,q2,_⟩:=hno;have q3:(pP ((List.range (0*k)).map λi=>z.getD (i%z.length) undef)).length=0:=by simp[pP]
           rw[q3]at q2;omega
       have hpe:parts=#[]:=by apply Array.ext';rw[hpl]
       rw[hpl]at hps;have hys0:ys=[]:=by
        cases ys with
        |nil=>rfl
        |cons y ys=>simp only[List.map_nil,Gu]at hps
       subst hys0 hpe;simp[pT,pP]at hf;subst hf;refine⟨.slice (some ⟨w.heap.size,0,none⟩) 0 0,w.alloc (.cells #[] e'),by simp only[execOp,ho,List.map_toArray,List.map_nil,Sem.run_bind,Lk w t e' it hu hi,Result.andThen_ok,Sem.run_pure],kU w _,rfl,?_,?_⟩
       .intro b hb;simp only[aV,Option.some.injEq]at hb;subst hb;exact⟨Nat.le_refl _,by rw[size_alloc];omega⟩
       .intro E' hE;refine⟨[],⟨by simp[pU],.inr ⟨w.heap.size,0,#[],by simp[pU],Nat.zero_le _,heap_alloc_new w _,by simp[pU],by simp only[maxLen];omega,by simp,by simp⟩⟩,by simp only[pU,List.range_zero,List.map_nil,List.flatten_nil,RdVs],by simp[pU],rfl⟩
      have hposn:0<n*k:=Nat.mul_pos hn0 hpos;have hits:it.size=k:=by unfold Program.szT at hsz;simpa[hi]using hsz
      have hzcl:zv.cells.size=k:=by rw[<-Array.length_toList,hzc];exact hzl
      have ezc:zv.cells=z.toArray:=by apply Array.ext';simpa using hzc
      have hz0:((Array.range (n*it.size)).map (zv.cells[· % zv.cells.size]!)).toList=(List.range (n*k)).map λi=>z.getD (i%z.length) undef:=by
       rw[hits,ezc];simp only[Array.toList_map,Array.toList_range];apply List.map_congr_left;intro i hi';have hk0:0<z.length:=by rw[hzl];exact hpos
       have hm:=Nat.mod_lt i hk0;simp[List.getD_eq_getElem?_getD,hm,getElem!_pos]
      have hall:cE ((List.range (n*k)).map λi=>z.getD (i%z.length) undef)=true:=by
       unfold cE at hzo⊢;simp only[List.all_eq_true,List.mem_map]at hzo⊢;rintro v ⟨i,_,rfl⟩;have hk0:0<z.length:=by rw[hzl];exact hpos
       have hm:=Nat.mod_lt i hk0;rw[List.getD_eq_getElem?_getD,List.getElem?_eq_getElem hm];exact hzo _ (List.getElem_mem hm)
      obtain⟨r,hb,hr1,hr2⟩:=Mh (w:=w) (E:=E) (λi=>some (i*k,k)) (λi=>some (i*it.size,it.size)) (λi x hx=>by rw[hits];exact hx) ys (parts.toList.map λ(i,x)=>(i,a.eval x)) _
       ((Array.range (n*it.size)).map (zv.cells[· % zv.cells.size]!)) cs hps (by rw[hz0];exact sV _ hall) (by
        rw[hz0];unfold cE at hall;simp only[List.all_eq_true,Bool.and_eq_true]at hall⊢;exact λx hx=>(hall x hx).1) hf
      have hrun:=run_buildSlice (P:=P) w t e' n (parts.map λ(i,x)=>(i,a.eval x)) r it zv hu hi hzv (by rw[hits];omega) (by rw[hits];omega) (by
       have e1:(parts.map λ(i,x)=>(i,a.eval x)).toList=parts.toList.map λ(i,x)=>(i,a.eval x):=by simp
       rw[e1];exact hb)
      have hnk:n<=n*k:=Nat.le_mul_of_pos_right n hpos;have hrl:r.size=n*k:=by
       have q1:=RdVs.len hr1;simp only[Array.length_toList]at q1;omega
      refine⟨.slice (some ⟨w.heap.size,0,none⟩) n n,w.alloc (.cells r e'),by simp only[execOp,ho,Sem.run_bind,hrun,Result.andThen_ok,Sem.run_pure],kU w _,rfl,?_,?_⟩
      .intro b hb;simp only[aV,Option.some.injEq]at hb;subst hb;exact⟨Nat.le_refl _,by rw[size_alloc];omega⟩
      .intro E' hE;have hcl:(pU k n cs).length=n:=by simp[pU]
       refine⟨r.toList,⟨?_,.inr ⟨w.heap.size,n,r,by rw[hcl],Nat.zero_le _,heap_alloc_new w _,by rw[hcl];exact Nat.le_refl _,by simp only[maxLen];omega,hrl,?_⟩⟩,?_,aMq htl,hr2⟩
       .rw[hcl,Array.length_toList,hrl]
       .rw[hcl];exact List.take_of_length_le (by simp;omega)
       .rw[Rw n cs htl];exact hE.rdVs _ hr1
     .cases ht
   .exact h1.elim
  .exact h.elim
theorem Su{t:TypeId}{n:Nat}{parts:Array (Nat×Operand)}(ho:o.op=.buildSlice t n parts)(h:sA P t n (parts.toList.map λ(i,x)=>(i,σ.ev x)) λblk=>K ((σ.add blk).put o.dst (.own σ.nx))):OpW P o σ K:=by
 obtain⟨blk,hK,hN⟩:=zL ho h;exact Bj rfl hN hK
end
