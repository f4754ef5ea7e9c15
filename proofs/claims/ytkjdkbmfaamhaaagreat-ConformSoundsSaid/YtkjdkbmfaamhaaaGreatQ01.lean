/- Proved here: The operations of the abstract machine as values with conditions. -/
import Derived.Test.YtkjdkbmfaamhaaaGreatQ00
import Derived.RangeFuncRecord
import Derived.OrdersIn
set_option linter.unusedSimpArgs false
set_option linter.unusedVariables false
set_option linter.unusedSectionVars false
set_option linter.unnecessarySimpa false
namespace Go.Proofs.YtkjdkbmfaamhaaaGreat
open Go.RowKit
abbrev RO (α:Type):=Option (Prop×α)
def kR{α:Type}(r:RO α)(K:α->Prop):Prop:=
 match r with
 |some (p,v)=>p/\K v
 |none=>False
def okR{α:Type}(r:Option α):RO α:=
 match r with
 |some v=>some (True,v)
 |none=>none
def sC{α:Type}(p:Prop)(r:RO α):RO α:=
 match r with
 |some (q,v)=>some (p/\q,v)
 |none=>none
def bQ(G:Bool)(x:V):Prop×V:=
 match x with
 | .cond g y=>((G=true->g=true),y)
 | .t y=>(True,.t y)
 | .agg y=>(True,.agg y)
 | .tup y=>(True,.tup y)
 | .own i=>(True,.own i)
 | .ptr i j=>(True,.ptr i j)
 | .rptr i k n j=>(True,.rptr i k n j)
 | .rsl i k n j=>(True,.rsl i k n j)
 | .elem k d xs i j=>(True,.elem k d xs i j)
 | .clo f cs=>(True,.clo f cs)
 | .dead=>(True,.dead)
def dG{α:Type}(s:Prop×V)(f:V->RO α):RO α:=
 match s with
 |(p,y)=>sC p (f y)
theorem cN{α:Type}{G:Bool}{x:V}{f:V->RO α}{K:α->Prop}{F:V->Prop}(hf:∀y,kR (f y) K->F y)(h:kR (dG (bQ G x) f) K):dB G x F:=by
 have key:∀(p:Prop) (y:V),kR (sC p (f y)) K->p/\F y:=by
  intro p y h;unfold sC at h;split at h
  .rename_i q v he;simp only[kR]at h;exact⟨h.1.1,hf y (by rw[he];exact⟨h.1.2,h.2⟩)⟩
  .exact h.elim
 unfold dB;cases x<;>simp only[bQ,dG]at h<;>first|exact key _ _ h|exact(key _ _ h).2
theorem aCs{α:Type}{r:Option α}{K:α->Prop}(h:kR (okR r) K):∃v,r=some v/\K v:=by
 cases r with
 |none=>exact h.elim
 |some v=>exact⟨v,rfl,h.2⟩
abbrev tb (b:Bool):V:=.t (.lit (.bool b))
def aHn(G:Bool)(c x y:V):RO V:=
 match c,x,y with
 | .t (.lit (.bool b)),.t (.lit (.bool p)),.t (.lit (.bool q))=>some (True,tb (bif b then p else q))
 | .t (.lit (.bool b)),.cond g (.t (.lit (.bool p))),.t (.lit (.bool q))=>some (((G&&b)=true->g=true),tb (bif b then p else q))
 | .t (.lit (.bool b)),.t (.lit (.bool p)),.cond g (.t (.lit (.bool q)))=>some (((G && !b)=true->g=true),tb (bif b then p else q))
 |_,_,_=>none
def unR(op:UnOp)(x:V):RO V:=
 match op,x with
 | .not,.t (.lit (.bool b))=>some (True,tb (!b))
 | .neg,.t (.lit (.int k n))=>some (True,.t (.lit (.int k (k.wrap (0-n)))))
 |_,_=>none
def litR(G:Bool)(r:Option (Prop×Value)):RO V:=
 match r with
 |some (p,v)=>some ((G=true->p),.t (.lit v))
 |none=>none
def binR(P:Program)(G:Bool)(op:BinOp)(t:TypeId)(x y:V):RO V:=
 match x,y with
 | .t (.lit a),.t (.lit b)=>litR G (aG9 P op t a b)
 |_,_=>none
def loadR(P:Program)(G:Bool)(h:Heap)(t:TypeId)(x:V):RO V:=
 match x with
 | .own i=>loadB P t (h.look i) 0
 | .ptr i off=>loadB P t (h.look i) off
 | .elem k d xs i j=>okR (wD P t ((nth d xs i).map .t) j)
 | .rptr i k n j=>loadW P G t (h.look i) k n j
 |_=>none
where
 loadB (P:Program) (t:TypeId) (b:Option Blk) (off:Nat):RO V:=
  match b with
  |some (.box cs)=>okR (wD P t cs off)
  |_=>none
 loadW (P:Program) (G:Bool) (t:TypeId) (b:Option Blk) (k n j:Nat):RO V:=
  match b with
  |some (.row _ k' d xs)=>if k'=k then sC (G=true->n<xs.length) (okR (wD P t (pL d xs n) j))else none
  |some (.shr (.list k' d xs))=>if k'=k then sC (G=true->n<xs.length) (okR (wD P t ((nth d xs n).map .t) j))else none
  |_=>none
def fieldAddrR(h:Heap)(off:Nat)(x:V):RO V:=
 match x with
 | .own i=>isBox (h.look i) (.ptr i off)
 | .ptr i o=>isBox (h.look i) (.ptr i (o+off))
 | .elem k d xs i j=>some (True,.elem k d xs i (j+off))
 | .rptr i k n j=>isRow (h.look i) (.rptr i k n (j+off))
 |_=>none
where
 isBox (b:Option Blk) (x:V):RO V:=
  match b with
  |some (.box _)=>some (True,x)
  |_=>none
 isRow (b:Option Blk) (x:V):RO V:=
  match b with
  |some (.row ..)=>some (True,x)
  |some (.shr _)=>some (True,x)
  |_=>none
def fieldAddrR1(P:Program)(h:Heap)(q:Option (Nat×TypeId))(x:V):RO V:=
 match q with
 |some (off,ft)=>fieldAddrR2 h off (P.szT ft) x
 |none=>none
where
 fieldAddrR2 (h:Heap) (off:Nat) (n:Option Nat) (x:V):RO V:=
  match n with
  |some (_+1)=>fieldAddrR h off x
  |_=>none
def Zm(P:Program)(q:Option (Nat×TypeId))(x:V):RO V:=
 match x,q with
 | .agg cs,some (off,ft)=>okR (Ph P ft cs off)
 |_,_=>none
def aFk(P:Program)(G:Bool)(u:Option TypeDesc)(x ix:V):RO V:=
 match x,ix,u with
 | .t (.lit (.string s)),.t (.lit (.int _ n)),some .string=>some ((G=true->0<=n/\n<s.size),.t (.lit (.int .u8 (s.data.toList.getD n.toNat 0).toNat)))
 |_,_,_=>none
def indexAddrR(P:Program)(G:Bool)(h:Heap)(e:Option TypeId)(x ix:V):RO V:=
 match ix,e with
 | .t (.lit (.int _ n)),some e=>ixA G h (P.szT e) x n
 |_,_=>none
where
 ixA (G:Bool) (h:Heap) (sz:Option Nat) (x:V) (n:Int):RO V:=
  match x with
  | .t (.list k d xs)=>if sz=some k then some ((G=true->0<=n/\n<xs.length),.elem k d xs n.toNat 0)else none
  | .own i=>ixB G i sz (h.look i) n
  |_=>none
 ixB (G:Bool) (i:Nat) (sz:Option Nat) (b:Option Blk) (n:Int):RO V:=
  match b with
  |some (.row _ k d xs)=>if sz=some k then some ((G=true->0<=n/\n<xs.length),.rptr i k n.toNat 0)else none
  |some (.shr (.list k d xs))=>if sz=some k then some ((G=true->0<=n/\n<xs.length),.elem k d xs n.toNat 0)else none
  |_=>none
def Gb(i:Nat)(x:V):RO V:=
 match x with
 | .tup vs=>okR (vs[i]?)
 |_=>none
def lenR(u:Option TypeDesc)(h:Heap)(x:V):RO V:=
 match u,x with
 |some .string,.t (.lit (.string s))=>some (True,aA s.size)
 |some (.slice _),.t (.list _ _ xs)=>some (True,aA xs.length)
 |some (.slice _),.t (.lit (.slice _ n _))=>some (True,aA n)
 |some (.slice _),.own i=>lenB (h.look i)
 |some (.map _ _),.t (.map es)=>some (True,aA es.length)
 |some (.map _ _),.own i=>lenM (h.look i)
 |_,_=>none
where
 lenB (b:Option Blk):RO V:=
  match b with
  |some (.row _ _ _ xs)=>some (True,aA xs.length)
  |some (.shr (.list _ _ xs))=>some (True,aA xs.length)
  |_=>none
 lenM (b:Option Blk):RO V:=
  match b with
  |some (.map es)=>some (True,aA es.length)
  |_=>none
def usePartsR(G:Bool):List (Nat×V)->Prop×List (Nat×V)
 |[]=>(True,[])
 |(i,x)::r=>consP i (bQ G x) (usePartsR G r)
where
 consP (i:Nat) (a:Prop×V) (b:Prop×List (Nat×V)):Prop×List (Nat×V):=
  match a,b with
  |(p,x),(q,r)=>(p/\q,(i,x)::r)
def aggR(p:Prop)(cs:Option (List V)):RO V:=
 match cs with
 |some cs=>some (p,.agg cs)
 |none=>none
def Zu(P:Program)(pl:Option (List (Nat×Nat)))(z:Option (List Value))(ps:Prop×List (Nat×V)):RO V:=
 match pl,z,ps with
 |some pl,some z,(p,ps)=>aggR (cE z=true/\p) (pT (λi=>pl[i]?) (pP z) ps)
 |_,_,_=>none
def qL(h:Heap)(x:V):RO V:=
 match x with
 | .own i=>fieldAddrR.isBox (h.look i) (.own i)
 | .ptr i off=>fieldAddrR.isBox (h.look i) (.ptr i off)
 | .elem k d xs i j=>some (True,.elem k d xs i j)
 | .rptr i k n j=>fieldAddrR.isRow (h.look i) (.rptr i k n j)
 | .clo f cs=>some (True,.clo f cs)
 | .t (.lit (.func (.func f) a b))=>some (True,.t (.lit (.func (.func f) a b)))
 |_=>none
def aJj(s d:Option TypeDesc)(x:V):RO V:=
 match s,d,x with
 |some _,some (.int k),.t (.lit (.int _ n))=>some (True,.t (.lit (.int k (k.wrap n))))
 |some _,some .string,.t (.lit (.string b))=>some (True,.t (.lit (.string b)))
 |some _,some .string,.t (.lit (.int _ n))=>some (True,.t (.lit (.string (Utf8.encode n))))
 |_,_,_=>none
section
variable {P:Program} {G:Bool} {h:Heap} {t:TypeId} {K:V->Prop}
theorem aQd{c x y:V}(q:kR (aHn G c x y) K):(match (generalizing:=false) c with
  | .t (.lit (.bool b))=>aQc G b x y K
  |_=>False):=by
 unfold aHn at q;split at q
 .exact q.2
 .exact q
 .exact q
 .exact q.elim
theorem unR_ok{op:UnOp}{x:V}(q:kR (unR op x) K):unV op x K:=by
 unfold unR at q;unfold unV;split at q
 .exact q.2
 .exact q.2
 .exact q.elim
theorem binR_ok{op:BinOp}{x y:V}(q:kR (binR P G op t x y) K):aTt P G op t x y K:=by
 unfold binR litR at q;unfold aTt;split at q
 .split at q
  .rename_i p v hb;simp only[hb];exact q
  .exact q.elim
 .exact q.elim
theorem aR5{x:V}(q:kR (loadR P G h t x) K):aHz P G h t x K:=by
 unfold loadR loadR.loadB loadR.loadW at q;unfold aHz;split at q
 .split at q
  .rename_i cs hl;obtain⟨v,hv,hk⟩:=aCs q;simp only[hl,hv];exact hk
  .exact q.elim
 .split at q
  .rename_i cs hl;obtain⟨v,hv,hk⟩:=aCs q;simp only[hl,hv];exact hk
  .exact q.elim
 .obtain⟨v,hv,hk⟩:=aCs q;simp only[hv];exact hk
 .split at q
  .rename_i e k' d xs hl;split at q
   .rename_i hk';unfold sC okR at q;simp only[hl,hk',if_true];split at q
    .rename_i q' v hv;split at hv
     .rename_i v' hv';injection hv with hv;injection hv with h1 h2;subst h1 h2;simp only[hv'];exact⟨q.1.1,q.2⟩
     .cases hv
    .exact q.elim
   .exact q.elim
  .rename_i k' d xs hl;split at q
   .rename_i hk';unfold sC okR at q;simp only[hl,hk',if_true];split at q
    .rename_i q' v hv;split at hv
     .rename_i v' hv';injection hv with hv;injection hv with h1 h2;subst h1 h2;simp only[hv'];exact⟨q.1.1,q.2⟩
     .cases hv
    .exact q.elim
   .exact q.elim
  .exact q.elim
 .exact q.elim
theorem Td{off:Nat}{x:V}(q:kR (fieldAddrR h off x) K):tY h off x K:=by
 unfold fieldAddrR fieldAddrR.isBox fieldAddrR.isRow at q;unfold tY;split at q
 .split at q
  .rename_i hl;simp only[hl];exact q.2
  .exact q.elim
 .split at q
  .rename_i hl;simp only[hl];exact q.2
  .exact q.elim
 .exact q.2
 .split at q
  .rename_i hl;simp only[hl];exact q.2
  .rename_i hl;simp only[hl];exact q.2
  .exact q.elim
 .exact q.elim
theorem Rb{r:Option (Nat×TypeId)}{x:V}(q:kR (fieldAddrR1 P h r x) K):(match (generalizing:=false) r with
      |some (off,ft)=>match P.szT ft with
        |some (_+1)=>tY h off x K
        |_=>False
      |none=>False):=by
  cases r with
  |none=>exact q.elim
  |some p=>
    obtain⟨off,ft⟩:=p;simp only[fieldAddrR1]at q;cases hs:P.szT ft with
    |none=>rw[hs]at q; exact q.elim
    |some n=>cases n with
      |zero=>rw[hs]at q; exact q.elim
      |succ n=>rw[hs]at q; simp only[hs]; exact Td q
theorem aMc{r:Option (Nat×TypeId)}{x:V}(q:kR (Zm P r x) K):(match (generalizing:=false) x,r with
      | .agg cs,some (off,ft)=>match Ph P ft cs off with
        |some v=>K v
        |none=>False
      |_,_=>False):=by
  unfold Zm at q;split at q
  · obtain⟨v,hv,hk⟩:=aCs q
    simp only[hv]; exact hk
  · exact q.elim
theorem Tb{x ix:V}(q:kR (indexAddrR P G h (P.elemT t) x ix) K):xT P G h t x ix K:=by
 unfold indexAddrR indexAddrR.ixA indexAddrR.ixB at q;unfold xT;split at q
 .rename_i he;simp only[he];split at q
  .split at q
   .rename_i hs;simp only[hs,if_true];exact q
   .exact q.elim
  .split at q
   .rename_i hl;split at q
    .rename_i hs;simp only[hl,hs,if_true];exact q
    .exact q.elim
   .rename_i hl;split at q
    .rename_i hs;simp only[hl,hs,if_true];exact q
    .exact q.elim
   .exact q.elim
  .exact q.elim
 .exact q.elim
theorem aD3{i:Nat}{x:V}(q:kR (Gb i x) K):(match (generalizing:=false) x with
      | .tup vs=>match vs[i]? with
        |some v=>K v
        |none=>False
      |_=>False):=by
  unfold Gb at q;split at q
  · obtain⟨v,hv,hk⟩:=aCs q
    simp only[hv]; exact hk
  · exact q.elim
theorem lenR_ok{x:V}(q:kR (lenR (P.underlying t) h x) K):lenV P h t x K:=by
 unfold lenR lenR.lenB lenR.lenM at q;unfold lenV;split at q
 .rename_i hu;simp only[hu];exact q.2
 .rename_i hu;simp only[hu];exact q.2
 .rename_i hu;simp only[hu];exact q.2
 .rename_i hu;split at q
  .rename_i hl;simp only[hu,hl];exact q.2
  .rename_i hl;simp only[hu,hl];exact q.2
  .exact q.elim
 .rename_i hu;simp only[hu];exact q.2
 .rename_i hu;split at q
  .rename_i hl;simp only[hu,hl];exact q.2
  .exact q.elim
 .exact q.elim
theorem wY{F:List (Nat×V)->Prop}:∀(l:List (Nat×V)),(usePartsR G l).1->F (usePartsR G l).2->vL G l F
 |[],_,hf=>hf
 |(i,x)::r,hp,hf=>by
  unfold usePartsR usePartsR.consP at hp hf;unfold vL;refine cN (α:=Unit) (f:=λy=>some ((usePartsR G r).1/\F ((i,y)::(usePartsR G r).2),())) (K:=λ_=>True) (λy hy=>?_) ?_
  .exact wY r hy.1.1 hy.1.2
  .unfold dG sC;exact⟨⟨hp.1,hp.2,hf⟩,trivial⟩
theorem aMy{parts:List (Nat×V)}(q:kR (Zu P (P.plT t) (P.zeroT t) (usePartsR G parts)) K):Zt P G t parts K:=by
 unfold Zu aggR at q;unfold Zt;split at q
 .rename_i pl z p ps h1 h2 h3;simp only[h1,h2];split at q
  .rename_i cs hf;obtain⟨⟨q1,q2⟩,q3⟩:=q;refine⟨q1,wY _ (by rw[h3];exact q2) ?_⟩;rw[h3];simp only[hf];exact q3
  .exact q.elim
 .exact q.elim
theorem Yu{x:V}(q:kR (qL h x) K):Bp h x K:=by
 unfold qL fieldAddrR.isBox fieldAddrR.isRow at q;unfold Bp;split at q
 .split at q
  .rename_i hl;simp only[hl];exact q.2
  .exact q.elim
 .split at q
  .rename_i hl;simp only[hl];exact q.2
  .exact q.elim
 .exact q.2
 .split at q
  .rename_i hl;simp only[hl];exact q.2
  .rename_i hl;simp only[hl];exact q.2
  .exact q.elim
 .exact q.2
 .exact q.2
 .exact q.elim
theorem aS7{s d:TypeId}{x:V}(q:kR (aJj (P.underlying s) (P.underlying d) x) K):aJh P s d x K:=by
 unfold aJj at q;unfold aJh;split at q
 .rename_i h1 h2;simp only[h1,h2];exact q.2
 .rename_i h1 h2;simp only[h1,h2];exact q.2
 .rename_i h1 h2;simp only[h1,h2];exact q.2
 .exact q.elim
end
def pD(h:Heap):V->Option T
 | .t x=>some x
 | .own j=>match h.look j with
  |some (.shr t)=>some t
  |_=>none
 |_=>none
def give1B(h:Heap)(i:Nat)(b:Option Blk):Option Heap:=
 match b with
 |some (.row _ k d xs)=>giveB h i k d (lendRs (pD h) xs)
 |some (.map es)=>giveM h i (nL (pD h) es)
 |some (.shr _)=>some h
 |_=>none
where
 giveM (h:Heap) (i:Nat) (ts:Option (List (Value×Bool×List T))):Option Heap:=
  match ts with
  |some ts=>some (h.set i (.shr (.map ts)))
  |none=>none
 giveB (h:Heap) (i k:Nat) (d:List T) (ts:Option (List (List T))):Option Heap:=
  match ts with
  |some ts=>some (h.set i (.shr (.list k d ts)))
  |none=>none
def giveL:List Nat->Heap->Option Heap
 |[],h=>some h
 |i::r,h=>giveN (giveL r) (give1B h i (h.look i))
where
 giveN (f:Heap->Option Heap) (h:Option Heap):Option Heap:=
  match h with
  |some h=>f h
  |none=>none
theorem Qe{w:World}{E:Env}{h:Heap}(hr:Rel w E h):∀(x:V) (t:T) (v:Value),pD h x=some t->RdV w E x v->RdT w E.S t v
 | .t x,t,v,h1,hx=>by
  simp only[pD,Option.some.injEq]at h1;subst h1;simpa only[RdV]using hx
 | .own j,t,v,h1,hx=>by
  simp only[pD]at h1;split at h1
  .rename_i t' hl;injection h1 with h1;subst h1;obtain⟨hv,hF,hT⟩:=hr.has j _ hl;simp only[RdV]at hx;rw[hx.2.2 hv (.inr hF)];exact hT
  .cases h1
 | .agg _,t,v,h1,hx=>by simp[pD]at h1
 | .tup _,t,v,h1,hx=>by simp[pD]at h1
 | .ptr _ _,t,v,h1,hx=>by simp[pD]at h1
 | .rptr _ _ _ _,t,v,h1,hx=>by simp[pD]at h1
 | .rsl _ _ _ _,t,v,h1,hx=>by simp[pD]at h1
 | .elem _ _ _ _ _,t,v,h1,hx=>by simp[pD]at h1
 | .cond _ _,t,v,h1,hx=>by simp[pD]at h1
 | .clo _ _,t,v,h1,hx=>by simp[pD]at h1
 | .dead,t,v,h1,hx=>by simp[pD]at h1
theorem aFe(h:Heap)(y:V)(t:T)(h1:pD h y=some t):y.isCell=true:=by
 cases y<;>first|rfl|simp[pD]at h1
theorem RelF.giveT{w:World}{E:Env}{σ:St}{a:Act}{i:Nat}{blk:Blk}{hv:Value}{t:T}(hr:RelF E σ a w)(hl:σ.h.look i=some blk)(hB:E.B i=some hv)(hT:RdT w (λb=>E.S b\/aV hv=some b) t hv):
  ∃E',RelF E' { σ with h:= σ.h.set i (.shr t) } a w/\Ext E w E' w /\∀q,E'.U q->E.U q:=by
 let E':Env:={ S:=λb=>E.S b\/aV hv=some b,B:=λj=>if j=i then none else E.B j,U:=E.U,D:=E.D,F:=λj=>if j=i then some hv else E.F j,ro:=E.ro }
 have hUi:E.U i:=(hr.rel.dom i hv hB).1;have hE:Ext E w E' w:=by
  refine⟨rfl,rfl,rfl,Nat.le_refl _,λ_ _=>rfl,λb hb=> .inl hb,λb hb=>?_,λ_=> .rfl,λ_ h=>h,λj hj v hv'=>?_,λj hj v hv'=>?_,rfl⟩
  .rcases hb with hb|hb
   .exact .inl hb
   .exact .inr (hr.rel.own i hv b hB hb).2.2
  .simp only[E']at hv';split at hv'
   .cases hv'
   .exact hv'
  .simp only[E',Env.Is]at hv'
   by_cases hji:j=i
   .subst hji;simp only[if_true,reduceCtorEq,false_or,Option.some.injEq]at hv';subst hv';exact .inl hB
   .simp only[if_neg hji]at hv';exact hv'
 refine⟨E',⟨⟨λj blk hlj=>?_,λj v hBj=>?_,λj v hFj=>?_,λj v b hBj hbk=>?_,λp q vp vq b hBp hBq hbp hbq=>?_,λb hb=>?_,hr.rel.dlt⟩,hr.bound,hE.rdVs _ hr.fr,hE.defs hr.defers⟩,hE,λ_ h=>h⟩
 .rw[Heap.look_set _ _ _ hl]at hlj;split at hlj
  .rename_i hji;injection hlj with hlj;subst hlj;exact⟨hv,by simp[E',Env.at,hji],hT⟩
  .rename_i hji;obtain⟨v,hat,hrel⟩:=hr.rel.has j blk hlj;refine⟨v,?_,hrel.keep hE λ_ _=>rfl⟩;cases blk<;>simpa[E',Env.at,hji]using hat
 .simp only[E']at hBj;split at hBj
  .cases hBj
  .rename_i hji;obtain⟨q1,q2⟩:=hr.rel.dom j v hBj;refine⟨q1,?_⟩;rw[Heap.look_set _ _ _ hl,if_neg hji];exact q2
 .simp only[E']at hFj ⊢
  by_cases hji:j=i
  .subst hji;exact⟨hUi,by simp⟩
  .simp only[if_neg hji]at hFj⊢;exact hr.rel.domF j v hFj
 .simp only[E']at hBj⊢;split at hBj
  .cases hBj
  .rename_i hji;obtain⟨q1,q2,q3⟩:=hr.rel.own j v b hBj hbk;refine⟨q1,λhs=>?_,q3⟩;rcases hs with hs|hs
   .exact q2 hs
   .exact hji (hr.rel.apart j i v hv b hBj hB hbk hs)
 .simp only[E']at hBp hBq;split at hBp
  .cases hBp
  .split at hBq
   .cases hBq
   .exact hr.rel.apart p q vp vq b hBp hBq hbp hbq
 .rcases hb with hb|hb
  .exact hr.rel.slt b hb
  .exact(hr.rel.own i hv b hB hb).1
theorem RelF.give1{w:World}{E:Env}{σ:St}{a:Act}{i:Nat}{h':Heap}(hr:RelF E σ a w)(hg:give1B σ.h i (σ.h.look i)=some h'):
  ∃E',RelF E' { σ with h:=h' } a w/\Ext E w E' w /\∀q,E'.U q->E.U q:=by
 unfold give1B at hg;split at hg
 .rename_i e k d xs hl;unfold give1B.giveB at hg;split at hg
  .rename_i ts hts;injection hg with hg;subst hg;obtain⟨hv,hB0,cells,h2,h3,h4,h5⟩:=hr.rel.has i _ hl;have hB:E.B i=some hv:=hB0;refine hr.giveT hl hB ?_;have h2':=h2;rw[<-tT hts]at h2';refine Lz (S:=E.S) h2' ?_ (tU hts h4) (λb hb=> .inl hb) (λb hb=> .inr hb);exact wJ (λx t v h1 h2=>Qe hr.rel x t v h1 h2) (rV hts) h3
  .cases hg
 .rename_i es hl;unfold give1B.giveM at hg;split at hg
  .rename_i ts hts;injection hg with hg;subst hg;obtain⟨hv,hB0,r,entries,clock,rfl,h2,h3,h3b⟩:=hr.rel.has i _ hl;refine hr.giveT hl hB0 ?_;obtain⟨q1,q2⟩:=Br (aFe σ.h) hts h3;refine .map ts r entries clock (.inr rfl) h2 (by simpa using q1) h3b (λi' k g l e hi he=>?_) λi' k g l e j x u hi he hj hu=>?_
   .obtain⟨r1,r2,_⟩:=q2 i' k g l e hi (by simpa using he);exact⟨r1,r2⟩
   .obtain⟨_,_,_,_,r4⟩:=q2 i' k g l e hi (by simpa using he);rcases r4 j x u hj hu with ⟨rfl,ho⟩|⟨y,y1,y2,_⟩
    .exact .opq _ ho
    exact(Qe hr.rel y x u y1 y2).mono (λb hb=> .inl hb) λ_ _=>rfl
  .cases hg
 .injection hg with hg;subst hg;exact⟨E,hr,Ext.refl E w,λ_ h=>h⟩
 .cases hg
theorem RelF.giveL{w:World}{E:Env}{σ:St}{a:Act}:∀(is:List Nat) {h:Heap} {h':Heap},RelF E { σ with h:=h } a w->giveL is h=some h' ->∃E',RelF E' { σ with h:=h' } a w/\Ext E w E' w /\∀q,E'.U q->E.U q
 |[],h,h',hr,hg=>by
  simp only[Go.Proofs.YtkjdkbmfaamhaaaGreat.giveL,Option.some.injEq]at hg;subst hg;exact⟨E,hr,Ext.refl E w,λ_ h=>h⟩
 |i::r,h,h',hr,hg=>by
  simp only[Go.Proofs.YtkjdkbmfaamhaaaGreat.giveL]at hg;unfold giveL.giveN at hg;split at hg
  .rename_i h1 hg1;obtain⟨E1,q1,q2,q3⟩:=hr.give1 hg1;obtain⟨E2,r1,r2,r3⟩:=RelF.giveL r (E:=E1) (h:=h1) q1 hg;exact⟨E2,r1,q2.trans r2,λq h=>q3 q (r3 q h)⟩
  .cases hg
def reachL(f:V->List Nat):List V->List Nat
 |[]=>[]
 |x::xs=>f x++reachL f xs
def reachRs(f:V->List Nat):List (List V)->List Nat
 |[]=>[]
 |x::xs=>reachL f x++reachRs f xs
def Nz(f:V->List Nat):List (Value×V)->List Nat
 |[]=>[]
 |(_,.agg cs)::xs=>reachL f cs++Nz f xs
 |(_,x)::xs=>f x++Nz f xs
def Ye(f:V->List Nat)(i:Nat)(b:Option Blk):List Nat:=
 match b with
 |some (.row _ _ _ xs)=>reachRs f xs++[i]
 |some (.map es)=>Nz f es++[i]
 |_=>[]
def mR(h:Heap):Nat->V->List Nat
 |n+1,.own i=>Ye (mR h n) i (h.look i)
 |n+1,.agg cs=>reachL (mR h n) cs
 |n+1,.tup cs=>reachL (mR h n) cs
 |n+1,.clo _ cs=>reachL (mR h n) cs
 |_,_=>[]
theorem Ex(h:Heap)(n:Nat)(x:T):mR h n (.t x)=[]:=by cases n<;>rfl
theorem Ey(f:V->List Nat)(hf:∀x,f (.t x)=[]):∀(ts:List T),reachL f (ts.map .t)=[]
 |[]=>rfl
 |t::ts=>by simp only[List.map_cons,reachL,hf,Ey f hf ts,List.append_nil]
theorem Hn(f:V->List Nat)(hf:∀x,f (.t x)=[]):∀(xs:List (List T)),reachRs f (aS xs)=[]
 |[]=>rfl
 |x::xs=>by
  have:=Hn f hf xs;unfold aS at this⊢;simp only[List.map_cons,reachRs,Ey f hf,this,List.append_nil]
@[go_sem] theorem reachRs_reach{h:Heap}{n:Nat}{xs:List (List T)}:reachRs (mR h n) (aS xs)=[]:=Hn _ (Ex h n) xs
def uA(es:List (Value×Bool×List T)):Bool:=es.all λe=>e.2.1||e.2.2.length==1
theorem uU(f:V->Option T)(hf:∀x,f (.t x)=some x):∀(es:List (Value×Bool×List T)),uA es=true->nL f (tEs es)=some es
 |[],_=>rfl
 |e::es,h=>by
  obtain⟨k,g,l⟩:=e;unfold uA at h;simp only[List.all_cons,Bool.and_eq_true]at h;have h1:=uU f hf es h.2;have h2:=aLy f hf (wH f hf) (g,l) (λhg=>by have h1:=h.1;dsimp only at h1 hg⊢; subst hg;simpa using h1);unfold tEs at h1⊢;simp only[List.map_cons,nL,h1,h2]
@[go_sem] theorem lendRs_lendS{h:Heap}{xs:List (List T)}:lendRs (pD h) (aS xs)=some xs:=Fq _ (λ_=>rfl) xs
@[go_sem] theorem lendRs_lendC{h:Heap}{n:Nat}{xs:List (List T)}:lendRs (aX h n) (aS xs)=some xs:=Fq _ (kG h n) xs
def LCall(P:Program)(σ:St)(d:Option Tmp)(f:FuncId)(xs:List V)(K:St->Prop):Prop:=
 P.enters f=true /\∀E a w vs,RelF E σ a w->RdVs w E xs vs->Calls P f vs.toArray w λe w'=>∃v σ' E',e=.returned v/\RelF E' σ' (a.put d v) w'/\Ext E w E' w'/\K σ'
theorem LCall.mono{P:Program}{σ:St}{d:Option Tmp}{f:FuncId}{xs:List V}{K K':St->Prop}(hk:∀σ,K σ->K' σ)(h:LCall P σ d f xs K):LCall P σ d f xs K':=
 ⟨h.1,λE a w vs h1 h2=>(h.2 E a w vs h1 h2).mono λe w' ⟨v,σ',E',q1,q2,q3,q4⟩=>⟨v,σ',E',q1,q2,q3,hk _ q4⟩⟩
theorem qP{P:Program}{σ:St}{d:Option Tmp}{f:FuncId}{xs:List V}{r:V}{K:St->Prop}(hC:aL P f xs r)(hp:V.pures xs=true)(hK:K (σ.put d r)):LCall P σ d f xs K:=by
 refine⟨hC.1,λE a w vs hr hvs=>?_⟩;refine(hC.2 w E.S vs hr.rel.slt (RdVs.bare _ hp hvs)).mono ?_;rintro e w' ⟨v,S',rfl,q1,q2,q3,q4,q5⟩;obtain⟨k1,k2⟩:=hr.later q5 q1 q2 q3;exact⟨v,_,_,rfl,k1.put d (RdV.unbare (E:={ E with S:=S' }) r q4),k2,hK⟩
def lendK(P:Program)(σ:St)(d:Option Tmp)(f:FuncId)(xs:List V)(K:St->Prop):Prop:=
 V.pures xs=true /\∃r,aL P f xs r/\r.scal=true/\K (σ.put d r)
theorem xP{P:Program}{σ:St}{d:Option Tmp}{f:FuncId}{xs:List V}{K:St->Prop}(h:lendK P σ d f (V.lends σ.h xs) K):LCall P σ d f xs K:=by
 obtain⟨hp,r,hC,hs,hK⟩:=h;refine⟨hC.1,λE a w vs hr hvs=>?_⟩;have h2:=hC.2 w (wE E σ.h) vs (λb hb=>by
   rcases hb with hb|⟨i,hv,_,hB,_,_,hbk⟩
   .exact hr.rel.slt b hb
   .exact(hr.rel.own i hv b hB hbk).1) (RdVs.lend hr.rel _ hp hvs)
 refine h2.mono ?_;rintro e w' ⟨v,S',rfl,q1,q2,q3,q4,q5⟩;obtain⟨k1,k2⟩:=hr.later q5 (λ_ h=>h) (λb hb=> .inl hb) (λb hb=>Nat.lt_of_lt_of_le (hr.rel.slt b hb) q5.size);exact⟨v,_,_,rfl,k1.put d (aBc hs q4),k2,hK⟩
def resO(i:Nat)(b:Option Blk):V:=
 match b with
 |some (.shr t)=> .t t
 |_=> .own i
mutual
def V.res(h:Heap):V->V
 | .own i=>resO i (h.look i)
 | .agg cs=> .agg (V.ress h cs)
 | .tup cs=> .tup (V.ress h cs)
 | .clo f cs=> .clo f (V.ress h cs)
 |x=>x
def V.ress(h:Heap):List V->List V
 |[]=>[]
 |x::xs=>V.res h x::V.ress h xs
end
mutual
theorem RdV.res{w:World}{E:Env}{h:Heap}(hr:Rel w E h):∀(x:V) {v:Value},RdV w E x v->RdV w E (x.res h) v
 | .own i,v,hx=>by
  unfold V.res resO;split
  .rename_i t hl;obtain⟨hv,hF,hT⟩:=hr.has i _ hl;simp only[RdV]at hx⊢;rw[hx.2.2 hv (.inr hF)];exact hT
  .exact hx
 | .agg cs,v,hx=>by
  simp only[V.res,RdV]at hx⊢;obtain⟨vs,hv,h1,h2⟩:=hx;exact⟨vs,hv,RdVs.res hr cs h1,h2⟩
 | .tup cs,v,hx=>by
  simp only[V.res,RdV]at hx⊢;obtain⟨vs,hv,h1⟩:=hx;exact⟨vs,hv,RdVs.res hr cs h1⟩
 | .clo f cs,v,hx=>by
  simp only[V.res,RdV]at hx⊢;obtain⟨vs,hv,h1⟩:=hx;exact⟨vs,hv,RdVs.res hr cs h1⟩
 | .t x,v,hx=>by simpa only[V.res]using hx
 | .ptr i off,v,hx=>by simpa only[V.res]using hx
 | .rptr i k n j,v,hx=>by simpa only[V.res]using hx
 | .rsl i k n j,v,hx=>by simpa only[V.res]using hx
 | .elem k d xs i j,v,hx=>by simpa only[V.res]using hx
 | .cond g x,v,hx=>by simpa only[V.res]using hx
 | .dead,v,hx=>by simpa only[V.res]using hx
theorem RdVs.res{w:World}{E:Env}{h:Heap}(hr:Rel w E h):∀(xs:List V) {vs:List Value},RdVs w E xs vs->RdVs w E (V.ress h xs) vs
 |[],[],_=>by simp only[V.ress,RdVs]
 |x::xs,v::vs,hx=>by
  simp only[V.ress,RdVs]at hx⊢;exact⟨RdV.res hr x hx.1,RdVs.res hr xs hx.2⟩
 |[],_::_,h=>by simp only[RdVs]at h
 |_::_,[],h=>by simp only[RdVs]at h
end
def aRn(P:Program)(σ:St)(d:Option Tmp)(f:FuncId)(xs:List V)(K:St->Prop)(h:Option Heap):Prop:=
 match h with
 |some h=>V.pures (V.ress h xs)=true /\∃r,aL P f (V.ress h xs) r/\K (({ σ with h:=h }:St).put d r)
 |none=>False
theorem qQ{P:Program}{σ:St}{d:Option Tmp}{f:FuncId}{xs:List V}{K:St->Prop}(h:aRn P σ d f xs K (giveL (reachL (mR σ.h 8) xs) σ.h)):LCall P σ d f xs K:=by
 unfold aRn at h;split at h
 .rename_i h' hg;obtain⟨hp,r,hC,hK⟩:=h;refine⟨hC.1,λE a w vs hr hvs=>?_⟩;obtain⟨E1,r1,r2,r3⟩:=RelF.giveL (σ:= σ) _ (h:= σ.h) hr hg;have hvs1:=RdVs.res r1.rel _ (r2.rdVs _ hvs);refine(hC.2 w E1.S vs r1.rel.slt (RdVs.bare _ hp hvs1)).mono ?_;rintro e w' ⟨v,S',rfl,q1,q2,q3,q4,q5⟩;obtain⟨k1,k2⟩:=r1.later q5 q1 q2 q3;exact⟨v,_,_,rfl,k1.put d (RdV.unbare (E:={ E1 with S:=S' }) r q4),r2.trans k2,hK⟩
 .exact h.elim
theorem aQj{P:Program}{σ:St}{o:Oper}{K:St->Prop}{f:FuncId}{args:Array Operand}{tys:Array TypeId}(ho:o.op=.call { callee:=.value (.func f),args:=args,argTypes:=tys })
  (h:eE true (args.toList.map σ.ev) λxs=>LCall P σ o.dst f xs K):OpW P o σ K:=by
 obtain⟨ys,h1,hys⟩:=mP h;intro E a w hr next Q hn;have hvs:=hys w E _ rfl (kL hr args.toList);unfold Oper.wp;rw[mZ ho rfl h1.1];simp only[Oper.upon];have h2:=h1.2 E a w _ hr hvs;have e1:(args.toList.map a.eval).toArray=args.map a.eval:=by apply Array.ext';simp only[Array.toList_map]
 rw[e1]at h2;refine Calls.mono h2 ?_;rintro e w' ⟨v,σ',E',rfl,q2,q3,q4⟩;exact hn _ w' E' _ q2 q3 q4
def aFz(x:V):Option (FuncId×List V):=
 match x with
 | .clo f cs=>some (f,cs)
 | .t (.lit (.func (.func f) ⟨[]⟩ ⟨[]⟩))=>some (f,[])
 |_=>none
def dynC(P:Program)(σ:St)(d:Option Tmp)(c:Option (FuncId×List V))(xs:List V)(K:St->Prop):Prop:=
 match c with
 |some (f,cs)=>LCall P σ d f (xs++cs) K
 |none=>False
theorem aB5{P:Program}{ρ:Operand->Value}{o:Oper}{f:FuncId}{x:Operand}{args:Array Operand}{tys:Array TypeId}{caps:Array Value}(ho:o.op=.call { callee:=.value x,args:=args,argTypes:=tys })
  (hρ:ρ x=.func (.func f) #[] caps) (he:P.enters f=true) (w:World):(execOp ρ o).run P w=.ok (.enter f (args.map ρ++caps)) w:=by
 unfold Program.enters at he;split at he
 .rename_i fn hf;simp only[Bool.and_eq_true,Bool.not_eq_true']at he;have hn : ¬fn.name = "runtime.NumGoroutine" :=by simpa using he.1
  have hb : ¬fn.body=none:=λh=>by rw[h]at he;simp at he
  simp[execOp,ho,resolve,hρ,Deferred.ofValue,invoke,callFunc,hf,hn,hb]
 .cases he
theorem ow_dyn1{P:Program}{σ:St}{o:Oper}{K:St->Prop}{x:Operand}{args:Array Operand}{tys:Array TypeId}(ho:o.op=.call { callee:=.value x,args:=args,argTypes:=tys })
  {x':V} (hx:∀(w:World) (E:Env) v,true=true->RdV w E (σ.ev x) v->RdV w E x' v) (h0:eE true (args.toList.map σ.ev) λxs=>dynC P σ o.dst (aFz x') xs K):OpW P o σ K:=by
 obtain⟨ys,h1,hys⟩:=mP h0;intro E a w hr next Q hn;have hvs:=hys w E _ rfl (kL hr args.toList);have hxv:=hx w E _ rfl (hr.ev x);unfold dynC at h1;split at h1
 .rename_i f cs hc;obtain⟨caps,hf,hcs⟩:∃caps:Array Value,a.eval x=.func (.func f) #[] caps/\RdVs w E cs caps.toList:=by
   unfold aFz at hc;split at hc
   .injection hc with hc;injection hc with h1 h2;subst h1 h2;simp only[RdV]at hxv;exact hxv
   .injection hc with hc;injection hc with h1 h2;subst h1 h2;exact⟨#[],(aJ hxv).1,by simp only[RdVs]⟩
   .cases hc
  unfold Oper.wp;rw[aB5 ho hf h1.1];simp only[Oper.upon];have h2:=h1.2 E a w _ hr (RdVs.append hvs hcs);have e1:(args.toList.map a.eval++caps.toList).toArray=args.map a.eval++caps:=by apply Array.ext';simp
  rw[e1]at h2;refine Calls.mono h2 ?_;rintro e w' ⟨v,σ',E',rfl,q2,q3,q4⟩;exact hn _ w' E' _ q2 q3 q4
 .exact h1.elim
def pM(k k':Value):Bool:=
 match k,k' with
 | .int _ a,.int _ b=>decide (a=b)
 | .string a,.string b=>decide (a=b)
 |_,_=>false
def gQ(d:TypeDesc)(k:Value):Bool:=
 match d,k with
 | .int kd,.int kd' _=>decide (kd=kd')
 | .string,.string _=>true
 |_,_=>false
def fP(d:TypeDesc):List (Value×V)->Bool
 |[]=>true
 |e::es=>gQ d e.1&&fP d es
def fX(k:Value):List (Value×V)->Option V
 |[]=>none
 |e::es=>if pM k e.1=true then some e.2 else fX k es
def eJ(d:TypeDesc):List (Value×Bool×List T)->Bool
 |[]=>true
 |e::es=>gQ d e.1&&eJ d es
def fV(k:Value):List (Value×Bool×List T)->Option V
 |[]=>none
 |e::es=>if pM k e.1=true then some (mkV e.2)else fV k es
theorem xQ{d:TypeDesc}:∀(es:List (Value×Bool×List T)),fP d (tEs es)=eJ d es
 |[]=>rfl
 |e::es=>by
  have:=xQ (d:=d) es;unfold tEs at this⊢;simp only[List.map_cons,fP,eJ,this]
theorem Bq{k:Value}:∀(es:List (Value×Bool×List T)),fX k (tEs es)=fV k es
 |[]=>rfl
 |e::es=>by
  have:=Bq (k:=k) es;unfold tEs at this⊢;simp only[List.map_cons,fX,fV,this]
theorem aH9{w:World}{E:Env}{es:List (Value×Bool×List T)}{v:Value}(h:RdT w E.S (.map es) v):∃r entries clock,v=.map (some r)/\w.heap[r]?=some (.map entries clock)/\RdEs w E (tEs es) entries.toList:=by
 cases h with
 |map es r entries clock hS hh hl hbn hf hr=>
  refine⟨r,entries,clock,rfl,hh,?_⟩;have key:∀(es:List (Value×Bool×List T)) (l:List MapEntry),es.length=l.length->(∀(i:Nat) k g xs e,es[i]?=some (k,g,xs)->l[i]?=some e->e.key=k/\EntV g xs e.val) ->
    (∀(i:Nat) k g xs e (j:Nat) x u,es[i]?=some (k,g,xs)->l[i]?=some e->xs[j]?=some x->e.val.cells[j]?=some u->RdT w E.S x u)->RdEs w E (tEs es) l:=by
   intro es
   induction es with
   |nil=>intro l h1 _ _;cases l<;>first|trivial|simp at h1
   |cons m es ih=>
    intro l h1 h2 h3;cases l with
    |nil=>simp at h1
    |cons e l=>
     obtain⟨k,g,xs⟩:=m;obtain⟨q1,q2,q3⟩:=h2 0 k g xs e rfl rfl;have q4:=h3 0 k g xs e;refine⟨q1,?_,ih l (by simpa using h1) (λi k g xs e a b=>h2 (i+1) k g xs e (by simpa using a) (by simpa using b)) (λi k g xs e j x u a b=>h3 (i+1) k g xs e j x u (by simpa using a) (by simpa using b))⟩;show RdV w E (mkV (g,xs)) e.val
     cases g with
     |true=>
      obtain⟨vs,e1,e2⟩:=q2 rfl;rw[e1]at q4⊢;simp only[mkV,RdV];have hT:RdTs w E.S xs vs.toList:=aBe (by simpa using e2.symm) λj x u hx hu=>q4 j x u rfl rfl hx (by simpa[Value.cells]using hu)
      exact⟨vs,rfl,RdVs.ofT hT,vX hT⟩
     |false=>
      obtain⟨e1,e2⟩:=q3 rfl
      match xs,e2 with
      |[t],_=>
       simp only[mkV,RdV];have hc:e.val.cells=#[e.val]:=by
        generalize e.val=v at e1;cases v<;>first|rfl|simp[Value.oneCell']at e1
       exact q4 0 t e.val rfl rfl rfl (by rw[hc];rfl)
  exact key es entries.toList (by simpa using hl) (λi k g xs e a b=>hf i k g xs e a (by simpa using b)) (λi k g xs e j x u a b=>hr i k g xs e j x u a (by simpa using b))
def uE(k:Value)(x:V):List (Value×V)->List (Value×V)
 |[]=>[(k,x)]
 |e::es=>if pM k e.1=true then (k,x)::es else e::uE k x es
def delE(k:Value):List (Value×V)->List (Value×V)
 |[]=>[]
 |e::es=>if pM k e.1=true then es else e::delE k es
theorem Bz{a b:ByteArray}(h:a.toList=b.toList):a=b:=by
 rw[ByteArray.toList_eq,ByteArray.toList_eq]at h;exact ByteArray.ext (Array.toList_inj.mp h)
theorem yD(a b:ByteArray):(a.toList==b.toList)=decide (a=b):=by
 by_cases h:a=b
 .subst h;simp
 .simp only[h,decide_false];exact beq_eq_false_iff_ne.2 λhe=>h (Bz he)
theorem Xb(a b:ByteArray):(a==b)=decide (a=b):=by rw[beq_toListBytes,yD]
theorem Nq{d:TypeDesc}{k k':Value}(h:gQ d k=true)(h':gQ d k'=true):Instr.sameNow d k k'=some (pM k k'):=by
 cases d<;>cases k<;>simp[gQ]at h<;>cases k'<;>simp[gQ]at h'
 .subst h h';simp only[Instr.sameNow,if_true,pM];congr 1
 .simp only[Instr.sameNow,pM,Xb]
theorem key_eq{d:TypeDesc}{k k':Value}(h:gQ d k=true)(h':gQ d k'=true)(he:pM k k'=true):k'=k:=by
 unfold gQ at h h';unfold pM at he;split at he
 .rename_i kd a kd' b;simp only[decide_eq_true_eq]at he;subst he;split at h
  .rename_i h1;injection h1 with h1 h2;simp only[decide_eq_true_eq]at h;subst h h1;simp only[decide_eq_true_eq]at h';subst h';rfl
  .cases ‹Value.int _ _=Value.string _›
  .cases h
 .simp only[decide_eq_true_eq]at he;subst he;rfl
 .cases he
theorem findNow_ok{w:World}{E:Env}{d:TypeDesc}{k:Value}(hk:gQ d k=true):∀{es:List (Value×V)} {l:List MapEntry} (i:Nat),RdEs w E es l->fP d es=true ->
  (fX k es=none/\Instr.findNow d k l i=some none) \/∃x j e,fX k es=some x/\Instr.findNow d k l i=some (some (i+j,e.val))/\RdV w E x e.val/\l[j]?=some e/\e.key=k
 |[],[],i,_,_=> .inl ⟨rfl,rfl⟩
 |e::es,m::l,i,hr,hks=>by
  obtain⟨k',x⟩:=e;obtain⟨h1,h2,h3⟩:=hr;simp only[fP,Bool.and_eq_true]at hks;have hs:=Nq hk (h1 ▸ hks.1);simp only[fX,Instr.findNow];rw[hs,h1];cases hkb:pM k k' with
  |true=>
   refine .inr ⟨x,0,m,rfl,by simp,h2,rfl,?_⟩;rw[h1];exact key_eq hk hks.1 hkb
  |false=>
   simp only[Bool.false_eq_true,if_false];rcases findNow_ok hk (i+1) h3 hks.2 with ⟨q1,q2⟩|⟨x',j,e,q1,q2,q3,q4,q5⟩
   .exact .inl ⟨q1,q2⟩
   .exact .inr ⟨x',j+1,e,q1,by rw[q2];simp;omega,q3,by simpa using q4,q5⟩
 |[],_::_,_,h,_=>h.elim
 |_::_,[],_,h,_=>h.elim
theorem sP{P:Program}{t:TypeId}{d:TypeDesc}{k:Value}{e:Bool}(hu:P.underlying t=some d)(hk:gQ d k=true)(w:World):(Instr.checkKey e 10000 t k).run P w=.ok () w:=by
 have h:∀n,(Instr.checkKey e (n+1) t k).run P w=.ok () w:=λn=>by
  rw[Instr.checkKey];simp only[Sem.run_bind,run_underlying hu,Result.andThen_ok];cases d<;>cases k<;>simp[gQ]at hk<;>rfl
 exact h 9999
theorem sN{P:Program}{t:TypeId}{d:TypeDesc}{k:Value}{l:List MapEntry}{r:Option (Nat×Value)}(hu:P.underlying t=some d)(h:Instr.findNow d k l 0=some r)(w:World):(Instr.findKey t k l).run P w=.ok r w:=by
 simp[Instr.findKey,run_underlying hu,h]
def _root_.Go.Program.mapT(P:Program)(t:TypeId):Option (TypeId×TypeId):=
 match P.underlying t with
 |some (.map k e)=>some (k,e)
 |_=>none
def _root_.Go.Program.zero1(P:Program)(t:TypeId):Option Value:=(P.info? t).bind (·.zero)
def Ru(ok:Bool)(b:Bool)(x:V):V:=
 match ok with
 |true=> .tup [x,.t (.lit (.bool b))]
 |false=>x
def Qy(ok:Bool)(z:Value)(x:Option V):V:=
 match x with
 |some x=>Ru ok true x
 |none=>Ru ok false (Qd z)
def lookupR(P:Program)(h:Heap)(ok:Bool)(u:Option (TypeId×TypeId))(x ix:V):RO V:=
 match u,x,ix with
 |some (kt,et),.own i,.t (.lit k)=>lkA (P.underlying kt) (P.zero1 et) ok k (h.look i)
 |some (kt,et),.t (.map es),.t (.lit k)=>lkT (P.underlying kt) (P.zero1 et) ok k es
 |_,_,_=>none
where
 lkT (d:Option TypeDesc) (z:Option Value) (ok:Bool) (k:Value) (es:List (Value×Bool×List T)):RO V:=
  match d,z with
  |some d,some z=>some (gQ d k=true/\eJ d es=true,Qy ok z (fV k es))
  |_,_=>none
 lkA (d:Option TypeDesc) (z:Option Value) (ok:Bool) (k:Value) (b:Option Blk):RO V:=
  match d,z,b with
  |some d,some z,some (.map es)=>some (gQ d k=true/\fP d es=true,Qy ok z (fX k es))
  |some d,some z,some (.shr (.map es))=>some (gQ d k=true/\eJ d es=true,Qy ok z (fV k es))
  |_,_,_=>none
section
variable {P:Program} {G:Bool} {σ:St} {o:Oper} {K:V->Prop}
theorem Us{w:World}{E:Env}{ok b:Bool}{x:V}{v:Value}(h:RdV w E x v):RdV w E (Ru ok b x) (if ok then .tuple #[v,.bool b]else v):=by
 cases ok with
 |true=>
  simp only[Ru,if_true,RdV];exact⟨_,rfl,h,.lit _ rfl trivial,trivial⟩
 |false=>exact h
theorem aL8{t:TypeId}{x ix:Operand}{ok:Bool}(ho:o.op=.lookup t x ix ok)(h:kR (dG (bQ G (σ.ev x)) λx'=>dG (bQ G (σ.ev ix)) λix'=>lookupR P σ.h ok (P.mapT t) x' ix') K):∃x,K x/\(G=true->YV P o σ x):=by
 have h0:dB G (σ.ev x) λx'=>dB G (σ.ev ix) λix'=>kR (lookupR P σ.h ok (P.mapT t) x' ix') K:=cN (λy hy=>cN (λz hz=>hz) hy) h
 obtain⟨x',h1,hx⟩:=cB h0;obtain⟨ix',h2,hix⟩:=cB h1;clear h h0 h1;have hmain:∀(kt et:TypeId) (d:TypeDesc) (z:Value) (k:Value) (es:List (Value×V)),P.mapT t=some (kt,et)->P.underlying kt=some d->P.zero1 et=some z->gQ d k=true->fP d es=true ->
   ∀(E:Env) (a:Act) (w:World),a.eval ix=k ->∀r entries clock,a.eval x=.map (some r)->w.heap[r]?=some (.map entries clock)->RdEs w E es entries.toList ->
   ∃v,(execOp a.eval o).run P w=.ok (.value v) w/\RdV w E (Qy ok z (fX k es)) v:=by
  intro kt et d z k es hu hd hz hk hks E a w e2 r entries clock e3 h3 h4;unfold Program.mapT at hu;split at hu
  .rename_i kt' et' hut;injection hu with hu;injection hu with q1 q2;subst q1 q2;have hgo:(getObj r).run P w=.ok (.map entries clock) w:=by simp[getObj,Sem.run,h3]
   rcases findNow_ok hk 0 h4 hks with ⟨q1,q2⟩|⟨y,j,e,q1,q2,q3,q4,q5⟩
   .refine⟨if ok then .tuple #[z,.bool false]else z,?_,?_⟩
    .unfold Program.zero1 at hz;cases hi:P.info? et' with
     |none=>simp[hi]at hz
     |some it=>
      simp[hi]at hz;simp only[execOp,ho,e2,e3,Instr.lookup,Sem.run_bind,run_underlying hut,Result.andThen_ok,hgo,Sem.run_pure,sP hd hk,sN hd q2];cases ok<;>simp[zeroValue,typeInfo,hi,hz]
    .rw[q1];exact Us (aBd z)
   .refine⟨if ok then .tuple #[e.val,.bool true]else e.val,?_,?_⟩
    .simp only[execOp,ho,e2,e3,Instr.lookup,Sem.run_bind,run_underlying hut,Result.andThen_ok,hgo,Sem.run_pure,sP hd hk,sN hd q2]
    .rw[q1];exact Us q3
  .cases hu
 unfold lookupR lookupR.lkA lookupR.lkT at h2;split at h2
 .rename_i kt et i k hu;split at h2
  .rename_i d z es hd hz hl;obtain⟨⟨hk,hks⟩,hK⟩:=h2;refine⟨_,hK,λhG=>cU λE a w hr=>?_⟩;have e1:=hx w E _ hG (hr.ev x);have e2:=(aJ (hix w E _ hG (hr.ev ix))).1;obtain⟨hv,hB,r,entries,clock,rfl,h3,h4,_⟩:=hr.rel.has i _ hl;simp only[RdV]at e1;exact hmain kt et d z k es hu hd hz hk hks E a w e2 r entries clock (e1.2.2 _ (.inl hB)) h3 h4
  .rename_i d z es hd hz hl;obtain⟨⟨hk,hks⟩,hK⟩:=h2;refine⟨_,hK,λhG=>cU λE a w hr=>?_⟩;have e1:=hx w E _ hG (hr.ev x);have e2:=(aJ (hix w E _ hG (hr.ev ix))).1;obtain⟨hv,hF,hT⟩:=hr.rel.has i _ hl;obtain⟨r,entries,clock,rfl,h3,h4⟩:=aH9 (E:=E) hT;simp only[RdV]at e1;rw[<-Bq];exact hmain kt et d z k (tEs es) hu hd hz hk (by rw[xQ];exact hks) E a w e2 r entries clock (e1.2.2 _ (.inr hF)) h3 h4
  .exact h2.elim
 .rename_i kt et es k hu;split at h2
  .rename_i d z hd hz;obtain⟨⟨hk,hks⟩,hK⟩:=h2;refine⟨_,hK,λhG=>cU λE a w hr=>?_⟩;have e1:=hx w E _ hG (hr.ev x);have e2:=(aJ (hix w E _ hG (hr.ev ix))).1;simp only[RdV]at e1;obtain⟨r,entries,clock,e3,h3,h4⟩:=aH9 (E:=E) e1;rw[<-Bq];exact hmain kt et d z k (tEs es) hu hd hz hk (by rw[xQ];exact hks) E a w e2 r entries clock e3 h3 h4
  .exact h2.elim
 .exact h2.elim
end
section
variable {P:Program} {σ:St} {o:Oper}
theorem Kk{t:TypeId}(ho:o.op=.makeMap t none):Gv P o σ (.map []):=by
 refine⟨rfl,λE a w hr=>⟨.map (some w.heap.size),w.alloc (.map #[] 0),?_,kU w _,rfl,?_,?_⟩⟩
 .simp[execOp,ho,Instr.makeMap]
 .intro b hb;simp only[aV,Option.some.injEq]at hb;subst hb;exact⟨Nat.le_refl _,by rw[size_alloc];omega⟩
 .intro E' hE;exact⟨w.heap.size,#[],0,rfl,heap_alloc_new w _,trivial,by simp,by simp⟩
theorem Sy{t e:TypeId}{l c:Operand}{k by' n:Nat}{z:List Value}{kd kd':IntKind}(ho:o.op=.makeSlice t l c)(ht:P.elemT t=some e)(hsz:P.szT e=some k)(hby:P.bytesT e=some by')(hz:P.zeroT e=some z)(hzl:z.length=k)(hzo:cE z=true)
  (hn:n<=maxLen) (hb:by'*n<=281474976710656) (hk0:0<k) (hl:∀(w:World) (E:Env) (a:Act),RelF E σ a w->a.eval l=.int kd n) (hc:∀(w:World) (E:Env) (a:Act),RelF E σ a w->a.eval c=.int kd' n) :
  Gv P o σ (.row e k (z.map .lit) (aS (List.replicate n (z.map .lit)))):=by
 refine⟨rfl,λE a w hr=>?_⟩;obtain⟨it,zv,hi,hzv,hzc⟩:=sX hz;unfold Program.elemT at ht;split at ht
 .rename_i e' hu;injection ht with ht;subst ht;have hits:it.size=k:=by unfold Program.szT at hsz;simpa[hi]using hsz
  have hib:it.bytes=by':=by unfold Program.bytesT at hby;simpa[hi]using hby
  obtain⟨w',h1,h2,h3⟩:=run_make_full (P:=P) w 0 t e' it zv k hu hi hzv hits kd kd' n (by rw[hib];exact hb) hn (Nat.zero_le _);refine⟨.slice (some ⟨w.heap.size,0,none⟩) n n,w',by simp only[execOp,ho,hl w E a hr,hc w E a hr,Sem.run_bind,h1,Result.andThen_ok,Sem.run_pure],⟨h3.os,h3.tape,h3.output,h3.size,λb hb=>h3.block b hb (by simp)⟩,rfl,?_,?_⟩
  .intro b hb;simp only[aV,Option.some.injEq]at hb;subst hb;refine⟨Nat.le_refl _,?_⟩;rcases h2.2 with ⟨h,_⟩|⟨g,cap,cur,he,_,hg,_⟩
   .cases h
   .injection he with he;injection he with he;injection he with he;subst he;exact(Array.getElem?_eq_some_iff.1 hg).1
  .intro E' hE;have hm:(madeCells zv.cells (n*k)).toList=(List.replicate n z).flatten:=by
    have hzs:zv.cells=z.toArray:=by apply Array.ext';simpa using hzc
    unfold madeCells;rw[hzs];simp only[Array.toList_map,Array.toList_range];apply List.ext_getElem?;intro i
    by_cases hin:i<n*k
    .have hkz:0<z.length:=by omega
     have hm:=Nat.mod_lt i hkz;have h1:i/k<n:=(Nat.div_lt_iff_lt_mul hk0).2 hin;have hp:=mC (k:=k) (List.replicate n z) (i/k) z (λx hx=>by rw[List.eq_of_mem_replicate hx];exact hzl) (by rw[List.getElem?_replicate,if_pos h1]);have hdm:i/k*k+i%k=i:=by rw[Nat.mul_comm];exact Nat.div_add_mod i k
     have h2:((List.replicate n z).flatten)[i]?=z[i%k]? :=by
      have h3:(((List.replicate n z).flatten.drop (i/k*k)).take k)[i%k]?=z[i%k]? :=by rw[hp]
      rw[List.getElem?_take,if_pos (Nat.mod_lt i hk0),List.getElem?_drop,hdm]at h3;exact h3
     rw[h2,List.getElem?_map,List.getElem?_range hin];subst hzl;simp[hm]
    .rw[List.getElem?_eq_none (by simp;omega),List.getElem?_eq_none];rw[rX (k:=k) _ (λx hx=>by rw[List.eq_of_mem_replicate hx];exact hzl)];simp;omega
   refine⟨_,by rw[Ay,List.length_replicate];exact h2,?_,?_,?_⟩
   .rw[hm,Cx];have:∀m,RdVs w' E' ((List.replicate m (z.map T.lit)).flatten.map .t) (List.replicate m z).flatten:=by
     intro m
     induction m with
     |zero=>simp only[List.replicate_zero,List.flatten_nil,List.map_nil,RdVs]
     |succ m ih=>
      simp only[List.replicate_succ,List.flatten_cons,List.map_append];refine RdVs.append ?_ ih;rw[List.map_map];exact sV z hzo
    exact this n
   .exact He (λy hy=>by rw[List.eq_of_mem_replicate hy,List.length_map];exact hzl)
   .rw[hm,List.all_eq_true];intro v hv;obtain⟨y,hy,hvy⟩:=List.mem_flatten.1 hv;rw[List.eq_of_mem_replicate hy]at hvy;unfold cE at hzo;simp only[List.all_eq_true,Bool.and_eq_true]at hzo;exact(hzo v hvy).1
 .cases ht
theorem RdEs.put{w:World}{E:Env}{d:TypeDesc}{k:Value}{x:V}{v:Value}(hk:gQ d k=true)(hx:RdV w E x v):∀{es:List (Value×V)} {l:List MapEntry},RdEs w E es l->fP d es=true ->∀clock,
  (fX k es=none->RdEs w E (uE k x es) (l++[{ key:=k,val:=v,born:=clock }])) /\
  ∀j e,Instr.findNow d k l 0=some (some (j,e))->RdEs w E (uE k x es) (l.modify j λe=>{ e with key:=k,val:=v })
 |[],[],_,_,clock=>⟨λ_=>⟨rfl,hx,trivial⟩,λj e h=>by simp[Instr.findNow]at h⟩
 |(k',y)::es,m::l,hr,hks,clock=>by
  obtain⟨h1,h2,h3⟩:=hr;simp only[fP,Bool.and_eq_true]at hks;have hs:=Nq hk (h1 ▸ hks.1);have ih:=RdEs.put hk hx h3 hks.2 clock;simp only[fX,uE];cases hkb:pM k k' with
  |true=>
   refine⟨λh=>by simp at h,λj e hf=>?_⟩;have hs':Instr.sameNow d k m.key=some true:=by rw[hs,h1,hkb]
   simp only[Instr.findNow,hs',Option.some.injEq,Prod.mk.injEq]at hf;obtain⟨rfl,_⟩:=hf;simp only[if_true,List.modify_zero_cons];exact⟨rfl,hx,h3⟩
  |false=>
   simp only[Bool.false_eq_true,if_false];refine⟨λh=>⟨h1,h2,ih.1 h⟩,λj e hf=>?_⟩;have hs':Instr.sameNow d k m.key=some false:=by rw[hs,h1,hkb]
   simp only[Instr.findNow,hs']at hf;have hshift:∀(l:List MapEntry) (i:Nat) j e,Instr.findNow d k l (i+1)=some (some (j,e)) ->∃j',j=j'+1/\Instr.findNow d k l i=some (some (j',e)):=by
    intro l
    induction l with
    |nil=>intro i j e h;simp[Instr.findNow]at h
    |cons m l ih=>
     intro i j e h;simp only[Instr.findNow]at h⊢;split at h
     .simp only[Option.some.injEq,Prod.mk.injEq]at h;obtain⟨rfl,rfl⟩:=h;exact⟨i,rfl,rfl⟩
     .exact ih (i+1) j e h
     .cases h
   obtain⟨j',rfl,hf'⟩:=hshift l 0 j e hf;rw[List.modify_succ_cons];exact⟨h1,h2,ih.2 j' e hf'⟩
 |[],_::_,h,_,_=>h.elim
 |_::_,[],h,_,_=>h.elim
end
def ownNames:List String:= ["slices.Clone", "cutroom/cutroomfilm.Track", "cutroom/timeline.Cut", "math/bits.Add64", "math/bits.Sub64", "cutroom/timeline.catalogueOf", "cutroom/denote.newIndex", "(cutroom/denote.index).film", "maps.Keys", "cutroom/timeline.clips", "slices.Grow"]
def lookNames:List String:= ["(*cutroom/conform.mixer).rate", "(*cutroom/conform.mixer).source", "(*cutroom/conform.mixer).numbered", "(*cutroom/conform.mixer).between", "(*cutroom/conform.mixer).compute", "slices.Clone[[]int,int]"]
def _root_.Go.Program.ioF(P:Program)(f:FuncId):Bool:=
 match P.funcs[f]? with
 |some fn=>(((fn.params++fn.resultTypes).any λt=>match P.underlying t with
  |some (.pointer _)=>true
  |_=>false)||ownNames.contains fn.origin||ownNames.contains fn.name) && !lookNames.contains fn.name
 |none=>false
def mapPutR(P:Program)(h:Heap)(u:Option (TypeId×TypeId))(m k x:V):RO Heap:=
 match u,m,k with
 |some (kt,_),.own i,.t (.lit kv)=>mpA (P.underlying kt) h i kv x (h.look i)
 |_,_,_=>none
where
 mpA (d:Option TypeDesc) (h:Heap) (i:Nat) (kv:Value) (x:V) (b:Option Blk):RO Heap:=
  match d,b with
  |some d,some (.map es)=>some (gQ d kv=true/\fP d es=true,h.set i (.map (uE kv x es)))
  |_,_=>none
theorem Sq{d:TypeDesc}{k:Value}(h:gQ d k=true):Instr.sameBits 10000 k k=true:=by
 cases d<;>cases k<;>simp[gQ]at h<;>simp[Instr.sameBits,Xb]
theorem zA{P:Program}{w:World}{r:Nat}{es:Array MapEntry}{c:Nat}(o:Obj)(h:w.heap[r]?=some (.map es c)):(setObj r o).run P w=.ok () { w with heap:=w.heap.setIfInBounds r o }:=by
 simp[setObj,Sem.run,h]
theorem xV(w:World)(r:Nat)(o:Obj):w.grownBy { w with heap:=w.heap.setIfInBounds r o } (some r):=
 ⟨rfl,rfl,rfl,by simp,λk _ hk=>by
  have:r≠k:=λh=>hk (by rw[h])
  simp[this]⟩
theorem Km(l:List MapEntry)(j:Nat)(k v:Value):(l.modify j λe=>{ e with key:=k,val:=v }).map (·.born)=l.map (·.born):=by
 induction l generalizing j with
 |nil=>cases j<;>simp
 |cons m l ih=>
  cases j with
  |zero=>simp
  |succ j=>simp[List.modify_succ_cons,ih]
section
variable {P:Program} {σ:St} {o:Oper} {K:St->Prop}
theorem Jy{t:TypeId}{m k x:Operand}(ho:o.op=.mapUpdate t m k x\/o.op=.insert t m k x)
  (h:kR (dG (bQ true (σ.ev m)) λm'=>dG (bQ true (σ.ev k)) λk'=>dG (bQ true (σ.ev x)) λx'=>mapPutR P σ.h (P.mapT t) m' k' x') (λh'=>K { σ with h:=h' })):∃σ',K σ'/\aU4 P o σ σ':=by
 have h0:dB true (σ.ev m) λm'=>dB true (σ.ev k) λk'=>dB true (σ.ev x) λx'=>kR (mapPutR P σ.h (P.mapT t) m' k' x') (λh'=>K { σ with h:=h' }):=
  cN (λy hy=>cN (λz hz=>cN (λu hu=>hu) hz) hy) h
 obtain⟨m',h1,hm⟩:=cB h0;obtain⟨k',h2,hk⟩:=cB h1;obtain⟨x',h3,hx⟩:=cB h2;clear h h0 h1 h2;unfold mapPutR mapPutR.mpA at h3;split at h3
 .rename_i kt et i kv hu;split at h3
  .rename_i d es hd hl;obtain⟨⟨hkd,hks⟩,hK⟩:=h3;refine⟨_,hK,λE a w hr=>?_⟩;have e1:=hm w E _ rfl (hr.ev m);have e2:=(aJ (hk w E _ rfl (hr.ev k))).1;have e4:=hx w E _ rfl (hr.ev x);obtain⟨hv,hB0,r,entries,clock,rfl,h3,h4,h5,h6⟩:=hr.rel.has i _ hl;have hB:E.B i=some (.map (some r)):=hB0;simp only[RdV]at e1;have e3:=e1.2.2 _ (.inl hB);unfold Program.mapT at hu;split at hu
   .rename_i kt' et' hut;injection hu with hu;injection hu with q1 q2;subst q1 q2;have hgo:(getObj r).run P w=.ok (.map entries clock) w:=by simp[getObj,Sem.run,h3]
    have hexec:∀w',(Instr.mapUpdate t (.map (some r)) kv (a.eval x)).run P w=.ok () w'->(execOp a.eval o).run P w=.ok .skip w':=by
     intro w' hw;rcases ho with ho|ho<;>simp only[execOp,ho,e2,e3,Sem.run_bind,hw,Result.andThen_ok,Sem.run_pure]
    have hrlt:r<w.heap.size:=(Array.getElem?_eq_some_iff.1 h3).1;rcases findNow_ok hkd 0 h4 hks with ⟨q1,q2⟩|⟨y,j,e,q1,q2,q3,q4,q5⟩
    .refine⟨{ w with heap:=w.heap.setIfInBounds r (.map (entries.push { key:=kv,val:=a.eval x,born:=clock }) (clock+1)) },hexec _ ?_,?_⟩
     .simp only[Instr.mapUpdate,Sem.run_bind,run_underlying hut,Result.andThen_ok,hgo,sP hd hkd,sN hd q2,zA _ h3]
     .refine hr.upd hB hl (by simpa[aV]using xV w r _) (by simp) (λhE=>?_) rfl;refine⟨r,entries.push { key:=kv,val:=a.eval x,born:=clock },clock+1,rfl,by simp[hrlt],?_,?_,?_⟩
      .rw[Array.toList_push];exact(RdEs.put hkd (hE.rdV _ e4) (hE.rdEs _ h4) hks clock).1 q1
      .rw[Array.toList_push];intro e he;rcases List.mem_append.1 he with he|he
       .have:=h5 e he;omega
       .simp at he;subst he;exact Nat.lt_succ_self _
      .rw[Array.toList_push,List.map_append,List.nodup_append];refine⟨h6,by simp,?_⟩;intro b hb c hc;obtain⟨e,he,rfl⟩:=List.mem_map.1 hb;simp at hc;have:=h5 e he;omega
    .have hej:entries[j]?=some e:=by simpa using q4
     have hstay:((((entries[j]?).map (·.key)).getD kv))=kv:=by rw[hej];exact q5
     rw[Nat.zero_add]at q2;refine⟨{ w with heap:=w.heap.setIfInBounds r (.map (entries.modify j λe=>{ e with key:=kv,val:=a.eval x }) clock) },hexec _ ?_,?_⟩
     .simp only[Instr.mapUpdate,Sem.run_bind,run_underlying hut,Result.andThen_ok,hgo,sP hd hkd,sN hd q2,hstay,Instr.keyThatStays,Sq hkd,if_true,Sem.run_pure,zA _ h3]
     .refine hr.upd hB hl (by simpa[aV]using xV w r _) (by simp) (λhE=>?_) rfl;refine⟨r,entries.modify j λe=>{ e with key:=kv,val:=a.eval x },clock,rfl,by simp[hrlt],?_,?_,?_⟩
      .rw[Array.toList_modify];exact(RdEs.put hkd (hE.rdV _ e4) (hE.rdEs _ h4) hks clock).2 j _ q2
      .rw[Array.toList_modify];intro e' he';have:e'.born∈(entries.toList.modify j λe=>{ e with key:=kv,val:=a.eval x }).map (·.born):=List.mem_map.2 ⟨e',he',rfl⟩;rw[Km]at this;obtain⟨e2,he2,hb⟩:=List.mem_map.1 this;rw[<-hb];exact h5 e2 he2
      .rw[Array.toList_modify,Km];exact h6
   .cases hu
  .exact h3.elim
 .exact h3.elim
end
def indexA(P:Program)(G:Bool)(u:Option TypeDesc)(x ix:V):RO V:=
 match x,ix,u with
 | .agg cs,.t (.lit (.int _ n)),some (.array len e)=>ixS G cs n len e (P.szT e) P
 |x,ix,u=>aFk P G u x ix
where
 ixS (G:Bool) (cs:List V) (n:Int) (len:Nat) (e:TypeId) (k:Option Nat) (P:Program):RO V:=
  match k with
  |some k=>sC (G=true->0<=n/\n<len) (okR (Ph P e cs (n.toNat*k)))
  |none=>none
section
variable {P:Program} {G:Bool} {σ:St} {o:Oper} {K:V->Prop}
theorem aL9{t:TypeId}{x ix:Operand}(ho:o.op=.index t x ix)(h:dB G (σ.ev x) λx'=>dB G (σ.ev ix) λix'=>kR (indexA P G (P.underlying t) x' ix') K):∃x,K x/\(G=true->YV P o σ x):=by
 obtain⟨x',h0,hx⟩:=cB h;obtain⟨ix',h1,hix⟩:=cB h0;unfold indexA at h1;split at h1
 .rename_i cs kk n len e hu;unfold indexA.ixS at h1;split at h1
  .rename_i k hk;unfold sC okR at h1;split at h1
   .rename_i q v hv;split at hv
    .rename_i v' hv';injection hv with hv;injection hv with hv1 hv2;subst hv1 hv2;refine⟨_,h1.2,λhG=>cU λE a w hr=>?_⟩;have e1:=hx w E _ hG (hr.ev x);have e2:=(aJ (hix w E _ hG (hr.ev ix))).1;obtain⟨hn0,hn1⟩:=h1.1.1 hG;simp only[RdV]at e1;obtain⟨vs,e3,e4,e5⟩:=e1;obtain⟨u,hu1,hu2⟩:=aHp (P:=P) e4 e5 hv';refine⟨u,?_,hu2⟩;simp only[execOp,ho,e2,e3,Instr.index,asIntOf,Sem.run_bind,Sem.run_pure,Result.andThen_ok,run_underlying hu,hn0,hn1,and_self,if_true,jD hk,hu1]
    .cases hv
   .exact h1.elim
  .exact h1.elim
 .unfold aFk at h1;split at h1
  .rename_i s kk n hu _;refine⟨_,h1.2,λhG=>cU λE a w hr=>?_⟩;have e1:=(aJ (hx w E _ hG (hr.ev x))).1;have e2:=(aJ (hix w E _ hG (hr.ev ix))).1;obtain⟨h0,h1⟩:=h1.1 hG;refine⟨.int .u8 (s.data.toList.getD n.toNat 0).toNat,?_,eU rfl rfl⟩;have hlt:n.toNat<s.size:=by omega
   have hs:s[n.toNat]?=some (s.data.toList.getD n.toNat 0):=by
    rw[List.getD_eq_getElem?_getD,getElem?_pos s n.toNat hlt];have h2:n.toNat<s.data.toList.length:=by simpa using hlt
    rw[List.getElem?_eq_getElem h2];simp;rfl
   simp[execOp,ho,e1,e2,Instr.index,asIntOf,run_underlying hu,h0,hs]
  .exact h1.elim
def indexAddrA(P:Program)(G:Bool)(h:Heap)(u:Option TypeDesc)(e:Option TypeId)(x ix:V):RO V:=
 match u,ix with
 |some (.array len e),.t (.lit (.int _ n))=>iaS G h n len (P.szT e) x
 |_,ix=>indexAddrR P G h e x ix
where
 iaS (G:Bool) (h:Heap) (n:Int) (len:Nat) (k:Option Nat) (x:V):RO V:=
  match k,x with
  |some k,.own i=>sC (G=true->0<=n/\n<len) (fieldAddrR.isBox (h.look i) (.ptr i (n.toNat*k)))
  |some k,.ptr i off=>sC (G=true->0<=n/\n<len) (fieldAddrR.isBox (h.look i) (.ptr i (off+n.toNat*k)))
  |_,_=>none
theorem yG{t e:TypeId}{len k:Nat}(hu:P.underlying t=some (.array len e))(hk:P.szT e=some k){b off:Nat}{kk:IntKind}{n:Int}(h0:0<=n)(h1:n<len)(w:World):
  (Instr.indexAt t (.pointer (some ⟨b,off,none⟩)) (.int kk n)).run P w=.ok (.pointer (some ⟨b,off+n.toNat*k,none⟩)) w:=by
 simp[Instr.indexAt,asIntOf,run_underlying hu,jD hk,h0,h1,Instr.sureAddr,Addr.add_lit]
theorem Ss{t:TypeId}{x ix:Operand}(ho:o.op=.indexAddr t x ix)(h:dB G (σ.ev x) λx'=>dB G (σ.ev ix) λix'=>kR (indexAddrA P G σ.h (P.underlying t) (P.elemT t) x' ix') K):∃x,K x/\(G=true->YV P o σ x):=by
 obtain⟨x',h0,hx⟩:=cB h;obtain⟨ix',h1,hix⟩:=cB h0;clear h h0;have hfin:∀(x'':V),xT P G σ.h t x' ix' K ->∃x,K x/\(G=true->YV P o σ x):=λ_ h=>by
  unfold xT at h;split at h
  .rename_i kk n e ht;split at h
   .rename_i k d xs;split at h
    .rename_i hk;refine⟨_,h.2,λhG=>cU λE a w hr=>?_⟩;have e1:=hx w E _ hG (hr.ev x);have e2:=(aJ (hix w E _ hG (hr.ev ix))).1;obtain⟨hn0,hn1⟩:=h.1 hG;simp only[RdV]at e1;generalize hv:a.eval x=v at e1;have e1':=e1;cases e1 with
     |list _ _ _ A c hm hc hnn hkk ha hrr=>
      obtain⟨b,off,hA,_⟩:=ha n.toNat _ (rT (d:=d) (by omega));subst hA;refine⟨.pointer (some ⟨b,off+n.toNat*k,none⟩),by simp only[execOp,ho,e2,hv,Sem.run_bind,zB ht hk hn0 hn1,Result.andThen_ok,Sem.run_pure],?_⟩;simp only[RdV];exact⟨b,off,c,e1',by omega,by simp⟩
    .exact h.elim
   .rename_i i;split at h
    .rename_i e' k d xs hl;split at h
     .rename_i hk;refine⟨_,h.2,λhG=>cU λE a w hr=>?_⟩;have e1:=hx w E _ hG (hr.ev x);have e2:=(aJ (hix w E _ hG (hr.ev ix))).1;obtain⟨hn0,hn1⟩:=h.1 hG;simp only[RdV]at e1;obtain⟨b,c,vs,hB,h3,_,h4⟩:=aPw (n:=n.toNat) hr.rel hl (by omega);have e3:=e1.2.2 _ (.inl hB);refine⟨.pointer (some ⟨b,0+n.toNat*k,none⟩),by simp only[execOp,ho,e2,e3,Sem.run_bind,zB ht hk hn0 hn1,Result.andThen_ok,Sem.run_pure],?_⟩;simp only[RdV];exact⟨rfl,e1.2.1,λhv hb=>⟨b,xs.length,c,hr.rel.is hB hb,by omega,by simp⟩⟩
     .exact h.elim
    .rename_i k d xs hl;split at h
     .rename_i hk;refine⟨_,h.2,λhG=>cU λE a w hr=>?_⟩;have e0:=hx w E _ hG (hr.ev x);have e2:=(aJ (hix w E _ hG (hr.ev ix))).1;obtain⟨hn0,hn1⟩:=h.1 hG;simp only[RdV]at e0;obtain⟨hv',hF,hT⟩:=hr.rel.has i _ hl;have hv:a.eval x=hv':=e0.2.2 _ (.inr hF);have e1:RdT w E.S (.list k d xs) hv':=hT;have e1':=e1;cases e1 with
      |list _ _ _ A c hm hc hnn hkk ha hrr=>
       obtain⟨b,off,hA,_⟩:=ha n.toNat _ (rT (d:=d) (by omega));subst hA;refine⟨.pointer (some ⟨b,off+n.toNat*k,none⟩),by simp only[execOp,ho,e2,hv,Sem.run_bind,zB ht hk hn0 hn1,Result.andThen_ok,Sem.run_pure],?_⟩;simp only[RdV];exact⟨b,off,c,e1',by omega,by simp⟩
     .exact h.elim
    .exact h.elim
   .exact h.elim
  .exact h.elim
 unfold indexAddrA at h1;split at h1
 .rename_i len e kk n hu;unfold indexAddrA.iaS fieldAddrR.isBox at h1;split at h1
  .rename_i k i hk;split at h1
   .rename_i cs hl;refine⟨_,h1.2,λhG=>cU λE a w hr=>?_⟩;obtain⟨hn0,hn1⟩:=h1.1.1 hG;have e1:=hx w E _ hG (hr.ev x);have e2:=(aJ (hix w E _ hG (hr.ev ix))).1;obtain⟨b,vs,ty,hB,hh,q1,q2⟩:=qY hr.rel hl;simp only[RdV]at e1;have e3:=e1.2.2 _ (.inl hB);refine⟨.pointer (some ⟨b,0+n.toNat*k,none⟩),by simp only[execOp,ho,e2,e3,Sem.run_bind,yG hu hk hn0 hn1,Result.andThen_ok,Sem.run_pure],?_⟩;simp only[RdV];exact⟨rfl,e1.2.1,λhv hb=>⟨b,hr.rel.is hB hb,by simp⟩⟩
   .exact h1.elim
  .rename_i k i off hk;split at h1
   .rename_i cs hl;refine⟨_,h1.2,λhG=>cU λE a w hr=>?_⟩;obtain⟨hn0,hn1⟩:=h1.1.1 hG;have e1:=hx w E _ hG (hr.ev x);have e2:=(aJ (hix w E _ hG (hr.ev ix))).1;obtain⟨b,vs,ty,hB,hh,q1,q2⟩:=qY hr.rel hl;simp only[RdV]at e1;obtain⟨b',e4,e3⟩:=e1.2.2 _ (.inl hB);injection e4 with e4;injection e4 with e4;injection e4 with e4;subst e4;refine⟨.pointer (some ⟨b,off+n.toNat*k,none⟩),by simp only[execOp,ho,e2,e3,Sem.run_bind,yG hu hk hn0 hn1,Result.andThen_ok,Sem.run_pure],?_⟩;simp only[RdV];exact⟨rfl,e1.2.1,λhv hb=>⟨b,hr.rel.is hB hb,rfl⟩⟩
   .exact h1.elim
  .exact h1.elim
 .exact hfin .dead (Tb h1)
def Hu(fn:Fn)(first:List Operand)(xs:List V):RO V:=
 match fn,first with
 | .func f,[]=>some (True,.clo f xs)
 |_,_=>none
def useVsR(G:Bool):List V->Prop×List V
 |[]=>(True,[])
 |x::xs=>uvC (bQ G x) (useVsR G xs)
where
 uvC (a:Prop×V) (b:Prop×List V):Prop×List V:=
  match a,b with
  |(p,x),(q,r)=>(p/\q,x::r)
theorem Tu{F:List V->Prop}:∀(l:List V),(useVsR G l).1->F (useVsR G l).2->eE G l F
 |[],_,hf=>hf
 |x::r,hp,hf=>by
  unfold useVsR useVsR.uvC at hp hf;unfold eE;refine cN (α:=Unit) (f:=λy=>some ((useVsR G r).1/\F (y::(useVsR G r).2),())) (K:=λ_=>True) (λy hy=>?_) ?_
  .exact Tu r hy.1.1 hy.1.2
  .unfold dG sC;exact⟨⟨hp.1,hp.2,hf⟩,trivial⟩
def mfR(fn:Fn)(first:List Operand)(ps:Prop×List V):RO V:=
 match ps with
 |(p,xs)=>sC p (Hu fn first xs)
theorem aBr{fn:Fn}{first captured:Array Operand}(ho:o.op=.makeFunc fn first captured)(h:kR (mfR fn first.toList (useVsR G (captured.toList.map σ.ev))) K):∃x,K x/\(G=true->YV P o σ x):=by
 generalize hps:useVsR G (captured.toList.map σ.ev)=ps at h;obtain⟨p,xs⟩:=ps;cases fn with
 |func f=>
  cases hfl:first.toList with
  |nil=>
   rw[hfl]at h;have hf0:first=#[]:=by apply Array.ext';simpa using hfl
   subst hf0;have h':(p/\True)/\K (.clo f xs):=h;have hu:eE G (captured.toList.map σ.ev) λxs=>K (.clo f xs):=Tu _ (by rw[hps];exact h'.1.1) (by rw[hps];exact h'.2)
   obtain⟨ys,hK,hys⟩:=mP hu;refine⟨_,hK,λhG=>cU λE a w hr=>⟨.func (.func f) #[] (captured.map a.eval),by simp[execOp,ho,Instr.makeFunc],?_⟩⟩;simp only[RdV];refine⟨_,rfl,?_⟩;rw[Array.toList_map];exact hys w E _ hG (kL hr captured.toList)
  |cons y r=>rw[hfl]at h;exact h.elim
 |_=>simp only[mfR,Hu,sC]at h;exact h.elim
end
def bndR(G:Bool)(o:Option V)(z:Int):RO Int:=
 match o with
 |none=>some (True,z)
 |some x=>bndX (bQ G x)
where
 bndX (s:Prop×V):RO Int:=
  match s with
  |(p,.t (.lit (.int _ n)))=>some (p,n)
  |_=>none
def slcC(G:Bool)(p q:Prop)(l h:Int)(n:Nat)(y:V):RO V:=some (p/\q/\(G=true->0<=l/\l<=h/\h<=n),y)
def aKx(G:Bool)(l h:RO Int)(n:Nat)(f:Int->Int->V):RO V:=
 match l,h with
 |some (p,l),some (q,h)=>slcC G p q l h n (f l h)
 |_,_=>none
def slcT(k:Nat)(d:List T)(xs:List (List T))(l h:Int):V:=.t (.list k d ((xs.take h.toNat).drop l.toNat))
def slcS(s:ByteArray)(l h:Int):V:=.t (.lit (.string (s.extract l.toNat h.toNat)))
def slcW(i k:Nat)(l h:Int):V:=.rsl i k l.toNat h.toNat
def slcR(P:Program)(G:Bool)(hp:Heap)(u:Option TypeDesc)(x:V)(lo hi:Option V):RO V:=
 match u,x with
 |some .string,.t (.lit (.string s))=>aKx G (bndR G lo 0) (bndR G hi s.size) s.size (slcS s)
 |some (.slice e),.t (.list k d xs)=>slcE G k d xs lo hi (P.szT e)
 |some (.slice e),.own i=>slcO G i lo hi (P.szT e) (hp.look i)
 |_,_=>none
where
 slcE (G:Bool) (k:Nat) (d:List T) (xs:List (List T)) (lo hi:Option V) (sz:Option Nat):RO V:=
  if sz=some k then aKx G (bndR G lo 0) (bndR G hi xs.length) xs.length (slcT k d xs)else none
 slcO (G:Bool) (i:Nat) (lo hi:Option V) (sz:Option Nat) (b:Option Blk):RO V:=
  match b with
  |some (.shr (.list k d xs))=>slcE G k d xs lo hi sz
  |some (.row _ k _ xs)=>if sz=some k then aKx G (bndR G lo 0) (bndR G hi xs.length) xs.length (slcW i k)else none
  |_=>none
section
variable {P:Program} {G:Bool} {σ:St} {o:Oper} {K:V->Prop}
theorem Up{x:Value}{kk:IntKind}{n:Int}{y:Nat}{c:BoundsCode}(hx:x=.int kk n)(h0:0<=n)(h1:n<=y)(w:World):(Instr.sliceBound x y c).run P w=.ok n.toNat w:=by
 subst hx;simp[Instr.sliceBound,asIntOf,h0,h1]
def Sp(o:Option Value)(z n:Int):Prop:=
 match o with
 |none=>n=z
 |some v=>∃kk,v=.int kk n
theorem Jq{w:World}{E:Env}{a:Act}(hr:RelF E σ a w)(hG:G=true){lo:Option Operand}{z n:Int}{p:Prop}(h:bndR G (lo.map σ.ev) z=some (p,n))(hp:p):Sp (lo.map a.eval) z n:=by
 cases lo with
 |none=>simp only[Option.map_none,bndR,Option.some.injEq,Prod.mk.injEq]at h;exact h.2.symm
 |some x=>
  simp only[Option.map_some,bndR]at h;unfold bndR.bndX at h;split at h
  .rename_i p' kk n' heq;injection h with h;injection h with h1 h2;subst h1 h2;have h3:dB G (σ.ev x) λy=>y=.t (.lit (.int kk n')):=by
    refine cN (α:=Unit) (f:=λy=>some (y=.t (.lit (.int kk n')),())) (K:=λ_=>True) (λy hy=>hy.1) ?_;rw[heq];unfold dG sC;exact⟨⟨hp,rfl⟩,trivial⟩
   obtain⟨y,rfl,hy⟩:=cB h3;exact⟨kk,(aJ (hy w E _ hG (hr.ev x))).1⟩
  .cases h
theorem qA{lo hi:Option Value}{len cap:Nat}{l h:Int}(hl:Sp lo 0 l)(hh:Sp hi len h)(h0:0<=l)(h1:l<=h)(h2:h<=cap)(b:Bool)(w:World):
  (Instr.sliceBounds b len cap lo hi none).run P w=.ok (l.toNat,h.toNat,cap) w:=by
 have key:∀(hv:Nat),(hv:Int)=h->((match lo with
   |some v=>Instr.sliceBound v hv .sliceB
   |none=>pure 0:Sem Nat)).run P w=.ok l.toNat w:=by
  intro hv hhv;cases lo with
  |none=>simp only[Sp]at hl;subst hl;simp
  |some v=>obtain⟨kk,rfl⟩:=hl;exact Up rfl h0 (by omega) w
 unfold Instr.sliceBounds;cases hi with
 |none=>
  simp only[Sp]at hh;subst hh;simp only[Sem.run_bind,Sem.run_pure,Result.andThen_ok];have:=key len rfl;cases lo with
  |none=>simp only[Sp]at hl;subst hl;simp
  |some v=>simp only at this;simp[this]
 |some v=>
  obtain⟨kk,rfl⟩:=hh;simp only[Sem.run_bind,Sem.run_pure,Result.andThen_ok];have hb:=λc=>Up (P:=P) (x:=.int kk h) (c:=c) rfl (by omega) h2 w
  have:=key h.toNat (by omega);cases b<;>simp only[Bool.false_eq_true,if_false,if_true,hb,Result.andThen_ok] <;>
   (cases lo with
   |none=>simp only[Sp]at hl;subst hl;simp
   |some v=>simp only at this;simp[this])
theorem rdT_sub{w:World}{S:Nat->Prop}{k:Nat}{d:List T}{xs:List (List T)}{A:Option Addr}{n c l h:Nat}(hT:RdT w S (.list k d xs) (.slice A n c))(hlh:l<=h)(hh:h<=xs.length):
  RdT w S (.list k d ((xs.take h).drop l)) (.slice (if c=l then A else A.map (·.add (l*k))) (h-l) (c-l)):=by
 generalize hv:Value.slice A n c=v at hT;cases hT with
 |list _ _ _ A' c' hm hc hn hk ha hr=>
  injection hv with e1 e2 e3;subst e1 e2 e3;have hlen:((xs.take h).drop l).length=h-l:=by simp;omega
  have hget:∀i e,((xs.take h).drop l)[i]?=some e->xs[l+i]?=some e:=by
   intro i e he;rw[List.getElem?_drop,List.getElem?_take]at he;split at he
   .exact he
   .cases he
  rw[<-hlen];refine .list k d _ _ _ (by rw[hlen];omega) (by rw[hlen];omega) ?_ ?_ ?_ ?_
  .intro hA;split at hA
   .omega
   .cases A with
    |none=>rw[hn rfl];omega
    |some x=>cases hA
  .intro e he;exact hk e (List.mem_of_mem_take (List.mem_of_mem_drop he))
  .intro i e he;have he':=hget i e he;have hlt:=(List.getElem?_eq_some_iff.1 he').1;obtain⟨b,off,rfl,hb,hj⟩:=ha (l+i) e he';have hcl : ¬c=l:=by
    have:i<h-l:=by rw[<-hlen];exact(List.getElem?_eq_some_iff.1 he).1
    omega
   refine⟨b,off+l*k,by rw[if_neg hcl];simp[Addr.add_lit],hb,λj x hx=>?_⟩;obtain⟨u,hu⟩:=hj j x hx;exact⟨u,by rw[show off+l*k+i*k+j=off+(l+i)*k+j from by rw[Nat.add_mul];omega];exact hu⟩
  .intro i e j x b off u he hx hA hu;have he':=hget i e he;obtain⟨b0,off0,rfl,_,_⟩:=ha (l+i) e he';have hcl : ¬c=l:=by
    have:i<h-l:=by rw[<-hlen];exact(List.getElem?_eq_some_iff.1 he).1
    omega
   rw[if_neg hcl]at hA;simp only[Option.map_some,Addr.add_lit,Option.some.injEq,Addr.mk.injEq]at hA;obtain⟨rfl,rfl,_⟩:=hA;exact hr (l+i) e j x b0 off0 u he' hx rfl (by rw[show off0+(l+i)*k+j=off0+l*k+i*k+j from by rw[Nat.add_mul];omega];exact hu)
theorem aAy{t:TypeId}{x:Operand}{lo hi:Option Operand}{x':V}(ho:o.op=.slice t x lo hi none)(h1:kR (slcR P G σ.h (P.underlying t) x' (lo.map σ.ev) (hi.map σ.ev)) K):
  ∃y,K y /\∀E a w,G=true->RelF E σ a w->RdV w E x' (a.eval x) ->∃v,(execOp a.eval o).run P w=.ok (.value v) w/\RdV w E y v:=by
 have hcase:∀{n:Nat} {f:Int->Int->V} {z:Int},kR (aKx G (bndR G (lo.map σ.ev) 0) (bndR G (hi.map σ.ev) z) n f) K ->∃l h p q,bndR G (lo.map σ.ev) 0=some (p,l)/\bndR G (hi.map σ.ev) z=some (q,h)/\p/\q/\(G=true->0<=l/\l<=h/\h<=n)/\K (f l h):=by
  intro n f z hk;unfold aKx slcC at hk;split at hk
  .rename_i p l q h e1 e2;exact⟨l,h,p,q,e1,e2,hk.1.1,hk.1.2.1,hk.1.2.2,hk.2⟩
  .exact hk.elim
 have hlist:∀(e:TypeId) (k:Nat) (d:List T) (xs:List (List T)),P.underlying t=some (.slice e)->(∀(w:World) (E:Env) (a:Act),RelF E σ a w->RdV w E x' (a.eval x)->RdT w E.S (.list k d xs) (a.eval x))->kR (slcR.slcE G k d xs (lo.map σ.ev) (hi.map σ.ev) (P.szT e)) K ->∃y,K y /\∀E a w,G=true->RelF E σ a w->RdV w E x' (a.eval x) ->∃v,(execOp a.eval o).run P w=.ok (.value v) w/\RdV w E y v:=by
  intro e k d xs hu hxs hk;unfold slcR.slcE at hk;split at hk
  .rename_i hsz;obtain⟨l,hh,p,q,b1,b2,hp,hq,hb,hK⟩:=hcase hk;refine⟨_,hK,λE a w hG hr hxx=>?_⟩;have e1:=hxs w E a hr hxx;obtain⟨q0,q1,q2⟩:=hb hG;have hl:=Jq hr hG b1 hp;have hh':=Jq hr hG b2 hq;obtain⟨A,c,e2,hc⟩:=Bf e1;rw[e2]at e1;have hs:=rdT_sub (l:=l.toNat) (h:=hh.toNat) e1 (by omega) (by omega);have hbd:=qA (P:=P) (len:=xs.length) (cap:=c) hl hh' q0 q1 (by omega) true w;refine⟨_,?_,by simp only[slcT,RdV];exact hs⟩;simp only[execOp,ho,e2,Instr.sliceAt,Sem.run_bind,run_underlying hu,Result.andThen_ok,Instr.slice,Option.map_none,hbd,jD hsz,Sem.run_pure]
  .exact hk.elim
 unfold slcR at h1;split at h1
 .rename_i s hu;obtain⟨l,hh,p,q,b1,b2,hp,hq,hb,hK⟩:=hcase h1;refine⟨_,hK,λE a w hG hr hxx=>?_⟩;have e1:=aJ hxx;obtain⟨q0,q1,q2⟩:=hb hG;have hl:=Jq hr hG b1 hp;have hh':=Jq hr hG b2 hq;have hbd:=qA (P:=P) (len:=s.size) (cap:=s.size) hl hh' q0 q1 q2 false w;refine⟨.string (s.extract l.toNat hh.toNat),?_,?_⟩
  .simp only[execOp,ho,e1.1,Instr.sliceAt,Sem.run_bind,run_underlying hu,Result.andThen_ok,Instr.slice,Option.map_none,Option.isSome_none,Bool.false_eq_true,if_false,hbd,Sem.run_pure]
  .simp only[slcS,RdV];refine .lit _ rfl ?_;have h3:s.size<=maxLen:=e1.2.2;show(s.extract l.toNat hh.toNat).size<=maxLen
   rw[ByteArray.size_extract];omega
 .rename_i e k d xs hu;exact hlist e k d xs hu (λw E a hr hxx=>by simpa only[RdV]using hxx) h1
 .rename_i e i hu;unfold slcR.slcO at h1;split at h1
  .rename_i k d xs hl;refine hlist e k d xs hu (λw E a hr this=>?_) h1;obtain⟨hv,hF,hT⟩:=hr.rel.has i _ hl;simp only[RdV]at this;rw[this.2.2 _ (.inr hF)];exact hT
  .rename_i e' k d xs hl;split at h1
   .rename_i hsz;obtain⟨l,hh,p,q,b1,b2,hp,hq,hb,hK⟩:=hcase h1;refine⟨_,hK,λE a w hG hr hxx=>?_⟩;obtain⟨hv,hB0,cells,h2,_,_,_⟩:=hr.rel.has i _ hl;have hB:E.B i=some hv:=hB0;obtain⟨A,c,rfl,hnc⟩:∃A c,hv=.slice A xs.length c/\xs.length<=c:=by
     rcases h2.2 with ⟨rfl,h0⟩|⟨g,cap,cur,rfl,_,hg,hcap,_⟩
     .exact⟨none,0,by rw[h0],by omega⟩
     .exact⟨_,cap,rfl,hcap⟩
    simp only[RdV]at hxx;have e2:=hxx.2.2 _ (.inl hB);obtain⟨q0,q1,q2⟩:=hb hG;have hl':=Jq hr hG b1 hp;have hh':=Jq hr hG b2 hq;have hbd:=qA (P:=P) (len:=xs.length) (cap:=c) hl' hh' q0 q1 (by omega) true w;refine⟨.slice (if c=l.toNat then A else A.map (·.add (l.toNat*k))) (hh.toNat-l.toNat) (c-l.toNat),?_,?_⟩
    .simp only[execOp,ho,e2,Instr.sliceAt,Sem.run_bind,run_underlying hu,Result.andThen_ok,Instr.slice,Option.map_none,hbd,jD hsz,Sem.run_pure]
    .simp only[slcW,RdV];refine⟨rfl,hxx.2.1,λhv' hI=>?_⟩;have:hv'=.slice A xs.length c:=by
      rcases hI with hI|hI
      .rw[hB]at hI;injection hI with hI;exact hI.symm
      .have:=(hr.rel.domF i hv' hI).2;rw[hB]at this;cases this
     subst this;exact⟨A,xs.length,c,rfl,by omega,by omega,rfl⟩
   .exact h1.elim
  .exact h1.elim
 .exact h1.elim
theorem aQ7{t:TypeId}{x:Operand}{lo hi:Option Operand}(ho:o.op=.slice t x lo hi none)(h:kR (dG (bQ G (σ.ev x)) λx'=>slcR P G σ.h (P.underlying t) x' (lo.map σ.ev) (hi.map σ.ev)) K):∃x,K x/\(G=true->YV P o σ x):=by
 have h0:dB G (σ.ev x) λx'=>kR (slcR P G σ.h (P.underlying t) x' (lo.map σ.ev) (hi.map σ.ev)) K:=cN (λy hy=>hy) h
 obtain⟨x',h1,hx⟩:=cB h0;obtain⟨y,hK,hy⟩:=aAy ho h1;exact⟨y,hK,λhG=>cU λE a w hr=>hy E a w hG hr (hx w E _ hG (hr.ev x))⟩
theorem aH0{t:TypeId}{x:Operand}{lo hi:Option Operand}{x':V}(ho:o.op=.slice t x lo hi none){E:Env}{a:Act}{w:World}(hx:RdV w E x' (a.eval x))(hr:RelF E σ a w)
  (h1:kR (slcR P true σ.h (P.underlying t) x' (lo.map σ.ev) (hi.map σ.ev)) K):∃y,K y /\∃v,(execOp a.eval o).run P w=.ok (.value v) w/\RdV w E y v:=by
 obtain⟨y,hK,hy⟩:=aAy ho h1;exact⟨y,hK,hy E a w rfl hr hx⟩
end
def mmR(b:Builtin)(x y:V):RO V:=
 match b,x,y with
 | .min,.t (.lit (.int k a)),.t (.lit (.int _ c))=>some (True,.t (.lit (.int k (min a c))))
 | .max,.t (.lit (.int k a)),.t (.lit (.int _ c))=>some (True,.t (.lit (.int k (max a c))))
 |_,_,_=>none
section
variable {P:Program} {G:Bool} {σ:St} {o:Oper} {K:V->Prop}
theorem Uz{b:Builtin}{x y:Operand}{tys:Array TypeId}(ho:o.op=.call { callee:=.builtin b,args:=#[x,y],argTypes:=tys })
  (h:kR (dG (bQ G (σ.ev x)) λx'=>dG (bQ G (σ.ev y)) λy'=>mmR b x' y') K):∃x,K x/\(G=true->YV P o σ x):=by
 have h0:dB G (σ.ev x) λx'=>dB G (σ.ev y) λy'=>kR (mmR b x' y') K:=cN (λy hy=>cN (λz hz=>hz) hy) h
 obtain⟨x',h1,hx⟩:=cB h0;obtain⟨y',h2,hy⟩:=cB h1;unfold mmR at h2;split at h2
 .rename_i k a k' c;refine⟨_,h2.2,λhG=>cU λE ac w hr=>⟨.int k (min a c),?_,eU rfl rfl⟩⟩;rw[show min a c=if c<a then c else a from by split<;>omega];simp[execOp,ho,resolve,invoke,builtin,(aJ (hx w E _ hG (hr.ev x))).1,(aJ (hy w E _ hG (hr.ev y))).1,Builtin.min_,Builtin.min2]
 .rename_i k a k' c;refine⟨_,h2.2,λhG=>cU λE ac w hr=>⟨.int k (max a c),?_,eU rfl rfl⟩⟩;rw[show max a c=if c>a then c else a from by split<;>omega];simp[execOp,ho,resolve,invoke,builtin,(aJ (hx w E _ hG (hr.ev x))).1,(aJ (hy w E _ hG (hr.ev y))).1,Builtin.max_,Builtin.max2]
 .exact h2.elim
end
def aS3(x:V):Option FuncId:=
 match x with
 | .clo f _=>some f
 | .t (.lit (.func (.func f) ⟨[]⟩ ⟨[]⟩))=>some f
 |_=>none
def aJg(K:St->Prop)(σ:St)(f:Option FuncId):Prop:=
 match f with
 |some f=>xU σ.df=false/\K { σ with df:=.fn f::σ.df }
 |none=>False
def aDa(σ:St)(d:Option Tmp)(c:Callee)(args:List Operand)(K:St->Prop):Prop:=
 match c,args,d with
 | .value x,[],none=>dB true (σ.ev x) λx'=>aJg K σ (aS3 x')
 |_,_,_=>False
theorem aQk{P:Program}{σ:St}{o:Oper}{K:St->Prop}{c:Call}(ho:o.op=.defer c)(h:aDa σ o.dst c.callee c.args.toList K):OpW P o σ K:=by
 unfold aDa at h;split at h
 .rename_i x hc ha hd;obtain⟨x',h1,hx⟩:=cB h;unfold aJg at h1;split at h1
  .rename_i f hf;intro E a w hr next Q hn;have hxv:=hx w E _ rfl (hr.ev x);obtain⟨caps,he⟩:∃caps:Array Value,a.eval x=.func (.func f) #[] caps:=by
    unfold aS3 at hf;split at hf
    .injection hf with hf;subst hf;simp only[RdV]at hxv;obtain⟨vs,h,_⟩:=hxv;exact⟨vs,h⟩
    .injection hf with hf;subst hf;exact⟨#[],(aJ hxv).1⟩
    .cases hf
   have harg:c.args=#[]:=by apply Array.ext';simpa using ha
   unfold Oper.wp;have hrun:(execOp a.eval o).run P w=.ok (.defer { target:=.fn (.func f) caps,args:=#[] }) w:=by
    simp[execOp,ho,resolve,hc,he,harg,Deferred.ofValue]
   rw[hrun];simp only[Oper.upon];have hput:({ a with defers:={ target:=.fn (.func f) caps,args:=#[] }::a.defers }:Act).put o.dst undef={ a with defers:={ target:=.fn (.func f) caps,args:=#[] }::a.defers }:=by rw[hd];rfl
   rw[hput];exact hn _ w E { σ with df:=.fn f::σ.df } ⟨hr.rel,hr.bound,hr.fr,⟨⟨caps,rfl⟩,hr.defers⟩⟩ (Ext.refl E w) h1.2
  .exact h1.elim
 .exact h.elim
def Wd(ro:Option Nat):Fence:={ Fence.wide with round:=ro }
theorem Rz{ro:Option Nat}{n:Nat}{P:Program}{f:FuncId}{args:Array Value}{w:World}{R:Ending->World->Prop}(h:Calls P f args w R):CallsIn (Wd ro) n P f args w R:=(callsIn_wide (n:=n)).2 h
theorem aL5{ro:Option Nat}{n:Nat}{P:Program}{row:String}{args:Array Value}{w:World}{R:Value->World->Prop}(h:Rows P row args w R):RowsIn (Wd ro) n P row args w R:=λc cs _=>by
 obtain⟨v,w',r,s⟩:=h c cs;exact⟨v,w',r,stepsIn_wide.2 s⟩
theorem fE{P:Program}{o:Oper}{a:Act}{w:World}{next:Act->World->Prop}{Q:Exit->Act->World->Prop}{ro:Option Nat}{n:Nat}(hd:ro=none \/∀c,o.op ≠ .defer c)(h:o.wp P a w next Q):o.wpIn (Wd ro) n P a w next Q:=by
 unfold Oper.wp at h;refine⟨λ_ _=>trivial,?_⟩;have e:Oper.semAt (Wd ro).round a.eval o=execOp a.eval o:=by
  rcases hd with rfl|hd
  .rfl
  .exact Oper.semAt_eq _ _ _ hd
 rw[e];generalize(execOp a.eval o).run P w=r at h;cases r with
 |ok x w'=>
  cases x<;>simp only[Oper.upon,Oper.uponIn]at h ⊢ <;>
   first
    |exact h
    |exact⟨λhq=>by simp[Wd,Fence.wide]at hq,Rz h⟩
    |exact⟨λhq=>by simp[Wd,Fence.wide]at hq,aL5 h⟩
    |exact h.elim
 |halt x w'=>cases x<;>simp only[Oper.upon,Oper.uponIn]at h ⊢ <;> first|exact h|exact h.elim
def Env.at0(E:Env)(ro:Option Nat):Env:={ E with ro:=ro }
mutual
theorem RdV.ro{w:World}{E:Env}(ro:Option Nat):∀(x:V) {v:Value},RdV w E x v->RdV w (E.at0 ro) x v
 | .t x,v,hx=>by simp only[RdV]at hx⊢; exact hx
 | .agg cs,v,hx=>by
  simp only[RdV]at hx⊢;obtain⟨vs,hv,h1,h2⟩:=hx;exact⟨vs,hv,RdVs.ro ro cs h1,h2⟩
 | .tup cs,v,hx=>by
  simp only[RdV]at hx⊢;obtain⟨vs,hv,h1⟩:=hx;exact⟨vs,hv,RdVs.ro ro cs h1⟩
 | .own i,v,hx=>by simp only[RdV]at hx⊢; exact hx
 | .ptr i off,v,hx=>by simp only[RdV]at hx⊢; exact hx
 | .rptr i k n j,v,hx=>by simp only[RdV]at hx⊢; exact hx
 | .rsl i k n j,v,hx=>by simp only[RdV]at hx⊢; exact hx
 | .elem k d xs i j,v,hx=>by simp only[RdV]at hx⊢; exact hx
 | .cond g x,v,hx=>by
  simp only[RdV]at hx⊢;exact⟨λhg=>RdV.ro ro x (hx.1 hg),hx.2⟩
 | .clo f cs,v,hx=>by
  simp only[RdV]at hx⊢;obtain⟨vs,hv,h1⟩:=hx;exact⟨vs,hv,RdVs.ro ro cs h1⟩
 | .dead,v,hx=>by simp only[RdV]
theorem RdVs.ro{w:World}{E:Env}(ro:Option Nat):∀(xs:List V) {vs:List Value},RdVs w E xs vs->RdVs w (E.at0 ro) xs vs
 |[],[],hx=>by simp only[RdVs]
 |x::xs,v::vs,hx=>by
  simp only[RdVs]at hx⊢;exact⟨RdV.ro ro x hx.1,RdVs.ro ro xs hx.2⟩
 |[],_::_,hx=>by simp only[RdVs]at hx
 |_::_,[],hx=>by simp only[RdVs]at hx
end
theorem RdEs.ro{w:World}{E:Env}(ro:Option Nat):∀{xs:List (Value×V)} {es:List MapEntry},RdEs w E xs es->RdEs w (E.at0 ro) xs es
 |[],[],hx=>trivial
 |(k,x)::xs,e::es,hx=>⟨hx.1,hx.2.1.ro ro,RdEs.ro ro hx.2.2⟩
 |[],_::_,hx=>hx.elim
 |_::_,[],hx=>hx.elim
theorem BlkRel.ro{w:World}{E:Env}(ro:Option Nat):∀{blk:Blk} {hv:Value},BlkRel w E blk hv->BlkRel w (E.at0 ro) blk hv
 | .box cs,hv,h=>by
  obtain⟨b,vs,ty,h1,h2,h3,h4⟩:=h;exact⟨b,vs,ty,h1,h2,h3.ro ro,h4⟩
 | .row e k d xs,hv,h=>by
  obtain⟨cells,h1,h2,h3⟩:=h;exact⟨cells,h1,h2.ro ro,h3⟩
 | .map es,hv,h=>by
  obtain⟨r,entries,clock,h1,h2,h3,h4⟩:=h;exact⟨r,entries,clock,h1,h2,h3.ro ro,h4⟩
 | .shr t,hv,h=>h
 | .loop st pend tmps ps assign body,hv,h=>by
  obtain⟨l,rec,h1,h2,h3,h4,h5,h6,h7,h8⟩:=h;exact⟨l,rec,h1,h2,h3,h4,h5,h6,h7,h8.ro ro⟩
 | .defd,hv,h=>h
theorem Rel.ro{w:World}{E:Env}{h:Heap}(ro:Option Nat)(hr:Rel w E h):Rel w (E.at0 ro) h:=
 ⟨λi blk hl=>by
  obtain⟨hv,h1,h2⟩:=hr.has i blk hl;exact⟨hv,by cases blk<;>exact h1,h2.ro ro⟩,hr.dom,hr.domF,hr.own,hr.apart,hr.slt,hr.dlt⟩
theorem Ext.at0{E0 E:Env}{w0 w:World}(ro:Option Nat)(h:Ext E0 w0 E w):Ext (E0.at0 ro) w0 (E.at0 ro) w:=
 ⟨h.os,h.tape,h.output,h.size,h.keep,h.S,h.S',h.D,h.U,h.B,h.W,rfl⟩
theorem Ext.back{E0 E:Env}{w0 w:World}{ro:Option Nat}(h:Ext (E0.at0 ro) w0 E w):Ext E0 w0 (E.at0 E0.ro) w:=
 ⟨h.os,h.tape,h.output,h.size,h.keep,h.S,h.S',h.D,h.U,h.B,h.W,rfl⟩
def sD(E0:Env)(w0:World)(Q:Exit->St->Prop):Exit->Act->World->Prop:=λe a w=>∃σ E,RelF E σ a w/\Ext E0 w0 E w/\Q e σ
def AWP(P:Program)(n0:Nat)(c:Code)(Q:Exit->St->Prop)(σ:St):Prop:=
 ∀E a w,RelF E σ a w ->∀E0 w0,(∀i,E0.U i->i<n0)->Ext E0 w0 E w->c.wpIn (Wd E.ro) 0 P (sD E0 w0 Q) a w
theorem Gr{P:Program}{n0:Nat}{c:Code}{Q Q':Exit->St->Prop}{σ:St}(h:AWP P n0 c Q σ)(hq:∀e σ,Q e σ->Q' e σ):AWP P n0 c Q' σ:=by
 intro E a w hr E0 w0 hU hE;exact wpIn_mono (h E a w hr E0 w0 hU hE) λe a' w' ⟨σ',E',h1,h2,h3⟩=>⟨σ',E',h1,h2,hq e σ' h3⟩
def OpI(P:Program)(o:Oper)(σ:St)(K:St->Prop):Prop:=
 ∀E a w,RelF E σ a w ->∀(next:Act->World->Prop) Q,(∀a' w' E' σ',RelF E' σ' a' w'->Ext E w E' w'->K σ'->next a' w')->o.wpIn (Wd E.ro) 0 P a w next Q
theorem vE{P:Program}{o:Oper}{σ:St}{K:St->Prop}(hd:xU σ.df=false \/∀c,o.op ≠ .defer c)(h:OpW P o σ K):OpI P o σ K:=by
 intro E a w hr next Q hn;exact fE (hd.imp (λh=>hr.defers.ro h) id) (h E a w hr next Q hn)
def uL:List V->List Tmp->List V->List V
 |fr,t::ts,x::xs=>uL (fr.set t x) ts xs
 |fr,_,_=>fr
theorem Nm{w:World}{E:Env}:∀{ps:List Tmp} {xs:List V} {vs:List Value} {fr:List V} {tmps:Array Value},RdVs w E fr tmps.toList->RdVs w E xs vs ->
  RdVs w E (uL fr ps xs) (((ps.zip vs).foldl (λ(tmps:Array Value) (t,a)=>tmps.setIfInBounds t a) tmps).toList)
 |[],_,_,fr,tmps,h,_=>by simpa[uL]using h
 |t::ts,[],[],fr,tmps,h,_=>by simpa[uL]using h
 |t::ts,x::xs,v::vs,fr,tmps,h,hx=>by
  simp only[RdVs]at hx;simp only[List.zip_cons_cons,List.foldl_cons,uL];exact Nm (by rw[Array.toList_setIfInBounds];exact RdVs.set hx.1 t h) hx.2
 |_::_,[],_::_,_,_,_,hx=>by simp only[RdVs]at hx
 |_::_,_::_,[],_,_,_,hx=>by simp only[RdVs]at hx
def aRh(e:Exit):Option (Option Code):=
 match e with
 | .normal=>some none
 | .ret=>some (some .ret)
 | .exit id=>some (some (.exit id))
 | .goto t=>some (some (.goto t))
 |_=>none
def aKs(j:Option Code):LoopState:=
 match j with
 |none=> .ready
 |some _=> .done
def Es(σ:St)(d:Option Tmp)(i:Nat)(K:St->Prop)(j:Option Code)(h:Heap)(nx:Nat)(b:Option Blk):Prop:=
 match b with
 |some (.loop .busy none tmps ps assign body)=>K (({ σ with h:=h.set i (.loop (aKs j) j tmps ps assign body),nx:=nx }:St).put d (aR j.isNone))
 |_=>False
def aH3(σ:St)(d:Option Tmp)(i:Nat)(K:St->Prop)(j:Option (Option Code))(σ2:St):Prop:=
 match j with
 |some j=>Es σ d i K j σ2.h σ2.nx (σ2.h.look i)
 |none=>False
def aPy(σ:St)(d:Option Tmp)(i:Nat)(K:St->Prop)(e:Exit)(σ2:St):Prop:=aH3 σ d i K (aRh e) σ2
def Hk(P:Program)(n0:Nat)(i:Nat)(text:Code)(R:Exit->St->Prop)(σ1:St)(b:Option Blk):Prop:=
 match b with
 |some (.loop .ready none tmps ps assign body)=>AWP P n0 text R { σ1 with h:= σ1.h.set i (.loop .busy none tmps ps assign body) }
 |_=>False
def Nu(P:Program)(n0:Nat)(i:Nat)(text:Code)(R:Exit->St->Prop)(e:Exit)(σ1:St):Prop:=
 match e with
 | .normal=>Hk P n0 i text R σ1 (σ1.h.look i)
 |_=>False
def aNd(P:Program)(σ:St)(d:Option Tmp)(i:Nat)(K:St->Prop)(tmps:List V)(ps:List Tmp)(assign body:Code)(xs:List V):Prop:=
 ps.length=xs.length/\AWP P σ.nx assign (Nu P σ.nx i body (aPy σ d i K)) { fr:=uL tmps ps xs,h:= σ.h,nx:= σ.nx,df:=[.rnd] }
def aK7(P:Program)(σ:St)(d:Option Tmp)(i:Nat)(K:St->Prop)(xs:List V)(b:Option Blk):Prop:=
 match b with
 |some (.loop .ready none tmps ps assign body)=>aNd P σ d i K tmps ps assign body xs
 |_=>False
theorem Fm{w:World}{E:Env}{h:Heap}{i:Nat}{st:LoopState}{pend:Option Code}{tmps:List V}{ps:List Tmp}{assign body:Code}(hr:Rel w E h)(hl:h.look i=some (.loop st pend tmps ps assign body)):
  ∃l rec,E.B i=some (.func (.yield l) #[] #[])/\w.heap[l]?=some (.loop rec)/\rec.state=st/\rec.pending=pend/\rec.params.toList=ps/\rec.assign=assign/\rec.body=body/\RdVs w E tmps rec.tmps.toList:=by
 obtain⟨hv,hB,l,rec,rfl,h2⟩:=hr.has i _ hl;exact⟨l,rec,hB,h2⟩
theorem RelF.loopSet{w:World}{E:Env}{σ:St}{a:Act}{i l:Nat}{st st':LoopState}{pend pend':Option Code}{tmps:List V}{ps:List Tmp}{assign body:Code}{rec:Loop}(hr:RelF E σ a w)
  (hl:σ.h.look i=some (.loop st pend tmps ps assign body)) (hB:E.B i=some (.func (.yield l) #[] #[])) (hw:w.heap[l]?=some (.loop rec)) :
  RelF E { σ with h:= σ.h.set i (.loop st' pend' tmps ps assign body) } a (w.putObj l (.loop { rec with state:=st',pending:=pend' }))/\Ext E w E (w.putObj l (.loop { rec with state:=st',pending:=pend' })):=by
 obtain⟨l',rec',hB',h2,h3,h4,h5,h6,h7,h8⟩:=Fm hr.rel hl;rw[hB]at hB';injection hB' with hB';injection hB' with hB';injection hB' with hB';subst hB';rw[hw]at h2;injection h2 with h2;injection h2 with h2;subst h2;have hlt:l<w.heap.size:=(Array.getElem?_eq_some_iff.1 hw).1;refine hr.upd hB hl ⟨rfl,rfl,rfl,by simp,λk hk hne=>World.putObj_heap_other λe=>hne (by rw[e];rfl)⟩ (by simp) (λhE=>?_) rfl;exact⟨l,{ rec with state:=st',pending:=pend' },rfl,World.putObj_heap_same hlt,rfl,rfl,h5,h6,h7,hE.rdVs _ h8⟩
def Env.drop(E:Env)(i:Nat):Env:={ E with B:=λq=>if q=i then none else E.B q,F:=λq=>if q=i then none else E.F q }
theorem RelF.drop{w:World}{E:Env}{σ:St}{a:Act}(hr:RelF E σ a w)(i:Nat):RelF (E.drop i) { σ with h:= σ.h.del i } a w/\Ext E w (E.drop i) w:=by
 have hE:Ext E w (E.drop i) w:=⟨rfl,rfl,rfl,Nat.le_refl _,λ_ _=>rfl,λ_ h=>h,λ_ h=> .inl h,λ_=> .rfl,λ_ h=>h,λq _ hv h=>by
  simp only[Env.drop]at h;split at h
  .cases h
  .exact h,λq _ hv h=>by
  simp only[Env.drop,Env.Is]at h;split at h
  .rcases h with h|h<;>cases h
  .exact h,rfl⟩
 refine⟨⟨⟨λq blk hl=>?_,λq hv hB=>?_,λq hv hF=>?_,λq hv b hB hb=>?_,λp q vp vq b hBp hBq hbp hbq=>?_,hr.rel.slt,hr.rel.dlt⟩,hr.bound,hE.rdVs _ hr.fr,hE.defs hr.defers⟩,hE⟩
 .rw[Heap.look_del]at hl;split at hl
  .cases hl
  .rename_i hq;obtain⟨hv,h1,h2⟩:=hr.rel.has q blk hl;exact⟨hv,by cases blk<;>simpa[Env.at,Env.drop,hq]using h1,h2.keep hE λ_ _=>rfl⟩
 .simp only[Env.drop]at hB;split at hB
  .cases hB
  .rename_i hq;obtain⟨h1,blk,h2⟩:=hr.rel.dom q hv hB;exact⟨h1,blk,by rw[Heap.look_del,if_neg hq];exact h2⟩
 .simp only[Env.drop]at hF⊢;split at hF
  .cases hF
  .rename_i hq;obtain⟨h1,h2⟩:=hr.rel.domF q hv hF;exact⟨h1,by rw[if_neg hq];exact h2⟩
 .simp only[Env.drop]at hB;split at hB
  .cases hB
  .exact hr.rel.own q hv b hB hb
 .simp only[Env.drop]at hBp hBq;split at hBp
  .cases hBp
  .split at hBq
   .cases hBq
   .exact hr.rel.apart p q vp vq b hBp hBq hbp hbq
theorem Rel.drop{w:World}{E:Env}{h:Heap}{nx:Nat}(hr:Rel w E h)(hbd:∀i,E.U i->i<nx)(i:Nat):Rel w (E.drop i) (h.del i)/\Ext E w (E.drop i) w:=by
 have h1:RelF E { fr:=[],h:=h,nx:=nx,df:=aL6 E } { tmps:=#[],defers:=[] } w:=⟨hr,hbd,by show RdVs w E [] [];simp only[RdVs],Lx⟩
 obtain⟨k1,k2⟩:=h1.drop i;exact⟨k1.rel,k2⟩
theorem aFw{E:Env}{i j:Nat}{hv:Value}(h:(E.drop i).B j=some hv):j≠i/\E.B j=some hv:=by
 simp only[Env.drop]at h;split at h
 .cases h
 .exact⟨by assumption,h⟩
theorem Ext.same{E0 E:Env}{w0 w:World}{i:Nat}{hv hv':Value}(h:Ext E0 w0 E w)(hi:E0.U i)(hB:E0.B i=some hv)(hB':E.B i=some hv'):hv'=hv:=by
 have:=h.B i hi _ hB';rw[hB]at this;injection this with this;exact this.symm
theorem uX{P:Program}{σ σ2:St}{d:Option Tmp}{i l:Nat}{K:St->Prop}{E E2:Env}{a a2:Act}{w w2:World}{next:Act->World->Prop}{hv:Value}(hv0:hv=.func (.yield l) #[] #[])(hr:RelF E σ a w)(hB:E.B i=some hv)
  (hn:∀a' w' E' σ',RelF E' σ' a' w'->Ext E w E' w'->K σ'->next a' w') (h1:RelF E2 σ2 a2 w2) (h2:Ext (E.at0 (some l)) w E2 w2) {j:Option Code} (h3:Es σ d i K j σ2.h σ2.nx (σ2.h.look i)) :
  ∃v w',(Instr.endRound l j).run P w2=.ok v w'/\next (a.put d v) w':=by
 unfold Es at h3;split at h3
 .rename_i tmps ps assign body hl;obtain⟨l2,rec,hB2,q2,q3,q4,q5,q6,q7,q8⟩:=Fm h1.rel hl;have he:=h2.same (hr.rel.dom i hv hB).1 hB hB2;rw[hv0]at he;injection he with he;injection he with he;subst he;obtain⟨k1,k2⟩:=h1.loopSet (st':=aKs j) (pend':=j) hl hB2 q2;refine⟨.bool j.isNone,_,?_,hn _ (w2.putObj l2 (.loop { rec with state:=aKs j,pending:=j })) (E2.at0 E.ro) _ ?_ ?_ h3⟩
  .rw[run_endRound j q2];cases j<;>rfl
  .have hx:=(h2.trans k2).back;have hr':RelF (E2.at0 E.ro) { σ with h:= σ2.h.set i (.loop (aKs j) j tmps ps assign body),nx:= σ2.nx } a (w2.putObj l2 (.loop { rec with state:=aKs j,pending:=j })):=⟨k1.rel.ro E.ro,k1.bound,hx.rdVs _ hr.fr,hx.defs hr.defers⟩
   exact hr'.put d (eU rfl rfl)
  .exact(h2.trans k2).back
 .exact h3.elim
theorem Sr{P:Program}{ρ:Operand->Value}{o:Oper}{x:Operand}{args:Array Operand}{tys:Array TypeId}{l:Nat}(ho:o.op=.call { callee:=.value x,args:=args,argTypes:=tys })(hx:ρ x=.func (.yield l) #[] #[])(w:World):
  (execOp ρ o).run P w=(Instr.yield l (args.map ρ)).run P w:=by
 simp[execOp,ho,resolve,hx,Deferred.ofValue,invoke]
theorem aLg{P:Program}{o:Oper}{σ:St}{K:St->Prop}{x:Operand}{args:Array Operand}{tys:Array TypeId}{i:Nat}{xs:List V}(ho:o.op=.call { callee:=.value x,args:=args,argTypes:=tys })
  (hx:∀(w:World) (E:Env) v,RdV w E (σ.ev x) v->RdV w E (.own i) v) (hxs:∀(w:World) (E:Env) vs,RdVs w E (args.toList.map σ.ev) vs->RdVs w E xs vs) (h:aK7 P σ o.dst i K xs (σ.h.look i)):OpI P o σ K:=by
 unfold aK7 at h;split at h
 .rename_i tmps ps assign body hl;obtain⟨hlen,h⟩:=h;intro E a w hr next Q hn;obtain⟨l,rec,hB,q2,q3,q4,q5,q6,q7,q8⟩:=Fm hr.rel hl;have hxv:=hx w E _ (hr.ev x);simp only[RdV]at hxv;have hval:a.eval x=.func (.yield l) #[] #[]:=hxv.2.2 _ (.inl hB);have hvs:=hxs w E _ (kL hr args.toList);have hsz:(args.map a.eval).size=rec.params.size:=by
   have e1:=RdVs.len hvs;have e2:rec.params.size=ps.length:=by rw[<-q5];simp
   simp only[List.length_map,Array.length_toList]at e1;simp only[Array.size_map];omega
  refine⟨λ_ _=>trivial,?_⟩;have e:Oper.semAt (Wd E.ro).round a.eval o=execOp a.eval o:=Oper.semAt_eq _ _ _ (λc hc=>by rw[ho]at hc;cases hc);rw[e,Sr ho hval,run_yield q2 hsz];refine⟨λhq=>by simp[Wd,Fence.wide]at hq,roundIn_of_wpIn trivial ?_⟩;have hrel:RelF (E.at0 (some l)) { fr:=uL tmps ps xs,h:= σ.h,nx:= σ.nx,df:=[.rnd] } { tmps:=(rec.params.zip (args.map a.eval)).foldl (λtmps (t,a)=>tmps.setIfInBounds t a) rec.tmps,defers:=[] } w:=by
   refine⟨hr.rel.ro _,hr.bound,?_,⟨rfl,rfl,rfl⟩⟩;have:=Nm (ps:=ps) q8 hvs;have e1:(rec.params.zip (args.map a.eval)).foldl (λ(tmps:Array Value) (t,a)=>tmps.setIfInBounds t a) rec.tmps=(ps.zip (args.toList.map a.eval)).foldl (λ(tmps:Array Value) (t,a)=>tmps.setIfInBounds t a) rec.tmps:=by
    rw[<-q5,<-Array.foldl_toList,Array.toList_zip,Array.toList_map]
   simp only[e1];exact this.ro _
  rw[q6,q7];have hU:∀q,(E.at0 (some l)).U q->q<σ.nx:=hr.bound;refine wpIn_mono (h (E.at0 (some l)) _ w hrel (E.at0 (some l)) w hU (Ext.refl _ _)) ?_;rintro e1 a1 w1 ⟨σ1,E1,h1,h2,h3⟩;cases e1 with
  |normal=>
   simp only[Nu]at h3;unfold Hk at h3;split at h3
   .rename_i tmps1 ps1 assign1 body1 hl1;obtain⟨l1,rec1,hB1,t2,t3,t4,t5,t6,t7,t8⟩:=Fm h1.rel hl1;have he:=h2.same (hr.rel.dom i _ hB).1 hB hB1;injection he with he;injection he with he;subst he;obtain⟨k1,k2⟩:=h1.loopSet (st':=.busy) (pend':=none) hl1 hB1 t2;refine⟨_,run_beginRound t2 t3,?_⟩;have e2:({ rec1 with state:=.busy }:Loop)={ rec1 with state:=.busy,pending:=none }:=by cases rec1;simp only at t4;rw[t4]
    rw[e2];have hro:E1.ro=some l1:=h2.ro;have hb:=h3 E1 a1 _ k1 (E.at0 (some l1)) w hU (h2.trans k2);rw[hro]at hb;refine wpIn_mono hb ?_;rintro e3 a3 w3 ⟨σ2,E2,g1,g2,g3⟩;cases e3 with
    |normal=>exact uX rfl hr hB hn g1 g2 g3
    |ret=>exact uX rfl hr hB hn g1 g2 g3
    |exit id=>exact uX rfl hr hB hn g1 g2 g3
    |goto t=>exact uX rfl hr hB hn g1 g2 g3
    |panic c=>exact g3.elim
    |outgrown=>exact g3.elim
   .exact h3.elim
  |_=>exact h3.elim
 .exact h.elim
