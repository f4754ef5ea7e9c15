/- Proved here: The abstract machine's walk of a text. -/
import Derived.Test.YtkjdkbmfaamhaaaGreatQ01
set_option linter.unusedSimpArgs false
set_option linter.unusedVariables false
set_option linter.unusedSectionVars false
set_option linter.unnecessarySimpa false
namespace Go.Proofs.YtkjdkbmfaamhaaaGreat
open Go.RowKit
def callC(P:Program)(G:Bool)(σ:St)(c:Callee)(args:List Operand)(tys:List TypeId)(K:V->Prop):Prop:=
 match c with
 | .builtin .len=>kR (lenC P G σ args tys) K
 | .builtin .min=>kR (mmC G σ .min args) K
 | .builtin .max=>kR (mmC G σ .max args) K
 | .value (.func f)=>eE G (args.map σ.ev) λxs=>Dw P G σ.h f xs K
 |_=>False
where
 lenC (P:Program) (G:Bool) (σ:St) (args:List Operand) (tys:List TypeId):RO V:=
  match args,tys with
  |[x],t::_=>dG (bQ G (σ.ev x)) λx'=>lenR (P.underlying t) σ.h x'
  |_,_=>none
 mmC (G:Bool) (σ:St) (b:Builtin) (args:List Operand):RO V:=
  match args with
  |[x,y]=>dG (bQ G (σ.ev x)) λx'=>dG (bQ G (σ.ev y)) λy'=>mmR b x' y'
  |_=>none
def evs(σ:St):List Operand->List V
 |[]=>[]
 |x::r=> σ.ev x::evs σ r
theorem aRz(σ:St):∀(l:List Operand),evs σ l=l.map σ.ev
 |[]=>rfl
 |x::r=>by simp[evs,aRz σ r]
def evO(σ:St)(o:Option Operand):Option V:=
 match o with
 |some x=>some (σ.ev x)
 |none=>none
theorem Je(σ:St)(o:Option Operand):evO σ o=o.map σ.ev:=by cases o<;>rfl
def qH(σ:St):List (Nat×Operand)->List (Nat×V)
 |[]=>[]
 |(i,x)::r=>(i,σ.ev x)::qH σ r
theorem Bg(σ:St):∀(l:List (Nat×Operand)),qH σ l=l.map λ(i,x)=>(i,σ.ev x)
 |[]=>rfl
 |(i,x)::r=>by simp[qH,Bg σ r]
def pB(P:Program)(G:Bool)(σ:St)(op:Op):RO V:=
 match op with
 | .move x=>some (True,σ.ev x)
 | .assign x=>some (True,σ.ev x)
 | .pick c a b=>dG (bQ G (σ.ev c)) λc'=>aHn G c' (σ.ev a) (σ.ev b)
 | .unOp op _ x=>dG (bQ G (σ.ev x)) λx'=>unR op x'
 | .binOp op t x y _=>dG (bQ G (σ.ev x)) λx'=>dG (bQ G (σ.ev y)) λy'=>binR P G op t x' y'
 | .load t a=>dG (bQ G (σ.ev a)) λa'=>loadR P G σ.h t a'
 | .fieldAddr t x f=>dG (bQ G (σ.ev x)) λx'=>fieldAddrR1 P σ.h (P.fldT t f) x'
 | .field t x f=>dG (bQ G (σ.ev x)) λx'=>Zm P (P.fldT t f) x'
 | .index t x ix=>dG (bQ G (σ.ev x)) λx'=>dG (bQ G (σ.ev ix)) λix'=>indexA P G (P.underlying t) x' ix'
 | .indexAddr t x ix=>dG (bQ G (σ.ev x)) λx'=>dG (bQ G (σ.ev ix)) λix'=>indexAddrA P G σ.h (P.underlying t) (P.elemT t) x' ix'
 | .extract x i=>dG (bQ G (σ.ev x)) λx'=>Gb i x'
 | .build t parts=>Zu P (P.plT t) (P.zeroT t) (usePartsR G (qH σ parts.toList))
 | .nilCheck x=>dG (bQ G (σ.ev x)) λx'=>qL σ.h x'
 | .convert s d x=>dG (bQ G (σ.ev x)) λx'=>aJj (P.underlying s) (P.underlying d) x'
 | .slice t x lo hi none=>dG (bQ G (σ.ev x)) λx'=>slcR P G σ.h (P.underlying t) x' (evO σ lo) (evO σ hi)
 | .lookup t x ix ok=>dG (bQ G (σ.ev x)) λx'=>dG (bQ G (σ.ev ix)) λix'=>lookupR P σ.h ok (P.mapT t) x' ix'
 | .makeFunc fn first cs=>mfR fn first.toList (useVsR G (evs σ cs.toList))
 |_=>none
def eqC(P:Program)(G:Bool)(t:TypeId)(neg:Bool)(x y:V)(K:V->Prop):Prop:=
 match x,y with
 | .agg xs,.agg ys=>∃b,(G=true->EqV P t xs ys b)/\K (aR (b != neg))
 |_,_=>False
def isAggOp(P:Program)(op:Op):Bool:=
 match op with
 | .binOp .eql t _ _ _=>aggB (P.aggT t)
 | .binOp .neq t _ _ _=>aggB (P.aggT t)
 |_=>false
where
 aggB (b:Option Bool):Bool:=
  match b with
  |some true=>true
  |_=>false
def pstep(P:Program)(G:Bool)(σ:St)(op:Op)(K:V->Prop):Prop:=
 match op with
 | .call c=>callC P G σ c.callee c.args.toList c.argTypes.toList K
 | .binOp op t x y u=>bstep P G σ op t x y u (isAggOp P (.binOp op t x y u)) K
 |op=>kR (pB P G σ op) K
where
 bstep (P:Program) (G:Bool) (σ:St) (op:BinOp) (t:TypeId) (x y:Operand) (u:TypeId) (agg:Bool) (K:V->Prop):Prop:=
  match agg with
  |true=>dB G (σ.ev x) λx'=>dB G (σ.ev y) λy'=>eqC P G t (neqB op) x' y' K
  |false=>kR (pB P G σ (.binOp op t x y u)) K
 neqB (op:BinOp):Bool:=
  match op with
  | .neq=>true
  |_=>false
theorem aCe{P:Program}{G:Bool}{σ:St}{o:Oper}{K:V->Prop}(h:kR (pB P G σ o.op) K):∃x,K x/\(G=true->YV P o σ x):=by
 unfold pB at h;split at h
 .rename_i x ho;exact aHg (.inl ho) h.2
 .rename_i x ho;exact aHg (.inr ho) h.2
 .rename_i c a b ho;exact ps_pick ho (cN (λy hy=>aQd hy) h)
 .rename_i op t x ho;exact ps_unop ho (cN (λy hy=>unR_ok hy) h)
 .rename_i op t x y u ho;exact aBs ho (cN (λy hy=>cN (λz hz=>binR_ok hz) hy) h)
 .rename_i t a ho;exact ps_load ho (cN (λy hy=>aR5 hy) h)
 .rename_i t x f ho;exact Yk ho (cN (λy hy=>Rb hy) h)
 .rename_i t x f ho;exact aQ8 ho (cN (λy hy=>aMc hy) h)
 .rename_i t x ix ho;exact aL9 ho (cN (λy hy=>cN (λz hz=>hz) hy) h)
 .rename_i t x ix ho;exact Ss ho (cN (λy hy=>cN (λz hz=>hz) hy) h)
 .rename_i x i ho;exact aF3 ho (cN (λy hy=>aD3 hy) h)
 .rename_i t parts ho;rw[Bg]at h;exact aQ9 ho (aMy h)
 .rename_i x ho;exact aBq ho (cN (λy hy=>Yu hy) h)
 .rename_i s d x ho;exact aF4 ho (cN (λy hy=>aS7 hy) h)
 .rename_i t x lo hi ho;rw[Je,Je]at h;exact aQ7 ho h
 .rename_i t x ix ok ho;exact aL8 ho h
 .rename_i fn first cs ho;rw[aRz]at h;exact aBr ho h
 .exact h.elim
theorem Ha{G:Bool}{x:V}{F F':V->Prop}(hf:∀y,F y->F' y)(h:dB G x F):dB G x F':=by
 unfold dB at h⊢;cases x<;>first|exact hf _ h|exact⟨h.1,hf _ h.2⟩
theorem nX{P:Program}{G:Bool}{σ:St}{o:Oper}{K:V->Prop}(h:pstep P G σ o.op K):∃x,K x/\(G=true->YV P o σ x):=by
 unfold pstep at h;split at h
 .rename_i c ho;obtain⟨callee,args,tys⟩:=c;unfold callC at h;dsimp only at h;split at h
  .unfold callC.lenC at h;split at h
   .rename_i x t r hx ht;have ha:args=#[x]:=by apply Array.ext';simpa using hx
    have ht':tys[0]?=some t:=by rw[<-Array.getElem?_toList,ht];rfl
    subst ha;exact ps_len ho ht' (cN (λy hy=>lenR_ok hy) h)
   .exact h.elim
  .unfold callC.mmC at h;split at h
   .rename_i x y hx;have ha:args=#[x,y]:=by apply Array.ext';simpa using hx
    subst ha;exact Uz ho h
   .exact h.elim
  .unfold callC.mmC at h;split at h
   .rename_i x y hx;have ha:args=#[x,y]:=by apply Array.ext';simpa using hx
    subst ha;exact Uz ho h
   .exact h.elim
  .exact ps_call ho h
  .exact h.elim
 .rename_i op t x y u ho;unfold pstep.bstep at h;split at h
  .rename_i hagg;refine aBs ho (Ha (λx'=>Ha λy' hy=>?_) h);unfold eqC at hy;unfold aTt;split at hy
   .obtain⟨b,h1,h2⟩:=hy;unfold isAggOp at hagg;split at hagg
    .rename_i he;injection he with h0;subst h0;exact⟨b,h1,by simpa[pstep.neqB]using h2⟩
    .rename_i he;injection he with h0;subst h0;exact⟨b,h1,by simpa[pstep.neqB]using h2⟩
    .cases hagg
   .exact hy.elim
  .rw[<-ho]at h;exact aCe h
 .exact aCe h
def pN(K:St->Prop)(σ:St)(d:Option Tmp)(x:V):Prop:=K (σ.put d x)
def Ta(K:St->Prop)(σ:St)(d:Option Tmp)(blk:Blk):Prop:=K ((σ.add blk).put d (.own σ.nx))
def aJ6(K:St->Prop)(σ:St)(h:Heap):Prop:=K { σ with h:=h }
def Za(K:St->Prop)(d:Option Tmp)(σv:St×V):Prop:=K (σv.1.put d σv.2)
def Sh(z:Option (List Value)):RO Blk:=
 match z with
 |some z=>some (cE z=true,.box (pP z))
 |none=>none
def aTq(x:V):RO Blk:=some (x.cells.all V.isCell=true,.box x.cells)
def storeR(h:Heap)(sz:Option Nat)(p x:V):RO Heap:=
 match p with
 | .own i=>storeB h i sz (h.look i) 0 x
 | .ptr i off=>storeB h i sz (h.look i) off x
 | .rptr i k n j=>storeW h i sz (h.look i) k n j x
 |_=>none
where
 storeB (h:Heap) (i:Nat) (sz:Option Nat) (b:Option Blk) (off:Nat) (x:V):RO Heap:=
  match b with
  |some (.box cs)=>some (x.cells.all V.isCell=true/\sz=some x.cells.length/\off+x.cells.length<=cs.length,h.set i (.box (kN cs off x.cells)))
  |_=>none
 storeW (h:Heap) (i:Nat) (sz:Option Nat) (b:Option Blk) (k n j:Nat) (x:V):RO Heap:=
  match b with
  |some (.row e k' d xs)=>some (x.cells.all V.isCell=true/\sz=some x.cells.length/\k'=k/\n<xs.length/\j+x.cells.length<=k,
    h.set i (.row e k d (xs.set n (kN (pL d xs n) j x.cells))))
  |_=>none
theorem aKr{P:Program}{h:Heap}{t:TypeId}{p x:V}{K:Heap->Prop}(q:kR (storeR h (P.szT t) p x) K):Cy P h t p x K:=by
 unfold storeR storeR.storeB storeR.storeW at q;unfold Cy;split at q
 .split at q
  .rename_i hl;obtain⟨⟨q1,q2,q3⟩,q4⟩:=q;simp only[hl];exact⟨q1,q2,by omega,q4⟩
  .exact q.elim
 .split at q
  .rename_i hl;obtain⟨⟨q1,q2,q3⟩,q4⟩:=q;simp only[hl];exact⟨q1,q2,q3,q4⟩
  .exact q.elim
 .split at q
  .rename_i hl;obtain⟨⟨q1,q2,q3⟩,q4⟩:=q;simp only[hl];exact⟨q1,q2,q3.1,q3.2.1,q3.2.2,q4⟩
  .exact q.elim
 .exact q.elim
def yY(n k:Nat)(e:TypeId)(z:List Value)(p:Prop)(ts:Option (List V)):RO Blk:=
 match ts with
 |some ts=>some (p/\ts.length=n*k,.row e k (z.map .lit) (pU k n ts))
 |none=>none
def sU(n k:Nat)(z:List Value)(ps:List (Nat×V)):Option (List V):=
 match pT (λi=>some (i*k,k)) (pP ((List.range (n*k)).map λi=>z.getD (i%z.length) undef)) ps with
 |some cs=>some cs
 |none=>none
def buildSliceR(P:Program)(n:Nat)(e:Option TypeId)(ps:Prop×List (Nat×V)):RO Blk:=
 match e,ps with
 |some e,(p,ps)=>bsA n e (P.szT e) (P.zeroT e) p ps
 |_,_=>none
where
 bsA (n:Nat) (e:TypeId) (k:Option Nat) (z:Option (List Value)) (p:Prop) (ps:List (Nat×V)):RO Blk:=
  match k,z with
  |some k,some z=>yY n k e z (z.length=k/\cE z=true/\n*k<=2 ^ 24/\0<k/\p) (sU n k z ps)
  |_,_=>none
theorem Ak{P:Program}{t:TypeId}{n:Nat}{parts:List (Nat×V)}{K:Blk->Prop}(q:kR (buildSliceR P n (P.elemT t) (usePartsR true parts)) K):sA P t n parts K:=by
 unfold buildSliceR buildSliceR.bsA at q;unfold sA;split at q
 .rename_i e p ps h1 h2;simp only[h1];split at q
  .rename_i k z h3 h4;simp only[h3,h4];unfold yY sU at q;split at q
   .rename_i ts hts;obtain⟨⟨⟨q1,q2,q3,q4,q5⟩,q6⟩,q7⟩:=q;refine⟨q1,q2,q3,q4,wY _ (by rw[h2];exact q5) ?_⟩;rw[h2];split at hts
    .rename_i cs hf;injection hts with hts;subst hts;simp only[hf];exact⟨q6,q7⟩
    .cases hts
   .exact q.elim
  .exact q.elim
 .exact q.elim
def appendR(P:Program)(σ:St)(e:Option TypeId)(s x:V):RO (St×V):=
 match e with
 |some e=>apA σ e (P.szT e) (P.bytesT e) (P.zeroT e) s x
 |none=>none
where
 apA (σ:St) (e:TypeId) (k by':Option Nat) (z:Option (List Value)) (s x:V):RO (St×V):=
  match k,by',z with
  |some k,some by',some z=>apB σ e k by' (z.length=k/\0<k) s (Cz σ.h k x)
  |_,_,_=>none
 apB (σ:St) (e k by':Nat) (p:Prop) (s:V) (src:Option (List T×List (List V))):RO (St×V):=
  match s with
  | .own i=>apC σ e k by' p i (σ.h.look i) src
  | .t (.lit (.slice none 0 0))=>apD σ e k by' p src
  |_=>none
 apC (σ:St) (e k by':Nat) (p:Prop) (i:Nat) (b:Option Blk) (src:Option (List T×List (List V))):RO (St×V):=
  match b,src with
  |some (.row e' k' d xs),some (_,ys)=>some (p/\e'=e/\k'=k/\xs.length+ys.length<=maxLen/\(xs.length+ys.length)*by'<=140737488355328,
    ({ σ with h:=(σ.nx,.row e' k' d (xs++ys))::σ.h.del i,nx:= σ.nx+1 },.own σ.nx))
  |_,_=>none
 apD (σ:St) (e k by':Nat) (p:Prop) (src:Option (List T×List (List V))):RO (St×V):=
  match src with
  |some (d,ys)=>some (p/\ys.length<=maxLen/\ys.length*by'<=140737488355328,(σ.add (.row e k d ys),.own σ.nx))
  |none=>none
theorem aGd{P:Program}{σ:St}{t:TypeId}{s x:V}{K:St×V->Prop}(q:kR (appendR P σ (P.elemT t) s x) K):Mp P σ t s x λσ' v=>K (σ',v):=by
 unfold appendR appendR.apA appendR.apB appendR.apC appendR.apD at q;unfold Mp;split at q
 .rename_i e h1;simp only[h1];split at q
  .rename_i k by' z h2 h3 h4
   simp only[h2,h3,h4];split at q
   .rename_i i;split at q
    .rename_i hl hs;obtain⟨⟨⟨q1,q2⟩,q3,q4,q5,q6⟩,q7⟩:=q;simp only[hl,hs];exact⟨q1,q2,q3,q4,q5,q6,q7⟩
    .exact q.elim
   .split at q
    .rename_i hs;obtain⟨⟨⟨q1,q2⟩,q5,q6⟩,q7⟩:=q;simp only[hs];exact⟨q1,q2,q5,q6,q7⟩
    .exact q.elim
   .exact q.elim
  .exact q.elim
 .exact q.elim
def Mq(P:Program)(σ:St)(args:List Operand)(tys:List TypeId):RO (St×V):=
 match args,tys with
 |[s,x],[t,t']=>sC (yM P t t') (dG (bQ true (σ.ev s)) λs'=>dG (bQ true (σ.ev x)) λx'=>appendR P σ (P.elemT t) s' x')
 |_,_=>none
def CallX(P:Program)(f:FuncId)(vs:Array Value)(w:World)(R:Ending->World->Prop):Prop:=
 (P.enters f=true/\Calls P f vs w R) \/∃v,(callFunc f vs).run P w=.ok (.value v) w/\R (.returned v) w
theorem CallX.mono{P:Program}{f:FuncId}{vs:Array Value}{w:World}{R R':Ending->World->Prop}(h:CallX P f vs w R)(hr:∀e w',R e w'->R' e w'):CallX P f vs w R':=by
 rcases h with ⟨h1,h2⟩|⟨v,h1,h2⟩
 .exact .inl ⟨h1,h2.mono hr⟩
 .exact .inr ⟨v,h1,hr _ _ h2⟩
theorem Cj{P:Program}{f:FuncId}(he:P.enters f=true)(vs:Array Value)(w:World):(callFunc f vs).run P w=.ok (.enter f vs) w:=by
 unfold Program.enters at he;split at he
 .rename_i fn hf;simp only[Bool.and_eq_true,Bool.not_eq_true']at he;have hn : ¬fn.name = "runtime.NumGoroutine" :=by simpa using he.1
  have hb : ¬fn.body=none:=λh=>by rw[h]at he;simp at he
  simp[callFunc,hf,hn,hb]
 .cases he
theorem CallX.calls{P:Program}{f:FuncId}{vs:Array Value}{w:World}{R:Ending->World->Prop}(he:P.enters f=true)(h:CallX P f vs w R):Calls P f vs w R:=by
 rcases h with ⟨_,h2⟩|⟨v,h1,_⟩
 .exact h2
 .rw[Cj he]at h1;cases h1
def ICall(P:Program)(σ:St)(d:Option Tmp)(f:FuncId)(xs:List V)(K:St->Prop):Prop:=
 ∀E w vs,Rel w E σ.h->(∀i,E.U i->i<σ.nx)->RdVs w E xs vs->CallX P f vs.toArray w λe w'=>∃v x h' nx' E',e=.returned v/\Rel w' E' h'/\(∀i,E'.U i->i<nx')/\Ext E w E' w'/\RdV w' E' x v /\
  K (({ σ with h:=h',nx:=nx' }:St).put d x)
theorem rW{P:Program}{σ:St}{d:Option Tmp}{f:FuncId}{xs:List V}{K:St->Prop}(he:P.enters f=true)(h:∀E w vs,Rel w E σ.h->(∀i,E.U i->i<σ.nx)->RdVs w E xs vs->Calls P f vs.toArray w λe w'=>∃v x h' nx' E',e=.returned v/\Rel w' E' h'/\(∀i,E'.U i->i<nx')/\Ext E w E' w'/\RdV w' E' x v /\
  K (({ σ with h:=h',nx:=nx' }:St).put d x)):ICall P σ d f xs K:=λE w vs h1 h2 h3=> .inl ⟨he,h E w vs h1 h2 h3⟩
theorem ICall.mono{P:Program}{σ:St}{d:Option Tmp}{f:FuncId}{xs:List V}{K K':St->Prop}(hk:∀σ,K σ->K' σ)(h:ICall P σ d f xs K):ICall P σ d f xs K':=
 λE w vs h1 h2 h3=>(h E w vs h1 h2 h3).mono λe w' ⟨v,x,h',nx',E',q1,q2,q3,q4,q5,q6⟩=>⟨v,x,h',nx',E',q1,q2,q3,q4,q5,hk _ q6⟩
theorem aB4{P:Program}{o:Oper}{f:FuncId}{args:Array Operand}{tys:Array TypeId}{ρ:Operand->Value}(ho:o.op=.call { callee:=.value (.func f),args:=args,argTypes:=tys })(hρ:ρ (.func f)=.func (.func f) #[] #[]){w:World}{v:Value}
  (h:(callFunc f (args.map ρ)).run P w=.ok (.value v) w):(execOp ρ o).run P w=.ok (.value v) w:=by
 simp[execOp,ho,resolve,hρ,Deferred.ofValue,invoke,h]
theorem Pj{P:Program}{σ:St}{o:Oper}{K:St->Prop}{f:FuncId}{args:Array Operand}{tys:Array TypeId}(ho:o.op=.call { callee:=.value (.func f),args:=args,argTypes:=tys })
  (h:eE true (args.toList.map σ.ev) λxs=>ICall P σ o.dst f xs K):OpW P o σ K:=by
 obtain⟨ys,h1,hys⟩:=mP h;intro E a w hr next Q hn;have hvs:=hys w E _ rfl (kL hr args.toList);have h2:=h1 E w _ hr.rel hr.bound hvs;have e1:(args.toList.map a.eval).toArray=args.map a.eval:=by apply Array.ext';simp only[Array.toList_map]
 rw[e1]at h2;unfold Oper.wp;rcases h2 with ⟨he,h2⟩|⟨u,h2,v,x,h',nx',E',h3,q2,q3,q4,q5,q6⟩
 .rw[mZ ho rfl he];simp only[Oper.upon];refine Calls.mono h2 ?_;rintro e w' ⟨v,x,h',nx',E',rfl,q2,q3,q4,q5,q6⟩;have hr':RelF E' { σ with h:=h',nx:=nx' } a w':=⟨q2,q3,q4.rdVs _ hr.fr,q4.defs hr.defers⟩
  exact hn _ w' E' _ (hr'.put o.dst q5) q4 q6
 .injection h3 with h3;subst h3;rw[aB4 ho rfl h2];have hr':RelF E' { σ with h:=h',nx:=nx' } a w:=⟨q2,q3,q4.rdVs _ hr.fr,q4.defs hr.defers⟩
  exact hn _ w E' _ (hr'.put o.dst q5) q4 q6
def aU7(P:Program)(f:FuncId)(xs:List V)(r:V):Prop:=∀(E:Env) (w:World) (vs:List Value),RdVs w E xs vs ->∃v,(callFunc f vs.toArray).run P w=.ok (.value v) w/\RdV w E r v
theorem jU{P:Program}{σ:St}{d:Option Tmp}{f:FuncId}{xs:List V}{r:V}{K:St->Prop}(h:aU7 P f xs r)(hK:K (σ.put d r)):ICall P σ d f xs K:=λE w vs hr hbd hvs=>by
 obtain⟨v,h1,h2⟩:=h E w vs hvs;exact .inr ⟨v,h1,v,r,σ.h,σ.nx,E,rfl,hr,hbd,Ext.refl E w,h2,hK⟩
def aJp(P:Program)(io:Bool)(σ:St)(d:Option Tmp)(f:FuncId)(c:Call)(K:St->Prop):Prop:=
 match io with
 |true=>eE true (c.args.toList.map σ.ev) λxs=>ICall P σ d f xs K
 |false=>pstep P true σ (.call c) (pN K σ d)
def Ct(P:Program)(σ:St)(d:Option Tmp)(c:Call)(K:St->Prop):Prop:=
 match c.callee with
 | .builtin .append=>kR (Mq P σ c.args.toList c.argTypes.toList) (Za K d)
 | .value (.func f)=>aJp P (P.ioF f) σ d f c K
 |_=>pstep P true σ (.call c) (pN K σ d)
def msR(P:Program)(e:Option TypeId)(l c:Prop×V):RO Blk:=
 match e,l,c with
 |some e,(p,.t (.lit (.int _ n))),(q,.t (.lit (.int _ m)))=>msA e (P.szT e) (P.bytesT e) (P.zeroT e) (p/\q/\m=n) n
 |_,_,_=>none
where
 msA (e:TypeId) (k by':Option Nat) (z:Option (List Value)) (p:Prop) (n:Int):RO Blk:=
  match k,by',z with
  |some k,some by',some z=>some (p/\0<=n/\z.length=k/\cE z=true/\0<k/\n.toNat<=maxLen/\by'*n.toNat<=281474976710656,.row e k (z.map .lit) (aS (List.replicate n.toNat (z.map .lit))))
  |_,_,_=>none
theorem Ub{σ:St}{x:Operand}{p:Prop}{kd:IntKind}{n:Int}(h:bQ true (σ.ev x)=(p,.t (.lit (.int kd n))))(hp:p):∀(w:World) (E:Env) (a:Act),RelF E σ a w->a.eval x=.int kd n:=by
 have h3:dB true (σ.ev x) λy=>y=.t (.lit (.int kd n)):=by
  refine cN (α:=Unit) (f:=λy=>some (y=.t (.lit (.int kd n)),())) (K:=λ_=>True) (λy hy=>hy.1) ?_;rw[h];unfold dG sC;exact⟨⟨hp,rfl⟩,trivial⟩
 obtain⟨y,rfl,hy⟩:=cB h3;exact λw E a hr=>(aJ (hy w E _ rfl (hr.ev x))).1
theorem aR0{P:Program}{σ:St}{o:Oper}{t:TypeId}{l c:Operand}{p:Prop}{blk:Blk}(ho:o.op=.makeSlice t l c)(h:msR P (P.elemT t) (bQ true (σ.ev l)) (bQ true (σ.ev c))=some (p,blk))(hp:p):Gv P o σ blk:=by
 unfold msR at h;split at h
 .rename_i e p' kd n q kd' m ht hl hc;unfold msR.msA at h;split at h
  .rename_i k by' z hsz hby hz
   injection h with h;injection h with h1 h2;subst h1 h2;obtain⟨⟨hp1,hq,hmn⟩,h0,q1,q2,q3,q4,q5⟩:=hp;have hn:((n.toNat:Nat):Int)=n:=by omega
   exact Sy (n:=n.toNat) ho ht hsz hby hz q1 q2 q4 q5 q3 (λw E a hr=>by rw[hn];exact Ub hl hp1 w E a hr) (λw E a hr=>by rw[hn,<-hmn];exact Ub hc hq w E a hr)
  .cases h
 .cases h
def Yx(P:Program)(σ:St)(t:TypeId)(m k x:Operand):RO Heap:=
 dG (bQ true (σ.ev m)) λm'=>dG (bQ true (σ.ev k)) λk'=>dG (bQ true (σ.ev x)) λx'=>mapPutR P σ.h (P.mapT t) m' k' x'
def eZ(P:Program)(σ:St)(d:Option Tmp)(op:Op)(K:St->Prop):Prop:=
 match op with
 | .box t x=>kR (dG (bQ true (σ.ev x)) λx'=>aTq x') (Ta K σ d)
 | .alloc t=>kR (Sh (P.zeroT t)) (Ta K σ d)
 | .store t p x=>d=none/\kR (dG (bQ true (σ.ev p)) λp'=>dG (bQ true (σ.ev x)) λx'=>storeR σ.h (P.szT t) p' x') (aJ6 K σ)
 | .buildSlice t n parts=>kR (buildSliceR P n (P.elemT t) (usePartsR true (qH σ parts.toList))) (Ta K σ d)
 | .makeMap _ none=>Ta K σ d (.map [])
 | .makeSlice t l c=>kR (msR P (P.elemT t) (bQ true (σ.ev l)) (bQ true (σ.ev c))) (Ta K σ d)
 | .mapUpdate t m k x=>d=none/\kR (Yx P σ t m k x) (aJ6 K σ)
 | .insert t m k x=>d=none/\kR (Yx P σ t m k x) (aJ6 K σ)
 | .call c=>Ct P σ d c K
 |op=>pstep P true σ op (pN K σ d)
theorem aS0{P:Program}{σ:St}{o:Oper}{K:St->Prop}(h:eZ P σ o.dst o.op K):OpW P o σ K:=by
 unfold eZ at h;split at h
 .rename_i t x ho;exact ow_box ho (cN (F:=λx'=>boxV x' λblk=>K ((σ.add blk).put o.dst (.own σ.nx))) (f:=aTq) (K:=Ta K σ o.dst) (λy hy=>⟨hy.1,hy.2⟩) h)
 .rename_i t ho;unfold Sh at h;split at h
  .rename_i z hz;exact aQn ho hz h.1 h.2
  .exact h.elim
 .rename_i t p x ho;exact aQh ho h.1 (cN (λy hy=>cN (λz hz=>aKr hz) hy) h.2)
 .rename_i t n parts ho;rw[Bg]at h;exact Su ho (Ak h)
 .rename_i t ho;exact Bj rfl (Kk ho) h
 .rename_i t l c ho;generalize hms:msR P (P.elemT t) (bQ true (σ.ev l)) (bQ true (σ.ev c))=r at h;unfold kR at h;split at h
  .exact Bj rfl (aR0 ho hms h.1) h.2
  .exact h.elim
 .rename_i t m k x ho;obtain⟨σ',hK,hS⟩:=Jy (K:=K) (.inl ho) h.2;exact Pn hS h.1 hK
 .rename_i t m k x ho;obtain⟨σ',hK,hS⟩:=Jy (K:=K) (.inr ho) h.2;exact Pn hS h.1 hK
 .rename_i c ho;unfold Ct at h;split at h
  .rename_i hc;unfold Mq at h;split at h
   .rename_i s x t t' hx ht;obtain⟨callee,args,tys⟩:=c;dsimp only at hc hx ht;subst hc;have ha:args=#[s,x]:=by apply Array.ext';simpa using hx
    have hb:tys=#[t,t']:=by apply Array.ext';simpa using ht
    subst ha hb;unfold sC at h;split at h
    .rename_i q' v hv;obtain⟨⟨ht2,hq⟩,hk⟩:=h;have h':kR (dG (bQ true (σ.ev s)) λs'=>dG (bQ true (σ.ev x)) λx'=>appendR P σ (P.elemT t) s' x') (Za K o.dst):=by rw[hv];exact⟨hq,hk⟩
     exact aLe ht2 ho (cN (λy hy=>cN (λz hz=>aGd hz) hy) h')
    .exact h.elim
   .exact h.elim
  .rename_i f hc;unfold aJp at h;split at h
   .obtain⟨callee,args,tys⟩:=c;dsimp only at hc;subst hc;exact Pj ho h
   .rw[<-ho]at h;obtain⟨x,hK,hy⟩:=nX h;exact Yp (hy rfl) hK
  .rw[<-ho]at h;obtain⟨x,hK,hy⟩:=nX h;exact Yp (hy rfl) hK
 .obtain⟨x,hK,hy⟩:=nX h;exact Yp (hy rfl) hK
def Zg(x:V)(want:Bool):Option Bool:=
 match x with
 | .t (.lit (.bool b))=>some (b==want)
 | .cond g (.t (.lit (.bool b)))=>some (g&&(b==want))
 |_=>none
def eP(ops:List Oper)(j:Nat):Option Tmp:=
 match ops[j]? with
 |some o=>o.dst
 |none=>none
def nA(ops:List Oper)(σ:St)(j:Nat)(want:Bool):Option Bool:=
 match eP ops j with
 |some d=>Zg (σ.fr.getD d .dead) want
 |none=>none
theorem zZ{ops:List Oper}{E:Env}{σ:St}{a:Act}{w:World}{j:Nat}{want g:Bool}{o:Oper}(hr:RelF E σ a w)(ho:o.guard=some (j,want))(h:nA ops σ j want=some g):
  Region.wanted o (yielded ops.toArray a.tmps)=g:=by
 unfold nA eP at h;unfold Region.wanted;rw[ho];dsimp only;split at h
 .rename_i d hd;have hd':((ops.toArray[j]?).bind (·.dst))=some d:=by
   have e1:ops.toArray[j]?=ops[j]? :=by simp
   rw[e1];split at hd
   .rename_i o' ho';rw[ho'];exact hd
   .cases hd
  unfold yielded;rw[hd'];simp only[Option.bind_some];have hsome:∃y,σ.fr[d]?=some y/\σ.fr.getD d .dead=y:=by
   cases hq:σ.fr[d]? with
   |none=>simp[List.getD_eq_getElem?_getD,hq,Zg]at h
   |some y=>exact⟨y,rfl,by simp[List.getD_eq_getElem?_getD,hq]⟩
  obtain⟨y,hy,he⟩:=hsome;obtain⟨v,hv,hrv⟩:=RdVs.get hr.fr hy;have hv':a.tmps[d]?=some v:=by simpa using hv
  rw[hv'];rw[he]at h;unfold Zg at h;split at h
  .injection h with h;rw[(aJ hrv).1,<-h];rename_i b;cases b<;>cases want<;>rfl
  .injection h with h;rename_i g0 b;rw[RdV]at hrv;cases g0 with
   |true=>
    rw[(aJ (hrv.1 rfl)).1,<-h];cases b<;>cases want<;>rfl
   |false=>
    rw[hrv.2 rfl,<-h];rfl
  .cases h
 .cases h
def fM(P:Program)(op:Op):Bool:=
 match op with
 | .box .. | .alloc .. | .store .. | .buildSlice .. | .makeMap .. | .makeSlice .. | .mapUpdate .. | .insert .. | .defer _=>false
 | .call { callee:=.builtin .append,.. }=>false
 | .call { callee:=.value (.func f),.. }=> !P.ioF f
 | .call { callee:=.value _,.. }=>false
 |_=>true
def aDd(g:Bool)(x:V):V:=
 match x with
 | .cond g' y=> .cond (g&&g') y
 |x=> .cond g x
theorem nG{w:World}{E:Env}{g:Bool}{x:V}{v:Value}(h:RdV w E (.cond g x) v):RdV w E (aDd g x) v:=by
 unfold aDd;split
 .rename_i g' y;rw[RdV]at h⊢;refine⟨λhg=>?_,λhg=>?_⟩
  .rw[Bool.and_eq_true]at hg;have:=h.1 hg.1;rw[RdV]at this;exact this.1 hg.2
  .cases g with
   |false=>exact h.2 rfl
   |true=>
    have:=h.1 rfl;rw[RdV]at this;exact this.2 (by simpa using hg)
 .exact h
def tW(K:St->Prop)(σ:St)(d:Option Tmp)(g:Bool)(x:V):Prop:=K (σ.put d (aDd g x))
def Cr(P:Program)(σ:St)(d:Option Tmp)(op:Op)(g:Option Bool)(K:St->Prop):Prop:=
 match g with
 |some g=>if fM P op=true then pstep P g σ op (tW K σ d g)else (g=true->eZ P σ d op K)/\(g=false->K (σ.put d .dead))
 |none=>False
def dH(P:Program)(ops:List Oper)(σ:St)(d:Option Tmp)(op:Op)(guard:Option (Nat×Bool))(K:St->Prop):Prop:=
 match guard with
 |none=>eZ P σ d op K
 |some (j,want)=>Cr P σ d op (nA ops σ j want) K
theorem Mw{G:Bool}:∀{xs:List V} {F F':List V->Prop},(∀ys,F ys->F' ys)->eE G xs F->eE G xs F'
 |[],F,F',hf,h=>hf _ h
 |x::xs,F,F',hf,h=>by
  unfold eE at h⊢;exact Ha (λy hy=>Mw (λys hys=>hf _ hys) hy) h
def callN(P:Program)(io:Bool)(σ:St)(d:Option Tmp)(f:FuncId)(xs:List Operand)(K:St->Prop):Prop:=
 match io with
 |true=>eE true (xs.map σ.ev) λxs=>ICall P σ d f xs K
 |false=>eE true (xs.map σ.ev) (callM P σ d f K)
where
 callM (P:Program) (σ:St) (d:Option Tmp) (f:FuncId) (K:St->Prop) (xs:List V):Prop:=
  if V.pures xs=true then ∃r,aL P f xs r/\pN K σ d r else LCall P σ d f xs K
def dynN(P:Program)(σ:St)(d:Option Tmp)(K:St->Prop)(xs:List V)(x:V):Prop:=
 match x with
 | .own i=>aK7 P σ d i K xs (σ.h.look i)
 |x=>dynC P σ d (aFz x) xs K
def aFv(P:Program)(σ:St)(d:Option Tmp)(c:Callee)(args:List Operand)(tys:List TypeId)(K:St->Prop):Prop:=
 match c with
 | .builtin .append=>kR (Mq P σ args tys) (Za K d)
 | .value (.func f)=>callN P (P.ioF f) σ d f args K
 | .value x=>dB true (σ.ev x) λx'=>eE true (args.map σ.ev) λxs=>dynN P σ d K xs x'
 |c=>callC P true σ c args tys (pN K σ d)
def slcG(P:Program)(σ:St)(d:Option Tmp)(u:Option TypeDesc)(lo hi:Option V)(K:St->Prop)(x:V)(h:Option Heap):Prop:=
 match h with
 |some h=>kR (slcR P true h u (x.res h) lo hi) (λy=>K (({ σ with h:=h }:St).put d y))
 |none=>False
def slcN(P:Program)(σ:St)(d:Option Tmp)(u:Option TypeDesc)(lo hi:Option V)(K:St->Prop)(x:V):Prop:=
 match x with
 | .own i=>slcG P σ d u lo hi K (.own i) (giveL (mR σ.h 8 (.own i)) σ.h)
 |x=>kR (slcR P true σ.h u x lo hi) (pN K σ d)
def nilK(K:St->Prop)(σ:St)(d:Option Tmp)(xs:List (List T)):Prop:=∀b:Bool,(b=true->xs=[])->K (σ.put d (aR b))
def nilE(e:Option TypeId)(p:Prop):Prop:=
 match e with
 |some _=>p
 |none=>False
def nilN(P:Program)(σ:St)(d:Option Tmp)(op:BinOp)(t:TypeId)(K:St->Prop)(x:V):Prop:=
 match op,x with
 | .eql,.t (.list _ _ xs)=>nilE (P.elemT t) (nilK K σ d xs)
 | .eql,.t (.lit (.slice none 0 0))=>nilE (P.elemT t) (K (σ.put d (aR true)))
 |_,_=>False
theorem Nr{P:Program}{t e:TypeId}{A:Option Addr}{n c:Nat}(he:P.elemT t=some e)(w:World):(binOp .eql t (.slice A n c) (.slice none 0 0)).run P w=.ok (.bool A.isNone) w:=by
 have hu:=Jf he;have h1:(Op.equal t (.slice A n c) (.slice none 0 0)).run P w=.ok A.isNone w:=by
  have h:∀d,(Op.equalIn (d+1) t (.slice A n c) (.slice none 0 0)).run P w=.ok A.isNone w:=λd=>by
   rw[Op.equalIn];cases A<;>simp only[Sem.run_bind,run_underlying hu,Result.andThen_ok,Sem.run_pure,Option.isNone_none,Option.isNone_some]
  exact h 9999
 show((do pure (.bool (<-Op.equal t (.slice A n c) (.slice none 0 0)))):Sem Value).run P w=_
 simp only[Sem.run_bind,h1,Result.andThen_ok,Sem.run_pure]
theorem ow_nil{P:Program}{σ:St}{o:Oper}{K:St->Prop}{op:BinOp}{t u:TypeId}{x:Operand}(ho:o.op=.binOp op t x (.const (.slice none 0 0)) u)(h:dB true (σ.ev x) (nilN P σ o.dst op t K)):OpW P o σ K:=by
 obtain⟨x',h1,hx⟩:=cB h;unfold nilN nilE nilK at h1;intro E a w hr next Q hn;have hxv:=hx w E _ rfl (hr.ev x);have hy:a.eval (.const (.slice none 0 0))=.slice none 0 0:=rfl;split at h1
 .rename_i k dd xs;split at h1
  .rename_i e he;simp only[RdV]at hxv;obtain⟨A,c,e1,hc⟩:=Bf hxv;have hnil:A.isNone=true->xs=[]:=λhA=>by
    cases A with
    |some _=>cases hA
    |none=>
     rw[e1]at hxv;cases hxv with
     |list _ _ _ _ _ hm hc hn hk ha hr=>
      cases xs with
      |nil=>rfl
      |cons y r=>obtain⟨b,off,hA,_⟩:=ha 0 y rfl;cases hA
   have hrun:(execOp a.eval o).run P w=.ok (.value (.bool A.isNone)) w:=by
    have hg:(eqGuard .eql t x (.const (.slice none 0 0)) (.slice A xs.length c) (.slice none 0 0)).run P w=.ok () w:=zC rfl (by simp) w;simp only[execOp,ho,e1,hy,Sem.run_bind,hg,Result.andThen_ok,Nr he w,Sem.run_pure]
   unfold Oper.wp;rw[hrun];exact hn _ w E _ (hr.put o.dst (eU rfl rfl)) (Ext.refl E w) (h1 A.isNone hnil)
  .exact h1.elim
 .split at h1
  .rename_i e he;have e1:=(aJ hxv).1;have hrun:(execOp a.eval o).run P w=.ok (.value (.bool true)) w:=by
    have hg:(eqGuard .eql t x (.const (.slice none 0 0)) (.slice none 0 0) (.slice none 0 0)).run P w=.ok () w:=zC rfl (by simp) w;simp only[execOp,ho,e1,hy,Sem.run_bind,hg,Result.andThen_ok,Nr (A:=none) (n:=0) (c:=0) he w,Sem.run_pure];rfl
   unfold Oper.wp;rw[hrun];exact hn _ w E _ (hr.put o.dst (eU rfl rfl)) (Ext.refl E w) h1
  .exact h1.elim
 .exact h1.elim
def tZ(P:Program)(σ:St)(d:Option Tmp)(op:Op)(K:St->Prop):Prop:=
 match op with
 | .binOp op t x (.const (.slice none 0 0)) _=>dB true (σ.ev x) (nilN P σ d op t K)
 | .call c=>aFv P σ d c.callee c.args.toList c.argTypes.toList K
 | .defer c=>aDa σ d c.callee c.args.toList K
 | .slice t x lo hi none=>dB true (σ.ev x) (slcN P σ d (P.underlying t) (evO σ lo) (evO σ hi) K)
 |op=>eZ P σ d op K
theorem qG{P:Program}{G:Bool}{σ:St}{op:Op}{K:V->Prop}(h:pstep P G σ op K):∀c,op ≠ .defer c:=by
 rintro c rfl;exact h
theorem aFt{P:Program}{σ:St}{d:Option Tmp}{op:Op}{K:St->Prop}(h:eZ P σ d op K):∀c,op ≠ .defer c:=by
 rintro c rfl;exact h
theorem Bk{P:Program}{σ:St}{o:Oper}{K:St->Prop}(h:eZ P σ o.dst o.op K):OpI P o σ K:=vE (.inr (aFt h)) (aS0 h)
theorem wQ{P:Program}{σ:St}{o:Oper}{K:St->Prop}(h:tZ P σ o.dst o.op K):OpI P o σ K:=by
 unfold tZ at h;split at h
 .rename_i op t x u ho;exact vE (.inr λc hc=>by rw[ho]at hc;cases hc) (ow_nil ho h)
 .rename_i c ho;unfold aFv at h;split at h
  .rename_i hc;refine Bk ?_;unfold eZ;rw[ho];simp only[Ct,hc];exact h
  .rename_i f hc;obtain⟨callee,args,tys⟩:=c;dsimp only at hc h;subst hc;unfold callN at h;split at h
   .exact vE (.inr λc hc=>by rw[ho]at hc;cases hc) (Pj ho h)
   .refine vE (.inr λc hc=>by rw[ho]at hc;cases hc) (aQj ho (Mw (λxs hxs=>?_) h));unfold callN.callM at hxs;split at hxs
    .rename_i hp;obtain⟨r,hC,hK⟩:=hxs;exact qP hC hp hK
    .exact hxs
  .rename_i x hx hc;obtain⟨callee,args,tys⟩:=c;dsimp only at hc h;subst hc;have hnd:∀c,o.op ≠ .defer c:=λc hc=>by rw[ho]at hc;cases hc
   obtain⟨x',h0,hx⟩:=cB h;cases x' with
   |own i=>
    obtain⟨ys,h1,hys⟩:=mP h0;exact aLg ho (λw E v hv=>hx w E v rfl hv) (λw E vs hv=>hys w E vs rfl hv) h1
   |_=>exact vE (.inr hnd) (ow_dyn1 ho hx h0)
  .rename_i hc1 hc2 hc3;have h':pstep P true σ o.op (pN K σ o.dst):=by rw[ho];exact h
   obtain⟨x,hK,hy⟩:=nX h';exact vE (.inr (qG h')) (Yp (hy rfl) hK)
 .rename_i c ho;refine vE (.inl ?_) (aQk ho h);unfold aDa at h;split at h
  .obtain⟨x',h1,_⟩:=cB h;unfold aJg at h1;split at h1
   .exact h1.1
   .exact h1.elim
  .exact h.elim
 .rename_i t x lo hi ho;refine vE (.inr λc hc=>by rw[ho]at hc;cases hc) ?_;obtain⟨x',h1,hx⟩:=cB h;unfold slcN at h1;split at h1
  .rename_i i;unfold slcG at h1;split at h1
   .rename_i h' hg;intro E a w hr next Q hn;obtain⟨E1,r1,r2,r3⟩:=RelF.giveL (σ:= σ) _ (h:= σ.h) hr hg;have hev:∀y:Operand,({ σ with h:=h' }:St).ev y=σ.ev y:=λy=>by cases y<;>rfl
    rw[Je,Je]at h1;obtain⟨y,hK,hy⟩:∃y,K (({ σ with h:=h' }:St).put o.dst y) /\∃v,(execOp a.eval o).run P w=.ok (.value v) w/\RdV w E1 y v:=by
     have hxv:=RdV.res r1.rel _ (r2.rdV _ (hx w E _ rfl (hr.ev x)));exact aH0 (σ:={ σ with h:=h' }) ho hxv r1 (by rw[show({ σ with h:=h' }:St).ev=σ.ev from funext hev];exact h1)
    obtain⟨v,hrun,hv⟩:=hy;unfold Oper.wp;rw[hrun];exact hn _ w E1 _ (r1.put o.dst hv) r2 hK
   .exact h1.elim
  .intro E a w hr next Q hn;rw[Je,Je]at h1;obtain⟨y,hK,v,hrun,hv⟩:=aH0 (σ:= σ) ho (hx w E _ rfl (hr.ev x)) hr h1;unfold Oper.wp;rw[hrun];exact hn _ w E _ (hr.put o.dst hv) (Ext.refl E w) hK
 .exact Bk h
def Zh(P:Program)(σ:St)(d:Option Tmp)(op:Op)(g:Option Bool)(K:St->Prop):Prop:=
 match g with
 |some g=>if fM P op=true then pstep P g σ op (tW K σ d g)else (g=true->tZ P σ d op K)/\(g=false->K (σ.put d .dead))
 |none=>False
def Pm(P:Program)(ops:List Oper)(σ:St)(d:Option Tmp)(op:Op)(guard:Option (Nat×Bool))(K:St->Prop):Prop:=
 match guard with
 |none=>tZ P σ d op K
 |some (j,want)=>Zh P σ d op (nA ops σ j want) K
def tC(P:Program)(ops:List Oper)(l:List Oper)(K:St->Prop)(σ:St):Prop:=
 match l with
 |[]=>K σ
 |o::r=>Pm P ops σ o.dst o.op o.guard (tC P ops r K)
theorem Nf{P:Program}{ops:List Oper}{Q:Exit->St->Prop}:∀(l:List Oper) (σ:St),tC P ops l (Q .normal) σ ->∀E a w,RelF E σ a w ->∀E0 w0,Ext E0 w0 E w->wpListIn (Wd E.ro) 0 P ops.toArray (sD E0 w0 Q) l a w
 |[],σ,h,E,a,w,hr,E0,w0,hE=>⟨σ,E,hr,hE,h⟩
 |o::r,σ,h,E,a,w,hr,E0,w0,hE=>by
  have next:∀{σ'} {E':Env} {a' w'},tC P ops r (Q .normal) σ'->RelF E' σ' a' w'->Ext E w E' w'->wpListIn (Wd E.ro) 0 P ops.toArray (sD E0 w0 Q) r a' w':=λh3 h1 h2=>by
   have:=Nf r _ h3 _ _ _ h1 E0 w0 (hE.trans h2);rwa[h2.ro]at this
  unfold tC Pm at h;unfold wpListIn;split at h
  .rename_i hg;have hw:Region.wanted o (yielded ops.toArray a.tmps)=true:=by simp[Region.wanted,hg]
   rw[if_pos hw];exact wQ h E a w hr _ _ λa' w' E' σ' h1 h2 h3=>next h3 h1 h2
  .rename_i j want hg;unfold Zh at h;split at h
   .rename_i g hgs;have hw:=zZ hr hg hgs;rw[hw];split at h
    .obtain⟨x,hK,hy⟩:=nX h;cases g with
     |true=>
      rw[if_pos rfl];exact fE (.inr (qG h)) (hy rfl E a w hr _ _ λv w' E' h1 h2 h3 _=>next hK (h1.put o.dst (nG (by rw[RdV];exact⟨λ_=>h3,λh=>by cases h⟩))) h2)
     |false=>
      rw[if_neg (by simp)];exact⟨λ_ _=>trivial,next hK (hr.put o.dst (nG (by rw[RdV];exact⟨λh=>(by cases h),λ_=>rfl⟩))) (Ext.refl E w)⟩
    .cases g with
     |true=>
      rw[if_pos rfl];exact wQ (h.1 rfl) E a w hr _ _ λa' w' E' σ' h1 h2 h3=>next h3 h1 h2
     |false=>
      rw[if_neg (by simp)];exact⟨λ_ _=>trivial,next (h.2 rfl) (hr.put o.dst (by simp only[RdV])) (Ext.refl E w)⟩
   .exact h.elim
def Jw(K:St->Prop)(Q:Exit->St->Prop)(e:Exit)(σ:St):Prop:=
 match e with
 | .normal=>K σ
 |e=>Q e σ
def Se(id:Nat)(Q:Exit->St->Prop)(e:Exit)(σ:St):Prop:=
 match e with
 | .exit i=>if i=id then Q .normal σ else Q (.exit i) σ
 |e=>Q e σ
def Rs(x:V)(A B:Prop):Prop:=
 match x with
 | .t (.lit (.bool b))=>(b=true->A)/\(b=false->B)
 | .cond g (.t (.lit (.bool b)))=>g=true/\(b=true->A)/\(b=false->B)
 |_=>False
def Xe(P:Program)(n0:Nat)(id:Nat)(ops:Array Oper)(Q:Exit->St->Prop)(σ:St):Prop:=AWP P n0 (.region id ops true) Q σ
def Hp(Q:Exit->St->Prop)(σ:St)(b:Option Blk):Prop:=
 match b with
 |some (.loop .ready none _ _ _ _)=>Q .normal σ
 |some (.loop .done (some .ret) _ _ _ _)=>Q .ret σ
 |some (.loop .done (some (.exit id)) _ _ _ _)=>Q (.exit id) σ
 |some (.loop .done (some (.goto t)) _ _ _ _)=>Q (.goto t) σ
 |_=>False
def Pc(i:Nat)(Q:Exit->St->Prop)(σ:St):Prop:=Hp Q { σ with h:= σ.h.del i } (σ.h.look i)
def Yg(P:Program)(σ:St)(Q:Exit->St->Prop)(ps:List Tmp)(assign body:Code)(f:FuncId)(cs:List V):Prop:=
 xU σ.df=false/\ICall P { σ with h:=(σ.nx+1,.loop .ready none σ.fr ps assign body)::(σ.nx,.defd)::σ.h,nx:= σ.nx+2,df:=.mark σ.nx::σ.df } none f (.own (σ.nx+1)::cs) (Pc (σ.nx+1) Q)
def Yh(P:Program)(σ:St)(Q:Exit->St->Prop)(ps:List Tmp)(assign body:Code)(c:Option (FuncId×List V)):Prop:=
 match c with
 |some (f,cs)=>P.enters f=true/\Yg P σ Q ps assign body f cs
 |none=>False
def aw(P:Program)(n0:Nat)(c:Code)(Q:Exit->St->Prop)(σ:St):Prop:=
 match c with
 | .skip=>Q .normal σ
 | .region id ops draw=>if draw=true then Xe P n0 id ops Q σ else tC P ops.toList ops.toList (Q .normal) σ
 | .seq a b=>aw P n0 a (Jw (aw P n0 b Q) Q) σ
 | .cond c x y=>Rs (σ.ev c) (aw P n0 x Q σ) (aw P n0 y Q σ)
 | .block id c=>aw P n0 c (Se id Q) σ
 | .exit id=>Q (.exit id) σ
 | .ret=>Q .ret σ
 | .label _=>Q .normal σ
 | .loop c=>AWP P n0 (.loop c) Q σ
 | .rangeFunc g ps assign body=>dB true (σ.ev g) λg'=>Yh P σ Q ps.toList assign body (aFz g')
 |_=>False
theorem aH{P:Program}{n0:Nat}{a b:Code}{Q:Exit->St->Prop}{σ:St}(h:AWP P n0 a (Jw (AWP P n0 b Q) Q) σ):AWP P n0 (.seq a b) Q σ:=by
 intro E ac w hr E0 w0 hU hE;refine wpIn_seq (wpIn_mono (h E ac w hr E0 w0 hU hE) ?_);rintro e a' w' ⟨σ',E',h1,h2,h3⟩;cases e with
 |normal=>
  have:=h3 E' a' w' h1 E0 w0 hU h2;rwa[show E'.ro=E.ro from h2.ro.trans hE.ro.symm]at this
 |_=>exact⟨σ',E',h1,h2,h3⟩
theorem wT{P:Program}{n0:Nat}{id:Nat}{c:Code}{Q:Exit->St->Prop}{σ:St}(h:AWP P n0 c (Se id Q) σ):AWP P n0 (.block id c) Q σ:=by
 intro E a w hr E0 w0 hU hE;refine wpIn_block (wpIn_mono (h E a w hr E0 w0 hU hE) ?_);rintro e a' w' ⟨σ',E',h1,h2,h3⟩;cases e with
 |exit i=>
  simp only[Se]at h3;simp only[Exit.inBlock];split
  .rename_i hi;rw[if_pos hi]at h3;exact⟨σ',E',h1,h2,h3⟩
  .rename_i hi;rw[if_neg hi]at h3;exact⟨σ',E',h1,h2,h3⟩
 |_=>exact⟨σ',E',h1,h2,h3⟩
theorem aTy{P:Program}{n0:Nat}{c:Operand}{x y:Code}{Q:Exit->St->Prop}{σ:St}(h:Rs (σ.ev c) (AWP P n0 x Q σ) (AWP P n0 y Q σ)):AWP P n0 (.cond c x y) Q σ:=by
 intro E a w hr E0 w0 hU hE;have hv:=hr.ev c;unfold Rs at h;split at h
 .rename_i b he;rw[he]at hv;exact wpIn_cond_split (aJ hv).1 (λhb=>h.1 hb E a w hr E0 w0 hU hE) λhb=>h.2 hb E a w hr E0 w0 hU hE
 .rename_i g b he;rw[he,RdV]at hv;exact wpIn_cond_split (aJ (hv.1 h.1)).1 (λhb=>h.2.1 hb E a w hr E0 w0 hU hE) λhb=>h.2.2 hb E a w hr E0 w0 hU hE
 .exact h.elim
theorem aN1{P:Program}{n0:Nat}{g:Operand}{ps:Array Tmp}{assign body:Code}{Q:Exit->St->Prop}{σ:St}(h:dB true (σ.ev g) λg'=>Yh P σ Q ps.toList assign body (aFz g')):AWP P n0 (.rangeFunc g ps assign body) Q σ:=by
 obtain⟨g',h0,hg⟩:=cB h;unfold Yh at h0;split at h0
 .rename_i f cs hc;obtain⟨hen,hro,hI⟩:=h0;intro E a w hr E0 w0 hU hE;have hrn:E.ro=none:=hr.defers.ro hro;obtain⟨vs,hval,hcs⟩:∃vs:Array Value,a.eval g=.func (.func f) #[] vs/\RdVs w E cs vs.toList:=by
   have hv:=hg w E _ rfl (hr.ev g);unfold aFz at hc;split at hc
   .injection hc with hc;injection hc with hc1 hc2;subst hc1 hc2;simp only[RdV]at hv;exact hv
   .injection hc with hc;injection hc with hc1 hc2;subst hc1 hc2;exact⟨#[],(aJ hv).1,by simp only[RdVs]⟩
   .cases hc
  rw[hrn];refine wpIn_rangeFunc λfn _=>?_
  obtain⟨b1,b2,b3⟩:=hr.add (hv:=.pointer (some ⟨w.heap.size,0,none⟩)) (blk:=.defd) (S':=E.S) (w':=w.alloc (.deferred (some []))) (kU w _) (λ_ h=>h) (λ_ h=> .inl h) (λb hb=>by have:=hr.rel.slt b hb;simp;omega)
   (λ_=>⟨w.heap.size,rfl,World.alloc_heap_new w _⟩) (λb hb=>by injection hb with hb;subst hb;exact⟨Nat.le_refl _,by simp,λhs=>absurd (hr.rel.slt _ hs) (by simp)⟩) rfl rfl
  obtain⟨rec,hrec⟩:∃rec:Loop,rec={ state:=.ready,pending:=none,fn,tmps:=a.tmps,params:=ps,assign,body,defers:=w.heap.size }:=⟨_,rfl⟩
  obtain⟨c1,c2,c3⟩:=b1.add (hv:=.func (.yield (w.heap.size+1)) #[] #[]) (blk:=.loop .ready none σ.fr ps.toList assign body) (S':=E.S) (w':=(w.alloc (.deferred (some []))).alloc (.loop rec)) (kU _ _) (λ_ h=>h) (λ_ h=> .inl h)
   (λb hb=>by have:=hr.rel.slt b hb;simp;omega)
   (λhE2=>⟨w.heap.size+1,rec,rfl,by have:=World.alloc_heap_new (w.alloc (.deferred (some []))) (.loop rec);rwa[World.size_alloc]at this,by rw[hrec],by rw[hrec],by rw[hrec],by rw[hrec],by rw[hrec],by rw[show rec.tmps=a.tmps from by rw[hrec]];exact hE2.rdVs _ b1.fr⟩)
   (λb hb=>by injection hb with hb;subst hb;exact⟨by simp,by simp,λhs=>by have:=hr.rel.slt _ hs;omega⟩) rfl rfl
  generalize hE2:(({ (({ E with S:=E.S }:Env).add σ.nx (.pointer (some ⟨w.heap.size,0,none⟩)))with S:=E.S }:Env).add (σ.nx+1) (.func (.yield (w.heap.size+1)) #[] #[]))=E2 at*;have x2:Ext E w E2 ((w.alloc (.deferred (some []))).alloc (.loop rec)):=by
   have:=b2.trans c2;rw[<-hE2];rw[<-hE2]at this;exact this
  have hrc:RdVs ((w.alloc (.deferred (some []))).alloc (.loop rec)) E2 (.own (σ.nx+1)::cs) (.func (.yield (w.heap.size+1)) #[] #[]::vs.toList):=by
   simp only[RdVs];refine⟨?_,x2.rdVs _ hcs⟩;rw[<-hE2];rw[<-hE2]at c3;exact c3
  have hcall:=hI E2 _ _ c1.rel c1.bound hrc;refine⟨w.heap.size+1,[{ target:=.collected w.heap.size,args:=#[] }],(w.alloc (.deferred (some []))).alloc (.loop rec),{ target:=.fn (.func f) vs,args:=#[.func (.yield (w.heap.size+1)) #[] #[]] },
   (w.alloc (.deferred (some []))).alloc (.loop rec),f,#[.func (.yield (w.heap.size+1)) #[] #[]]++vs,(w.alloc (.deferred (some []))).alloc (.loop rec),?_,?_,λ_ _=>trivial,?_,λhq=>by simp[Wd,Fence.wide]at hq,?_⟩
  .rw[hrec];exact run_enterLoop_outer _ _ _ _ _
  .simp only[resolve,hval];simp[go_sem]
  .simp[invoke,go_sem,Cj hen]
  .have e1:(#[.func (.yield (w.heap.size+1)) #[] #[]]++vs:Array Value)=(.func (.yield (w.heap.size+1)) #[] #[]::vs.toList).toArray:=by apply Array.ext';simp
   rw[e1];refine Rz ((CallX.calls hen hcall).mono ?_);rintro e w' ⟨v,x,h',nx',E',rfl,q2,q3,q4,q5,q6⟩;have hbd:=c1.fr;unfold Pc Hp at q6;have hEE:Ext E0 w0 E' w':=(hE.trans x2).trans q4;have hf:=x2.trans q4;have hmark:RdV w' E' (.own σ.nx) (.pointer (some ⟨w.heap.size,0,none⟩)):=by
    have h1:=c2.rdV _ b3;refine q4.rdV _ (?_:RdV _ E2 _ _);rw[<-hE2];rw[<-hE2]at h1;exact h1
   have hrel:RelF E' { fr:= σ.fr,h:=h',nx:=nx',df:=.mark σ.nx::σ.df } { a with defers:={ target:=.collected w.heap.size,args:=#[] }::a.defers } w':=
    ⟨q2,q3,hf.rdVs _ hr.fr,⟨⟨_,rfl,hmark⟩,hf.defs hr.defers⟩⟩
   have hU2:E2.U (σ.nx+1):=by rw[<-hE2];exact .inl rfl
   have hB2:E2.B (σ.nx+1)=some (.func (.yield (w.heap.size+1)) #[] #[]):=by rw[<-hE2];simp[Env.add]
   have key:∀st pend tmps' ps' assign' body',Heap.look h' (σ.nx+1)=some (.loop st pend tmps' ps' assign' body')->st ≠ .busy ->
     ∃w4,(Instr.endLoop (w.heap.size+1)).run P w'=.ok pend w4 /\∃E4,RelF E4 { fr:= σ.fr,h:=h'.del (σ.nx+1),nx:=nx',df:=.mark σ.nx::σ.df } { a with defers:={ target:=.collected w.heap.size,args:=#[] }::a.defers } w4/\Ext E0 w0 E4 w4:=by
    intro st pend tmps' ps' assign' body' hl hst;obtain⟨l2,rec2,hB',t2,t3,t4,t5,t6,t7,t8⟩:=Fm q2 hl;have he:=q4.same hU2 hB2 hB';injection he with he;injection he with he;subst he;obtain⟨k1,k2⟩:=hrel.loopSet (st':=.exhausted) (pend':=pend) hl hB' t2;obtain⟨k3,k4⟩:=k1.drop (σ.nx+1);have e1:(Heap.set h' (σ.nx+1) (.loop .exhausted pend tmps' ps' assign' body')).del (σ.nx+1)=h'.del (σ.nx+1):=Heap.del_set _ _ _;dsimp only at k3;rw[e1]at k3;refine⟨_,?_,_,k3,(hEE.trans k2).trans k4⟩;rw[run_endLoop t2 (by rw[t3];exact hst),t4]
   split at q6
   .rename_i hl;obtain⟨w4,h1,E4,h2,h3⟩:=key _ _ _ _ _ _ hl (by decide);exact⟨_,_,h1,_,E4,h2,h3,q6⟩
   .rename_i hl;obtain⟨w4,h1,E4,h2,h3⟩:=key _ _ _ _ _ _ hl (by decide);exact⟨_,_,h1,wpIn_ret ⟨_,E4,h2,h3,q6⟩⟩
   .rename_i hl;obtain⟨w4,h1,E4,h2,h3⟩:=key _ _ _ _ _ _ hl (by decide);exact⟨_,_,h1,wpIn_exit ⟨_,E4,h2,h3,q6⟩⟩
   .rename_i hl;obtain⟨w4,h1,E4,h2,h3⟩:=key _ _ _ _ _ _ hl (by decide);exact⟨_,_,h1,wpIn_goto ⟨_,E4,h2,h3,q6⟩⟩
   .exact q6.elim
 .exact h0.elim
theorem aB{P:Program}{n0:Nat}:∀(c:Code) {Q:Exit->St->Prop} {σ:St},aw P n0 c Q σ->AWP P n0 c Q σ
 | .skip,Q,σ,h=>λE a w hr E0 w0 hU hE=>wpIn_skip ⟨σ,E,hr,hE,h⟩
 | .label _,Q,σ,h=>λE a w hr E0 w0 hU hE=>wpIn_label ⟨σ,E,hr,hE,h⟩
 | .exit _,Q,σ,h=>λE a w hr E0 w0 hU hE=>wpIn_exit ⟨σ,E,hr,hE,h⟩
 | .ret,Q,σ,h=>λE a w hr E0 w0 hU hE=>wpIn_ret ⟨σ,E,hr,hE,h⟩
 | .region id ops draw,Q,σ,h=>by
  unfold aw at h;split at h
  .rename_i hd;subst hd;exact h
  .rename_i hd;have:draw=false:=by simpa using hd
   subst this;intro E a w hr E0 w0 hU hE;have:=Nf _ _ h E a w hr E0 w0 hE;rw[Array.toArray_toList]at this;exact wpIn_region_list this
 | .seq a b,Q,σ,h=>by
  unfold aw at h;refine aH (Gr (aB a h) λe σ' h'=>?_);cases e with
  |normal=>exact aB b h'
  |_=>exact h'
 | .cond c x y,Q,σ,h=>by
  unfold aw at h;refine aTy ?_;unfold Rs at h⊢;split at h
  .exact⟨λhb=>aB x (h.1 hb),λhb=>aB y (h.2 hb)⟩
  .exact⟨h.1,λhb=>aB x (h.2.1 hb),λhb=>aB y (h.2.2 hb)⟩
  .exact h.elim
 | .block id c,Q,σ,h=>by
  unfold aw at h;exact wT (aB c h)
 | .loop c,Q,σ,h=>by unfold aw at h;exact h
 | .rangeFunc g ps assign body,Q,σ,h=>by unfold aw at h;exact aN1 h
 | .scope _,Q,σ,h=>by unfold aw at h;exact h.elim
 | .goto _,Q,σ,h=>by unfold aw at h;exact h.elim
 | .refuse _,Q,σ,h=>by unfold aw at h;exact h.elim
def aB8(P:Program)(σ:St)(r:ResultVar):Option V:=
 match r with
 | .tmp t=>some (σ.fr.getD t .dead)
 | .cell a t=>match σ.fr.getD a .dead with
  | .own i=>match σ.h.look i with
   |some (.box cs)=>wD P t cs 0
   |_=>none
  |_=>none
def Ck(P:Program)(σ:St):List ResultVar->Option (List V)
 |[]=>some []
 |r::rs=>match aB8 P σ r,Ck P σ rs with
  |some x,some xs=>some (x::xs)
  |_,_=>none
def aA5:List V->V
 |[x]=>x
 |xs=> .tup xs
def aN6(P:Program)(g:FuncId):Prop:=
 P.enters g=true /\∀(cap:Array Value) (w:World),CallsDIn Fence.wide 0 P g cap .returning w λe u' w'=>(∃v,e=.returned v)/\u'=.returning/\w'=w
def Zc(b:Option Blk):Prop:=
 match b with
 |some .defd=>True
 |_=>False
def uD(P:Program):List Dfr->Heap->Prop
 |[],_=>True
 | .fn g::gs,h=>aN6 P g/\uD P gs h
 | .fnc g cs::gs,h=>aN6 P g/\uD P gs h
 | .mark i::gs,h=>Zc (h.look i)/\uD P gs (h.del i)
 | .rnd::_,_=>False
def Dv:List Dfr->Heap->Heap
 | .mark i::gs,h=>Dv gs (h.del i)
 |_::gs,h=>Dv gs h
 |[],h=>h
def Tf(σ:St):St:={ σ with h:=Dv σ.df σ.h,df:=[] }
@[go_sem] theorem endS_eq{fr:List V}{h:Heap}{nx:Nat}{df:List Dfr}:Tf ⟨fr,h,nx,df⟩=⟨fr,Dv df h,nx,[]⟩:=rfl
@[go_sem] theorem clsH_nil{h:Heap}:Dv [] h=h:=rfl
@[go_sem] theorem clsH_fn{g:FuncId}{gs:List Dfr}{h:Heap}:Dv (.fn g::gs) h=Dv gs h:=rfl
@[go_sem] theorem clsH_fnc{g:FuncId}{cs:List V}{gs:List Dfr}{h:Heap}:Dv (.fnc g cs::gs) h=Dv gs h:=rfl
@[go_sem] theorem clsH_mark{i:Nat}{gs:List Dfr}{h:Heap}:Dv (.mark i::gs) h=Dv gs (h.del i):=rfl
@[go_sem] theorem nopDs_nil{P:Program}{h:Heap}:uD P [] h=True:=rfl
@[go_sem] theorem nopDs_fn{P:Program}{g:FuncId}{gs:List Dfr}{h:Heap}:uD P (.fn g::gs) h=(aN6 P g/\uD P gs h):=rfl
@[go_sem] theorem nopDs_fnc{P:Program}{g:FuncId}{cs:List V}{gs:List Dfr}{h:Heap}:uD P (.fnc g cs::gs) h=(aN6 P g/\uD P gs h):=rfl
@[go_sem] theorem nopDs_mark{P:Program}{i:Nat}{gs:List Dfr}{h:Heap}:uD P (.mark i::gs) h=(Zc (h.look i)/\uD P gs (h.del i)):=rfl
@[go_sem] theorem isDefd_eq:Zc (some .defd)=True:=rfl
theorem Db{P:Program}{f:FuncId}(he:P.enters f=true)(cap:Array Value)(w:World):(invoke (.fn (.func f) cap) #[]).run P w=.ok (.enter f cap) w:=by
 unfold Program.enters at he;split at he
 .rename_i fn hf;simp only[Bool.and_eq_true,Bool.not_eq_true']at he;have hn : ¬fn.name = "runtime.NumGoroutine" :=by simpa using he.1
  have hb : ¬fn.body=none:=λh=>by rw[h]at he;simp at he
  simp[invoke,callFunc,hf,hn,hb]
 .cases he
def Hm(P:Program)(rs:List ResultVar)(K:V->St->Prop)(e:Exit)(σ:St):Prop:=
 match e with
 | .ret| .normal=>match Ck P (Tf σ) rs with
  |some xs=>uD P σ.df σ.h/\K (aA5 xs) (Tf σ)
  |none=>False
 |_=>False
theorem Nv{P:Program}{rs:List ResultVar}{K:V->St->Prop}{e:Exit}{σ:St}(h:Hm P rs K e σ):(e=.ret\/e=.normal) /\∃xs,Ck P (Tf σ) rs=some xs/\uD P σ.df σ.h/\K (aA5 xs) (Tf σ):=by
 cases e with
 |normal=>simp only[Hm]at h;split at h<;>first|exact⟨.inr rfl,_,by assumption,h⟩|exact h.elim
 |ret=>simp only[Hm]at h;split at h<;>first|exact⟨.inl rfl,_,by assumption,h⟩|exact h.elim
 |exit _=>exact h.elim
 |goto _=>exact h.elim
 |panic _=>exact h.elim
 |outgrown=>exact h.elim
def retQ(P:Program)(rs:List ResultVar)(K:V->Heap->Prop)(e:Exit)(σ:St):Prop:=
 match e with
 | .ret| .normal=>match Ck P (Tf σ) rs with
  |some xs=>uD P σ.df σ.h/\K (aA5 xs) (Tf σ).h
  |none=>False
 |_=>False
theorem aQ0{P:Program}{rs:List ResultVar}{K:V->Heap->Prop}{e:Exit}{σ:St}(h:retQ P rs K e σ):Hm P rs (λx σ=>K x σ.h) e σ:=by
 cases e<;>first|exact h|exact h.elim
theorem aPv{P:Program}{E:Env}{σ:St}{a:Act}{w:World}(hr:RelF E σ a w):∀(r:ResultVar) (x:V),aB8 P σ r=some x ->
  ∃v,(match r with
   | .tmp t=>pure (a.tmps.getD t undef)
   | .cell b t=>do loadVar t (<-asAddr (a.tmps.getD b undef)):Sem Value).run P w=.ok v w/\RdV w E x v
 | .tmp t,x,h=>by
  simp only[aB8,Option.some.injEq]at h;subst h;exact⟨a.tmps.getD t undef,rfl,hr.ev (.tmp t)⟩
 | .cell b t,x,h=>by
  simp only[aB8]at h;split at h
  .rename_i i he;split at h
   .rename_i cs hl;obtain⟨g,vs,ty,hB,hh,h1,h2⟩:=qY hr.rel hl;have e1:=hr.ev (.tmp b);have e0:σ.ev (.tmp b)=.own i:=he;rw[e0]at e1;simp only[RdV]at e1;have e2:a.tmps.getD b undef=.pointer (some ⟨g,0,none⟩):=e1.2.2 _ (.inl hB);obtain⟨u,hu,hru⟩:=qM (P:=P) (o:=0) (yA hh) h1 h2 h;exact⟨u,by simp only[e2,asAddr,Sem.run_bind,Sem.run_pure,Result.andThen_ok];exact hu,hru⟩
   .cases h
  .cases h
theorem aB1{P:Program}{E:Env}{σ:St}{a:Act}{w:World}(hr:RelF E σ a w):∀(rs:List ResultVar) (xs:List V),Ck P σ rs=some xs ->
  ∃vs,(rs.mapM fun
   | .tmp t=>pure (a.tmps.getD t undef)
   | .cell b t=>do loadVar t (<-asAddr (a.tmps.getD b undef)):Sem (List Value)).run P w=.ok vs w/\RdVs w E xs vs
 |[],xs,h=>by
  simp only[Ck,Option.some.injEq]at h;subst h;exact⟨[],by simp,by simp only[RdVs]⟩
 |r::rs,xs,h=>by
  simp only[Ck]at h;split at h
  .rename_i x xs' h1 h2;injection h with h;subst h;obtain⟨v,q1,q2⟩:=aPv hr r x h1;obtain⟨vs,q3,q4⟩:=aB1 hr rs xs' h2;refine⟨v::vs,?_,by simp only[RdVs];exact⟨q2,q4⟩⟩;rw[List.mapM_cons];simp only[Sem.run_bind,q1,Result.andThen_ok,q3,Sem.run_pure]
  .cases h
theorem uN{P:Program}{E:Env}{σ:St}{a:Act}{w:World}{fn:Func}{xs:List V}(hr:RelF E σ a w)(h:Ck P σ fn.results.toList=some xs):
  ∃v,(results fn a.tmps).run P w=.ok v w/\RdV w E (aA5 xs) v:=by
 obtain⟨vs,h1,h2⟩:=aB1 hr _ _ h;have e1:(results fn a.tmps)=(do
   let vs <-(fn.results.toList.mapM fun
    | .tmp t=>pure (a.tmps.getD t undef)
    | .cell b t=>do loadVar t (<-asAddr (a.tmps.getD b undef)):Sem (List Value))
   pure (if h:vs.toArray.size=1 then vs.toArray[0]else .tuple vs.toArray)):=by
  unfold results;rw[Array.mapM_eq_mapM_toList];simp only[map_eq_pure_bind,bind_assoc,pure_bind];rfl
 have hl:=RdVs.len h2;refine⟨if h:vs.toArray.size=1 then vs.toArray[0]else .tuple vs.toArray,?_,?_⟩
 .rw[e1];simp only[Sem.run_bind,h1,Result.andThen_ok,Sem.run_pure]
 .cases xs with
  |nil=>
   cases vs with
   |nil=>simp only[aA5,RdV];exact⟨#[],rfl,by simpa using h2⟩
   |cons _ _=>simp only[RdVs]at h2
  |cons x xs=>
   cases xs with
   |nil=>
    cases vs with
    |nil=>simp only[RdVs]at h2
    |cons v vs=>
     cases vs with
     |nil=>simp only[RdVs]at h2;exact h2.1
     |cons _ _=>simp at hl
   |cons y ys=>
    have hne : ¬vs.toArray.size=1:=by simp;simp at hl;omega
    rw[dif_neg hne];simp only[aA5,RdV];exact⟨_,rfl,by simpa using h2⟩
def uB(P:Program)(n:Nat)(args:List V)(h:Heap)(nx:Nat):St:={ fr:=args++List.replicate (n-args.length) .dead,h:=h,nx:=nx }
theorem Be{w:World}{E:Env}:∀(n:Nat),RdVs w E (List.replicate n .dead) (List.replicate n undef)
 |0=>by simp only[List.replicate_zero,RdVs]
 |n+1=>by simp only[List.replicate_succ,RdVs,RdV];exact⟨trivial,Be n⟩
def aQ6(r:V)(x:V)(h:Heap):Prop:=x.lend h=r/\r.pure=true
theorem RelF.other{w w':World}{E:Env}{σ:St}{a:Act}{b:Nat}(hr:RelF E σ a w)(hg:w.grownBy w' (some b))(hsz:w'.heap.size=w.heap.size)(hS : ¬E.S b)(hD : ¬E.D b)(hno:∀i hv,E.B i=some hv->aV hv≠some b):RelF E σ a w'/\Ext E w E w':=by
 have hE:Ext E w E w':=⟨hg.os,hg.tape,hg.output,hg.size,λq hq=>hg.block q (hq.elim (hr.rel.slt q) (hr.rel.dlt q)) (λe=>by injection e with e;subst e;exact hq.elim hS hD),λ_ h=>h,λ_ h=> .inl h,λ_=> .rfl,λ_ h=>h,λ_ _ _ h=>h,λ_ _ _ h=>h,rfl⟩
 refine⟨⟨⟨λj blk hl=>?_,hr.rel.dom,hr.rel.domF,λj v q hB hq=>?_,hr.rel.apart,λq hq=>by rw[hsz];exact hr.rel.slt q hq,λq hq=>by rw[hsz];exact hr.rel.dlt q hq⟩,hr.bound,hE.rdVs _ hr.fr,hE.defs hr.defers⟩,hE⟩
 .obtain⟨v,hB,hrel⟩:=hr.rel.has j blk hl;refine⟨v,hB,?_⟩;cases hm:blk.mine with
  |true=>
   have hB':E.B j=some v:=by rw[<-mF hm];exact hB
   exact hrel.keep hE λq hq=>hg.block q (hr.rel.own j v q hB' hq).1 λe=>hno j v hB' (by rw[hq,e])
  |false=>cases blk<;>first|exact hE.rdT hrel|simp[Blk.mine]at hm
 .obtain⟨q1,q2,q3⟩:=hr.rel.own j v q hB hq;exact⟨by rw[hsz];exact q1,q2,q3⟩
theorem qN{P:Program}{fn:Func}{tmps:Array Value}{R:Ending->World->Prop}{fr:List V}{nx:Nat}:∀(df:List Dfr) (ds:List Deferred) {h:Heap} {E:Env} {w:World},RelF E { fr:=fr,h:=h,nx:=nx,df:=df } { tmps:=tmps,defers:=ds } w->uD P df h ->
  (∀E' w',Rel w' E' (Dv df h)->(∀i,E'.U i->i<nx)->RdVs w' E' fr tmps.toList->Ext E w E' w' ->∃v,(results fn tmps).run P w'=.ok v w'/\R (.returned v) w')->LeavesInM Fence.wide 0 P fn tmps R ds .returning w
 |[],ds,h,E,w,hr,hn,hR=>by
  obtain rfl:ds=[]:=hr.defers.1;exact hR E w hr.rel hr.bound hr.fr (Ext.refl E w)
 | .rnd::gs,ds,h,E,w,hr,hn,hR=>hn.elim
 | .fn g::gs,[],h,E,w,hr,hn,hR=>hr.defers.elim
 | .fnc g cs::gs,[],h,E,w,hr,hn,hR=>hr.defers.elim
 | .mark i::gs,[],h,E,w,hr,hn,hR=>hr.defers.elim
 | .fn g::gs,d::ds,h,E,w,hr,hn,hR=>by
  obtain⟨⟨cap,rfl⟩,hd⟩:=hr.defers;refine⟨by simp,.inr ⟨λhq=>by simp[Fence.wide]at hq,.func g,cap,g,cap,rfl,Db hn.1.1 cap w,λ_ _=>trivial,?_⟩⟩;refine(hn.1.2 cap w).mono ?_;rintro e u' w' ⟨⟨v,rfl⟩,rfl,rfl⟩;exact qN gs ds (E:=E) ⟨hr.rel,hr.bound,hr.fr,hd⟩ hn.2 hR
 | .fnc g cs::gs,d::ds,h,E,w,hr,hn,hR=>by
  obtain⟨⟨cap,rfl,_⟩,hd⟩:=hr.defers;refine⟨by simp,.inr ⟨λhq=>by simp[Fence.wide]at hq,.func g,cap,g,cap,rfl,Db hn.1.1 cap w,λ_ _=>trivial,?_⟩⟩;refine(hn.1.2 cap w).mono ?_;rintro e u' w' ⟨⟨v,rfl⟩,rfl,rfl⟩;exact qN gs ds (E:=E) ⟨hr.rel,hr.bound,hr.fr,hd⟩ hn.2 hR
 | .mark i::gs,d::ds,h,E,w,hr,hn,hR=>by
  obtain⟨⟨b,rfl,hv⟩,hd⟩:=hr.defers;obtain⟨hdef,hn2⟩:=hn;unfold Zc at hdef;split at hdef
  .rename_i hl;obtain⟨hv',hB,b',rfl,hw⟩:=hr.rel.has i _ hl;simp only[RdV]at hv;have he:=hv.2.2 _ (.inl hB);injection he with he;injection he with he;injection he with he;subst he;have hr1:RelF E { fr:=fr,h:=h,nx:=nx,df:=gs } { tmps:=tmps,defers:=ds } w:=⟨hr.rel,hr.bound,hr.fr,hd⟩
   obtain⟨o1,o2,o3⟩:=hr.rel.own i _ b hB rfl;obtain⟨k1,k2⟩:=hr1.drop i;obtain⟨k3,k4⟩:=k1.other (b:=b) (w':=w.putObj b (.deferred none)) ⟨rfl,rfl,rfl,by simp,λk hk hne=>World.putObj_heap_other λe=>hne (by rw[e])⟩ (by simp) o2 o3 (λj v hBj hbj=>by
    simp only[Env.drop]at hBj;split at hBj
    .cases hBj
    .rename_i hji;exact hji (hr.rel.apart j i v _ b hBj hB hbj rfl))
   refine⟨by simp,.inl ⟨b,_,rfl,run_takeDeferred hw,?_⟩⟩;refine qN gs ds k3 hn2 λE' w' q1 q2 q3 q4=>hR E' w' q1 q2 q3 ((k2.trans k4).trans q4)
  .exact hdef.elim
theorem pJ{P:Program}{f:FuncId}{fn:Func}{c:Code}{args:List V}{n n0 nx:Nat}{rs:List ResultVar}{h0:Heap}{K:V->St->Prop}{R:Ending->World->Prop}(hf:P.funcs[f]?=some fn)(hb:fn.body=some c)(hn:fn.ntmps=n)
  (hrs:fn.results.toList=rs) (h:AWP P n0 c (Hm P rs K) (uB P n args h0 nx)) {E:Env} {w:World} {vs:List Value} (hr:Rel w E h0) (hbd:∀i,E.U i->i<nx) (hU:∀i,E.U i->i<n0) (hargs:RdVs w E args vs)
  (hR:∀v x σ' E' w',Rel w' E' σ'.h->(∀i,E'.U i->i<σ'.nx)->Ext E w E' w'->RdV w' E' x v->K x σ'->R (.returned v) w'):Calls P f vs.toArray w R:=by
 refine(callsIn_wide (n:=0)).1 (callsIn_of_wp_marks hf hb trivial ?_);have hlen:=RdVs.len hargs;have hrel:RelF (E.at0 none) (uB P n args h0 nx) { tmps:=vs.toArray++Array.replicate (fn.ntmps-vs.toArray.size) undef,defers:=[] } w:=by
  refine⟨hr.ro none,hbd,?_,⟨rfl,rfl⟩⟩;have e1:(vs.toArray++Array.replicate (fn.ntmps-vs.toArray.size) undef).toList=vs++List.replicate (n-args.length) undef:=by
   rw[hn,hlen];simp
  show RdVs w (E.at0 none) (args++List.replicate (n-args.length) .dead) _
  rw[e1];exact RdVs.append (hargs.ro none) (Be _)
 refine wpIn_mono (h (E.at0 none) _ w hrel (E.at0 none) w hU (Ext.refl _ _)) ?_;rintro e a' w' ⟨σ',E',h1,h2,h3⟩;obtain⟨he,xs,hxs,hnop,hK⟩:=Nv h3;have key:LeavesInM Fence.wide 0 P fn a'.tmps R a'.defers .returning w':=by
  refine qN σ'.df a'.defers (fr:= σ'.fr) (nx:= σ'.nx) (h:= σ'.h) (E:=E') ⟨h1.rel,h1.bound,h1.fr,h1.defers⟩ hnop λE2 w2 q1 q2 q3 q4=>?_
  have hr2:RelF (E2.at0 none) { fr:= σ'.fr,h:=Dv σ'.df σ'.h,nx:= σ'.nx,df:=[] } { tmps:=a'.tmps,defers:=[] } w2:=⟨q1.ro none,q2,q3.ro none,⟨rfl,rfl⟩⟩
  obtain⟨v,hv,hrv⟩:=uN (fn:=fn) (xs:=xs) hr2 (by rw[hrs];exact hxs);have hx:Ext E w (E2.at0 E.ro) w2:=(h2.trans q4).back;exact⟨v,hv,hR v _ (Tf σ') _ w2 (q1.ro E.ro) q2 hx ((hrv:RdV w2 (E2.at0 none) _ _).ro E.ro) hK⟩
 rcases he with rfl|rfl
 .exact key
 .exact key
theorem Ny{w:World}{S:Nat->Prop}(hS:∀b,S b->b<w.heap.size):Rel w ⟨S,λ_=>none,λ_=>False,λb=>b<w.heap.size,λ_=>none,none⟩ []:=
 ⟨λi blk hl=>(by simp[Heap.look]at hl),λi hv hB=>(by cases hB),λi hv hB=>(by cases hB),λi hv b hB=>(by cases hB),λi j hi hj b hB=>(by cases hB),hS,λb hb=>hb⟩
theorem aF{P:Program}{f:FuncId}{fn:Func}{c:Code}{args:List V}{r:V}{n:Nat}{rs:List ResultVar}(he:P.enters f=true)(hf:P.funcs[f]?=some fn)(hb:fn.body=some c)(hn:fn.ntmps=n)(hrs:fn.results.toList=rs)
  (h:AWP P 0 c (retQ P rs (aQ6 r)) (uB P n args [] 0)):aL P f args r:=by
 refine⟨he,λw S vs hS hargs=>?_⟩;refine pJ hf hb hn hrs (Gr h λe σ hq=>aQ0 hq) (Ny hS) (λi hi=>hi.elim) (λi hi=>hi.elim) (RdVs.unbare (E:=⟨S,λ_=>none,λ_=>False,λb=>b<w.heap.size,λ_=>none,none⟩) args hargs) ?_;rintro v x σ' E' w' h1 hbd h2 hrv ⟨hK1,hK2⟩;refine⟨v,wE E' σ'.h,rfl,λb hb'=> .inl (h2.S b hb'),λb hb'=>?_,λb hb'=>?_,?_,⟨h2.os,h2.tape,h2.output,h2.size,λb hb'=>h2.keep b (.inr hb')⟩⟩
 .rcases hb' with hb'|⟨i,hv',_,hB,_,_,hbk⟩
  .rcases h2.S' b hb' with q|q
   .exact .inl q
   .exact .inr (Nat.le_of_not_lt q)
  .have q:=(h1.own i hv' b hB hbk).2.2;exact .inr (Nat.le_of_not_lt λhlt=>q ((h2.D b).2 hlt))
 .rcases hb' with hb'|⟨i,hv',_,hB,_,_,hbk⟩
  .exact h1.slt b hb'
  .exact(h1.own i hv' b hB hbk).1
 .have:=RdV.lend h1 x (by rw[hK1];exact hK2) hrv;rw[hK1]at this;exact this
def aHf(r:V)(x:V)(h:Heap):Prop:=(x.lend h).pure=true /\∀(w:World) (E:Env) (v:Value),RdV w E (x.lend h) v->RdV w E r v
theorem Jj{P:Program}{f:FuncId}{fn:Func}{c:Code}{args:List V}{r:V}{n:Nat}{rs:List ResultVar}(he:P.enters f=true)(hf:P.funcs[f]?=some fn)(hb:fn.body=some c)(hn:fn.ntmps=n)(hrs:fn.results.toList=rs)
  (h:AWP P 0 c (retQ P rs (aHf r)) (uB P n args [] 0)):aL P f args r:=by
 refine⟨he,λw S vs hS hargs=>?_⟩;refine pJ hf hb hn hrs (Gr h λe σ hq=>aQ0 hq) (Ny hS) (λi hi=>hi.elim) (λi hi=>hi.elim) (RdVs.unbare (E:=⟨S,λ_=>none,λ_=>False,λb=>b<w.heap.size,λ_=>none,none⟩) args hargs) ?_;rintro v x σ' E' w' h1 hbd h2 hrv ⟨hK1,hK2⟩;refine⟨v,wE E' σ'.h,rfl,λb hb'=> .inl (h2.S b hb'),λb hb'=>?_,λb hb'=>?_,hK2 _ _ _ (RdV.lend h1 x hK1 hrv),⟨h2.os,h2.tape,h2.output,h2.size,λb hb'=>h2.keep b (.inr hb')⟩⟩
 .rcases hb' with hb'|⟨i,hv',_,hB,_,_,hbk⟩
  .rcases h2.S' b hb' with q|q
   .exact .inl q
   .exact .inr (Nat.le_of_not_lt q)
  .have q:=(h1.own i hv' b hB hbk).2.2;exact .inr (Nat.le_of_not_lt λhlt=>q ((h2.D b).2 hlt))
 .rcases hb' with hb'|⟨i,hv',_,hB,_,_,hbk⟩
  .exact h1.slt b hb'
  .exact(h1.own i hv' b hB hbk).1
theorem aKa{P:Program}{F:Fence}{m:Nat}{Q:Exit->Act->World->Prop}{c:Code}{α:Type}(I:α->Act->World->Prop)(μ : α->Nat){x:α}{a:Act}{w:World}(h₀ : I x a w)
  (round:∀x a w,I x a w->c.wpIn F m P (Exit.then (λa' w'=>∃y,I y a' w' /\ μ y < μ x) Q) a w):(Code.loop c).wpIn F m P Q a w:=by
 intro b k cs hro hb hr;have key:∀n x a w,μ x=n->I x a w ->
   ∃e a' w',Q e a' w'/\ArrivesIn (Machine.fenced P F) P (lone (b.atR a (.code c :: .inLoop c::k)) cs w) b k cs e a' w':=by
  intro n
  induction n using Nat.strongRecOn with
  |_ n ih=>
   intro x a w hn hI;obtain⟨e,a₁,w₁,hq,harr⟩:=round x a w hI b (.inLoop c::k) cs hro hb hr;cases e with
   |normal=>
    obtain⟨y,hI₁,hlt⟩:=hq;obtain⟨e₂,a₂,w₂,hq₂,harr₂⟩:=ih (μ y) (hn ▸ hlt) y a₁ w₁ rfl hI₁;exact⟨e₂,a₂,w₂,hq₂,.of_steps (StepsIn.trans harr (.one (fenced_calm hb hr rfl) stepR_inLoop)) harr₂⟩
   |exit id=>exact⟨_,a₁,w₁,hq,.pass (x:=.inLoop c) rfl (λ_ _=> .inl (by simp)) harr⟩
   |goto l=>exact⟨_,a₁,w₁,hq,.pass (x:=.inLoop c) rfl (λ_ _=> .inl (by simp)) harr⟩
   |ret=>exact⟨_,a₁,w₁,hq,.pass (x:=.inLoop c) rfl (λ_ _=> .inl (by simp)) harr⟩
   |panic ch=>exact⟨_,a₁,w₁,hq,.pass (x:=.inLoop c) rfl (λ_ _=> .inl (by simp)) harr⟩
   |outgrown=>exact⟨_,a₁,w₁,hq,.pass (x:=.inLoop c) rfl (λ_ _=> .inl (by simp)) harr⟩
 obtain⟨e,a',w',hq,harr⟩:=key _ x a w rfl h₀;exact⟨e,a',w',hq,.of_steps (.one (fenced_calm hb hr rfl) stepR_loop) harr⟩
def Zw(F:Fence)(m:Nat)(P:Program)(c:Code)(Q:Exit->Act->World->Prop)(a:Act)(w:World):Prop:=
 ∀(b:Frame) (k:List Item) (cs:List Frame),b.roundOf=F.round->F.fn b.fn->F.room (cs.length+1+m) ->∃e a' w',Q e a' w'/\ArrivesIn (Machine.fenced P F) P (lone (b.atR a (.code c :: .inLoop c::k)) cs w) b k cs e a' w'
theorem Xj{P:Program}{F:Fence}{m:Nat}{c:Code}{Q:Exit->Act->World->Prop}{a:Act}{w:World}(h:Zw F m P c Q a w):(Code.loop c).wpIn F m P Q a w:=by
 intro b k cs hro hb hr;obtain⟨e,a',w',hq,harr⟩:=h b k cs hro hb hr;exact⟨e,a',w',hq,.of_steps (.one (fenced_calm hb hr rfl) stepR_loop) harr⟩
theorem aCc{P:Program}{F:Fence}{m:Nat}{c:Code}{Q:Exit->Act->World->Prop}{a:Act}{w:World}(h:c.wpIn F m P (Exit.then (Zw F m P c Q) Q) a w):Zw F m P c Q a w:=by
 intro b k cs hro hb hr;obtain⟨e,a₁,w₁,hq,harr⟩:=h b (.inLoop c::k) cs hro hb hr;cases e with
 |normal=>
  obtain⟨e₂,a₂,w₂,hq₂,harr₂⟩:=hq b k cs hro hb hr;exact⟨e₂,a₂,w₂,hq₂,.of_steps (StepsIn.trans harr (.one (fenced_calm hb hr rfl) stepR_inLoop)) harr₂⟩
 |exit id=>exact⟨_,a₁,w₁,hq,.pass (x:=.inLoop c) rfl (λ_ _=> .inl (by simp)) harr⟩
 |goto l=>exact⟨_,a₁,w₁,hq,.pass (x:=.inLoop c) rfl (λ_ _=> .inl (by simp)) harr⟩
 |ret=>exact⟨_,a₁,w₁,hq,.pass (x:=.inLoop c) rfl (λ_ _=> .inl (by simp)) harr⟩
 |panic ch=>exact⟨_,a₁,w₁,hq,.pass (x:=.inLoop c) rfl (λ_ _=> .inl (by simp)) harr⟩
 |outgrown=>exact⟨_,a₁,w₁,hq,.pass (x:=.inLoop c) rfl (λ_ _=> .inl (by simp)) harr⟩
def AWPL(P:Program)(n0:Nat)(c:Code)(Q:Exit->St->Prop)(σ:St):Prop:=
 ∀E a w,RelF E σ a w ->∀E0 w0,(∀i,E0.U i->i<n0)->Ext E0 w0 E w->Zw (Wd E.ro) 0 P c (sD E0 w0 Q) a w
theorem bC{P:Program}{n0:Nat}{c:Code}{Q:Exit->St->Prop}{σ:St}(h:AWPL P n0 c Q σ):AWP P n0 (.loop c) Q σ:=
 λE a w hr E0 w0 hU hE=>Xj (h E a w hr E0 w0 hU hE)
theorem aK{P:Program}{n0:Nat}{c:Code}{Q:Exit->St->Prop}{σ:St}(h:AWP P n0 c (Jw (AWPL P n0 c Q) Q) σ):AWPL P n0 c Q σ:=by
 intro E a w hr E0 w0 hU hE;refine aCc (wpIn_mono (h E a w hr E0 w0 hU hE) ?_);rintro e a' w' ⟨σ',E',q1,q2,q3⟩;cases e with
 |normal=>
  have:=q3 E' a' w' q1 E0 w0 hU q2;rwa[show E'.ro=E.ro from q2.ro.trans hE.ro.symm]at this
 |_=>exact⟨σ',E',q1,q2,q3⟩
def Cd(n0:Nat)(σ σ':St):Prop:=∀E a w,RelF E σ a w ->∀E0 w0,(∀i,E0.U i->i<n0)->Ext E0 w0 E w ->∃E',RelF E' σ' a w/\Ext E0 w0 E' w
theorem jN{P:Program}{n0:Nat}{c:Code}{Q:Exit->St->Prop}{σ σ':St}(hw:Cd n0 σ σ')(h:AWP P n0 c Q σ'):AWP P n0 c Q σ:=by
 intro E a w hr E0 w0 hU hE;obtain⟨E',h1,h2⟩:=hw E a w hr E0 w0 hU hE;have:=h E' a w h1 E0 w0 hU h2;rwa[show E'.ro=E.ro from h2.ro.trans hE.ro.symm]at this
theorem aTw{P:Program}{n0:Nat}{c:Code}{Q:Exit->St->Prop}{σ:St}{α:Type}(I:α->St)(J:α->Prop)(μ : α->Nat)(x:α)(h0:Cd n0 σ (I x))(hJ:J x)
  (round:∀x,J x->AWP P n0 c (Jw (λσ'=>∃y,Cd n0 σ' (I y)/\J y /\ μ y < μ x) Q) (I x)):AWP P n0 (.loop c) Q σ:=by
 intro E a w hr E0 w0 hU hE;obtain⟨E',h1,h2⟩:=h0 E a w hr E0 w0 hU hE;refine aKa (α:= α) (λx a w=>J x /\∃E',RelF E' (I x) a w/\Ext E0 w0 E' w) μ (x:=x) ⟨hJ,E',h1,h2⟩ ?_;rintro x a w ⟨hJx,E1,k1,k2⟩;have hro:E1.ro=E.ro:=k2.ro.trans hE.ro.symm;rw[<-hro];refine wpIn_mono (round x hJx E1 a w k1 E0 w0 hU k2) ?_;rintro e a' w' ⟨σ',E2,q1,q2,q3⟩;cases e with
 |normal=>
  obtain⟨y,hy,hJy,hlt⟩:=q3;obtain⟨E3,r1,r2⟩:=hy E2 a' w' q1 E0 w0 hU q2;exact⟨y,⟨hJy,E3,r1,r2⟩,hlt⟩
 |_=>exact⟨σ',E2,q1,q2,q3⟩
def fullS(n k:Nat):Nat->List (Nat×V)->Option (List (List V))
 |i,[]=>if i=n then some []else none
 |i,p::r=>fullP k i p.1 p.2.cells (fullS n k (i+1) r)
where
 fullP (k i j:Nat) (cs:List V) (r:Option (List (List V))):Option (List (List V)):=
  match r with
  |some ts=>if j=i/\cs.length=k/\cs.all V.isCell=true then some (cs::ts)else none
  |none=>none
theorem Vx{k i j:Nat}{cs:List V}{r:Option (List (List V))}{rows:List (List V)}(h:fullS.fullP k i j cs r=some rows):∃ts,r=some ts/\j=i/\cs.length=k/\cs.all V.isCell=true/\rows=cs::ts:=by
 unfold fullS.fullP at h;cases h2:r with
 |none=>rw[h2]at h;cases h
 |some ts=>
  rw[h2]at h;dsimp only at h;split at h
  .rename_i h3;injection h with h;exact⟨ts,rfl,h3.1,h3.2.1,h3.2.2,h.symm⟩
  .cases h
theorem Nb:∀{xs:List V} {ts:List T},tCells xs=some ts->xs=ts.map .t
 |[],ts,h=>by simp[tCells]at h;subst h;rfl
 |x::xs,ts,h=>by
  cases x<;>simp[tCells]at h
  obtain⟨r,h1,h2⟩:=h;subst h2;simp[Nb h1]
theorem Qx{n k:Nat}:∀(ps:List (Nat×V)) (i:Nat) (rows:List (List V)) (pre rest:List V),fullS n k i ps=some rows->pre.length=i*k->rest.length=(n-i)*k->i<=n ->
  pT (λi=>some (i*k,k)) (pre++rest) ps=some (pre++rows.flatten)/\rows.length=n-i/\(∀r∈rows,r.length=k)/\i<=n
 |[],i,rows,pre,rest,h,hp,hr,hi=>by
  unfold fullS at h;split at h
  .rename_i hin;injection h with h;subst h hin;have:rest=[]:=List.length_eq_zero_iff.1 (by simpa using hr);subst this;exact⟨by simp[pT],by simp,by simp,hi⟩
  .cases h
 |(j,x)::r,i,rows,pre,rest,h,hp,hr,hi=>by
  unfold fullS at h;obtain⟨ts,h2,h3,h4,h5,rfl⟩:=Vx h;dsimp only at h3 h4 h5;subst h3;have hji:j+1<=n:=by
   rcases Nat.lt_or_ge j n with h|h
   .exact h
   .exfalso;have:∀(ps:List (Nat×V)) (i:Nat) (rows:List (List V)),fullS n k i ps=some rows->i<=n:=by
     intro ps
     induction ps with
     |nil=>
      intro i rows h;unfold fullS at h;split at h
      .omega
      .cases h
     |cons p ps ih=>
      intro i rows h;unfold fullS at h;obtain⟨ts',h6,_⟩:=Vx h;have:=ih _ _ h6;omega
    have:=this r (j+1) ts h2;omega
  have hrl:k<=rest.length:=by
   rw[hr];exact Nat.le_mul_of_pos_left k (by omega)
  have hstep:(pre++rest).take (j*k)++x.cells++(pre++rest).drop (j*k+x.cells.length)=(pre++x.cells)++rest.drop k:=by
   rw[List.take_append_of_le_length (by simp[hp]),List.take_of_length_le (by simp[hp]),h4,List.drop_append];simp[hp]
  obtain⟨q1,q2,q3,q4⟩:=Qx r (j+1) ts (pre++x.cells) (rest.drop k) h2 (by simp[hp,h4,Nat.succ_mul]) (by
   rw[List.length_drop,hr,show n-j=(n-(j+1))+1 by omega,Nat.succ_mul];omega) hji
  refine⟨?_,by simp[q2];omega,?_,hi⟩
  .unfold pT;dsimp only;rw[if_neg (by
    rw[h4,h5];simp[hp,hr];have:k<=(n-j)*k:=Nat.le_mul_of_pos_left k (by omega);omega),hstep,q1]
   simp
  .intro y hy;rcases List.mem_cons.1 hy with h|h
   .rw[h];exact h4
   .exact q3 y h
theorem Vz{α:Type}{k:Nat}:∀(rows:List (List α)),(∀r∈rows,r.length=k)->rows.flatten.length=rows.length*k
 |[],_=>by simp
 |r::rs,h=>by
  rw[List.flatten_cons,List.length_append,h r (by simp),Vz rs (λy hy=>h y (by simp[hy])),List.length_cons,Nat.succ_mul];omega
theorem aDj{α:Type}{k:Nat}(rows:List (List α))(h:∀r∈rows,r.length=k):pU k rows.length rows.flatten=rows:=by
 unfold pU;have key:∀(rows:List (List α)),(∀r∈rows,r.length=k) ->∀i,i<rows.length->(rows.flatten.drop (i*k)).take k=rows.getD i []:=by
  intro rows
  induction rows with
  |nil=>intro _ i hi;simp at hi
  |cons r rs ih=>
   intro h i hi;have hr:=h r (by simp);cases i with
   |zero=>simp[hr]
   |succ i=>
    rw[List.flatten_cons,List.drop_append];have:(i+1)*k-r.length=i*k:=by rw[hr,Nat.succ_mul];omega
    rw[this,List.drop_eq_nil_of_le (by rw[hr,Nat.succ_mul];omega),List.nil_append,ih (λy hy=>h y (by simp[hy])) i (by simpa using hi)];simp
 refine List.ext_getElem (by simp) λi h1 h2=>?_
 rw[List.getElem_map,List.getElem_range,key rows h i h2];simp[h2]
def tRs:List (List V)->Option (List (List T))
 |[]=>some []
 |r::rs=>tRc (tCells r) (tRs rs)
where
 tRc (t:Option (List T)) (ts:Option (List (List T))):Option (List (List T)):=
  match t,ts with
  |some t,some ts=>some (t::ts)
  |_,_=>none
def aQw(rows:List (List V))(ts:Option (List (List T))):List (List V):=
 match ts with
 |some ts=>aS ts
 |none=>rows
theorem tRs_t:∀{rows:List (List V)} {ts:List (List T)},tRs rows=some ts->rows=aS ts
 |[],ts,h=>by simp[tRs]at h;subst h;rfl
 |r::rs,ts,h=>by
  unfold tRs tRs.tRc at h;split at h
  .rename_i t ts' h1 h2;injection h with h;subst h;rw[Nb h1,tRs_t h2];rfl
  .cases h
theorem aQv(rows:List (List V)):aQw rows (tRs rows)=rows:=by
 cases h:tRs rows with
 |none=>rfl
 |some ts=>exact(tRs_t h).symm
def bsF(n:Nat)(e:TypeId)(k:Nat)(z:List Value)(p:Prop)(ps:List (Nat×V))(r:Option (List (List V))):RO Blk:=
 match r with
 |some rows=>some (z.length=k/\cE z=true/\n*k<=2 ^ 24/\0<k/\p,.row e k (z.map .lit) rows)
 |none=>yY n k e z (z.length=k/\cE z=true/\n*k<=2 ^ 24/\0<k/\p) (sU n k z ps)
@[go_sem] theorem bsA_full{n k:Nat}{e:TypeId}{z:List Value}{p:Prop}{ps:List (Nat×V)}:buildSliceR.bsA n e (some k) (some z) p ps=bsF n e k z p ps (fullS n k 0 ps):=by
 cases h:fullS n k 0 ps with
 |none=>rfl
 |some rows=>
  show yY n k e z (z.length=k/\cE z=true/\n*k<=2 ^ 24/\0<k/\p) (sU n k z ps)=_
  obtain⟨q1,q2,q3,_⟩:=Qx ps 0 rows [] (pP ((List.range (n*k)).map λi=>z.getD (i%z.length) undef)) h (by simp) (by simp[pP]) (Nat.zero_le _);have e1:sU n k z ps=some rows.flatten:=by
   unfold sU;rw[List.nil_append,List.nil_append]at q1;rw[q1]
  have hl:rows.length=n:=by simpa using q2
  rw[e1];unfold yY bsF;dsimp only;have e2:pU k n rows.flatten=rows:=by
   have:=aDj rows q3;rwa[hl]at this
  rw[e2];have e3:rows.flatten.length=n*k:=by rw[Vz rows q3,hl]
  rw[eq_true e3,and_true]
@[go_sem] theorem bsF_some{n k:Nat}{e:TypeId}{z:List Value}{p:Prop}{ps:List (Nat×V)}{rows:List (List V)}:bsF n e k z p ps (some rows)=some (z.length=k/\cE z=true/\n*k<=2 ^ 24/\0<k/\p,.row e k (z.map .lit) (aQw rows (tRs rows))):=by
 rw[aQv];rfl
@[go_sem] theorem fullS_nil{n k i:Nat}:fullS n k i []=if i=n then some []else none:=rfl
@[go_sem] theorem fullS_cons{n k i:Nat}{p:Nat×V}{r:List (Nat×V)}:fullS n k i (p::r)=fullS.fullP k i p.1 p.2.cells (fullS n k (i+1) r):=rfl
@[go_sem] theorem tRows_append{xs ys:List (List T)}:aS xs++aS ys=aS (xs++ys):=by simp[aS]
@[go_sem,simp] theorem tRows_nil:aS []=[]:=rfl
def setRow(xs:List (List V))(n:Nat)(r:List V):List (List V):=xs.set n r
def Xz(xs:List (List T))(n:Nat)(r:List V)(t:Option (List T)):List (List V):=
 match t with
 |some t=>aS (xs.set n t)
 |none=>(aS xs).set n r
@[go_sem] theorem setRow_t{xs:List (List T)}{n:Nat}{r:List V}:setRow (aS xs) n r=Xz xs n r (tCells r):=by
 unfold setRow;cases h:tCells r with
 |none=>rfl
 |some t=>rw[Nb h];simp[Xz,aS]
@[go_sem] theorem storeW_row{h:Heap}{i e k' k n j:Nat}{d:List T}{xs:List (List V)}{sz:Option Nat}{x:V}:storeR.storeW h i sz (some (.row e k' d xs)) k n j x =
  some (x.cells.all V.isCell=true/\sz=some x.cells.length/\k'=k/\n<xs.length/\j+x.cells.length<=k,h.set i (.row e k d (setRow xs n (kN (pL d xs n) j x.cells)))):=rfl
attribute [go_sem] fullS.fullP tRs tRs.tRc aQw Xz aF7 Ay
section
variable {P:Program} {n0:Nat} {Q:Exit->St->Prop} {σ:St} {K:St->Prop} {d:Option Tmp}
def Rt(P:Program)(n0:Nat)(c:V)(x y:Code)(Q:Exit->St->Prop)(σ:St):Prop:=Rs c (aw P n0 x Q σ) (aw P n0 y Q σ)
@[go_sem] theorem aw_skip:aw P n0 .skip Q σ=Q .normal σ:=rfl
@[go_sem] theorem aw_region{id:Nat}{ops:List Oper}:aw P n0 (.region id ⟨ops⟩ false) Q σ=tC P ops ops (Q .normal) σ:=rfl
@[go_sem] theorem aw_draw{id:Nat}{ops:Array Oper}:aw P n0 (.region id ops true) Q σ=Xe P n0 id ops Q σ:=rfl
@[go_sem] theorem aw_seq{a b:Code}:aw P n0 (.seq a b) Q σ=aw P n0 a (Jw (aw P n0 b Q) Q) σ:=rfl
@[go_sem] theorem aw_cond{c:Operand}{x y:Code}:aw P n0 (.cond c x y) Q σ=Rt P n0 (σ.ev c) x y Q σ:=rfl
@[go_sem] theorem aw_block{id:Nat}{c:Code}:aw P n0 (.block id c) Q σ=aw P n0 c (Se id Q) σ:=rfl
@[go_sem] theorem aw_exit{id:Nat}:aw P n0 (.exit id) Q σ=Q (.exit id) σ:=rfl
@[go_sem] theorem aw_ret:aw P n0 .ret Q σ=Q .ret σ:=rfl
@[go_sem] theorem aw_loop{c:Code}:aw P n0 (.loop c) Q σ=AWP P n0 (.loop c) Q σ:=rfl
def awS(P:Program)(n0:Nat)(c:Code)(Q:Exit->St->Prop)(σ:St):Prop:=aw P n0 c Q σ
@[go_sem high] theorem condS_true{x y:Code}:Rt P n0 (.t (.lit (.bool true))) x y Q σ=aw P n0 x Q σ:=by simp[Rt,Rs]
@[go_sem high] theorem condS_false{x y:Code}:Rt P n0 (.t (.lit (.bool false))) x y Q σ=aw P n0 y Q σ:=by simp[Rt,Rs]
@[go_sem] theorem condS_lit{b:Bool}{x y:Code}:Rt P n0 (.t (.lit (.bool b))) x y Q σ=((b=true->awS P n0 x Q σ)/\(b=false->awS P n0 y Q σ)):=rfl
@[go_sem] theorem condS_cond{g b:Bool}{x y:Code}:Rt P n0 (.cond g (.t (.lit (.bool b)))) x y Q σ=(g=true/\(b=true->awS P n0 x Q σ)/\(b=false->awS P n0 y Q σ)):=rfl
@[go_sem] theorem steps_nil{ops:List Oper}:tC P ops [] K σ=K σ:=rfl
@[go_sem] theorem steps_cons{ops r:List Oper}{o:Oper}:tC P ops (o::r) K σ=Pm P ops σ o.dst o.op o.guard (tC P ops r K):=rfl
@[go_sem] theorem kPut_t{x:T}:pN K σ d (.t x)=K (σ.put d (.t x)):=rfl
@[go_sem] theorem kPut_agg{x:List V}:pN K σ d (.agg x)=K (σ.put d (.agg x)):=rfl
@[go_sem] theorem kPut_tup{x:List V}:pN K σ d (.tup x)=K (σ.put d (.tup x)):=rfl
@[go_sem] theorem kPut_own{i:Nat}:pN K σ d (.own i)=K (σ.put d (.own i)):=rfl
@[go_sem] theorem kPut_ptr{i j:Nat}:pN K σ d (.ptr i j)=K (σ.put d (.ptr i j)):=rfl
@[go_sem] theorem kPut_rptr{i k n j:Nat}:pN K σ d (.rptr i k n j)=K (σ.put d (.rptr i k n j)):=rfl
@[go_sem] theorem kPut_rsl{i k n j:Nat}:pN K σ d (.rsl i k n j)=K (σ.put d (.rsl i k n j)):=rfl
@[go_sem] theorem kPut_elem{k i j:Nat}{dd:List T}{xs:List (List T)}:pN K σ d (.elem k dd xs i j)=K (σ.put d (.elem k dd xs i j)):=rfl
@[go_sem] theorem kPut_cond{g:Bool}{x:V}:pN K σ d (.cond g x)=K (σ.put d (.cond g x)):=rfl
@[go_sem] theorem kPut_clo{f:FuncId}{cs:List V}:pN K σ d (.clo f cs)=K (σ.put d (.clo f cs)):=rfl
@[go_sem] theorem kCond_clo{g:Bool}{f:FuncId}{cs:List V}:tW K σ d g (.clo f cs)=K (σ.put d (.cond g (.clo f cs))):=rfl
@[go_sem] theorem kPut_dead:pN K σ d .dead=K (σ.put d .dead):=rfl
@[go_sem] theorem kCond_cond{g g2:Bool}{x:V}:tW K σ d g (.cond g2 x)=K (σ.put d (.cond (g&&g2) x)):=rfl
@[go_sem] theorem kCond_t{g:Bool}{x:T}:tW K σ d g (.t x)=K (σ.put d (.cond g (.t x))):=rfl
@[go_sem] theorem kCond_agg{g:Bool}{x:List V}:tW K σ d g (.agg x)=K (σ.put d (.cond g (.agg x))):=rfl
@[go_sem] theorem kCond_tup{g:Bool}{x:List V}:tW K σ d g (.tup x)=K (σ.put d (.cond g (.tup x))):=rfl
@[go_sem] theorem kCond_own{g:Bool}{i:Nat}:tW K σ d g (.own i)=K (σ.put d (.cond g (.own i))):=rfl
@[go_sem] theorem kCond_ptr{g:Bool}{i j:Nat}:tW K σ d g (.ptr i j)=K (σ.put d (.cond g (.ptr i j))):=rfl
@[go_sem] theorem kCond_rptr{g:Bool}{i k n j:Nat}:tW K σ d g (.rptr i k n j)=K (σ.put d (.cond g (.rptr i k n j))):=rfl
@[go_sem] theorem kCond_rsl{g:Bool}{i k n j:Nat}:tW K σ d g (.rsl i k n j)=K (σ.put d (.cond g (.rsl i k n j))):=rfl
@[go_sem] theorem kCond_elem{g:Bool}{k i j:Nat}{dd:List T}{xs:List (List T)}:tW K σ d g (.elem k dd xs i j)=K (σ.put d (.cond g (.elem k dd xs i j))):=rfl
@[go_sem] theorem kR_some{α:Type}{p:Prop}{v:α}{K:α->Prop}:kR (some (p,v)) K=(p/\K v):=rfl
end
@[go_sem] theorem appTy_self{P:Program}{t:TypeId}:yM P t t=True:=by simp[yM]
attribute [go_sem] Dn Dp vF uU Bq xQ lookupR.lkT eJ fV give1B.giveM Nz Cq nL
@[go_sem] theorem mkV_t(ts:List T):mkV (true,ts)=.agg (ts.map .t):=rfl
@[go_sem] theorem mkV_f(t:T):mkV (false,[t])=.t t:=rfl
attribute [go_sem] dynN aK7 aNd Es aH3 aPy Hk Nu aRh aKs uL xU Yh Yg Pc Hp
attribute [go_sem] dH Cr eZ pstep pstep.bstep pstep.neqB isAggOp isAggOp.aggB eqC Ct aJp callC callC.lenC pB lenR lenR.lenB Mq appendR appendR.apA appendR.apB appendR.apC appendR.apD Sh aTq storeR storeR.storeB
 buildSliceR Ta aJ6 Za fM nA eP Zg Jw Se okR sC bQ dG aHn unR litR binR loadR loadR.loadB loadR.loadW fieldAddrR fieldAddrR.isBox fieldAddrR.isRow fieldAddrR1 fieldAddrR1.fieldAddrR2
 Zm aFk indexAddrR indexAddrR.ixA indexAddrR.ixB Gb usePartsR usePartsR.consP aggR Zu qL aJj qH
 dB eE St.ev St.put St.add Qd aD2 Value.oneCell' aG9 aM4 shB aKq wD Ph pT pP
 Dw V.pures V.pure V.lends V.lend V.lends1 V.lend1 V.scal Heap.look Heap.set Heap.del V.cells V.isCell kN tCells Cz pU retQ Ck aB8 aA5 aQ6 uB
attribute [go_sem] indexA indexA.ixS indexAddrA indexAddrA.iaS lookupR lookupR.lkA Qy Ru pM gQ fP fX uE slcR slcR.slcE slcR.slcO slcW aKx slcC bndR bndR.bndX slcT slcS mmR callC.mmC evs evO mfR Hu useVsR useVsR.uvC
 tZ nilN nilE nilK aFv callN callN.callM Zh Pm slcN slcG dynC aFz aDa aS3 aJg msR msR.msA Yx mapPutR mapPutR.mpA give1B give1B.giveB giveL giveL.giveN pD mR Ye reachL reachRs aRn lendK resO V.res V.ress aX Vq lendCs lendRs Qg uD lenR.lenM
@[go_sem] theorem cond_t1{b c:Bool}:(bif b then true else c)=(b||c):=by cases b<;>rfl
@[go_sem] theorem cond_f2{b c:Bool}:(bif b then c else false)=(b&&c):=by cases b<;>rfl
attribute [go_sem] ne_eq not_true_eq_false not_false_eq_true or_false false_or or_self or_true true_or imp_self implies_true beq_self_eq_true bne_self_eq_false Bool.not_false Bool.not_true beq_true beq_false Bool.or_self Bool.false_or Bool.or_false Bool.true_or Bool.or_true Bool.false_and Bool.and_false
attribute [go_sem] Bool.false_eq_true List.length_cons List.length_nil List.replicate_succ List.replicate_zero List.cons_append List.nil_append List.append_nil List.set_cons_zero List.set_cons_succ List.getD_cons_zero List.getD_cons_succ List.getD_nil
 List.all_cons List.all_nil Bool.and_self Bool.and_true Bool.true_and true_and and_true and_self forall_const List.map_cons List.map_nil List.drop_succ_cons List.drop_zero List.take_succ_cons List.take_zero List.getElem?_cons_zero List.getElem?_cons_succ
 List.length_map List.take_nil List.drop_nil Option.map_some Option.map_none if_true if_false uS Bool.cond_true Bool.cond_false Nat.zero_add Int.toNat_natCast
abbrev Ren:=List (Nat×Option Nat)
def Ren.look(ρ:Ren)(j:Nat):Option (Option Nat):=
 match ρ with
 |[]=>none
 |(k,o)::r=>if j=k then some o else Ren.look r j
def wkL(v:Value)(b:T):Prop:=
 match v,b with
 | .slice none 0 0,.list _ _ xs=>xs=[]
 |v,b=> .lit v=b
def wkE(a b:T):Prop:=
 match a with
 | .lit v=>wkL v b
 | .list k d xs=> .list k d xs=b
 | .map es=> .map es=b
 | .opq=> .opq=b
theorem aNm{w:World}{S:Nat->Prop}{a b:T}{v:Value}(h:wkE a b)(hx:RdT w S a v):RdT w S b v:=by
 cases a with
 |lit u=>
  unfold wkE wkL at h;dsimp only at h;split at h
  .subst h;cases hx;exact .list _ _ [] none 0 (Nat.zero_le _) (Nat.le_refl _) (λ_=>rfl) (by simp) (by simp) (by simp)
  .subst h;exact hx
 |list k d xs=>
  have h:T.list k d xs=b:=h;subst h;exact hx
 |map es=>
  have h:T.map es=b:=h;subst h;exact hx
 |opq=>
  have h:T.opq=b:=h;subst h;exact hx
theorem aA1(a:T):wkE a a:=by
 cases a with
 |lit v=>unfold wkE wkL;dsimp only;split<;>first|rfl|(rename_i hh;cases hh)
 |list=>rfl
 |map=>rfl
 |opq=>rfl
@[go_sem high] theorem aNk(a:T):wkE a a=True:=eq_true (aA1 a)
def Fy(ρ:Ren):List Nat->Prop
 |[]=>True
 |i::is=>(∀p ∈ ρ,p.2≠some i)/\Fy ρ is
theorem Ja{ρ:Ren}:∀{is:List Nat},Fy ρ is ->∀i∈is,∀p ∈ ρ,p.2≠some i
 |[],_,i,hi=>by cases hi
 |j::is,h,i,hi=>by
  rcases List.mem_cons.1 hi with rfl|hi
  .exact h.1
  .exact Ja h.2 i hi
def wkO(ρ:Ren)(o:Option T)(is:List Nat)(b:T):Prop:=
 match o with
 |some t=>t=b/\Fy ρ is
 |none=>False
def wkT(ρ:Ren)(h:Heap)(x:V)(b:T):Prop:=
 match x with
 | .t a=>wkE a b
 | .own i=>wkO ρ (aX h 6 (.own i)) (mR h 8 (.own i)) b
 |_=>False
def aGm(ρ:Ren)(x:V)(j:Nat):Prop:=
 match x with
 | .own i=> ρ.look j=some (some i)
 | .t (.lit (.slice none 0 0))=> ρ.look j=some none
 |_=>False
mutual
def wkV(ρ:Ren)(h:Heap):V->V->Prop
 |x,.dead=>True
 |x,.t b=>wkT ρ h x b
 |x,.own j=>aGm ρ x j
 | .ptr i o,.ptr j o'=> ρ.look j=some (some i)/\o=o'
 | .rptr i k n q,.rptr j k' n' q'=> ρ.look j=some (some i)/\k=k'/\n=n'/\q=q'
 | .elem k d xs i j,.elem k' d' xs' i' j'=>k=k'/\d=d'/\xs=xs'/\i=i'/\j=j'
 | .cond g x,.cond g' y=>g=g'/\wkV ρ h x y
 | .clo f xs,.clo g ys=>f=g/\wkVs ρ h xs ys
 | .agg xs,.agg ys=>wkVs ρ h xs ys
 | .tup xs,.tup ys=>wkVs ρ h xs ys
 |_,_=>False
def wkVs(ρ:Ren)(h:Heap):List V->List V->Prop
 |[],[]=>True
 |x::xs,y::ys=>wkV ρ h x y/\wkVs ρ h xs ys
 |_,_=>False
end
def wkRs(ρ:Ren)(o:Option (List (List T)))(is:List Nat)(xs:List (List V)):Prop:=
 match o with
 |some ts=>aS ts=xs/\Fy ρ is
 |none=>False
def Zb:V->Bool
 | .t _=>false
 |_=>true
def Nt:List (List V)->Bool
 |[]=>false
 |x::r=>x.any Zb||Nt r
@[go_sem] theorem aPx:∀l:List (List T),Nt (aS l)=false
 |[]=>rfl
 |x::r=>by
  have h1:∀l:List T,(l.map V.t).any Zb=false:=λl=>by induction l with
   |nil=>rfl
   |cons a l ih=>simp[Zb]
  have:=aPx r;unfold aS at this⊢;simp only[List.map_cons,Nt,h1,this,Bool.or_self]
def aGk(ρ:Ren)(h:Heap):List (List V)->List (List V)->Prop
 |[],[]=>True
 |x::xs,y::ys=>wkVs ρ h x y/\aGk ρ h xs ys
 |_,_=>False
def aNh(ρ:Ren)(h:Heap)(b:Bool)(xs xs':List (List V)):Prop:=
 match b with
 |true=>aGk ρ h xs xs'
 |false=>wkRs ρ (lendRs (aX h 6) xs) (reachRs (mR h 8) xs) xs'
theorem aA0{ρ:Ren}{h:Heap}:∀{xs ys:List V},wkVs ρ h xs ys->xs.length=ys.length
 |[],[],_=>rfl
 |x::xs,y::ys,hw=>by
  simp only[wkVs]at hw;simp only[List.length_cons,aA0 hw.2]
 |[],_::_,hw=>by simp only[wkVs]at hw
 |_::_,[],hw=>by simp only[wkVs]at hw
theorem Jt{ρ:Ren}{h:Heap}:∀{xs ys xs' ys':List V},wkVs ρ h xs ys->wkVs ρ h xs' ys'->wkVs ρ h (xs++xs') (ys++ys')
 |[],[],_,_,_,h2=>h2
 |x::xs,y::ys,_,_,hw,h2=>by
  simp only[wkVs]at hw;simp only[List.cons_append,wkVs];exact⟨hw.1,Jt hw.2 h2⟩
 |[],_::_,_,_,hw,_=>by simp only[wkVs]at hw
 |_::_,[],_,_,hw,_=>by simp only[wkVs]at hw
theorem Ms{ρ:Ren}{h:Heap}:∀{xs ys:List (List V)},aGk ρ h xs ys->wkVs ρ h xs.flatten ys.flatten/\xs.length=ys.length /\∀k,(∀x∈xs,x.length=k) ->∀y∈ys,y.length=k
 |[],[],_=>⟨by simp only[List.flatten_nil,wkVs],rfl,by simp⟩
 |x::xs,y::ys,hw=>by
  obtain⟨q1,q2,q3⟩:=Ms hw.2;refine⟨by rw[List.flatten_cons,List.flatten_cons];exact Jt hw.1 q1,by simp only[List.length_cons,q2],λk hk z hz=>?_⟩;rcases List.mem_cons.1 hz with rfl|hz
  .rw[<-aA0 hw.1];exact hk x (by simp)
  .exact q3 k (λu hu=>hk u (by simp[hu])) z hz
 |[],_::_,hw=>hw.elim
 |_::_,[],hw=>hw.elim
def vD:List (Value×V)->Prop
 |[]=>True
 |e::es=>e.2.pure=true/\vD es
def Qt:V->Bool
 | .own _=>true
 |_=>false
def xM:List (Value×V)->Bool
 |[]=>false
 |e::r=>Qt e.2||xM r
theorem aM3(m:Bool×List T):Qt (mkV m)=false:=by
 unfold mkV;split<;>rfl
@[go_sem] theorem aFc:∀es:List (Value×Bool×List T),xM (tEs es)=false
 |[]=>rfl
 |e::es=>by
  have:=aFc es;unfold tEs at this⊢;simp only[List.map_cons,xM,aM3,Bool.false_or,this]
def wkEs(ρ:Ren)(h:Heap):List (Value×V)->List (Value×V)->Prop
 |[],[]=>True
 |(k,x)::xs,(k',y)::ys=>k=k'/\wkV ρ h x y/\wkEs ρ h xs ys
 |_,_=>False
def aNj(ρ:Ren)(h:Heap)(b:Bool)(es es':List (Value×V)):Prop:=
 match b with
 |true=>wkEs ρ h es es'
 |false=>es=es'/\vD es'
def wkB(ρ:Ren)(h:Heap):Option Blk->Blk->Prop
 |some (.box cs),.box cs'=>cs'.all V.isCell=true/\wkVs ρ h cs cs'
 |some (.row e k d xs),.row e' k' d' xs'=>e=e'/\k=k'/\aNh ρ h (Nt xs') xs xs'
 |some (.map es),.map es'=>aNj ρ h (xM es') es es'
 |some (.shr t),.shr t'=>t=t'
 |some (.loop st pend tmps ps c d),.loop st' pend' tmps' ps' c' d'=>st=st'/\pend=pend'/\ps=ps'/\c=c'/\d=d'/\wkVs ρ h tmps tmps'
 |some .defd,.defd=>True
 |_,_=>False
def idV(ρ:Ren):V->Prop
 | .own i=> ρ.look i=some (some i)
 | .ptr i _=> ρ.look i=some (some i)
 | .t _=>True
 |_=>False
def idVs(ρ:Ren):List V->Prop
 |[]=>True
 |x::r=>idV ρ x/\idVs ρ r
def aMg(ρ:Ren):List Dfr->List Dfr->Prop
 |[],[]=>True
 | .fn g::gs,.fn g'::gs'=>g=g'/\aMg ρ gs gs'
 | .fnc g cs::gs,.fnc g' cs'::gs'=>g=g'/\(cs=cs'/\idVs ρ cs)/\aMg ρ gs gs'
 | .mark i::gs,.mark j::gs'=>i=j/\ρ.look i=some (some i)/\aMg ρ gs gs'
 | .rnd::gs,.rnd::gs'=>gs=gs'
 |_,_=>False
def wkH(n0:Nat)(ρ0:Ren)(h:Heap)(nx:Nat):Ren->Heap->Prop
 |[],[]=>True
 |(j,some i)::r,(j',blk)::h'=>j=j'/\j<nx/\(∀p∈r,p.2≠some i)/\(j=i\/n0<=j)/\wkB ρ0 h (h.look i) blk/\wkH n0 ρ0 h nx r h'
 |(j,none)::r,(j',.row e k d xs)::h'=>j=j'/\j<nx/\xs=[]/\n0<=j/\wkH n0 ρ0 h nx r h'
 |_,_=>False
def wkOk(n0:Nat)(ρ:Ren)(σ σ':St):Prop:=n0<=σ'.nx/\aMg ρ σ.df σ'.df/\wkH n0 ρ σ.h σ'.nx ρ σ'.h/\wkVs ρ σ.h σ.fr σ'.fr
def Env.ren(E:Env)(h:Heap)(ρ:Ren)(nx:Nat):Env where
 S:=λb=>E.S b \/∃i hv blk,E.B i=some hv/\h.look i=some blk/\blk.lendable=true/\aV hv=some b /\∀j,ρ.look j≠some (some i)
 B:=λj=>match ρ.look j with
  |some (some i)=>E.B i
  |some none=>some (.slice none 0 0)
  |none=>none
 U:=λj=>j<nx
 D:=E.D
 ro:=E.ro
 F:=λj=>match ρ.look j with
  |some (some i)=>E.F i
  |_=>none
theorem Dd{E:Env}{h:Heap}{ρ:Ren}{nx i j:Nat}{hv:Value}(hj:ρ.look j=some (some i))(hb:(E.ren h ρ nx).Is j hv):E.Is i hv:=by
 simp only[Env.Is,Env.ren,hj]at hb⊢;exact hb
theorem Mt{n0:Nat}{ρ0:Ren}{h:Heap}{nx:Nat}:∀{r:Ren} {h':Heap},wkH n0 ρ0 h nx r h'->(∀j o,r.look j=some o->j<nx/\(o=some j\/n0<=j))/\(∀j,(∃o,r.look j=some o) ↔ ∃b,h'.look j=some b) /\
  (∀j i blk,r.look j=some (some i)->h'.look j=some blk->wkB ρ0 h (h.look i) blk)/\(∀j blk,r.look j=some none->h'.look j=some blk ->∃e k d,blk=.row e k d []) /\
  (∀j j' i,r.look j=some (some i)->r.look j'=some (some i)->j=j')/\(∀j i,r.look j=some (some i) ->∃p∈r,p.2=some i)
 |[],[],_=>⟨by simp[Ren.look],by simp[Ren.look,Heap.look],by simp[Ren.look],by simp[Ren.look],by simp[Ren.look],by simp[Ren.look]⟩
 |(j0,some i0)::r,(j1,blk0)::h',hh=>by
  simp only[wkH]at hh;obtain⟨rfl,hlt,hne,hn0,hb,hrest⟩:=hh;obtain⟨a1,a2,a3,a4,a5,a6⟩:=Mt hrest;refine⟨λj o hj=>?_,λj=>?_,λj i blk hj hl=>?_,λj blk hj hl=>?_,λj j' i hj hj'=>?_,λj i hj=>?_⟩
  .simp only[Ren.look]at hj;split at hj
   .rename_i h;injection hj with hj;subst hj;rw[h];exact⟨hlt,by first|exact .inr hn0|exact hn0.imp (λe=>by rw[e]) id⟩
   .exact a1 j o hj
  .simp only[Ren.look,Heap.look]
   by_cases h:j=j0
   .simp[h]
   .simp only[h,if_false];exact a2 j
  .simp only[Ren.look,Heap.look]at hj hl
   by_cases h:j=j0
   .simp only[h,if_true,Option.some.injEq]at hj hl;subst hj hl;exact hb
   .simp only[h,if_false]at hj hl;exact a3 j i blk hj hl
  .simp only[Ren.look,Heap.look]at hj hl
   by_cases h:j=j0
   .simp[h]at hj
   .simp only[h,if_false]at hj hl;exact a4 j blk hj hl
  .simp only[Ren.look]at hj hj'
   by_cases h:j=j0<;>by_cases h':j'=j0
   .rw[h,h']
   .simp only[h,h',if_true,if_false,Option.some.injEq]at hj hj';subst hj;obtain⟨p,hp,he⟩:=a6 j' _ hj';exact(hne p hp he).elim
   .simp only[h,h',if_true,if_false,Option.some.injEq]at hj hj';subst hj';obtain⟨p,hp,he⟩:=a6 j _ hj;exact(hne p hp he).elim
   .simp only[h,h',if_false]at hj hj';exact a5 j j' i hj hj'
  .simp only[Ren.look]at hj;split at hj
   .injection hj with hj;exact⟨_,List.mem_cons_self,hj⟩
   .obtain⟨p,hp,he⟩:=a6 j i hj;exact⟨p,List.mem_cons_of_mem _ hp,he⟩
 |(j0,none)::r,(j1,.row e k d xs)::h',hh=>by
  simp only[wkH]at hh;obtain⟨rfl,hlt,rfl,hn0,hrest⟩:=hh;obtain⟨a1,a2,a3,a4,a5,a6⟩:=Mt hrest;refine⟨λj o hj=>?_,λj=>?_,λj i blk hj hl=>?_,λj blk hj hl=>?_,λj j' i hj hj'=>?_,λj i hj=>?_⟩
  .simp only[Ren.look]at hj;split at hj
   .rename_i h;injection hj with hj;subst hj;rw[h];exact⟨hlt,by first|exact .inr hn0|exact hn0.imp (λe=>by rw[e]) id⟩
   .exact a1 j o hj
  .simp only[Ren.look,Heap.look]
   by_cases h:j=j0
   .simp[h]
   .simp only[h,if_false];exact a2 j
  .simp only[Ren.look,Heap.look]at hj hl
   by_cases h:j=j0
   .simp[h]at hj
   .simp only[h,if_false]at hj hl;exact a3 j i blk hj hl
  .simp only[Ren.look,Heap.look]at hj hl
   by_cases h:j=j0
   .simp only[h,if_true,Option.some.injEq]at hl;exact⟨e,k,d,hl.symm⟩
   .simp only[h,if_false]at hj hl;exact a4 j blk hj hl
  .simp only[Ren.look]at hj hj'
   by_cases h:j=j0<;>by_cases h':j'=j0
   .rw[h,h']
   .simp[h]at hj
   .simp[h']at hj'
   .simp only[h,h',if_false]at hj hj';exact a5 j j' i hj hj'
  .simp only[Ren.look]at hj;split at hj
   .cases hj
   .obtain⟨p,hp,he⟩:=a6 j i hj;exact⟨p,List.mem_cons_of_mem _ hp,he⟩
 |[],_::_,hh=>by simp only[wkH]at hh
 |(_,some _)::_,[],hh=>by simp only[wkH]at hh
 |(_,none)::_,[],hh=>by simp only[wkH]at hh
 |(_,none)::_,(_,.box _)::_,hh=>by simp only[wkH]at hh
 |(_,none)::_,(_,.map _)::_,hh=>by simp only[wkH]at hh
 |(_,none)::_,(_,.shr _)::_,hh=>by simp only[wkH]at hh
section
variable {w:World} {E:Env} {h:Heap} {ρ:Ren} {nx:Nat}
theorem Ew:∀{ρ:Ren} {j i:Nat},ρ.look j=some (some i) ->∃p ∈ ρ,p.2=some i
 |[],j,i,h=>by simp[Ren.look]at h
 |(k,o)::r,j,i,h=>by
  simp only[Ren.look]at h;split at h
  .injection h with h;exact⟨_,List.mem_cons_self,h⟩
  .obtain⟨p,hp,he⟩:=Ew h;exact⟨p,List.mem_cons_of_mem _ hp,he⟩
theorem Dk{w:World}{E:Env}{S':Nat->Prop}{f:V->Option T}:∀{xs:List V} {ts:List T} {vs:List Value},(∀x∈xs,∀t v,f x=some t->RdV w E x v->RdT w S' t v)->lendCs f xs=some ts->RdVs w E xs vs->RdTs w S' ts vs
 |[],ts,[],_,h,_=>by simp[lendCs]at h;subst h;trivial
 |x::xs,ts,v::vs,hf,h,hr=>by
  simp only[lendCs]at h;simp only[RdVs]at hr;split at h
  .rename_i t ts' h1 h2;injection h with h;subst h;exact⟨hf x (by simp) t v h1 hr.1,Dk (λy hy=>hf y (by simp[hy])) h2 hr.2⟩
  .cases h
 |[],_,_::_,_,_,h=>by simp only[RdVs]at h
 |_::_,_,[],_,_,h=>by simp only[RdVs]at h
theorem Df{f:V->List Nat}{j:Nat}:∀{r:List V} {x:V},x∈r->j∈f x->j∈reachL f r
 |y::r,x,hx,hj=>by
  simp only[reachL,List.mem_append];rcases List.mem_cons.1 hx with rfl|hx
  .exact .inl hj
  .exact .inr (Df hx hj)
theorem zQ{f:V->List Nat}{j:Nat}:∀{xs:List (List V)} {x:V},x∈xs.flatten->j∈f x->j∈reachRs f xs
 |r::xs,x,hx,hj=>by
  simp only[reachRs,List.mem_append];rw[List.flatten_cons]at hx;rcases List.mem_append.1 hx with hx|hx
  .exact .inl (Df hx hj)
  .exact .inr (zQ hx hj)
theorem Px{f:V->List Nat}{k:Value}{x y:V}{q:Nat}:∀{xs:List (Value×V)},(k,x)∈xs->(∀cs,x=.agg cs->y∈cs)->((∀cs,x ≠ .agg cs)->y=x)->q∈f y->q∈Nz f xs
 |[],h,_,_,_=>by cases h
 |(k0,x0)::xs,h,h1,h2,hq=>by
  rcases List.mem_cons.1 h with h|h
  .injection h with _ h;subst h;cases x with
   |agg cs=>exact List.mem_append_left _ (Df (h1 cs rfl) hq)
   |_=>
    have:y=_:=h2 (by intro cs h;cases h);rw[this]at hq;exact List.mem_append_left _ hq
  .have h3:=Px (xs:=xs) h h1 h2 hq;cases x0 with
   |agg cs=>exact List.mem_append_right _ h3
   |_=>exact List.mem_append_right _ h3
theorem Bt{w:World}{E:Env}{h:Heap}{S':Nat->Prop}(hr:Rel w E h)(hS:∀b,E.S b->S' b):
  ∀(n m:Nat) (x:V) (t:T) (v:Value),n<=m->aX h n x=some t->RdV w E x v->(∀i∈mR h m x,∀hv blk,E.B i=some hv->h.look i=some blk->blk.lendable=true ->∀b,aV hv=some b->S' b)->RdT w S' t v
 |n,m,.t x,t,v,_,h1,hx,_=>by
  rw[kG]at h1;injection h1 with h1;subst h1;simp only[RdV]at hx;exact hx.mono hS λ_ _=>rfl
 |n+1,m+1,.own i,t,v,hnm,h1,hx,hO=>by
  simp only[aX]at h1;unfold Vq at h1;split at h1
  .rename_i es hl;split at h1
   .rename_i ts hts;injection h1 with h1;subst h1;obtain⟨hv,hB,r,entries,clock,rfl,h2,h3,h3b⟩:=hr.has i _ hl;simp only[RdV]at hx;have:=hx.2.2 _ (.inl hB);subst this;simp only[mR,Ye,hl]at hO;obtain⟨q1,q2⟩:=Br (Qj h n) hts h3;refine .map ts r entries clock (hO i (by simp) _ _ hB hl rfl r rfl) h2 (by simpa using q1) h3b (λi' k g l e hi he=>?_) λi' k g l e j x u hi he hj hu=>?_
    .obtain⟨r1,r2,_⟩:=q2 i' k g l e hi (by simpa using he);exact⟨r1,r2⟩
    .obtain⟨_,_,x0,hx0,r4⟩:=q2 i' k g l e hi (by simpa using he);rcases r4 j x u hj hu with ⟨rfl,ho⟩|⟨y,y1,y2,y3,y4⟩
     .exact .opq _ ho
     refine Bt hr hS n m y x u (by omega) y1 y2 λq hq=>hO q (List.mem_append_left _ (Px (List.mem_of_getElem? hx0) y3 y4 hq))
   .cases h1
  .rename_i e k d xs hl;split at h1
   .rename_i ts hts;injection h1 with h1;subst h1;obtain⟨hv,hB,cells,h2,h3,h4,h5⟩:=hr.has i _ hl;simp only[RdV]at hx;have:=hx.2.2 hv (.inl hB);subst this;rw[<-tT hts]at h2;simp only[mR,Ye,hl]at hO;refine Lz (S:=S') h2 ?_ (tU hts h4) (λ_ h=>h) (hO i (by simp) _ _ hB hl rfl);exact Dk (λy hy t v h1 h2=>Bt hr hS n m y t v (by omega) h1 h2 λj hj=>hO j (List.mem_append_left _ (zQ hy hj))) (rV hts) h3
   .cases h1
  .rename_i t' hl;injection h1 with h1;subst h1;obtain⟨hv,hF,hT⟩:=hr.has i _ hl;simp only[RdV]at hx;have:=hx.2.2 hv (.inr hF);subst this;exact RdT.mono hS (λ_ _=>rfl) hT
  .injection h1 with h1;subst h1;simp only[RdV]at hx;exact .opq _ hx.1
  .cases h1
 |n+1,0,.own i,t,v,hnm,h1,hx,_=>by omega
 |0,m,.own i,t,v,_,h1,hx,_=>by simp[aX]at h1
 |n,m,.agg _,t,v,_,h1,hx,_=>by cases n<;>simp[aX]at h1
 |n,m,.tup _,t,v,_,h1,hx,_=>by cases n<;>simp[aX]at h1
 |n,m,.ptr _ _,t,v,_,h1,hx,_=>by cases n<;>simp[aX]at h1
 |n,m,.rptr _ _ _ _,t,v,_,h1,hx,_=>by cases n<;>simp[aX]at h1
 |n,m,.rsl _ _ _ _,t,v,_,h1,hx,_=>by cases n<;>simp[aX]at h1
 |n,m,.elem _ _ _ _ _,t,v,_,h1,hx,_=>by cases n<;>simp[aX]at h1
 |n,m,.cond _ _,t,v,_,h1,hx,_=>by cases n<;>simp[aX]at h1
 |n,m,.clo _ _,t,v,_,h1,hx,_=>by cases n<;>simp[aX]at h1
 |n,m,.dead,t,v,_,h1,hx,_=>by cases n<;>simp[aX]at h1
theorem aBb{is:List Nat}(hf:Fy ρ is):∀i∈is,∀hv blk,E.B i=some hv->h.look i=some blk->blk.lendable=true ->∀b,aV hv=some b->(E.ren h ρ nx).S b:=
 λi hi hv blk hB hl hm b hb=> .inr ⟨i,hv,blk,hB,hl,hm,hb,λj hj=>by
  obtain⟨p,hp,he⟩:=Ew hj;exact Ja hf i hi p hp he⟩
theorem wkT_ok(hr:Rel w E h){x:V}{v:Value}{b:T}(hx:RdV w E x v)(hw:wkT ρ h x b):RdT w (E.ren h ρ nx).S b v:=by
 unfold wkT at hw;split at hw
 .simp only[RdV]at hx;exact(aNm hw hx).mono (λb hb=> .inl hb) λ_ _=>rfl
 .rename_i i;unfold wkO at hw;split at hw
  .rename_i t ht;obtain⟨rfl,hno⟩:=hw;exact Bt hr (λb hb=> .inl hb) 6 8 (.own i) _ v (by omega) ht hx (aBb hno)
  .exact hw.elim
 .exact hw.elim
mutual
theorem aE5(hr:Rel w E h)(hnx:∀j o,ρ.look j=some o->j<nx):∀(x y:V) {v:Value},RdV w E x v->wkV ρ h x y->RdV w (E.ren h ρ nx) y v
 |x,.dead,v,hx,hw=>by simp only[RdV]
 |x,.t b,v,hx,hw=>by
  have hw':wkT ρ h x b:=by cases x<;>simpa only[wkV]using hw
  simp only[RdV];exact wkT_ok hr hx hw'
 |x,.own j,v,hx,hw=>by
  have hw':aGm ρ x j:=by cases x<;>simpa only[wkV]using hw
  unfold aGm at hw';split at hw'
  .rename_i i;simp only[RdV]at hx⊢;exact⟨hx.1,hnx _ _ hw',λhv hB=>hx.2.2 hv (Dd hw' hB)⟩
  .have hv:=(aJ hx).1;subst hv;simp only[RdV];refine⟨rfl,hnx _ _ hw',λhv hB=>?_⟩;simp only[Env.Is,Env.ren,hw',Option.some.injEq,reduceCtorEq,or_false]at hB;exact hB
  .exact hw'.elim
 | .ptr i o,.ptr j o',v,hx,hw=>by
  simp only[wkV]at hw;obtain⟨hw',rfl⟩:=hw;simp only[RdV]at hx⊢;exact⟨hx.1,hnx _ _ hw',λhv hB=>hx.2.2 hv (Dd hw' hB)⟩
 | .rptr i k n q,.rptr j k' n' q',v,hx,hw=>by
  simp only[wkV]at hw;obtain⟨hw',rfl,rfl,rfl⟩:=hw;simp only[RdV]at hx⊢;exact⟨hx.1,hnx _ _ hw',λhv hB=>hx.2.2 hv (Dd hw' hB)⟩
 | .elem k d xs i j,.elem k' d' xs' i' j',v,hx,hw=>by
  simp only[wkV]at hw;obtain⟨rfl,rfl,rfl,rfl,rfl⟩:=hw;simp only[RdV]at hx⊢;obtain⟨b,off,c,h1,h2⟩:=hx;exact⟨b,off,c,h1.mono (λb hb=> .inl hb) λ_ _=>rfl,h2⟩
 | .cond g x,.cond g' y,v,hx,hw=>by
  simp only[wkV]at hw;obtain⟨rfl,hw'⟩:=hw;simp only[RdV]at hx⊢;exact⟨λhg=>aE5 hr hnx x y (hx.1 hg) hw',hx.2⟩
 | .agg xs,.agg ys,v,hx,hw=>by
  simp only[wkV]at hw;simp only[RdV]at hx⊢;obtain⟨vs,hv,h1,h2⟩:=hx;exact⟨vs,hv,uH hr hnx xs ys h1 hw,h2⟩
 | .tup xs,.tup ys,v,hx,hw=>by
  simp only[wkV]at hw;simp only[RdV]at hx⊢;obtain⟨vs,hv,h1⟩:=hx;exact⟨vs,hv,uH hr hnx xs ys h1 hw⟩
 | .clo f xs,.clo g ys,v,hx,hw=>by
  simp only[wkV]at hw;obtain⟨rfl,hw⟩:=hw;simp only[RdV]at hx⊢;obtain⟨vs,hv,h1⟩:=hx;exact⟨vs,hv,uH hr hnx xs ys h1 hw⟩
 | .t _,.clo _ _,_,_,hw=>by simp only[wkV]at hw
 | .agg _,.clo _ _,_,_,hw=>by simp only[wkV]at hw
 | .tup _,.clo _ _,_,_,hw=>by simp only[wkV]at hw
 | .own _,.clo _ _,_,_,hw=>by simp only[wkV]at hw
 | .ptr ..,.clo _ _,_,_,hw=>by simp only[wkV]at hw
 | .rptr ..,.clo _ _,_,_,hw=>by simp only[wkV]at hw
 | .rsl ..,.clo _ _,_,_,hw=>by simp only[wkV]at hw
 | .elem ..,.clo _ _,_,_,hw=>by simp only[wkV]at hw
 | .cond _ _,.clo _ _,_,_,hw=>by simp only[wkV]at hw
 | .dead,.clo _ _,_,_,hw=>by simp only[wkV]at hw
 | .clo _ _,.agg _,_,_,hw=>by simp only[wkV]at hw
 | .clo _ _,.tup _,_,_,hw=>by simp only[wkV]at hw
 | .clo _ _,.ptr ..,_,_,hw=>by simp only[wkV]at hw
 | .clo _ _,.rptr ..,_,_,hw=>by simp only[wkV]at hw
 | .clo _ _,.rsl ..,_,_,hw=>by simp only[wkV]at hw
 | .clo _ _,.elem ..,_,_,hw=>by simp only[wkV]at hw
 | .clo _ _,.cond _ _,_,_,hw=>by simp only[wkV]at hw
 | .t _,.agg _,_,_,hw=>by simp only[wkV]at hw
 | .t _,.tup _,_,_,hw=>by simp only[wkV]at hw
 | .t _,.ptr _ _,_,_,hw=>by simp only[wkV]at hw
 | .t _,.rptr ..,_,_,hw=>by simp only[wkV]at hw
 | .t _,.rsl ..,_,_,hw=>by simp only[wkV]at hw
 | .t _,.elem ..,_,_,hw=>by simp only[wkV]at hw
 | .t _,.cond _ _,_,_,hw=>by simp only[wkV]at hw
 | .agg _,.tup _,_,_,hw=>by simp only[wkV]at hw
 | .agg _,.ptr _ _,_,_,hw=>by simp only[wkV]at hw
 | .agg _,.rptr ..,_,_,hw=>by simp only[wkV]at hw
 | .agg _,.rsl ..,_,_,hw=>by simp only[wkV]at hw
 | .agg _,.elem ..,_,_,hw=>by simp only[wkV]at hw
 | .agg _,.cond _ _,_,_,hw=>by simp only[wkV]at hw
 | .tup _,.agg _,_,_,hw=>by simp only[wkV]at hw
 | .tup _,.ptr _ _,_,_,hw=>by simp only[wkV]at hw
 | .tup _,.rptr ..,_,_,hw=>by simp only[wkV]at hw
 | .tup _,.rsl ..,_,_,hw=>by simp only[wkV]at hw
 | .tup _,.elem ..,_,_,hw=>by simp only[wkV]at hw
 | .tup _,.cond _ _,_,_,hw=>by simp only[wkV]at hw
 | .own _,.agg _,_,_,hw=>by simp only[wkV]at hw
 | .own _,.tup _,_,_,hw=>by simp only[wkV]at hw
 | .own _,.ptr _ _,_,_,hw=>by simp only[wkV]at hw
 | .own _,.rptr ..,_,_,hw=>by simp only[wkV]at hw
 | .own _,.rsl ..,_,_,hw=>by simp only[wkV]at hw
 | .own _,.elem ..,_,_,hw=>by simp only[wkV]at hw
 | .own _,.cond _ _,_,_,hw=>by simp only[wkV]at hw
 | .ptr ..,.agg _,_,_,hw=>by simp only[wkV]at hw
 | .ptr ..,.tup _,_,_,hw=>by simp only[wkV]at hw
 | .ptr ..,.rptr ..,_,_,hw=>by simp only[wkV]at hw
 | .ptr ..,.rsl ..,_,_,hw=>by simp only[wkV]at hw
 | .ptr ..,.elem ..,_,_,hw=>by simp only[wkV]at hw
 | .ptr ..,.cond _ _,_,_,hw=>by simp only[wkV]at hw
 | .rptr ..,.agg _,_,_,hw=>by simp only[wkV]at hw
 | .rsl ..,.agg _,_,_,hw=>by simp only[wkV]at hw
 | .rptr ..,.tup _,_,_,hw=>by simp only[wkV]at hw
 | .rsl ..,.tup _,_,_,hw=>by simp only[wkV]at hw
 | .rptr ..,.ptr ..,_,_,hw=>by simp only[wkV]at hw
 | .rsl ..,.ptr ..,_,_,hw=>by simp only[wkV]at hw
 | .rptr ..,.elem ..,_,_,hw=>by simp only[wkV]at hw
 | .rsl ..,.elem ..,_,_,hw=>by simp only[wkV]at hw
 | .rptr ..,.cond _ _,_,_,hw=>by simp only[wkV]at hw
 | .rsl ..,.cond _ _,_,_,hw=>by simp only[wkV]at hw
 | .rsl ..,.rptr ..,_,_,hw=>by simp only[wkV]at hw
 | .rptr ..,.rsl ..,_,_,hw=>by simp only[wkV]at hw
 | .rsl ..,.rsl ..,_,_,hw=>by simp only[wkV]at hw
 | .elem ..,.agg _,_,_,hw=>by simp only[wkV]at hw
 | .elem ..,.tup _,_,_,hw=>by simp only[wkV]at hw
 | .elem ..,.ptr ..,_,_,hw=>by simp only[wkV]at hw
 | .elem ..,.rptr ..,_,_,hw=>by simp only[wkV]at hw
 | .elem ..,.rsl ..,_,_,hw=>by simp only[wkV]at hw
 | .elem ..,.cond _ _,_,_,hw=>by simp only[wkV]at hw
 | .cond _ _,.agg _,_,_,hw=>by simp only[wkV]at hw
 | .cond _ _,.tup _,_,_,hw=>by simp only[wkV]at hw
 | .cond _ _,.ptr ..,_,_,hw=>by simp only[wkV]at hw
 | .cond _ _,.rptr ..,_,_,hw=>by simp only[wkV]at hw
 | .cond _ _,.rsl ..,_,_,hw=>by simp only[wkV]at hw
 | .cond _ _,.elem ..,_,_,hw=>by simp only[wkV]at hw
 | .dead,.agg _,_,_,hw=>by simp only[wkV]at hw
 | .dead,.tup _,_,_,hw=>by simp only[wkV]at hw
 | .dead,.ptr ..,_,_,hw=>by simp only[wkV]at hw
 | .dead,.rptr ..,_,_,hw=>by simp only[wkV]at hw
 | .dead,.rsl ..,_,_,hw=>by simp only[wkV]at hw
 | .dead,.elem ..,_,_,hw=>by simp only[wkV]at hw
 | .dead,.cond _ _,_,_,hw=>by simp only[wkV]at hw
theorem uH(hr:Rel w E h)(hnx:∀j o,ρ.look j=some o->j<nx):∀(xs ys:List V) {vs:List Value},RdVs w E xs vs->wkVs ρ h xs ys->RdVs w (E.ren h ρ nx) ys vs
 |[],[],[],_,_=>by simp only[RdVs]
 |x::xs,y::ys,v::vs,hx,hw=>by
  simp only[wkVs]at hw;simp only[RdVs]at hx⊢;exact⟨aE5 hr hnx x y hx.1 hw.1,uH hr hnx xs ys hx.2 hw.2⟩
 |[],[],_::_,hx,_=>by simp only[RdVs]at hx
 |_::_,_::_,[],hx,_=>by simp only[RdVs]at hx
 |[],_::_,_,_,hw=>by simp only[wkVs]at hw
 |_::_,[],_,_,hw=>by simp only[wkVs]at hw
end
theorem aCz{ρ:Ren}:∀{is:List Nat},(∀i∈is,∀p ∈ ρ,p.2≠some i)->Fy ρ is
 |[],_=>trivial
 |i::is,h=>⟨h i (by simp),aCz λj hj=>h j (by simp[hj])⟩
theorem aM8{ρ:Ren}{is js:List Nat}(h:Fy ρ is)(hs:∀q∈js,q∈is):Fy ρ js:=aCz λi hi=>Ja h i (hs i hi)
theorem aQ4{x:V}{v:Value}(hp:x.pure=true)(hx:RdV w E x v):RdV w (E.ren h ρ nx) x v:=by
 have h1:=RdV.bare x hp hx;have h2:RdV w (jM (E.ren h ρ nx).S) x v:=by
  have hE:Ext (jM E.S) w (jM (E.ren h ρ nx).S) w:=⟨rfl,rfl,rfl,Nat.le_refl _,λ_ _=>rfl,λb hb=> .inl hb,λ_ _=> .inr id,λ_=> .rfl,λ_ h=>h,λ_ h=>h.elim,λ_ h=>h.elim,rfl⟩
  exact hE.rdV _ h1
 exact RdV.unbare x h2
theorem Uu:∀{es:List (Value×V)} {l:List MapEntry},vD es->RdEs w E es l->RdEs w (E.ren h ρ nx) es l
 |[],[],_,_=>trivial
 |(k,x)::es,m::l,hp,hx=>⟨hx.1,aQ4 hp.1 hx.2.1,Uu hp.2 hx.2.2⟩
 |[],_::_,_,hx=>hx.elim
 |_::_,[],_,hx=>hx.elim
theorem aGn(hr:Rel w E h)(hnx:∀j o,ρ.look j=some o->j<nx):∀(xs ys:List (Value×V)) {l:List MapEntry},RdEs w E xs l->wkEs ρ h xs ys->RdEs w (E.ren h ρ nx) ys l
 |[],[],[],_,_=>trivial
 |(k,x)::xs,(k',y)::ys,m::l,hx,hw=>by
  obtain⟨rfl,h2,h3⟩:=hw;exact⟨hx.1,aE5 hr hnx x y hx.2.1 h2,aGn hr hnx xs ys hx.2.2 h3⟩
 |[],[],_::_,hx,_=>hx.elim
 |[],_::_,_,_,hw=>hw.elim
 |_::_,[],_,_,hw=>hw.elim
 |_::_,_::_,[],hx,_=>hx.elim
theorem cA{n0:Nat}(ρ:Ren){σ σ':St}(hok:wkOk n0 ρ σ σ'):Cd n0 σ σ':=by
 intro E a w hr E0 w0 hU hE;obtain⟨hn0,hdf,hH,hF⟩:=hok;obtain⟨a1,a2,a3,a4,a5,a6⟩:=Mt hH;have hnx:∀j o,ρ.look j=some o->j<σ'.nx:=λj o h=>(a1 j o h).1
 let E':=E.ren σ.h ρ σ'.nx
 have hE':Ext E0 w0 E' w:=by
  refine⟨hE.os,hE.tape,hE.output,hE.size,hE.keep,λb hb=> .inl (hE.S b hb),λb hb=>?_,hE.D,λi hi=>Nat.lt_of_lt_of_le (hU i hi) hn0,λi hi hv hB=>?_,λi hi hv hB=>?_,hE.ro⟩;rcases hb with hb|⟨i,hv,blk,hB,hl,hm,hbk,_⟩
  .exact hE.S' b hb
  .exact .inr λhd=>(hr.rel.own i hv b hB hbk).2.2 ((hE.D b).2 hd)
  .simp only[E',Env.ren]at hB;split at hB
   .rename_i i' ho;rcases(a1 i _ ho).2 with h|h
    .injection h with h;subst h;exact hE.B _ hi hv hB
    .have:=hU i hi;omega
   .rename_i ho;rcases(a1 i _ ho).2 with h|h
    .cases h
    .have:=hU i hi;omega
   .cases hB
  .cases ho:ρ.look i with
   |none=>simp[E',Env.Is,Env.ren,ho]at hB
   |some o=>
    rcases(a1 i _ ho).2 with h|h
    .subst h;exact hE.W _ hi hv (Dd ho hB)
    .have:=hU i hi;omega
 have hTs:∀{xs:List T} {vs:List Value},RdTs w E.S xs vs->RdTs w E'.S xs vs:=λ{xs vs} h=>by
  induction xs generalizing vs with
  |nil=>cases vs<;>first|exact trivial|exact h.elim
  |cons x xs ih=>
   cases vs with
   |nil=>exact h.elim
   |cons v vs=>exact⟨h.1.mono (λb hb=> .inl hb) λ_ _=>rfl,ih h.2⟩
 have hdfs:DefRel w E' σ'.df a.defers:=by
  have key:∀(df df':List Dfr) (ds:List Deferred),aMg ρ df df'->DefRel w E df ds->DefRel w E' df' ds:=by
   intro df
   induction df with
   |nil=>intro df' ds h1 h2;cases df'<;>first|exact h2|exact h1.elim
   |cons d df ih=>
    intro df' ds h1 h2;cases df' with
    |nil=>cases d<;>exact h1.elim
    |cons d' df'=>
     cases d<;>cases d'<;>first|exact h1.elim|skip
     .obtain⟨rfl,h1⟩:=h1;cases ds with
      |nil=>exact h2.elim
      |cons _ ds=>exact⟨h2.1,ih _ _ h1 h2.2⟩
     .obtain⟨rfl,⟨rfl,hid⟩,h1⟩:=h1;cases ds with
      |nil=>exact h2.elim
      |cons _ ds=>
       obtain⟨⟨b,e1,e2⟩,h3⟩:=h2;refine⟨⟨b,e1,?_⟩,ih _ _ h1 h3⟩;have kid:∀(cs:List V) (vs:List Value),idVs ρ cs->RdVs w E cs vs->RdVs w E' cs vs:=by
        intro cs
        induction cs with
        |nil=>intro vs _ h;cases vs<;>simp only[RdVs]at h ⊢
        |cons c cs ih2=>
         intro vs hi h;cases vs with
         |nil=>simp only[RdVs]at h
         |cons v vs=>
          simp only[RdVs]at h⊢;refine⟨?_,ih2 vs hi.2 h.2⟩;have hc:=hi.1;have hv:=h.1;cases c with
          |own i=>
           simp only[RdV]at hv⊢;exact⟨hv.1,hnx _ _ hc,λq hb=>hv.2.2 q (Dd hc hb)⟩
          |ptr i o=>
           simp only[RdV]at hv⊢;exact⟨hv.1,hnx _ _ hc,λq hb=>hv.2.2 q (Dd hc hb)⟩
          |t x=>
           simp only[RdV]at hv⊢;exact hv.mono (λb hb=> .inl hb) λ_ _=>rfl
          |_=>exact hc.elim
       exact kid _ _ hid e2
     .obtain⟨rfl,ho,h1⟩:=h1;cases ds with
      |nil=>exact h2.elim
      |cons _ ds=>
       obtain⟨⟨b,e1,e2⟩,h3⟩:=h2;refine⟨⟨b,e1,?_⟩,ih _ _ h1 h3⟩;simp only[RdV]at e2⊢;exact⟨e2.1,hnx _ _ ho,λhv hb=>e2.2.2 hv (Dd ho hb)⟩
     .have h1:df=df':=h1;subst h1;exact h2
  exact key _ _ _ hdf hr.defers
 refine⟨E',⟨⟨λj blk hl=>?_,λj hv hB=>?_,λj hv hFj=>?_,λj hv b hB hbk=>?_,λj j' hv hv' b hB hB' hbk hbk'=>?_,λb hb=>?_,hr.rel.dlt⟩,λi hi=>hi,uH hr.rel hnx _ _ hr.fr hF,hdfs⟩,hE'⟩
 .obtain⟨o,ho⟩:=(a2 j).2 ⟨blk,hl⟩;cases o with
  |none=>
   obtain⟨e,k,d,rfl⟩:=a4 j blk ho hl;refine⟨.slice none 0 0,by simp[E',Env.ren,Env.at,ho],[],World.ownsRow_nil w 0 e k,by simp only[List.flatten_nil,RdVs],by simp,rfl⟩
  |some i=>
   have hb:=a3 j i blk ho hl;cases hli:σ.h.look i with
   |none=>rw[hli]at hb;simp only[wkB]at hb
   |some old=>
    rw[hli]at hb;obtain⟨hv,hB,hrel⟩:=hr.rel.has i old hli;have hat:E'.at blk j=some hv:=by
     cases old<;>cases blk<;>first|(simp only[wkB]at hb;done)|(simp only[wkB]at hb;simpa[E',Env.ren,Env.at,ho]using hB)|exact hb.elim
    refine⟨hv,hat,?_⟩;cases old with
    |box cs=>
     cases blk with
     |box cs'=>
      simp only[wkB]at hb;obtain⟨b,vs,ty,rfl,hh,hvs,h1⟩:=hrel;exact⟨b,vs,ty,rfl,hh,uH hr.rel hnx _ _ hvs hb.2,h1⟩
     |_=>simp only[wkB]at hb
    |row e k d xs=>
     cases blk with
     |row e' k' d' xs'=>
      simp only[wkB]at hb;obtain⟨rfl,rfl,hb⟩:=hb;unfold aNh at hb;split at hb
      .obtain⟨cells,h5,h6,h7,h8⟩:=hrel;obtain⟨q1,q2,q3⟩:=Ms hb;exact⟨cells,by rw[<-q2];exact h5,uH hr.rel hnx _ _ h6 q1,q3 k h7,h8⟩
      unfold wkRs at hb;split at hb
      .rename_i ts hts;obtain⟨rfl,hfree⟩:=hb;obtain⟨cells,h5,h6,h7,h8⟩:=hrel;have hT:RdTs w E'.S ts.flatten cells:=Dk (λy hy t v q1 q2=>Bt hr.rel (λb hb=> .inl hb) 6 8 y t v (by omega) q1 q2 (aBb (aM8 hfree (λq hq=>zQ hy hq)))) (rV hts) h6;exact⟨cells,by rw[Ay,tT hts];exact h5,by rw[Cx];exact RdVs.ofT hT,He (tU hts h7),h8⟩
      .exact hb.elim
     |_=>simp only[wkB]at hb
    |map es=>
     cases blk with
     |map es'=>
      simp only[wkB]at hb;obtain⟨r,entries,clock,rfl,h5,h6,h7⟩:=hrel;unfold aNj at hb;split at hb
      .exact⟨r,entries,clock,rfl,h5,aGn hr.rel hnx _ _ h6 hb,h7⟩
      obtain⟨rfl,hp⟩:=hb;refine⟨r,entries,clock,rfl,h5,?_,h7⟩;exact Uu hp h6
     |_=>simp only[wkB]at hb
    |shr t=>
     cases blk with
     |shr t'=>
      simp only[wkB]at hb;subst hb;exact RdT.mono (λb hb=> .inl hb) (λ_ _=>rfl) hrel
     |_=>simp only[wkB]at hb
    |loop st pend tmps ps c d=>
     cases blk with
     |loop st' pend' tmps' ps' c' d'=>
      simp only[wkB]at hb;obtain⟨rfl,rfl,rfl,rfl,rfl,hb⟩:=hb;obtain⟨l,rec,rfl,h2,h3,h4,h5,h6,h7,h8⟩:=hrel;exact⟨l,rec,rfl,h2,h3,h4,h5,h6,h7,uH hr.rel hnx _ _ h8 hb⟩
     |_=>simp only[wkB]at hb
    |defd=>
     cases blk with
     |defd=>exact hrel
     |_=>simp only[wkB]at hb
 .simp only[E',Env.ren]at hB;split at hB
  .rename_i i ho;exact⟨hnx _ _ ho,(a2 j).1 ⟨_,ho⟩⟩
  .rename_i ho;exact⟨hnx _ _ ho,(a2 j).1 ⟨_,ho⟩⟩
  .cases hB
 .simp only[E',Env.ren]at hFj⊢;split at hFj
  .rename_i i ho;refine⟨hnx _ _ ho,?_⟩;rw[ho];exact(hr.rel.domF i hv hFj).2
  .cases hFj
 .simp only[E',Env.ren]at hB;split at hB
  .rename_i i ho;obtain⟨q1,q2,q3⟩:=hr.rel.own i hv b hB hbk;refine⟨q1,λhs=>?_,q3⟩;rcases hs with hs|⟨i',hv',blk,hB',hl',hm',hbk',hno⟩
   .exact q2 hs
   .have:=hr.rel.apart i' i hv' hv b hB' hB hbk' hbk;subst this;exact hno j ho
  .injection hB with hB;subst hB;simp[aV]at hbk
  .cases hB
 .simp only[E',Env.ren]at hB hB';split at hB
  .rename_i i ho;split at hB'
   .rename_i i' ho';have:=hr.rel.apart i i' hv hv' b hB hB' hbk hbk';subst this;exact a5 j j' i ho ho'
   .injection hB' with hB';subst hB';simp[aV]at hbk'
   .cases hB'
  .injection hB with hB;subst hB;simp[aV]at hbk
  .cases hB
 .rcases hb with hb|⟨i,hv,blk,hB,hl,hm,hbk,_⟩
  .exact hr.rel.slt b hb
  .exact(hr.rel.own i hv b hB hbk).1
end
theorem aE{P:Program}{n0:Nat}{c:Code}{Q:Exit->St->Prop}{σ:St}{α:Type}(F:α->St->St)(J:α->Prop)(μ : α->Nat)(x:α)(h0:Cd n0 σ (F x σ))(hJ:J x)
  (round:∀x,J x->AWP P n0 c (Jw (λσ'=>∃y,Cd n0 σ' (F y σ)/\J y /\ μ y < μ x) Q) (F x σ)):AWP P n0 (.loop c) Q σ:=aTw (λx=>F x σ) J μ x h0 hJ round
theorem gR{k:Nat}{n:Nat}(h:k<n)(hn:n<=maxLen):IntKind.i64.wrap (↑k+1)=((k+1:Nat):Int):=by
 simp only[maxLen]at hn;rw[IntWalk.i64_in _ (by omega)];omega
def bP(i:Nat)(x:V)(σ:St):St:={ σ with fr:= σ.fr.set i x }
attribute [go_sem] List.any_cons List.any_nil
attribute [go_sem] aMg idV idVs bP wkOk wkH wkB wkVs wkV wkT aGm Ren.look wkO Fy wkRs vD aNh aGk Nt Zb Qt xM wkEs aNj
theorem aLr{a b:List T}(h:a.map V.t=b.map V.t):a=b:=by
 induction a generalizing b with
 |nil=>cases b<;>first|rfl|cases h
 |cons x a ih=>
  cases b with
  |nil=>cases h
  |cons y b=>
   simp only[List.map_cons,List.cons.injEq,V.t.injEq]at h;rw[h.1,ih h.2]
@[go_sem] theorem tRows_inj{a b:List (List T)}:(aS a=aS b)=(a=b):=by
 refine propext ⟨λh=>?_,λh=>by rw[h]⟩;unfold aS at h
 induction a generalizing b with
 |nil=>cases b<;>first|rfl|cases h
 |cons x a ih=>
  cases b with
  |nil=>cases h
  |cons y b=>
   simp only[List.map_cons,List.cons.injEq]at h;rw[aLr h.1,ih h.2]
@[go_sem] theorem wkE_lit{v:Value}{b:T}:wkE (.lit v) b=wkL v b:=rfl
@[go_sem] theorem wkE_list{k:Nat}{d:List T}{xs:List (List T)}{b:T}:wkE (.list k d xs) b=(.list k d xs=b):=rfl
attribute [go_sem] wkL
