/- Proved here: Regions that draw their order, on the abstract machine. -/
import Derived.Test.YtkjdkbmfaamhaaaGreatQ02
set_option linter.unusedSimpArgs false
set_option linter.unusedVariables false
set_option linter.unusedSectionVars false
set_option linter.unnecessarySimpa false
namespace Go.Proofs.YtkjdkbmfaamhaaaGreat
open Go.RowKit
mutual
def V.ment:V->List Nat
 | .own i=>[i]
 | .ptr i _=>[i]
 | .rptr i .. =>[i]
 | .rsl i .. =>[i]
 | .agg cs=>V.ments cs
 | .tup cs=>V.ments cs
 | .clo _ cs=>V.ments cs
 | .cond _ x=>V.ment x
 |_=>[]
def V.ments:List V->List Nat
 |[]=>[]
 |x::xs=>V.ment x++V.ments xs
end
def HeapOn(M:List Nat)(h h':Heap):Prop:=∀q b,q∈M->h.look q=some b->h'.look q=some b
def Gw(h h':Heap):Prop:=∀q b,h.look q=some b->h'.look q=some b
def mN(σ σ':St)(l:List Operand):Prop:=∀y∈l,σ'.ev y=σ.ev y
theorem yR{G:Bool}{x:V}{F:V->Prop}(h:dB G x F):∃y,F y /\∀F':V->Prop,F' y->dB G x F':=by
 unfold dB at h;cases x<;>first|exact⟨_,h,λF' h'=>by unfold dB;exact h'⟩|exact⟨_,h.2,λF' h'=>by unfold dB;exact⟨h.1,h'⟩⟩
theorem jQ{G:Bool}:∀{xs:List V} {F:List V->Prop},eE G xs F ->∃ys,F ys /\∀F':List V->Prop,F' ys->eE G xs F'
 |[],F,h=>⟨[],h,λF' h'=>h'⟩
 |x::xs,F,h=>by
  obtain⟨y,h1,hy⟩:=yR h;obtain⟨ys,h2,hys⟩:=jQ h1;exact⟨y::ys,h2,λF' h'=>hy _ (hys _ h')⟩
theorem Hb{α:Type}{s:Prop×V}{f f':V->RO α}{r:Prop×α}(hf:∀y r,f y=some r->f' y=some r)(h:dG s f=some r):dG s f'=some r:=by
 obtain⟨p,y⟩:=s;have h':sC p (f y)=some r:=h;show sC p (f' y)=some r
 cases hy:f y with
 |none=>rw[hy]at h';cases h'
 |some q=>rw[hy]at h';rw[hf y q hy];exact h'
theorem kK{α:Type}{G:Bool}{x:V}{f f':V->RO α}{r:Prop×α}(hf:∀y r,(∀q∈y.ment,q∈x.ment)->f y=some r->f' y=some r)(h:dG (bQ G x) f=some r):dG (bQ G x) f'=some r:=by
 have key:∀p y,(∀q∈y.ment,q∈x.ment)->dG (p,y) f=some r->dG (p,y) f'=some r:=by
  intro p y hy h;have h':sC p (f y)=some r:=h;show sC p (f' y)=some r
  cases hfy:f y with
  |none=>rw[hfy]at h';cases h'
  |some q=>rw[hfy]at h';rw[hf y q hy hfy];exact h'
 cases x<;>exact key _ _ (λq hq=>by first|exact hq|simpa[V.ment]using hq) h
theorem HeapOn.sub{M M':List Nat}{h h':Heap}(he:HeapOn M h h')(hs:∀q∈M',q∈M):HeapOn M' h h':=λq b hq=>he q b (hs q hq)
theorem aLw{P:Program}{G:Bool}{h h':Heap}{t:TypeId}{x:V}(he:HeapOn x.ment h h'){r:Prop×V}(hr:loadR P G h t x=some r):loadR P G h' t x=some r:=by
 unfold loadR at hr⊢;split at hr
 .rename_i i;cases hl:h.look i with
  |none=>rw[hl]at hr;cases hr
  |some b=>rw[hl]at hr;rw[he i b (by simp[V.ment]) hl];exact hr
 .rename_i i off;cases hl:h.look i with
  |none=>rw[hl]at hr;cases hr
  |some b=>rw[hl]at hr;rw[he i b (by simp[V.ment]) hl];exact hr
 .exact hr
 .rename_i i k n j;cases hl:h.look i with
  |none=>rw[hl]at hr;cases hr
  |some b=>rw[hl]at hr;rw[he i b (by simp[V.ment]) hl];exact hr
 .cases hr
theorem Ra{h h':Heap}{off:Nat}{x:V}(he:HeapOn x.ment h h'){r:Prop×V}(hr:fieldAddrR h off x=some r):fieldAddrR h' off x=some r:=by
 unfold fieldAddrR at hr⊢;split at hr
 .rename_i i;cases hl:h.look i with
  |none=>rw[hl]at hr;cases hr
  |some b=>rw[hl]at hr;rw[he i b (by simp[V.ment]) hl];exact hr
 .rename_i i off;cases hl:h.look i with
  |none=>rw[hl]at hr;cases hr
  |some b=>rw[hl]at hr;rw[he i b (by simp[V.ment]) hl];exact hr
 .exact hr
 .rename_i i k n j;cases hl:h.look i with
  |none=>rw[hl]at hr;cases hr
  |some b=>rw[hl]at hr;rw[he i b (by simp[V.ment]) hl];exact hr
 .cases hr
theorem Lt{P:Program}{h h':Heap}{q:Option (Nat×TypeId)}{x:V}(he:HeapOn x.ment h h'){r:Prop×V}(hr:fieldAddrR1 P h q x=some r):fieldAddrR1 P h' q x=some r:=by
 cases q with
 |none=>cases hr
 |some q=>
  obtain⟨off,ft⟩:=q;have hr':fieldAddrR1.fieldAddrR2 h off (P.szT ft) x=some r:=hr;show fieldAddrR1.fieldAddrR2 h' off (P.szT ft) x=some r
  cases hs:P.szT ft with
  |none=>rw[hs]at hr';cases hr'
  |some n=>cases n with
   |zero=>rw[hs]at hr';cases hr'
   |succ n=>rw[hs]at hr';exact Ra he hr'
theorem Qu{P:Program}{G:Bool}{h h':Heap}{e:Option TypeId}{x ix:V}(he:HeapOn x.ment h h'){r:Prop×V}(hr:indexAddrR P G h e x ix=some r):indexAddrR P G h' e x ix=some r:=by
 unfold indexAddrR at hr⊢;split at hr
 .unfold indexAddrR.ixA at hr⊢;split at hr
  .exact hr
  .rename_i i;cases hl:h.look i with
   |none=>rw[hl]at hr;cases hr
   |some b=>rw[hl]at hr;rw[he i b (by simp[V.ment]) hl];exact hr
  .cases hr
 .cases hr
theorem Sx{h h':Heap}{x:V}(he:HeapOn x.ment h h'){r:Prop×V}(hr:qL h x=some r):qL h' x=some r:=by
 unfold qL at hr⊢;split at hr
 .rename_i i;cases hl:h.look i with
  |none=>rw[hl]at hr;cases hr
  |some b=>rw[hl]at hr;rw[he i b (by simp[V.ment]) hl];exact hr
 .rename_i i off;cases hl:h.look i with
  |none=>rw[hl]at hr;cases hr
  |some b=>rw[hl]at hr;rw[he i b (by simp[V.ment]) hl];exact hr
 .exact hr
 .rename_i i k n j;cases hl:h.look i with
  |none=>rw[hl]at hr;cases hr
  |some b=>rw[hl]at hr;rw[he i b (by simp[V.ment]) hl];exact hr
 .exact hr
 .exact hr
 .cases hr
theorem aRb{h h':Heap}{u:Option TypeDesc}{x:V}(he:HeapOn x.ment h h'){r:Prop×V}(hr:lenR u h x=some r):lenR u h' x=some r:=by
 unfold lenR at hr⊢;split at hr
 .exact hr
 .exact hr
 .exact hr
 .rename_i i;cases hl:h.look i with
  |none=>rw[hl]at hr;cases hr
  |some b=>rw[hl]at hr;rw[he i b (by simp[V.ment]) hl];exact hr
 .exact hr
 .rename_i i;cases hl:h.look i with
  |none=>rw[hl]at hr;cases hr
  |some b=>rw[hl]at hr;rw[he i b (by simp[V.ment]) hl];exact hr
 .cases hr
theorem Qv{P:Program}{G:Bool}{h h':Heap}{u:Option TypeDesc}{e:Option TypeId}{x ix:V}(he:HeapOn x.ment h h'){r:Prop×V}(hr:indexAddrA P G h u e x ix=some r):indexAddrA P G h' u e x ix=some r:=by
 unfold indexAddrA at hr⊢;split at hr
 .unfold indexAddrA.iaS at hr⊢;split at hr
  .rename_i k i hk;cases hl:h.look i with
   |none=>rw[hl]at hr;cases hr
   |some b=>rw[hl]at hr;rw[he i b (by simp[V.ment]) hl];exact hr
  .rename_i k i off hk;cases hl:h.look i with
   |none=>rw[hl]at hr;cases hr
   |some b=>rw[hl]at hr;rw[he i b (by simp[V.ment]) hl];exact hr
  .cases hr
 .exact Qu he hr
theorem aPf{P:Program}{G:Bool}{h h':Heap}{u:Option TypeDesc}{x:V}{lo hi:Option V}(he:HeapOn x.ment h h'){r:Prop×V}(hr:slcR P G h u x lo hi=some r):slcR P G h' u x lo hi=some r:=by
 unfold slcR at hr⊢;split at hr
 .exact hr
 .exact hr
 .rename_i e i;cases hl:h.look i with
  |none=>rw[hl]at hr;cases hr
  |some b=>rw[hl]at hr;rw[he i b (by simp[V.ment]) hl];exact hr
 .cases hr
theorem aCd{P:Program}{h h':Heap}{ok:Bool}{u:Option (TypeId×TypeId)}{x ix:V}(he:HeapOn x.ment h h'){r:Prop×V}(hr:lookupR P h ok u x ix=some r):lookupR P h' ok u x ix=some r:=by
 unfold lookupR at hr⊢;split at hr
 .rename_i kt et i k;cases hl:h.look i with
  |none=>rw[hl]at hr;unfold lookupR.lkA at hr;split at hr<;>first|(rename_i hx;cases hx)|cases hr
  |some b=>rw[hl]at hr;rw[he i b (by simp[V.ment]) hl];exact hr
 .exact hr
 .cases hr
theorem aD4{σ σ':St}:∀(l:List Operand),(∀y∈l,σ'.ev y=σ.ev y)->evs σ' l=evs σ l
 |[],_=>rfl
 |x::r,h=>by
  simp only[evs];rw[h x (by simp),aD4 r (λy hy=>h y (by simp[hy]))]
theorem aD5{σ σ':St}{o:Option Operand}(h:∀y,o=some y->σ'.ev y=σ.ev y):evO σ' o=evO σ o:=by
 cases o with
 |none=>rfl
 |some y=>simp only[evO];rw[h y rfl]
theorem uR{σ σ':St}:∀(l:List (Nat×Operand)),(∀p∈l,σ'.ev p.2=σ.ev p.2)->qH σ' l=qH σ l
 |[],_=>rfl
 |(i,x)::r,h=>by
  simp only[qH];rw[h (i,x) (by simp),uR r (λp hp=>h p (by simp[hp]))]
theorem aLu{P:Program}{G:Bool}{σ σ':St}{op:Op}(he:mN σ σ' op.operands.toList)(hh:∀y∈op.operands.toList,HeapOn (σ.ev y).ment σ.h σ'.h){r:Prop×V}(h:pB P G σ op=some r):pB P G σ' op=some r:=by
 unfold pB at h⊢;cases op with
 |move x=>dsimp only at h⊢; rw[he x (by simp[Op.operands])];exact h
 |assign x=>dsimp only at h⊢; rw[he x (by simp[Op.operands])];exact h
 |pick c a b=>dsimp only at h⊢; rw[he c (by simp[Op.operands]),he a (by simp[Op.operands]),he b (by simp[Op.operands])];exact h
 |unOp op t x=>dsimp only at h⊢; rw[he x (by simp[Op.operands])];exact h
 |binOp op t x y u=>dsimp only at h⊢; rw[he x (by simp[Op.operands]),he y (by simp[Op.operands])];exact h
 |load t a=>dsimp only at h⊢; rw[he a (by simp[Op.operands])];exact kK (λy r hy hr=>aLw ((hh a (by simp[Op.operands])).sub hy) hr) h
 |fieldAddr t x f=>dsimp only at h⊢; rw[he x (by simp[Op.operands])];exact kK (λy r hy hr=>Lt ((hh x (by simp[Op.operands])).sub hy) hr) h
 |field t x f=>dsimp only at h⊢; rw[he x (by simp[Op.operands])];exact h
 |index t x ix=>dsimp only at h⊢; rw[he x (by simp[Op.operands]),he ix (by simp[Op.operands])];exact h
 |indexAddr t x ix=>dsimp only at h⊢; rw[he x (by simp[Op.operands]),he ix (by simp[Op.operands])];exact kK (λy r hy hr=>Hb (λz r hz=>Qv ((hh x (by simp[Op.operands])).sub hy) hz) hr) h
 |extract x i=>dsimp only at h⊢; rw[he x (by simp[Op.operands])];exact h
 |build t parts=>
  dsimp only at h⊢;rw[uR parts.toList (λp hp=>he p.2 (by simp only[Op.operands,List.toList_toArray];exact List.mem_map.2 ⟨p,hp,rfl⟩))];exact h
 |nilCheck x=>dsimp only at h⊢; rw[he x (by simp[Op.operands])];exact kK (λy r hy hr=>Sx ((hh x (by simp[Op.operands])).sub hy) hr) h
 |convert s d x=>dsimp only at h⊢; rw[he x (by simp[Op.operands])];exact h
 |slice t x lo hi mx=>
  cases mx with
  |some y=>cases h
  |none=>
   dsimp only at h⊢;rw[he x (by simp[Op.operands]),aD5 (σ:= σ) (σ':= σ') (o:=lo) (λy hy=>he y (by subst hy;simp[Op.operands])),aD5 (σ:= σ) (σ':= σ') (o:=hi) (λy hy=>he y (by subst hy;simp[Op.operands]))];exact kK (λy r hy hr=>aPf ((hh x (by simp[Op.operands])).sub hy) hr) h
 |lookup t x ix ok=>dsimp only at h⊢; rw[he x (by simp[Op.operands]),he ix (by simp[Op.operands])];exact kK (λy r hy hr=>Hb (λz r hz=>aCd ((hh x (by simp[Op.operands])).sub hy) hz) hr) h
 |makeFunc fn first cs=>
  dsimp only at h⊢;rw[aD4 (σ:= σ) (σ':= σ') cs.toList (λy hy=>he y (by simp[Op.operands];exact .inr (by simpa using hy)))];exact h
 |_=>cases h
theorem xR{α:Type}{r:RO α}{K:α->Prop}(h:kR r K):∃p v,r=some (p,v)/\p/\K v:=by
 cases r with
 |none=>exact h.elim
 |some q=>exact⟨q.1,q.2,rfl,h.1,h.2⟩
mutual
theorem aR7{h h':Heap}:∀(x:V),HeapOn x.ment h h'->(x.lend1 h).pure=true->x.lend1 h'=x.lend1 h
 | .own i,he,hp=>by
  unfold V.lend1 at hp⊢;cases hl:h.look i with
  |none=>simp[aX,Vq,hl,Qg,Dp,vF,V.pure]at hp
  |some b=>
   have hl':=he i b (by simp[V.ment]) hl;have h0:aX h' 0=aX h 0:=by funext x;cases x<;>rfl
   simp only[aX,hl,hl',h0]
 | .clo f cs,he,hp=>by simp only[V.lend1,V.pure,V.ment]at he hp⊢; rw[wF cs he hp]
 | .agg cs,he,hp=>by simp only[V.lend1,V.pure,V.ment]at he hp⊢; rw[wF cs he hp]
 | .tup cs,he,hp=>by simp only[V.lend1,V.pure,V.ment]at he hp⊢; rw[wF cs he hp]
 | .t _,_,_=>by simp only[V.lend1]
 | .ptr ..,_,_=>by simp only[V.lend1]
 | .rptr ..,_,_=>by simp only[V.lend1]
 | .rsl ..,_,_=>by simp only[V.lend1]
 | .elem ..,_,_=>by simp only[V.lend1]
 | .cond ..,_,_=>by simp only[V.lend1]
 | .dead,_,_=>by simp only[V.lend1]
theorem wF{h h':Heap}:∀(xs:List V),HeapOn (V.ments xs) h h'->V.pures (V.lends1 h xs)=true->V.lends1 h' xs=V.lends1 h xs
 |[],_,_=>rfl
 |x::xs,he,hp=>by
  simp only[V.lends1,V.pures,V.ments,Bool.and_eq_true]at he hp⊢;rw[aR7 x (he.sub λq hq=>List.mem_append_left _ hq) hp.1,wF xs (he.sub λq hq=>List.mem_append_right _ hq) hp.2]
end
theorem Tv{G:Bool}{x y:V}(h:∀F':V->Prop,F' y->dB G x F'):∀q∈y.ment,q∈x.ment:=by
 have h1:=h (λz=>z=y) rfl;unfold dB at h1;split at h1
 .intro q hq;rw[<-h1.2]at hq;simpa[V.ment]using hq
 .intro q hq;rw[<-h1]at hq;exact hq
theorem Ju{G:Bool}:∀{xs ys:List V},(∀F':List V->Prop,F' ys->eE G xs F') ->∀q∈V.ments ys,∃x∈xs,q∈x.ment
 |[],ys,h,q,hq=>by
  have h1:[]=ys:=h (λz=>z=ys) rfl;subst h1;simp[V.ments]at hq
 |x::xs,ys,h,q,hq=>by
  have h1:dB G x λx'=>eE G xs λxs'=>x'::xs'=ys:=h (λz=>z=ys) rfl
  obtain⟨y',h2,hy'⟩:=yR h1;obtain⟨ys',h3,hys'⟩:=jQ h2;subst h3;simp only[V.ments,List.mem_append]at hq;rcases hq with hq|hq
  .exact⟨x,by simp,Tv hy' q hq⟩
  .obtain⟨z,hz,hm⟩:=Ju hys' q hq;exact⟨z,by simp[hz],hm⟩
theorem aEd{P:Program}{G:Bool}{σ:St}{c:Call}{ys:List V}(h:∀F':List V->Prop,F' ys->eE G (c.args.toList.map σ.ev) F'):∀q∈V.ments ys,∃y∈(Op.call c).operands.toList,q∈(σ.ev y).ment:=by
 intro q hq;obtain⟨x,hx,hm⟩:=Ju h q hq;obtain⟨y,hy,rfl⟩:=List.mem_map.1 hx;exact⟨y,by simp[Op.operands,Call.operands];exact .inr (by simpa using hy),hm⟩
theorem Fh{σ σ':St}:∀(l:List Operand),mN σ σ' l->l.map σ'.ev=l.map σ.ev
 |[],_=>rfl
 |x::l,h=>by
  simp only[List.map_cons];rw[h x (by simp),Fh l (λy hy=>h y (by simp[hy]))]
theorem kY{P:Program}{G:Bool}{σ:St}{op:Op}{K:V->Prop}(h:pstep P G σ op K):
  ∃x,K x /\∀σ',mN σ σ' op.operands.toList->(∀y∈op.operands.toList,HeapOn (σ.ev y).ment σ.h σ'.h) ->∀K':V->Prop,K' x->pstep P G σ' op K':=by
 have key:∀op,kR (pB P G σ op) K ->∃x,K x /\∀σ',mN σ σ' op.operands.toList->(∀y∈op.operands.toList,HeapOn (σ.ev y).ment σ.h σ'.h) ->∀K':V->Prop,K' x->kR (pB P G σ' op) K':=by
  intro op h;obtain⟨p,x,hr,hp,hk⟩:=xR h;exact⟨x,hk,λσ' he hh K' hk'=>by rw[aLu he hh hr];exact⟨hp,hk'⟩⟩
 unfold pstep at h;split at h
 .rename_i c;obtain⟨callee,args,tys⟩:=c;unfold callC at h;dsimp only at h;split at h
  .obtain⟨p,x,hr,hp,hk⟩:=xR h;refine⟨x,hk,λσ' he hh K' hk'=>?_⟩;show kR (callC.lenC P G σ' args.toList tys.toList) K'
   unfold callC.lenC at hr;split at hr
   .rename_i y t r hy ht;rw[hy,ht];show kR (dG (bQ G (σ'.ev y)) λx'=>lenR (P.underlying t) σ'.h x') K'
    have e1:σ'.ev y=σ.ev y:=he y (by simp[Op.operands,Call.operands,hy]);rw[e1,kK (λz r hz hr=>aRb ((hh y (by simp[Op.operands,Call.operands,hy])).sub hz) hr) hr];exact⟨hp,hk'⟩
   .cases hr
  .obtain⟨p,x,hr,hp,hk⟩:=xR h;refine⟨x,hk,λσ' he hh K' hk'=>?_⟩;show kR (callC.mmC G σ' .min args.toList) K'
   unfold callC.mmC at hr;split at hr
   .rename_i y z hy;rw[hy];show kR (dG (bQ G (σ'.ev y)) λx'=>dG (bQ G (σ'.ev z)) λy'=>mmR .min x' y') K'
    rw[he y (by simp[Op.operands,Call.operands,hy]),he z (by simp[Op.operands,Call.operands,hy]),hr];exact⟨hp,hk'⟩
   .cases hr
  .obtain⟨p,x,hr,hp,hk⟩:=xR h;refine⟨x,hk,λσ' he hh K' hk'=>?_⟩;show kR (callC.mmC G σ' .max args.toList) K'
   unfold callC.mmC at hr;split at hr
   .rename_i y z hy;rw[hy];show kR (dG (bQ G (σ'.ev y)) λx'=>dG (bQ G (σ'.ev z)) λy'=>mmR .max x' y') K'
    rw[he y (by simp[Op.operands,Call.operands,hy]),he z (by simp[Op.operands,Call.operands,hy]),hr];exact⟨hp,hk'⟩
   .cases hr
  .rename_i f;obtain⟨ys,h1,hys⟩:=jQ h;have hargs:∀σ',mN σ σ' (Op.call { callee:=.value (.func f),args:=args,argTypes:=tys }).operands.toList->args.toList.map σ'.ev=args.toList.map σ.ev:=λσ' he=>
    Fh _ λy hy=>he y (by simp[Op.operands,Call.operands];exact .inr (by simpa using hy))
   have hment:=aEd (P:=P) (σ:= σ) (c:={ callee:=.value (.func f),args:=args,argTypes:=tys }) hys;unfold Dw at h1;split at h1
   .rename_i hp;obtain⟨r,hc,hk⟩:=h1;refine⟨r,hk,λσ' he hh K' hk'=>?_⟩;unfold pstep callC;dsimp only;rw[hargs σ' he];refine hys _ ?_;unfold Dw;rw[if_pos hp];exact⟨r,hc,hk'⟩
   .rename_i hp;obtain⟨hpl,r,hc,hs,hk⟩:=h1;refine⟨r,hk,λσ' he hh K' hk'=>?_⟩;unfold pstep callC;dsimp only;rw[hargs σ' he];refine hys _ ?_;unfold Dw;rw[if_neg hp,wF ys (λq b hq=>by
     obtain⟨y,hy,hm⟩:=hment q hq;exact hh y hy q b hm) hpl]
    exact⟨hpl,r,hc,hs,hk'⟩
  .exact h.elim
 .rename_i op t x y u;unfold pstep.bstep at h;split at h
  .rename_i hagg;obtain⟨x',h1,hx'⟩:=yR h;obtain⟨y',h2,hy'⟩:=yR h1;unfold eqC at h2;split at h2
   .rename_i xs ys;obtain⟨b,hb,hk⟩:=h2;refine⟨_,hk,λσ' he hh K' hk'=>?_⟩;show pstep.bstep P G σ' op t x y u (isAggOp P (.binOp op t x y u)) K'
    rw[hagg];unfold pstep.bstep;dsimp only;rw[he x (by simp[Op.operands]),he y (by simp[Op.operands])];exact hx' _ (hy' _ ⟨b,hb,hk'⟩)
   .exact h2.elim
  .rename_i hagg;obtain⟨x',hk,hst⟩:=key _ h;refine⟨x',hk,λσ' he hh K' hk'=>?_⟩;show pstep.bstep P G σ' op t x y u (isAggOp P (.binOp op t x y u)) K'
   rw[hagg];exact hst σ' he hh K' hk'
 .rename_i op h1 h2;obtain⟨x',hk,hst⟩:=key _ h;refine⟨x',hk,λσ' he hh K' hk'=>?_⟩;unfold pstep;split
  .exact(h1 _ rfl).elim
  .exact(h2 _ _ _ _ _ rfl).elim
  .exact hst σ' he hh K' hk'
theorem Du{σ:St}{d:Option Tmp}{x:V}{y:Operand}(h:∀t,d=some t->y ≠ .tmp t):(σ.put d x).ev y=σ.ev y:=by
 cases d with
 |none=>rfl
 |some t=>
  cases y with
  |tmp u=>
   have:t≠u:=λe=>h t rfl (by rw[e])
   simp[St.ev,St.put,List.getD_eq_getElem?_getD,List.getElem?_set_ne this]
  |_=>rfl
theorem tK{σ:St}{d e:Option Tmp}{x y:V}(h:∀t,d=some t->e≠some t):(σ.put d x).put e y=(σ.put e y).put d x:=by
 cases d with
 |none=>rfl
 |some t=>
  cases e with
  |none=>rfl
  |some u=>
   have:t≠u:=λh'=>h t rfl (by rw[h'])
   simp only[St.put];rw[List.set_comm _ _ this]
theorem pE{α:Type}{r:RO α}{K K':α->Prop}(hk:∀v,K v->K' v)(h:kR r K):kR r K':=by
 cases r with
 |none=>exact h.elim
 |some q=>exact⟨h.1,hk _ h.2⟩
theorem Re{σ:St}{d:Option Tmp}{x:V}{l:List Operand}(h:∀t,d=some t -> .tmp t ∉ l):mN σ (σ.put d x) l:=λy hy=>Du λt ht e=>h t ht (e ▸ hy)
theorem nJ{σ:St}{d:Option Tmp}{x:V}:(σ.put d x).h=σ.h:=by cases d<;>rfl
theorem kM{σ:St}{d:Option Tmp}{x:V}:(σ.put d x).nx=σ.nx:=by cases d<;>rfl
theorem Yj{σ:St}{d:Option Tmp}{x:V}{blk:Blk}:(σ.put d x).add blk=(σ.add blk).put d x:=by cases d<;>rfl
def WFh(σ:St):Prop:=∀q,σ.nx<=q->σ.h.look q=none
def aN8(σ σ':St)(d:Option Tmp):Prop:=Gw σ.h σ'.h/\WFh σ' /\∀y:Operand,(∀t,d=some t->y ≠ .tmp t)->σ'.ev y=σ.ev y
theorem wK{σ:St}{d:Option Tmp}{x:V}(hw:WFh σ):aN8 σ (σ.put d x) d:=by
 refine⟨λq b h=>by rw[nJ];exact h,λq hq=>?_,λy hy=>Du hy⟩;rw[nJ];rw[kM]at hq;exact hw q hq
theorem Qs{σ:St}{d:Option Tmp}{x:V}{blk:Blk}(hw:WFh σ):aN8 σ ((σ.add blk).put d x) d:=by
 refine⟨λq b h=>?_,λq hq=>?_,λy hy=>?_⟩
 .rw[nJ];simp only[St.add,Heap.look];rw[if_neg (λe=>by subst e;rw[hw _ (Nat.le_refl _)]at h;cases h)];exact h
 .rw[nJ];rw[kM]at hq;simp only[St.add,Heap.look]at hq⊢;rw[if_neg (by omega)];exact hw q (by omega)
 .rw[Du hy];cases y<;>rfl
def yK(P:Program)(op:Op):Bool:=
 match op with
 | .store .. | .makeMap .. | .makeSlice .. | .mapUpdate .. | .insert .. | .defer _=>true
 | .call { callee:=.builtin .append,.. }=>true
 | .call { callee:=.value (.func f),.. }=>P.ioF f
 | .call { callee:=.value _,.. }=>true
 |_=>false
theorem Rh{P:Program}{σ:St}{d dj:Option Tmp}{x:V}{op:Op}{K:St->Prop}(ho:∀t,d=some t -> .tmp t ∉ op.operands.toList)(hd:∀t,d=some t->dj≠some t)(hh:yK P op=false)(hw:WFh σ)
  (h:eZ P (σ.put d x) dj op K):eZ P σ dj op (λσ'=>K (σ'.put d x)/\aN8 σ σ' dj):=by
 have hp:∀op,(∀t,d=some t -> .tmp t ∉ op.operands.toList)->pstep P true (σ.put d x) op (pN K (σ.put d x) dj)->pstep P true σ op (pN (λσ'=>K (σ'.put d x)/\aN8 σ σ' dj) σ dj):=by
  intro op ho h;obtain⟨y,hk,hst⟩:=kY h;refine hst σ (λz hz=>(Re ho z hz).symm) (λz hz q b _ hq=>by rw[nJ]at hq;exact hq) _ ?_;unfold pN at hk⊢;rw[tK hd]at hk;exact⟨hk,wK hw⟩
 cases op with
 |box t y=>
  unfold eZ at h⊢;dsimp only at h⊢;rw[Du (λt ht e=>ho t ht (by rw[<-e];simp[Op.operands]))]at h;refine pE (λblk hb=>?_) h;unfold Ta at hb⊢;rw[Yj,tK hd,kM]at hb;exact⟨hb,Qs hw⟩
 |alloc t=>
  unfold eZ at h⊢;dsimp only at h⊢;refine pE (λblk hb=>?_) h;unfold Ta at hb⊢;rw[Yj,tK hd,kM]at hb;exact⟨hb,Qs hw⟩
 |buildSlice t n parts=>
  unfold eZ at h⊢;dsimp only at h⊢;rw[uR parts.toList (λp hp=>Du λt ht e=>ho t ht (by rw[<-e];simp only[Op.operands,List.toList_toArray];exact List.mem_map.2 ⟨p,hp,rfl⟩))]at h;refine pE (λblk hb=>?_) h;unfold Ta at hb⊢;rw[Yj,tK hd,kM]at hb;exact⟨hb,Qs hw⟩
 |store t p y=>cases hh
 |insert _ _ _ _=>cases hh
 |makeMap _ _=>cases hh
 |makeSlice _ _ _=>cases hh
 |mapUpdate _ _ _ _=>cases hh
 |call c=>
  unfold eZ Ct at h⊢;dsimp only at h⊢;obtain⟨callee,args,tys⟩:=c;cases callee with
  |builtin b=>
   cases b with
   |append=>cases hh
   |_=>exact hp _ ho h
  |invoke r m=>exact hp _ ho h
  |value g=>
   cases g with
   |func f=>
    have hio:P.ioF f=false:=hh;dsimp only at h⊢;rw[hio]at h⊢;exact hp _ ho h
   |_=>exact hp _ ho h
 |_=>exact hp _ ho h
theorem aCw{ops:List Oper}{σ:St}{d:Option Tmp}{x:V}{j:Nat}{want:Bool}(h:∀t,d=some t->eP ops j≠some t):nA ops (σ.put d x) j want=nA ops σ j want:=by
 unfold nA;split
 .rename_i t ht;cases d with
  |none=>rfl
  |some u=>
   have:u≠t:=λe=>h u rfl (by rw[e];exact ht)
   simp[St.put,List.getD_eq_getElem?_getD,List.getElem?_set_ne this]
 .rfl
theorem Ds{P:Program}{ops:List Oper}{σ:St}{d dj:Option Tmp}{x:V}{op:Op}{g:Option (Nat×Bool)}{K:St->Prop}(ho:∀t,d=some t -> .tmp t ∉ op.operands.toList)(hg:∀t j w,d=some t->g=some (j,w)->eP ops j≠some t)
  (hd:∀t,d=some t->dj≠some t) (hh:yK P op=false) (hw:WFh σ) (h:dH P ops (σ.put d x) dj op g K):dH P ops σ dj op g (λσ'=>K (σ'.put d x)/\aN8 σ σ' dj):=by
 unfold dH at h⊢;split
 .exact Rh ho hd hh hw h
 .rename_i j want;dsimp only at h;rw[aCw (λt ht=>hg t j want ht rfl)]at h;unfold Cr at h⊢;split
  .rename_i g' hg';rw[hg']at h;dsimp only at h;split
   .rename_i hm;rw[if_pos hm]at h;obtain⟨y,hk,hst⟩:=kY h;refine hst σ (λz hz=>(Re ho z hz).symm) (λz hz q b _ hq=>by rw[nJ]at hq;exact hq) _ ?_;unfold tW at hk⊢;rw[tK hd]at hk;exact⟨hk,wK hw⟩
   .rename_i hm;rw[if_neg hm]at h;refine⟨λhgt=>Rh ho hd hh hw (h.1 hgt),λhgf=>?_⟩;have:=h.2 hgf;rw[tK hd]at this;exact⟨this,wK hw⟩
  .rename_i hg';rw[hg']at h;exact h.elim
theorem sQ{P:Program}{ops:List Oper}{σ:St}{d:Option Tmp}{op:Op}{g:Option (Nat×Bool)}{K:St->Prop}(hm:fM P op=true)(h:dH P ops σ d op g K):
  ∃y,K (σ.put d y) /\∀σ',mN σ σ' op.operands.toList->(∀y∈op.operands.toList,HeapOn (σ.ev y).ment σ.h σ'.h)->(∀j w,g=some (j,w) ->∀t,eP ops j=some t->σ'.ev (.tmp t)=σ.ev (.tmp t)) ->∀K':St->Prop,K' (σ'.put d y)->dH P ops σ' d op g K':=by
 unfold dH at h;split at h
 .have h1:pstep P true σ op (pN K σ d):=by
   cases op with
   |box _ _=>cases hm
   |alloc _=>cases hm
   |store _ _ _=>cases hm
   |insert _ _ _ _=>cases hm
   |makeMap _ _=>cases hm
   |makeSlice _ _ _=>cases hm
   |mapUpdate _ _ _ _=>cases hm
   |buildSlice _ _ _=>cases hm
   |call c=>
    unfold eZ Ct at h;dsimp only at h;obtain⟨callee,args,tys⟩:=c;cases callee with
    |builtin b=>
     cases b with
     |append=>cases hm
     |_=>exact h
    |invoke r m=>exact h
    |value g=>
     cases g with
     |func f=>
      have hio:P.ioF f=false:=by simpa[fM]using hm
      dsimp only at h;rw[hio]at h;exact h
     |_=>exact h
   |_=>exact h
  obtain⟨y,hk,hst⟩:=kY h1;refine⟨y,hk,λσ' he hh _ K' hk'=>?_⟩;have h2:=hst σ' he hh (pN K' σ' d) hk';unfold dH;cases op with
  |box _ _=>cases hm
  |alloc _=>cases hm
  |store _ _ _=>cases hm
  |insert _ _ _ _=>cases hm
  |makeMap _ _=>cases hm
  |makeSlice _ _ _=>cases hm
  |mapUpdate _ _ _ _=>cases hm
  |buildSlice _ _ _=>cases hm
  |call c=>
   dsimp only;unfold eZ Ct;dsimp only;obtain⟨callee,args,tys⟩:=c;cases callee with
   |builtin b=>
    cases b with
    |append=>cases hm
    |_=>exact h2
   |invoke r m=>exact h2
   |value g=>
    cases g with
    |func f=>
     have hio:P.ioF f=false:=by simpa[fM]using hm
     dsimp only;rw[hio];exact h2
    |_=>exact h2
  |_=>exact h2
 .rename_i j want;unfold Cr at h;split at h
  .rename_i g' hg';rw[if_pos hm]at h;obtain⟨y,hk,hst⟩:=kY h;refine⟨aDd g' y,hk,λσ' he hh hs K' hk'=>?_⟩;unfold dH;dsimp only;have:nA ops σ' j want=some g':=by
    rw[<-hg'];unfold nA;split
    .rename_i t ht;have:=hs j want rfl t ht;simp only[St.ev]at this;rw[this]
    .rfl
   rw[this];unfold Cr;dsimp only;rw[if_pos hm];exact hst σ' he hh (tW K' σ' d g') hk'
  .exact h.elim
theorem Pf{P:Program}{G:Bool}{σ:St}{op:Op}{K K':V->Prop}(hk:∀v,K v->K' v)(h:pstep P G σ op K):pstep P G σ op K':=by
 obtain⟨x,h1,h2⟩:=kY h;exact h2 σ (λ_ _=>rfl) (λ_ _ _ _ _ h=>h) K' (hk x h1)
theorem Rf{P:Program}{σ:St}{d:Option Tmp}{op:Op}{K K':St->Prop}(hk:∀σ,K σ->K' σ)(h:eZ P σ d op K):eZ P σ d op K':=by
 have hp:∀op,pstep P true σ op (pN K σ d)->pstep P true σ op (pN K' σ d):=λop h=>Pf (λv hv=>hk _ hv) h
 cases op with
 |box t y=>unfold eZ at h⊢; exact pE (λv hv=>hk _ hv) h
 |alloc t=>unfold eZ at h⊢; exact pE (λv hv=>hk _ hv) h
 |buildSlice t n parts=>unfold eZ at h⊢; exact pE (λv hv=>hk _ hv) h
 |store t p y=>unfold eZ at h⊢; exact⟨h.1,pE (λv hv=>hk _ hv) h.2⟩
 |makeMap t r=>
  cases r with
  |none=>unfold eZ at h⊢; exact hk _ h
  |some r=>unfold eZ at h⊢; exact hp _ h
 |makeSlice t l c=>unfold eZ at h⊢; exact pE (λv hv=>hk _ hv) h
 |mapUpdate t m k x=>unfold eZ at h⊢; exact⟨h.1,pE (λv hv=>hk _ hv) h.2⟩
 |insert t m k x=>unfold eZ at h⊢; exact⟨h.1,pE (λv hv=>hk _ hv) h.2⟩
 |call c=>
  unfold eZ Ct at h⊢;dsimp only at h⊢;obtain⟨callee,args,tys⟩:=c;cases callee with
  |builtin b=>
   cases b with
   |append=>exact pE (λv hv=>hk _ hv) h
   |_=>exact hp _ h
  |invoke r m=>exact hp _ h
  |value g=>
   cases g with
   |func f=>
    dsimp only at h⊢;unfold aJp at h⊢;cases hio:P.ioF f with
    |true=>
     rw[hio]at h;obtain⟨ys,h1,h2⟩:=jQ h;exact h2 _ (ICall.mono hk h1)
    |false=>
     rw[hio]at h;exact hp _ h
   |_=>exact hp _ h
 |_=>unfold eZ at h⊢; exact hp _ h
theorem qJ{P:Program}{ops:List Oper}{σ:St}{d:Option Tmp}{op:Op}{g:Option (Nat×Bool)}{K K':St->Prop}(hk:∀σ,K σ->K' σ)(h:dH P ops σ d op g K):dH P ops σ d op g K':=by
 unfold dH Cr at h⊢;split
 .exact Rf hk h
 .dsimp only at h;split
  .rename_i hg;rw[hg]at h;dsimp only at h;split
   .rename_i hm;rw[if_pos hm]at h;exact Pf (λv hv=>hk _ hv) h
   .rename_i hm;rw[if_neg hm]at h;exact⟨λhg=>Rf hk (h.1 hg),λhg=>hk _ (h.2 hg)⟩
  .rename_i hg;rw[hg]at h;exact h.elim
def Rq(P:Program)(ops:Array Oper)(K:St->Prop):Nat->Array Bool->St->Prop
 |0,listed,σ=>Region.ready .any ops listed=[]/\K σ
 |f+1,listed,σ=>(Region.ready .any ops listed=[]->K σ) /\∀i∈Region.ready .any ops listed,∃o,ops[i]?=some o/\dH P ops.toList σ o.dst o.op o.guard (Rq P ops K f (listed.setIfInBounds i true))
theorem aBy{P:Program}{ops:List Oper}{Q:Exit->Act->World->Prop}{σ:St}{o:Oper}{K:St->Prop}(h:dH P ops σ o.dst o.op o.guard K){E:Env}{a:Act}{w:World}(hr:RelF E σ a w){next:Act->World->Prop}
  (hn:∀a' w' E' σ',RelF E' σ' a' w'->Ext E w E' w'->K σ'->next a' w'):if Region.wanted o (yielded ops.toArray a.tmps)=true then o.wpIn (Wd E.ro) 0 P a w next Q else (∀f,o.about P w a.eval=some f->(Wd E.ro).fn f)/\next (a.put o.dst undef) w:=by
 unfold dH at h;split at h
 .rename_i hg;have hw:Region.wanted o (yielded ops.toArray a.tmps)=true:=by simp[Region.wanted,hg]
  rw[if_pos hw];exact Bk h E a w hr _ _ λa' w' E' σ' h1 h2 h3=>hn a' w' E' σ' h1 h2 h3
 .rename_i j want hg;unfold Cr at h;split at h
  .rename_i g hgs;have hw:=zZ hr hg hgs;rw[hw];split at h
   .obtain⟨x,hK,hy⟩:=nX h;cases g with
    |true=>
     rw[if_pos rfl];exact fE (.inr (qG h)) (hy rfl E a w hr _ _ λv w' E' h1 h2 h3 _=>hn _ w' E' _ (h1.put o.dst (nG (by rw[RdV];exact⟨λ_=>h3,λh=>by cases h⟩))) h2 hK)
    |false=>
     rw[if_neg (by simp)];exact⟨λ_ _=>trivial,hn _ w E _ (hr.put o.dst (nG (by rw[RdV];exact⟨λh=>(by cases h),λ_=>rfl⟩))) (Ext.refl _ _) hK⟩
   .cases g with
    |true=>
     rw[if_pos rfl];exact Bk (h.1 rfl) E a w hr _ _ λa' w' E' σ' h1 h2 h3=>hn a' w' E' σ' h1 h2 h3
    |false=>
     rw[if_neg (by simp)];exact⟨λ_ _=>trivial,hn _ w E _ (hr.put o.dst (by simp only[RdV])) (Ext.refl _ _) (h.2 rfl)⟩
  .exact h.elim
theorem Mj{P:Program}{ops:Array Oper}{Q:Exit->St->Prop}:∀(f:Nat) (listed:Array Bool) (σ:St),Rq P ops (Q .normal) f listed σ ->∀E a w,RelF E σ a w ->∀E0 w0,Ext E0 w0 E w->wpAnyIn (Wd E.ro) 0 P .any ops (sD E0 w0 Q) f listed a w
 |0,listed,σ,h,E,a,w,hr,E0,w0,hE=>⟨h.1,σ,E,hr,hE,h.2⟩
 |f+1,listed,σ,h,E,a,w,hr,E0,w0,hE=>by
  refine⟨λh0=>⟨σ,E,hr,hE,h.1 h0⟩,λi hi=>?_⟩;obtain⟨o,ho,hs⟩:=h.2 i hi;unfold wpOpIn;rw[ho];dsimp only;have:=aBy (Q:=sD E0 w0 Q) (next:=wpAnyIn (Wd E.ro) 0 P .any ops (sD E0 w0 Q) f (listed.setIfInBounds i true)) hs hr (λa' w' E' σ' h1 h2 h3=>by
   have:=Mj f _ σ' h3 E' a' w' h1 E0 w0 (hE.trans h2);rwa[h2.ro]at this)
  simpa using this
theorem tS{ops:Array Oper}{o:Oper}{d:Tmp}(h:d ∉ o.looksAt ops): .tmp d ∉ o.op.operands.toList:=by
 intro hm;apply h;unfold Oper.looksAt;exact List.mem_append.2 (.inl (List.mem_filterMap.2 ⟨.tmp d,hm,rfl⟩))
theorem rC{ops:Array Oper}{o:Oper}{d:Tmp}(h:d ∉ o.looksAt ops){j:Nat}{w:Bool}(hg:o.guard=some (j,w)):eP ops.toList j≠some d:=by
 intro hs;apply h;unfold Oper.looksAt;refine List.mem_append.2 (.inr ?_);rw[hg];dsimp only;unfold eP at hs;have e1:ops.toList[j]?=ops[j]? :=by simp
 rw[e1]at hs;split at hs
 .rename_i o' ho';rw[ho'];simp[hs]
 .cases hs
theorem aFy{P:Program}{ops:Array Oper}{K:St->Prop}{i:Nat}{oi:Oper}{y:V}(hi:ops[i]?=some oi)
  (hhv:∀(j:Nat) oj,ops[j]?=some oj->yK P oj.op=true->zN .any ops 16 j i=true) :
  ∀(fuel:Nat) (listed:Array Bool) (σ:St),HeadInv .any ops ops.size listed ->
   (∀j oj,ops[j]?=some oj->j≠i->listed.getD j true=false->(∀e∈oj.after,Region.binds .any e=true->e.on≠i)->oi.apart ops oj=true) ->
   i∈Region.ready .any ops listed->WFh σ ->
   (∀σ',mN σ σ' oi.op.operands.toList->Gw σ.h σ'.h->(∀j w,oi.guard=some (j,w) ->∀t,eP ops.toList j=some t->σ'.ev (.tmp t)=σ.ev (.tmp t)) ->∀K':St->Prop,K' (σ'.put oi.dst y)->dH P ops.toList σ' oi.dst oi.op oi.guard K') ->
   Rq P ops K fuel (listed.setIfInBounds i true) (σ.put oi.dst y)->Rq P ops K (fuel+1) listed σ:=by
 intro fuel
 induction fuel with
 |zero=>
  intro listed σ inv hfree hr hw hst H;refine⟨λh=>(by rw[h]at hr;cases hr),λj hj=>?_⟩
  by_cases hji:j=i
  .subst hji;exact⟨oi,hi,hst σ (λ_ _=>rfl) (λ_ _ h=>h) (λ_ _ _ _ _=>rfl) _ H⟩
  .have:=ready_mono hj hji;rw[H.1]at this;cases this
 |succ fuel ih=>
  intro listed σ inv hfree hr hw hst H;refine⟨λh=>(by rw[h]at hr;cases hr),λj hj=>?_⟩
  by_cases hji:j=i
  .subst hji;exact⟨oi,hi,hst σ (λ_ _=>rfl) (λ_ _ h=>h) (λ_ _ _ _ _=>rfl) _ H⟩
  .obtain⟨oj,hoj,hs⟩:=H.2 j (ready_mono hj hji);refine⟨oj,hoj,?_⟩;obtain⟨hjun,oj',hoj',hall⟩:=mem_ready.1 hj;rw[hoj]at hoj';injection hoj' with hoj';subst hoj';have hiu:=(mem_ready.1 hr).1;have hil:listed.getD i false=false:=getD_both hiu;have hnot:∀e∈oj.after,Region.binds .any e=true->e.on≠i:=λe he hb heq=>by
    have h1:=hall e he hb;rw[heq,hil]at h1;cases h1
   have hap:=hfree j oj hoj hji hjun hnot;obtain⟨p1,p2,p3⟩:=Oper.apart_spec hap;have hnh:yK P oj.op=false:=by
    cases hh:yK P oj.op with
    |false=>rfl
    |true=>
     have:=nZ inv 16 j (hhv j oj hoj hh) (λok hk e he hb=>by
      rw[hoj]at hk;injection hk with hk;subst hk;exact hall e he hb)
     rw[hil]at this;cases this
   have hjs:j<ops.size:=(Array.getElem?_eq_some_iff.1 hoj).1;have inv':=inv.set hj hjs;have hr':=ready_mono hr (Ne.symm hji);have hc:=Ds (λt ht=>tS (p1 t ht)) (λt j' w' ht hg=>rC (p1 t ht) hg) (λt ht=>p2 t ht) hnh hw hs;refine qJ (λσ' hk=>?_) hc;obtain⟨hk1,hk2,hk3,hk4⟩:=hk;refine ih (listed.setIfInBounds j true) σ' inv' ?_ hr' hk3 ?_ ?_
   .intro k ok hk hki hun hno;refine hfree k ok hk hki ?_ hno
    by_cases hjk:j=k
    .subst hjk;exact hjun
    .rw[getD_set_ne true hjk]at hun;exact hun
   .intro σ'' he hh hg K' hK';refine hst σ'' (λz hz=>?_) (λq b hq=>hh q b (hk2 q b hq)) (λj' w' hgd t ht=>?_) K' hK'
    .rw[he z hz];exact hk4 z λt ht e=>tS (p3 t ht) (e ▸ hz)
    .rw[hg j' w' hgd t ht];refine hk4 _ λt' ht' e=>?_
     injection e with e;subst e;exact rC (p3 _ ht') hgd ht
   .rw[Array.setIfInBounds_comm _ _ hji];exact hk1
def aHm(P:Program)(ops:Array Oper):List Nat->Array Bool->Bool
 |[],_=>true
 |i::r,listed=>(Region.ready .any ops listed).contains i&&Region.free .any ops listed i&&(ops[i]?).any (fM P ·.op) &&
   ((List.range ops.size).all λj=> !(ops[j]?).any (yK P ·.op)||zN .any ops 16 j i)&&aHm P ops r (listed.setIfInBounds i true)
def mA:List Nat->Array Bool->Array Bool
 |[],listed=>listed
 |i::r,listed=>mA r (listed.setIfInBounds i true)
inductive OT where
 |done
 |step (i:Nat) (t:OT)
 |alt (a b:OT)
def OT.heads:OT->List Nat
 | .done=>[]
 | .step i _=>[i]
 | .alt a b=>a.heads++b.heads
def Cf(ops:Array Oper):Nat->Array Bool->OT->Bool->Bool
 |0,listed,t,_=>t.heads == []&&Region.ready .any ops listed == []
 |f+1,listed,.done,top=> !top||Region.ready .any ops listed == []
 |f+1,listed,.step i t,top=>(!top||Region.ready .any ops listed == [i])&&(ops[i]?).isSome&&Cf ops f (listed.setIfInBounds i true) t true
 |f+1,listed,.alt a b,top=>(!top||Region.ready .any ops listed==(OT.alt a b).heads)&&Cf ops (f+1) listed a false&&Cf ops (f+1) listed b false
def psteps(P:Program)(l:List Oper)(K:St->Prop):List Nat->St->Prop
 |[],σ=>K σ
 |i::r,σ=>pstepsO P l (l[i]?) σ (psteps P l K r)
where
 pstepsO (P:Program) (l:List Oper) (o:Option Oper) (σ:St) (K:St->Prop):Prop:=
  match o with
  |some o=>dH P l σ o.dst o.op o.guard K
  |none=>False
def mX(P:Program)(l:List Oper)(K:St->Prop):OT->St->Prop
 | .done,σ=>K σ
 | .step i t,σ=>psteps.pstepsO P l (l[i]?) σ (mX P l K t)
 | .alt a b,σ=>mX P l K a σ/\mX P l K b σ
theorem Ed{P:Program}{l:List Oper}{K:St->Prop}:∀(f:Nat) (t:OT) (listed:Array Bool) (σ:St) (top:Bool),Cf l.toArray f listed t top=true->mX P l K t σ ->
  (∀i∈t.heads,∃f',f=f'+1 /\∃o,l.toArray[i]?=some o/\dH P l σ o.dst o.op o.guard (Rq P l.toArray K f' (listed.setIfInBounds i true)))/\(top=true->Rq P l.toArray K f listed σ)
 |0,t,listed,σ,top,hB,h=>by
  unfold Cf at hB;simp only[Bool.and_eq_true,beq_iff_eq]at hB;refine⟨λi hi=>(by rw[hB.1]at hi;cases hi),λ_=>⟨hB.2,?_⟩⟩;have:∀(t:OT),t.heads=[]->mX P l K t σ->K σ:=by
   intro t
   induction t with
   |done=>exact λ_ h=>h
   |step i t _=>intro h;simp[OT.heads]at h
   |alt a b iha ihb=>
    intro hh h;simp only[OT.heads,List.append_eq_nil_iff]at hh;exact iha hh.1 h.1
  exact this t hB.1 h
 |f+1,.done,listed,σ,top,hB,h=>by
  refine⟨λi hi=>(by cases hi),λht=>⟨λ_=>h,λi hi=>?_⟩⟩;unfold Cf at hB;rw[ht]at hB;simp only[Bool.not_true,Bool.false_or,beq_iff_eq]at hB;rw[hB]at hi;cases hi
 |f+1,.step i t,listed,σ,top,hB,h=>by
  unfold Cf at hB;simp only[Bool.and_eq_true]at hB;obtain⟨⟨h1,h2⟩,h3⟩:=hB;obtain⟨o,ho⟩:=Option.isSome_iff_exists.1 h2;have hstep:dH P l σ o.dst o.op o.guard (Rq P l.toArray K f (listed.setIfInBounds i true)):=by
   have ho':l[i]?=some o:=by simpa using ho
   simp only[mX,ho',psteps.pstepsO]at h;exact qJ (λσ' hk=>(Ed f t _ σ' true h3 hk).2 rfl) h
  refine⟨λj hj=>?_,λht=>⟨λh0=>?_,λj hj=>?_⟩⟩
  .simp only[OT.heads,List.mem_singleton]at hj;subst hj;exact⟨f,rfl,o,ho,hstep⟩
  .rw[ht]at h1;simp only[Bool.not_true,Bool.false_or,beq_iff_eq]at h1;rw[h1]at h0;cases h0
  .rw[ht]at h1;simp only[Bool.not_true,Bool.false_or,beq_iff_eq]at h1;rw[h1]at hj;simp only[List.mem_singleton]at hj;subst hj;exact⟨o,ho,by simpa using hstep⟩
 |f+1,.alt a b,listed,σ,top,hB,h=>by
  unfold Cf at hB;simp only[Bool.and_eq_true]at hB;obtain⟨⟨h1,h2⟩,h3⟩:=hB;have ha:=(Ed (f+1) a listed σ false h2 h.1).1;have hb:=(Ed (f+1) b listed σ false h3 h.2).1;have hall:∀i∈(OT.alt a b).heads,∃f',f+1=f'+1 /\∃o,l.toArray[i]?=some o/\dH P l σ o.dst o.op o.guard (Rq P l.toArray K f' (listed.setIfInBounds i true)):=by
   intro i hi;simp only[OT.heads,List.mem_append]at hi;exact hi.elim (ha i) (hb i)
  refine⟨hall,λht=>?_⟩;rw[ht]at h1;simp only[Bool.not_true,Bool.false_or,beq_iff_eq]at h1;refine⟨λh0=>?_,λi hi=>?_⟩
  .rw[h1]at h0;have hk:∀(t:OT),t.heads=[]->mX P l K t σ->K σ:=by
    intro t
    induction t with
    |done=>exact λ_ h=>h
    |step i t _=>intro h;simp[OT.heads]at h
    |alt a b iha ihb=>
     intro hh h;simp only[OT.heads,List.append_eq_nil_iff]at hh;exact iha hh.1 h.1
   exact hk (.alt a b) h0 h
  .rw[h1]at hi;obtain⟨f',hf,o,ho,hs⟩:=hall i hi;have:f'=f:=by omega
   subst this;exact⟨o,ho,by simpa using hs⟩
theorem aHk{P:Program}{l:List Oper}{K:St->Prop}{f:Nat}:∀(plan:List Nat) (listed:Array Bool) (σ:St),aHm P l.toArray plan listed=true->HeadInv .any l.toArray l.toArray.size listed->WFh σ ->
  psteps P l (λσ'=>WFh σ'->Rq P l.toArray K f (mA plan listed) σ') plan σ->Rq P l.toArray K (f+plan.length) listed σ
 |[],listed,σ,_,_,hw,h=>h hw
 |i::r,listed,σ,hB,inv,hw,h=>by
  unfold aHm at hB;simp only[Bool.and_eq_true]at hB;obtain⟨⟨⟨⟨b1,b2⟩,b3⟩,b4⟩,b5⟩:=hB;have hr:i∈Region.ready .any l.toArray listed:=by simpa using b1
  obtain⟨oi,ho,hm⟩:∃oi,l.toArray[i]?=some oi/\fM P oi.op=true:=by
   cases hq:l.toArray[i]? with
   |none=>rw[hq]at b3;cases b3
   |some oi=>rw[hq]at b3;exact⟨oi,rfl,by simpa using b3⟩
  have ho':l[i]?=some oi:=by simpa using ho
  simp only[psteps,ho',psteps.pstepsO]at h;obtain⟨y,hk,hst0⟩:=sQ hm h;have hst:∀σ',mN σ σ' oi.op.operands.toList->Gw σ.h σ'.h->(∀j w,oi.guard=some (j,w) ->∀t,eP l j=some t->σ'.ev (.tmp t)=σ.ev (.tmp t)) ->∀K':St->Prop,K' (σ'.put oi.dst y)->dH P l σ' oi.dst oi.op oi.guard K':=
   λσ' he hh hg K' hk'=>hst0 σ' he (λy _ q b _ hq=>hh q b hq) hg K' hk'
  have his:i<l.toArray.size:=(Array.getElem?_eq_some_iff.1 ho).1;refine aFy (y:=y) ho (λj oj hoj hh=>?_) (f+r.length) listed σ inv (Region.free_spec ho b2) hr hw hst ?_
  .have hj:=(List.all_eq_true.1 b4) j (List.mem_range.2 (Array.getElem?_eq_some_iff.1 hoj).1);simp only[hoj,Option.any_some,hh,Bool.not_true,Bool.false_or]at hj;exact hj
  .exact aHk r _ _ b5 (inv.set hr his) (wK hw).2.1 hk
theorem bL{P:Program}{n0:Nat}{id:Nat}{l:List Oper}{Q:Exit->St->Prop}{σ:St}(plan:List Nat)(t:OT)(hm:P.follows .mixedOrders=true:=by exact rfl)(hP:aHm P l.toArray plan (Array.replicate l.length false)=true:=by kernel_rfl)
  (hT:Cf l.toArray (l.length-plan.length) (mA plan (Array.replicate l.length false)) t true=true:=by kernel_rfl) (hlen:plan.length<=l.length:=by decide)
  (h:psteps P l (mX P l (Q .normal) t) plan σ):Xe P n0 id l.toArray Q σ:=by
 intro E a w hr E0 w0 hU hE;refine wpIn_region_any hm ?_;have hw:WFh σ:=λq hq=>by
  cases hl:σ.h.look q with
  |none=>rfl
  |some blk=>
   obtain⟨hv,hB,_⟩:=hr.rel.has q blk hl;have:=hr.bound q (hr.rel.uses hl);omega
 have inv:HeadInv .any l.toArray l.toArray.size (Array.replicate l.length false):=by
  have:=rE (ops:=l.toArray) (md:=.any);simpa using this
 have pmono:∀(plan:List Nat) (K K':St->Prop) (σ:St),(∀σ,K σ->K' σ)->psteps P l K plan σ->psteps P l K' plan σ:=by
  intro plan
  induction plan with
  |nil=>exact λK K' σ hk h=>hk σ h
  |cons i r ih=>
   intro K K' σ hk h;simp only[psteps]at h⊢;unfold psteps.pstepsO at h⊢;split
   .rename_i o ho;rw[ho]at h;exact qJ (λσ' h'=>ih K K' σ' hk h') h
   .rename_i ho;rw[ho]at h;exact h
 have hd:=aHk (f:=l.length-plan.length) (K:=Q .normal) plan (Array.replicate l.length false) σ hP inv hw (pmono plan _ _ σ (λσ' h' _=>(Ed _ t _ σ' true hT h').2 rfl) h);rw[Nat.sub_add_cancel hlen]at hd;have hdr:RelF E σ a { w with drawn:=w.drawn+1 }/\Ext E0 w0 E { w with drawn:=w.drawn+1 }:=by
  have hb:Below w.heap.size w { w with drawn:=w.drawn+1 }:=⟨rfl,rfl,rfl,Nat.le_refl _,λ_ _=>rfl⟩
  obtain⟨k1,k2⟩:=hr.later hb (λ_ h=>h) (λb hb=> .inl hb) (λb hb'=>hr.rel.slt b hb');exact⟨k1,hE.trans k2⟩
 have:=Mj _ _ σ hd E a _ hdr.1 E0 w0 hdr.2;simpa using this
@[go_sem] theorem psteps_nil{P:Program}{l:List Oper}{K:St->Prop}{σ:St}:psteps P l K [] σ=K σ:=rfl
@[go_sem] theorem psteps_cons{P:Program}{l:List Oper}{K:St->Prop}{σ:St}{i:Nat}{r:List Nat}:psteps P l K (i::r) σ=psteps.pstepsO P l (l[i]?) σ (psteps P l K r):=rfl
@[go_sem] theorem psteps_some{P:Program}{l:List Oper}{K:St->Prop}{σ:St}{o:Oper}:psteps.pstepsO P l (some o) σ K=dH P l σ o.dst o.op o.guard K:=rfl
@[go_sem] theorem tsteps_done{P:Program}{l:List Oper}{K:St->Prop}{σ:St}:mX P l K .done σ=K σ:=rfl
@[go_sem] theorem tsteps_step{P:Program}{l:List Oper}{K:St->Prop}{σ:St}{i:Nat}{t:OT}:mX P l K (.step i t) σ=psteps.pstepsO P l (l[i]?) σ (mX P l K t):=rfl
@[go_sem] theorem tsteps_alt{P:Program}{l:List Oper}{K:St->Prop}{σ:St}{a b:OT}:mX P l K (.alt a b) σ=(mX P l K a σ/\mX P l K b σ):=rfl
mutual
def gW:T->Prop
 | .lit v=>Sm v
 | .list _ _ xs=>xs.length<=maxLen/\Ac xs
 | .map _=>True
 | .opq=>True
def Bx:List T->Prop
 |[]=>True
 |x::xs=>gW x/\Bx xs
def Ac:List (List T)->Prop
 |[]=>True
 |e::es=>Bx e/\Ac es
end
mutual
def pF:V->Prop
 | .t x=>gW x
 | .agg cs=>uW cs
 | .tup cs=>uW cs
 |_=>True
def uW:List V->Prop
 |[]=>True
 |x::xs=>pF x/\uW xs
end
theorem Rc:∀(e:List T),(∀(j:Nat) x,e[j]?=some x->gW x)->Bx e
 |[],_=>by simp only[Bx]
 |x::r,h=>by simp only[Bx];exact⟨h 0 x rfl,Rc r λj y hy=>h (j+1) y (by simpa using hy)⟩
theorem Kv:∀(es:List (List T)),(∀(i:Nat) e,es[i]?=some e->Bx e)->Ac es
 |[],_=>by simp only[Ac]
 |x::r,h=>by simp only[Ac];exact⟨h 0 x rfl,Kv r λj y hy=>h (j+1) y (by simpa using hy)⟩
theorem RdT.facts{w:World}{S:Nat->Prop}{x:T}{v:Value}(h:RdT w S x v):gW x:=by
 induction h with
 |lit v h1 hf=>simp only[gW];exact hf
 |list k d xs A c hm hc hn hk ha hr ih=>
  simp only[gW];refine⟨hm,Kv xs λi e hi=>Rc e λj x hx=>?_⟩;obtain⟨b,off,hA,_,hj⟩:=ha i e hi;obtain⟨u,hu⟩:=hj j x hx;exact ih i e j x b off u hi hx hA hu
 |map=>simp only[gW]
 |opq=>simp only[gW]
mutual
theorem RdV.facts{w:World}{E:Env}:∀(x:V) {v:Value},RdV w E x v->pF x
 | .t x,v,h=>by simp only[RdV]at h;simp only[pF];exact h.facts
 | .agg cs,v,h=>by simp only[RdV]at h;obtain⟨vs,_,h1,_⟩:=h;simp only[pF];exact RdVs.facts cs h1
 | .tup cs,v,h=>by simp only[RdV]at h;obtain⟨vs,_,h1⟩:=h;simp only[pF];exact RdVs.facts cs h1
 | .own _,_,_=>by simp only[pF]
 | .ptr ..,_,_=>by simp only[pF]
 | .rptr ..,_,_=>by simp only[pF]
 | .rsl ..,_,_=>by simp only[pF]
 | .elem ..,_,_=>by simp only[pF]
 | .cond ..,_,_=>by simp only[pF]
 | .clo ..,_,_=>by simp only[pF]
 | .dead,_,_=>by simp only[pF]
theorem RdVs.facts{w:World}{E:Env}:∀(xs:List V) {vs:List Value},RdVs w E xs vs->uW xs
 |[],[],_=>by simp only[uW]
 |x::xs,v::vs,h=>by simp only[RdVs]at h;simp only[uW];exact⟨RdV.facts x h.1,RdVs.facts xs h.2⟩
 |[],_::_,h=>by simp only[RdVs]at h
 |_::_,[],h=>by simp only[RdVs]at h
end
theorem eK{P:Program}{n0:Nat}{c:Code}{Q:Exit->St->Prop}{σ:St}(h:uW σ.fr->AWP P n0 c Q σ):AWP P n0 c Q σ:=by
 intro E a w hr E0 w0 hU hE;exact h (RdVs.facts _ hr.fr) E a w hr E0 w0 hU hE
attribute [go_sem] uW pF
theorem Fu{P:Program}{σ:St}{d:Option Tmp}{f:FuncId}{fn:Func}{c:Code}{xs:List V}{n:Nat}{rs:List ResultVar}{K:St->Prop}(he:P.enters f=true)(hf:P.funcs[f]?=some fn)(hb:fn.body=some c)(hn:fn.ntmps=n)(hrs:fn.results.toList=rs)
  (h:AWP P σ.nx c (Hm P rs λx σ'=>K (({ σ with h:= σ'.h,nx:= σ'.nx }:St).put d x)) (uB P n xs σ.h σ.nx)):ICall P σ d f xs K:=
 rW he (λE w vs hr hbd hargs=>pJ hf hb hn hrs h hr hbd hbd hargs λv x σ' E' w' h1 hbd' h2 h3 hK=>⟨v,x,σ'.h,σ'.nx,E',rfl,h1,hbd',h2,h3,hK⟩)
def yE(P:Program)(f:FuncId)(cs args:List V)(r:V)(cs':List V):Prop:=
 P.enters f=true /\∀(w:World) (S:Nat->Prop) (b:Nat) (ty:TypeId) (cells:Array Value) (vs:List Value),(∀x,S x->x<w.heap.size) ->¬S b->w.heap[b]?=some (.cells cells ty (0,0))->RdVs w (jM S) cs cells.toList ->
  cells.toList.all (·.oneCell')=true->RdVs w (jM S) args vs->Calls P f (.pointer (some ⟨b,0,none⟩)::vs).toArray w λe w'=>∃v S' ty' cells',e=.returned v/\(∀x,S x->S' x)/\(∀x,S' x->S x\/w.heap.size<=x) /\
   (∀x,S' x->x<w'.heap.size)/\RdV w' (jM S') r v/\w'.heap[b]?=some (.cells cells' ty' (0,0))/\RdVs w' (jM S') cs' cells'.toList/\cells'.toList.all (·.oneCell')=true/\w.grownBy w' (some b) /\¬S' b
def aK0(b:Option Blk)(h:Heap)(cs':List V):Prop:=
 match b with
 |some (.box cs)=>V.lends h cs=cs'/\V.pures cs'=true
 |_=>False
def boxK(r:V)(cs':List V)(x:V)(σ:St):Prop:=x.lend (σ.h.del 0)=r/\r.pure=true/\aK0 (σ.h.look 0) (σ.h.del 0) cs'
theorem rG{P:Program}{f:FuncId}{fn:Func}{c:Code}{cs args cs':List V}{r:V}{n:Nat}{rs:List ResultVar}(he:P.enters f=true)(hf:P.funcs[f]?=some fn)(hb:fn.body=some c)(hn:fn.ntmps=n)(hrs:fn.results.toList=rs)
  (h:AWP P 1 c (Hm P rs (boxK r cs')) (uB P n (.own 0::args) [(0,.box cs)] 1)):yE P f cs args r cs':=by
 refine⟨he,λw S b ty cells vs hS hSb hh hcs hones hargs=>?_⟩
 let E0:Env:=⟨S,λi=>if i=0 then some (.pointer (some ⟨b,0,none⟩))else none,λi=>i=0,λx=>x<w.heap.size/\x≠b,λ_=>none,none⟩
 have hbl:b<w.heap.size:=(Array.getElem?_eq_some_iff.1 hh).1;have hrel:Rel w E0 [(0,.box cs)]:=by
  refine⟨λi blk hl=>?_,λi hv hB=>?_,λi hv hF=>(by cases hF),λi hv b' hB hbk=>?_,λi j hi hj b' hBi hBj _ _=>?_,hS,λx hx=>hx.1⟩
  .simp only[Heap.look]at hl;split at hl
   .rename_i h0;injection hl with hl;subst hl;exact⟨.pointer (some ⟨b,0,none⟩),by simp[E0,h0,Env.at],b,cells,ty,rfl,hh,RdVs.unbare (E:=E0) cs hcs,hones⟩
   .cases hl
  .simp only[E0]at hB;split at hB
   .rename_i h0;exact⟨h0,.box cs,by simp[Heap.look,h0]⟩
   .cases hB
  .simp only[E0]at hB;split at hB
   .injection hB with hB;subst hB;simp only[aV,Option.some.injEq]at hbk;subst hbk;exact⟨hbl,hSb,λhd=>hd.2 rfl⟩
   .cases hB
  .simp only[E0]at hBi hBj;split at hBi
   .split at hBj
    .rename_i h1 h2;rw[h1,h2]
    .cases hBj
   .cases hBi
 refine pJ hf hb hn hrs h hrel (λi hi=>by have:i=0:=hi;omega) (λi hi=>by have:i=0:=hi;omega) (vs:=.pointer (some ⟨b,0,none⟩)::vs) ?_ ?_
 .simp only[RdVs,RdV];exact⟨⟨rfl,rfl,λhv hB=>by simp[E0,Env.Is]at hB;exact hB⟩,RdVs.unbare (E:=E0) args hargs⟩
 .intro v x σ' E' w' h1 hbd' h2 h3 hK;obtain⟨k1,k2,k3⟩:=hK;unfold aK0 at k3;split at k3
  .rename_i cs2 hl;obtain⟨k4,k5⟩:=k3;obtain⟨b',cells',ty',hB,hh',hcs',hones'⟩:=qY h1 hl;have hbb:b'=b:=by
    have:=h2.B 0 rfl _ hB;simp[E0]at this;exact this.symm
   subst hbb;obtain⟨d1,d2⟩:=h1.drop hbd' 0;refine⟨v,wE (E'.drop 0) (σ'.h.del 0),ty',cells',rfl,λx hx=> .inl (h2.S x hx),λx hx=>?_,λx hx=>?_,?_,hh',?_,hones',⟨h2.os,h2.tape,h2.output,h2.size,λk hk hne=>h2.keep k (.inr ⟨hk,λe=>hne (by rw[e])⟩)⟩,λhsb=>?_⟩
   .rcases hx with hx|⟨i,hv',_,hB',_,_,hbk⟩
    .rcases h2.S' x hx with q|q
     .exact .inl q
     .by_cases hxb:x=b'
      .subst hxb;exact((h1.own 0 _ x hB rfl).2.1 hx).elim
      .exact .inr (Nat.le_of_not_lt λhlt=>q ⟨hlt,hxb⟩)
    .obtain⟨hne0,hB''⟩:=aFw hB';have q:=(h1.own i hv' x hB'' hbk).2.2
     by_cases hxb:x=b'
     .subst hxb;exact(hne0 (h1.apart i 0 hv' _ x hB'' hB hbk rfl)).elim
     .exact .inr (Nat.le_of_not_lt λhlt=>q ((h2.D x).2 ⟨hlt,hxb⟩))
   .rcases hx with hx|⟨i,hv',_,hB',_,_,hbk⟩
    .exact h1.slt x hx
    .exact(h1.own i hv' x (aFw hB').2 hbk).1
   .have:=RdV.lend d1 x (by rw[k1];exact k2) (d2.rdV _ h3);rw[k1]at this;exact this
   .have:=RdVs.lend d1 cs2 (by rw[k4];exact k5) (d2.rdVs _ hcs');rw[k4]at this;exact this
   .rcases hsb with hx|⟨i,hv',_,hB',_,_,hbk⟩
    .exact(h1.own 0 _ b' hB rfl).2.1 hx
    .obtain⟨hne0,hB''⟩:=aFw hB';exact hne0 (h1.apart i 0 hv' _ b' hB'' hB hbk rfl)
  .exact k3.elim
theorem aDm{P:Program}{h:Heap}{f:FuncId}{i:Nat}{cs args cs':List V}{r:V}(hc:yE P f cs args r cs')(hl:h.look i=some (.box cs))(hp:V.pures cs=true)(ha:V.pures args=true){E:Env}{w:World}{vs:List Value}
  (hr:Rel w E h) (hargs:RdVs w E (.own i::args) vs):Calls P f vs.toArray w λe w'=>∃v E',e=.returned v/\Rel w' E' (h.set i (.box cs'))/\Ext E w E' w'/\RdV w' E' r v /\∀q,E'.U q->E.U q:=by
 cases vs with
 |nil=>simp only[RdVs]at hargs
 |cons v0 vs=>
  simp only[RdVs,RdV]at hargs;obtain⟨⟨_,hUi,hv0⟩,hargs⟩:=hargs;obtain⟨b,cells,ty,hB,hh,hcs,hones⟩:=qY hr hl;rw[hv0 _ (.inl hB)];obtain⟨ob1,ob2,ob3⟩:=hr.own i _ b hB rfl;refine(hc.2 w E.S b ty cells vs hr.slt ob2 hh (RdVs.bare cs hp hcs) hones (RdVs.bare args ha hargs)).mono ?_;rintro e w' ⟨v,S',ty',cells',rfl,s1,s2,s3,hrv,hh',hcs',hones',hg,hSb⟩
  let E':Env:={ E with S:=S' }
  have hE:Ext E w E' w':=by
   refine⟨hg.os,hg.tape,hg.output,hg.size,λk hk=>hg.block k (hk.elim (hr.slt k) (hr.dlt k)) λe=>?_,s1,λk hk=>(s2 k hk).imp id λhlt hd=>?_,λ_=> .rfl,λ_ h=>h,λ_ _ _ h=>h,λ_ _ _ h=>h,rfl⟩
   .injection e with e;subst e;exact hk.elim ob2 ob3
   .have:=hr.dlt k hd;omega
  refine⟨v,E',rfl,⟨λj blk hlj=>?_,λj hv hBj=>?_,hr.domF,λj hv b' hBj hbk=>?_,hr.apart,s3,λk hk=>Nat.lt_of_lt_of_le (hr.dlt k hk) hg.size⟩,hE,RdV.unbare (E:=E') r hrv,λ_ h=>h⟩
  .rw[Heap.look_set _ _ _ hl]at hlj;split at hlj
   .rename_i hji;subst hji;injection hlj with hlj;subst hlj;exact⟨_,hB,b,cells',ty',rfl,hh',RdVs.unbare (E:=E') cs' hcs',hones'⟩
   .rename_i hji;obtain⟨hv,hBj,hrel⟩:=hr.has j blk hlj;cases hmj:blk.mine with
    |true=>
     have hBj':E.B j=some hv:=by rw[<-mF hmj];exact hBj
     refine⟨hv,hBj,hrel.keep hE λb' hb'=>hg.block b' (hr.own j hv b' hBj' hb').1 λe=>?_⟩;injection e with e;subst e;exact hji (hr.apart j i hv _ b' hBj' hB hb' rfl)
    |false=>
     cases blk<;>first|exact⟨hv,hBj,hE.rdT hrel⟩|simp[Blk.mine]at hmj
  .obtain⟨q1,q2⟩:=hr.dom j hv hBj;refine⟨q1,?_⟩;rw[Heap.look_set _ _ _ hl];split
   .exact⟨_,rfl⟩
   .exact q2
  .obtain⟨o1,o2,o3⟩:=hr.own j hv b' hBj hbk;refine⟨Nat.lt_of_lt_of_le o1 hg.size,λhs=>?_,o3⟩;rcases s2 b' hs with h|h
   .exact o2 h
   .omega
theorem aP{P:Program}{σ:St}{d:Option Tmp}{f:FuncId}{i:Nat}{cs args cs':List V}{r:V}{K:St->Prop}(hc:yE P f cs args r cs')(hl:σ.h.look i=some (.box cs))(hp:V.pures cs=true)(ha:V.pures args=true)
  (hK:K (({ σ with h:= σ.h.set i (.box cs') }:St).put d r)):ICall P σ d f (.own i::args) K:=
 rW hc.1 (λE w vs hr hbd hargs=>(aDm hc hl hp ha hr hargs).mono λe w' ⟨v,E',he,h1,h2,h3,h4⟩=>⟨v,r,_,σ.nx,E',he,h1,λq hq=>hbd q (h4 q hq),h2,h3,hK⟩)
theorem Dq{P:Program}{σ:St}{d:Option Tmp}{f:FuncId}{xs:List V}{r:V}{K:St->Prop}(hC:aL P f xs r)(hp:V.pures xs=true)(hK:K (σ.put d r)):ICall P σ d f xs K:=by
 refine rW hC.1 (λE w vs hr hbd hvs=>?_);refine(hC.2 w E.S vs hr.slt (RdVs.bare _ hp hvs)).mono ?_;rintro e w' ⟨v,S',rfl,q1,q2,q3,q4,q5⟩;have hrF:RelF E { σ with fr:=[],df:=aL6 E } { tmps:=#[],defers:=[] } w:=⟨hr,hbd,by show RdVs w E [] [];simp only[RdVs],Lx⟩
 obtain⟨k1,k2⟩:=hrF.later q5 q1 q2 q3;exact⟨v,r,σ.h,σ.nx,_,rfl,k1.rel,k1.bound,k2,RdV.unbare (E:={ E with S:=S' }) r q4,hK⟩
theorem Fs{P:Program}{σ:St}{d:Option Tmp}{f:FuncId}{xs:List V}{K:St->Prop}(he:P.enters f=true)(h:ICall P σ d f xs K):LCall P σ d f xs K:=
 ⟨he,λE a w vs hr hvs=>((h E w vs hr.rel hr.bound hvs).calls he).mono λe w' ⟨v,x,h',nx',E',q1,q2,q3,q4,q5,q6⟩=>by
  have hr':RelF E' { σ with h:=h',nx:=nx' } a w':=⟨q2,q3,q4.rdVs _ hr.fr,q4.defs hr.defers⟩
  exact⟨v,_,E',q1,hr'.put d q5,q4,q6⟩⟩
attribute [go_sem] Hm boxK aK0
mutual
def V.ren(f:Nat->Nat):V->V
 | .own i=> .own (f i)
 | .ptr i o=> .ptr (f i) o
 | .rptr i k n j=> .rptr (f i) k n j
 | .rsl i k n j=> .rsl (f i) k n j
 | .agg cs=> .agg (V.rens f cs)
 | .tup cs=> .tup (V.rens f cs)
 | .clo g cs=> .clo g (V.rens f cs)
 | .cond g x=> .cond g (V.ren f x)
 | .t x=> .t x
 | .elem k d xs i j=> .elem k d xs i j
 | .dead=> .dead
def V.rens(f:Nat->Nat):List V->List V
 |[]=>[]
 |x::xs=>V.ren f x::V.rens f xs
end
def V.renE(f:Nat->Nat):List (Value×V)->List (Value×V)
 |[]=>[]
 |(k,x)::r=>(k,V.ren f x)::V.renE f r
def V.renR(f:Nat->Nat):List (List V)->List (List V)
 |[]=>[]
 |x::r=>V.rens f x::V.renR f r
def Blk.ren(f:Nat->Nat):Blk->Blk
 | .box cs=> .box (V.rens f cs)
 | .row e k d xs=> .row e k d (V.renR f xs)
 | .map es=> .map (V.renE f es)
 | .shr t=> .shr t
 | .loop st pend tmps ps c d=> .loop st pend (V.rens f tmps) ps c d
 | .defd=> .defd
theorem aB9(f:Nat->Nat):∀xs:List V,(V.rens f xs).length=xs.length
 |[]=>rfl
 |x::xs=>by simp only[V.rens,List.length_cons,aB9 f xs]
theorem Nw(f:Nat->Nat):∀xs:List (List V),(V.renR f xs).length=xs.length
 |[]=>rfl
 |x::xs=>by simp only[V.renR,List.length_cons,Nw f xs]
theorem Ke(f:Nat->Nat):∀xs ys:List V,V.rens f (xs++ys)=V.rens f xs++V.rens f ys
 |[],ys=>rfl
 |x::xs,ys=>by simp only[V.rens,List.cons_append,Ke f xs]
theorem xE(f:Nat->Nat):∀xs:List (List V),(V.renR f xs).flatten=V.rens f xs.flatten
 |[]=>rfl
 |x::xs=>by simp only[V.renR,List.flatten_cons,Ke,xE f xs]
theorem Nx(f:Nat->Nat)(k:Nat):∀xs:List (List V),(∀x∈V.renR f xs,x.length=k)↔(∀x∈xs,x.length=k)
 |[]=>by simp[V.renR]
 |x::xs=>by simp only[V.renR,List.mem_cons,forall_eq_or_imp,aB9,Nx f k xs]
section
variable {w:World} {E E':Env} {f:Nat->Nat} (hS:∀b,E.S b->E'.S b) (hU:∀j,E.U j->E'.U (f j)) (hI:∀j hv,E.U j->E'.Is (f j) hv->E.Is j hv)
include hS hU hI
mutual
theorem Ly:∀(x:V) {v:Value},RdV w E x v->RdV w E' (V.ren f x) v
 | .t x,v,h=>by simp only[V.ren,RdV]at h⊢; exact h.mono hS λ_ _=>rfl
 | .agg cs,v,h=>by
  simp only[V.ren,RdV]at h⊢;obtain⟨vs,h1,h2,h3⟩:=h;exact⟨vs,h1,tG cs h2,h3⟩
 | .tup cs,v,h=>by
  simp only[V.ren,RdV]at h⊢;obtain⟨vs,h1,h2⟩:=h;exact⟨vs,h1,tG cs h2⟩
 | .clo g cs,v,h=>by
  simp only[V.ren,RdV]at h⊢;obtain⟨vs,h1,h2⟩:=h;exact⟨vs,h1,tG cs h2⟩
 | .own i,v,h=>by
  simp only[V.ren,RdV]at h⊢;exact⟨h.1,hU i h.2.1,λhv hb=>h.2.2 hv (hI i hv h.2.1 hb)⟩
 | .ptr i o,v,h=>by
  simp only[V.ren,RdV]at h⊢;exact⟨h.1,hU i h.2.1,λhv hb=>h.2.2 hv (hI i hv h.2.1 hb)⟩
 | .rptr i k n j,v,h=>by
  simp only[V.ren,RdV]at h⊢;exact⟨h.1,hU i h.2.1,λhv hb=>h.2.2 hv (hI i hv h.2.1 hb)⟩
 | .rsl i k n j,v,h=>by
  simp only[V.ren,RdV]at h⊢;exact⟨h.1,hU i h.2.1,λhv hb=>h.2.2 hv (hI i hv h.2.1 hb)⟩
 | .elem k d xs i j,v,h=>by
  simp only[V.ren,RdV]at h⊢;obtain⟨b,off,c,h1,h2⟩:=h;exact⟨b,off,c,h1.mono hS λ_ _=>rfl,h2⟩
 | .cond g x,v,h=>by
  simp only[V.ren,RdV]at h⊢;exact⟨λhg=>Ly x (h.1 hg),h.2⟩
 | .dead,v,h=>by simp only[V.ren,RdV]
theorem tG:∀(xs:List V) {vs:List Value},RdVs w E xs vs->RdVs w E' (V.rens f xs) vs
 |[],[],h=>by simp only[V.rens,RdVs]
 |x::xs,v::vs,h=>by
  simp only[V.rens,RdVs]at h⊢;exact⟨Ly x h.1,tG xs h.2⟩
 |[],_::_,h=>by simp only[RdVs]at h
 |_::_,[],h=>by simp only[RdVs]at h
end
theorem aBa:∀(xs:List (Value×V)) {es:List MapEntry},RdEs w E xs es->RdEs w E' (V.renE f xs) es
 |[],[],h=>trivial
 |(k,x)::xs,e::es,h=>⟨h.1,Ly hS hU hI x h.2.1,aBa xs h.2.2⟩
 |[],_::_,h=>h.elim
 |_::_,[],h=>h.elim
theorem aQ1:∀(b:Blk) {hv:Value},BlkRel w E b hv->BlkRel w E' (b.ren f) hv
 | .box cs,hv,h=>by
  obtain⟨b,vs,ty,h1,h2,h3,h4⟩:=h;exact⟨b,vs,ty,h1,h2,tG hS hU hI cs h3,h4⟩
 | .row e k d xs,hv,h=>by
  obtain⟨cells,h1,h2,h3,h4⟩:=h;exact⟨cells,by rw[Nw];exact h1,by rw[xE];exact tG hS hU hI _ h2,(Nx f k xs).2 h3,h4⟩
 | .map es,hv,h=>by
  obtain⟨r,entries,clock,h1,h2,h3,h4⟩:=h;exact⟨r,entries,clock,h1,h2,aBa hS hU hI es h3,h4⟩
 | .shr t,hv,h=>RdT.mono hS (λ_ _=>rfl) h
 | .loop st pend tmps ps c d,hv,h=>by
  obtain⟨l,rec,h1,h2,h3,h4,h5,h6,h7,h8⟩:=h;exact⟨l,rec,h1,h2,h3,h4,h5,h6,h7,tG hS hU hI tmps h8⟩
 | .defd,hv,h=>h
end
def yN(m:Nat)(l:List Nat):Bool:=l.all λq=>decide (q<m)
theorem Kp{m:Nat}{a b:List Nat}:yN m (a++b)=(yN m a&&yN m b):=by simp[yN]
section
variable {w:World} {E E':Env} {f:Nat->Nat} {m:Nat} (hS:∀b,E.S b->E'.S b) (hU:∀j,j<m->E'.U j) (hI:∀j hv,j<m->E'.Is j hv->E.Is (f j) hv)
include hS hU hI
mutual
theorem aEz:∀(x:V) {v:Value},yN m x.ment=true->RdV w E (V.ren f x) v->RdV w E' x v
 | .t x,v,_,h=>by simp only[V.ren,RdV]at h⊢; exact h.mono hS λ_ _=>rfl
 | .agg cs,v,hl,h=>by
  simp only[V.ren,V.ment,RdV]at h hl⊢;obtain⟨vs,h1,h2,h3⟩:=h;exact⟨vs,h1,uQ cs hl h2,h3⟩
 | .tup cs,v,hl,h=>by
  simp only[V.ren,V.ment,RdV]at h hl⊢;obtain⟨vs,h1,h2⟩:=h;exact⟨vs,h1,uQ cs hl h2⟩
 | .clo g cs,v,hl,h=>by
  simp only[V.ren,V.ment,RdV]at h hl⊢;obtain⟨vs,h1,h2⟩:=h;exact⟨vs,h1,uQ cs hl h2⟩
 | .own i,v,hl,h=>by
  have hi:i<m:=by simpa[yN,V.ment]using hl
  simp only[V.ren,RdV]at h⊢;exact⟨h.1,hU i hi,λhv hb=>h.2.2 hv (hI i hv hi hb)⟩
 | .ptr i o,v,hl,h=>by
  have hi:i<m:=by simpa[yN,V.ment]using hl
  simp only[V.ren,RdV]at h⊢;exact⟨h.1,hU i hi,λhv hb=>h.2.2 hv (hI i hv hi hb)⟩
 | .rptr i k n j,v,hl,h=>by
  have hi:i<m:=by simpa[yN,V.ment]using hl
  simp only[V.ren,RdV]at h⊢;exact⟨h.1,hU i hi,λhv hb=>h.2.2 hv (hI i hv hi hb)⟩
 | .rsl i k n j,v,hl,h=>by
  have hi:i<m:=by simpa[yN,V.ment]using hl
  simp only[V.ren,RdV]at h⊢;exact⟨h.1,hU i hi,λhv hb=>h.2.2 hv (hI i hv hi hb)⟩
 | .elem k d xs i j,v,_,h=>by
  simp only[V.ren,RdV]at h⊢;obtain⟨b,off,c,h1,h2⟩:=h;exact⟨b,off,c,h1.mono hS λ_ _=>rfl,h2⟩
 | .cond g x,v,hl,h=>by
  simp only[V.ren,V.ment,RdV]at h hl⊢;exact⟨λhg=>aEz x hl (h.1 hg),h.2⟩
 | .dead,v,_,h=>by simp only[RdV]
theorem uQ:∀(xs:List V) {vs:List Value},yN m (V.ments xs)=true->RdVs w E (V.rens f xs) vs->RdVs w E' xs vs
 |[],[],_,h=>by simp only[RdVs]
 |x::xs,v::vs,hl,h=>by
  simp only[V.ments,Kp,Bool.and_eq_true]at hl;simp only[V.rens,RdVs]at h⊢;exact⟨aEz x hl.1 h.1,uQ xs hl.2 h.2⟩
 |[],_::_,_,h=>by simp only[V.rens,RdVs]at h
 |_::_,[],_,h=>by simp only[V.rens,RdVs]at h
end
def Fe:List (Value×V)->List Nat
 |[]=>[]
 |(_,x)::r=>x.ment++Fe r
theorem aH4:∀(xs:List (Value×V)) {es:List MapEntry},yN m (Fe xs)=true->RdEs w E (V.renE f xs) es->RdEs w E' xs es
 |[],[],_,h=>trivial
 |(k,x)::xs,e::es,hl,h=>by
  simp only[Fe,Kp,Bool.and_eq_true]at hl;exact⟨h.1,aEz hS hU hI x hl.1 h.2.1,aH4 xs hl.2 h.2.2⟩
 |[],_::_,_,h=>h.elim
 |_::_,[],_,h=>h.elim
def Pw:List (List V)->List Nat
 |[]=>[]
 |x::r=>V.ments x++Pw r
omit hS hU hI in
theorem Fd:∀(xs ys:List V),V.ments (xs++ys)=V.ments xs++V.ments ys
 |[],ys=>rfl
 |x::xs,ys=>by simp only[V.ments,List.cons_append,Fd xs,List.append_assoc]
omit hS hU hI in
theorem Cp:∀xs:List (List V),V.ments xs.flatten=Pw xs
 |[]=>rfl
 |x::xs=>by simp only[Pw,List.flatten_cons,Fd,Cp xs]
def Blk.ment:Blk->List Nat
 | .box cs=>V.ments cs
 | .row _ _ _ xs=>Pw xs
 | .map es=>Fe es
 | .shr _=>[]
 | .loop _ _ tmps _ _ _=>V.ments tmps
 | .defd=>[]
theorem ren_inB:∀(b:Blk) {hv:Value},yN m b.ment=true->BlkRel w E (b.ren f) hv->BlkRel w E' b hv
 | .box cs,hv,hl,h=>by
  obtain⟨b,vs,ty,h1,h2,h3,h4⟩:=h;exact⟨b,vs,ty,h1,h2,uQ hS hU hI cs hl h3,h4⟩
 | .row e k d xs,hv,hl,h=>by
  obtain⟨cells,h1,h2,h3,h4⟩:=h;rw[Nw]at h1;rw[xE]at h2;exact⟨cells,h1,uQ hS hU hI _ (by rw[Cp];exact hl) h2,(Nx f k xs).1 h3,h4⟩
 | .map es,hv,hl,h=>by
  obtain⟨r,entries,clock,h1,h2,h3,h4⟩:=h;exact⟨r,entries,clock,h1,h2,aH4 hS hU hI es hl h3,h4⟩
 | .shr t,hv,hl,h=>RdT.mono hS (λ_ _=>rfl) h
 | .loop st pend tmps ps c d,hv,hl,h=>by
  obtain⟨l,rec,h1,h2,h3,h4,h5,h6,h7,h8⟩:=h;exact⟨l,rec,h1,h2,h3,h4,h5,h6,h7,uQ hS hU hI tmps hl h8⟩
 | .defd,hv,hl,h=>h
end
theorem aHx:∀l:List (List T),Pw (aS l)=[]
 |[]=>rfl
 |x::r=>by
  have h1:∀l:List T,V.ments (l.map .t)=[]:=λl=>by induction l with
   |nil=>rfl
   |cons a l ih=>simp only[List.map_cons,V.ments,V.ment,ih,List.append_nil]
  have:=aHx r;unfold aS at this⊢;simp only[List.map_cons,Pw,h1,this,List.append_nil]
attribute [go_sem] aHx
def CIO(P:Program)(f:FuncId)(m:Nat)(h:Heap)(args:List V)(r:V)(h':Heap)(n':Nat):Prop:=
 P.enters f=true /\∀(E:Env) (w:World) (vs:List Value),Rel w E h->(∀i,E.U i->i<m)->RdVs w E args vs ->
  Calls P f vs.toArray w λe w'=>∃v E',e=.returned v/\Rel w' E' h'/\(∀i,E'.U i->i<n')/\Ext E w E' w'/\RdV w' E' r v
def ioK(m:Nat)(r:V)(h':Heap)(n':Nat)(x:V)(σ:St):Prop:=Cd m { fr:=[x],h:= σ.h,nx:= σ.nx } { fr:=[r],h:=h',nx:=n' }
theorem cio_of{P:Program}{f:FuncId}{fn:Func}{c:Code}{args:List V}{r:V}{m n n':Nat}{h h':Heap}{rs:List ResultVar}(he:P.enters f=true)(hf:P.funcs[f]?=some fn)(hb:fn.body=some c)(hn:fn.ntmps=n)(hrs:fn.results.toList=rs)
  (hw:AWP P m c (Hm P rs (ioK m r h' n')) (uB P n args h m)):CIO P f m h args r h' n':=by
 refine⟨he,λE w vs hr hbd hargs=>pJ hf hb hn hrs hw hr hbd hbd hargs ?_⟩;intro v x σ' E' w' h1 hbd' h2 h3 hK;have h4:RelF (E'.at0 none) { fr:=[x],h:= σ'.h,nx:= σ'.nx } { tmps:=#[v],defers:=[] } w':=⟨h1.ro none,hbd',by
  show RdVs w' (E'.at0 none) [x] [v]
  simp only[RdVs,and_true];exact h3.ro none,⟨rfl,rfl⟩⟩
 obtain⟨E'',k1,k2⟩:=hK (E'.at0 none) _ w' h4 (E.at0 none) w hbd (h2.at0 none);have k3:RdVs w' E'' [r] [v]:=k1.fr;simp only[RdVs,and_true]at k3;exact⟨v,E''.at0 E.ro,rfl,k1.rel.ro _,k1.bound,k2.back,k3.ro _⟩
section
open Classical
theorem aJm{P:Program}{f:FuncId}{m n':Nat}{h h' H:Heap}{args:List V}{r:V}(hc:CIO P f m h args r h' n'){g:Nat->Nat}(hmn:m<=n')(hinj:∀i j,i<n'->j<n'->g i=g j->i=j)
  (hlow:∀j blk,h.look j=some blk->j<m/\yN m blk.ment=true/\H.look (g j)=some (blk.ren g)) (hall:∀j,j<m ->∃blk,h.look j=some blk) (hargs:yN m (V.ments args)=true)
  {E:Env} {w:World} {vs:List Value} (hr:Rel w E H) (hnew:∀j,m<=j->j<n' ->¬E.U (g j)) (hvs:RdVs w E (V.rens g args) vs) :
  Calls P f vs.toArray w λe w'=>∃v E',e=.returned v/\(∀H',(∀j,j<n'->H'.look (g j)=(h'.look j).map (Blk.ren g))->(∀i,(∀j,j<n'->g j≠i)->H'.look i=H.look i)->Rel w' E' H')/\Ext E w E' w'/\RdV w' E' (r.ren g) v /\
   (∀q,E'.U q->E.U q \/∃j,m<=j/\j<n'/\q=g j):=by
 let E1:Env:={ S:=E.S,B:=λj=>if j<m then E.B (g j)else none,U:=λj=>j<m,D:=λb=>E.D b \/∃i hv,(∀j,j<m->g j≠i)/\E.B i=some hv/\aV hv=some b,F:=λj=>if j<m then E.F (g j)else none,ro:=E.ro }
 have hI1:∀j hv,j<m->E1.Is j hv->E.Is (g j) hv:=λj hv hj hi=>by
  simp only[E1,Env.Is,if_pos hj]at hi⊢;exact hi
 have hUg:∀j,j<m->E.U (g j):=λj hj=>by
  obtain⟨blk,hb⟩:=hall j hj;exact hr.uses (hlow j blk hb).2.2
 have hr1:Rel w E1 h:=by
  refine⟨λj blk hl=>?_,λj hv hB=>?_,λj hv hF=>?_,λj hv b hB hbk=>?_,λi j hi hj b hBi hBj hbi hbj=>?_,hr.slt,λb hb=>?_⟩
  .obtain⟨hj,hlo,hH⟩:=hlow j blk hl;obtain⟨hv,hat,hrel⟩:=hr.has _ _ hH;refine⟨hv,?_,ren_inB (E:=E) (E':=E1) (f:=g) (m:=m) (λ_ h=>h) (λ_ h=>h) hI1 blk hlo hrel⟩;cases blk<;>simp only[Env.at,Blk.ren,E1,if_pos hj]at hat ⊢ <;> exact hat
  .simp only[E1]at hB;split at hB
   .rename_i hj;exact⟨hj,hall j hj⟩
   .cases hB
  .simp only[E1]at hF;split at hF
   .rename_i hj;refine⟨hj,?_⟩;simp only[E1,if_pos hj];exact(hr.domF _ _ hF).2
   .cases hF
  .simp only[E1]at hB;split at hB
   .rename_i hj;obtain⟨o1,o2,o3⟩:=hr.own _ hv b hB hbk;refine⟨o1,o2,λhd=>hd.elim o3 ?_⟩;rintro⟨i,hv',hne,hBi,hbi⟩;exact hne j hj (hr.apart _ _ hv hv' b hB hBi hbk hbi)
   .cases hB
  .simp only[E1]at hBi hBj;split at hBi
   .split at hBj
    .rename_i hi' hj';exact hinj i j (by omega) (by omega) (hr.apart _ _ hi hj b hBi hBj hbi hbj)
    .cases hBj
   .cases hBi
  .rcases hb with hb|⟨i,hv,_,hBi,hbi⟩
   .exact hr.dlt b hb
   .exact(hr.own i hv b hBi hbi).1
 refine(hc.2 E1 w vs hr1 (λi hi=>hi) (uQ (E:=E) (E':=E1) (f:=g) (m:=m) (λ_ h=>h) (λ_ h=>h) hI1 args hargs hvs)).mono ?_;rintro e w' ⟨v,E2,rfl,hr2,hb2,hx2,hv2⟩
 let E3:Env:={ S:=E2.S,B:=λi=>if hj:∃j,j<n'/\g j=i then E2.B (Classical.choose hj)else E.B i,U:=λi=>E.U i \/∃j,m<=j/\j<n'/\i=g j,D:=E.D,F:=λi=>if hj:∃j,j<n'/\g j=i then E2.F (Classical.choose hj)else E.F i,ro:=E.ro }
 have hch:∀j (hj:j<n') (he:∃k,k<n'/\g k=g j),Classical.choose he=j:=λj hj he=>hinj _ _ (Classical.choose_spec he).1 hj (Classical.choose_spec he).2
 have hB3:∀j,j<n'->E3.B (g j)=E2.B j:=λj hj=>by
  have he:∃k,k<n'/\g k=g j:=⟨j,hj,rfl⟩
  simp only[E3,dif_pos he,hch j hj he]
 have hF3:∀j,j<n'->E3.F (g j)=E2.F j:=λj hj=>by
  have he:∃k,k<n'/\g k=g j:=⟨j,hj,rfl⟩
  simp only[E3,dif_pos he,hch j hj he]
 have hB3':∀i,(∀j,j<n'->g j≠i)->E3.B i=E.B i:=λi hi=>by
  simp only[E3,dif_neg (λ(he:∃k,k<n'/\g k=i)=>he.elim λk hk=>hi k hk.1 hk.2)]
 have hF3':∀i,(∀j,j<n'->g j≠i)->E3.F i=E.F i:=λi hi=>by
  simp only[E3,dif_neg (λ(he:∃k,k<n'/\g k=i)=>he.elim λk hk=>hi k hk.1 hk.2)]
 have hcase:∀i,(∃j,j<n'/\g j=i)\/(∀j,j<n'->g j≠i):=λi=>by
  by_cases he:∃j,j<n'/\g j=i
  .exact .inl he
  .exact .inr λj hj hg=>he ⟨j,hj,hg⟩
 have hU3:∀j,E2.U j->E3.U (g j):=λj hj=>by
  by_cases hjm:j<m
  .exact .inl (hUg j hjm)
  .exact .inr ⟨j,by omega,hb2 j hj,rfl⟩
 have hI3:∀j hv,E2.U j->E3.Is (g j) hv->E2.Is j hv:=λj hv hj hi=>by
  simp only[Env.Is,hB3 j (hb2 j hj),hF3 j (hb2 j hj)]at hi;exact hi
 have hD1:∀b,E.D b->E1.D b:=λb hb=> .inl hb
 have hother:∀i,(∀j,j<n'->g j≠i) ->∀hv b,E.B i=some hv->aV hv=some b->E1.D b:=λi hi hv b hB hb=> .inr ⟨i,hv,λj hj=>hi j (by omega),hB,hb⟩
 have hE:Ext E w E3 w':=by
  refine⟨hx2.os,hx2.tape,hx2.output,hx2.size,λb hb=>hx2.keep b (hb.imp id (hD1 b)),hx2.S,λb hb=>(hx2.S' b hb).imp id λhd hd'=>hd (hD1 b hd'),λ_=> .rfl,λi hi=> .inl hi,λi hi hv hB=>?_,λi hi hv hB=>?_,rfl⟩
  .rcases hcase i with ⟨j,hj,rfl⟩|hno
   .by_cases hjm:j<m
    .rw[hB3 j hj]at hB;have:=hx2.B j hjm hv hB;simpa only[E1,if_pos hjm]using this
    .exact(hnew j (by omega) hj hi).elim
   .rw[hB3' i hno]at hB;exact hB
  .rcases hcase i with ⟨j,hj,rfl⟩|hno
   .by_cases hjm:j<m
    .have h5:E2.Is j hv:=by simp only[Env.Is,hB3 j hj,hF3 j hj]at hB;exact hB
     exact hI1 j hv hjm (hx2.W j hjm hv h5)
    .exact(hnew j (by omega) hj hi).elim
   .simp only[Env.Is,hB3' i hno,hF3' i hno]at hB;exact hB
 refine⟨v,E3,rfl,λH' hin hout=>⟨λi blk hl=>?_,λi hv hB=>?_,λi hv hF=>?_,λi hv b hB hbk=>?_,λi j hi hj b hBi hBj hbi hbj=>?_,hr2.slt,λb hb=>Nat.lt_of_lt_of_le (hr.dlt b hb) hx2.size⟩,hE,Ly (E:=E2) (E':=E3) (f:=g) (λ_ h=>h) hU3 hI3 r hv2,λq hq=>hq⟩
 .rcases hcase i with ⟨j,hj,rfl⟩|hno
  .rw[hin j hj]at hl;obtain⟨blk',hl',rfl⟩:=Option.map_eq_some_iff.1 hl;obtain⟨hv,hat,hrel⟩:=hr2.has j blk' hl';refine⟨hv,?_,aQ1 (E:=E2) (E':=E3) (f:=g) (λ_ h=>h) hU3 hI3 blk' hrel⟩;cases blk'<;>simp only[Env.at,Blk.ren,hB3 j hj,hF3 j hj]at hat ⊢ <;> exact hat
  .rw[hout i hno]at hl;obtain⟨hv,hat,hrel⟩:=hr.has i blk hl;refine⟨hv,by cases blk<;>simp only[Env.at,hB3' i hno,hF3' i hno]at hat ⊢ <;> exact hat,?_⟩;cases hmine:blk.mine with
   |true=>
    have hB:E.B i=some hv:=by rw[<-mF hmine];exact hat
    exact hrel.keep hE λb hb=>hx2.keep b (.inr (hother i hno hv b hB hb))
   |false=>cases blk<;>first|exact hE.rdT hrel|simp[Blk.mine]at hmine
 .rcases hcase i with ⟨j,hj,rfl⟩|hno
  .rw[hB3 j hj]at hB;obtain⟨q1,blk,q2⟩:=hr2.dom j hv hB;exact⟨hU3 j q1,_,by rw[hin j hj,q2];rfl⟩
  .rw[hB3' i hno]at hB;obtain⟨q1,q2⟩:=hr.dom i hv hB;exact⟨.inl q1,by rw[hout i hno];exact q2⟩
 .rcases hcase i with ⟨j,hj,rfl⟩|hno
  .rw[hF3 j hj]at hF;obtain⟨q1,q2⟩:=hr2.domF j hv hF;exact⟨hU3 j q1,by rw[hB3 j hj];exact q2⟩
  .rw[hF3' i hno]at hF;obtain⟨q1,q2⟩:=hr.domF i hv hF;exact⟨.inl q1,by rw[hB3' i hno];exact q2⟩
 .rcases hcase i with ⟨j,hj,rfl⟩|hno
  .rw[hB3 j hj]at hB;obtain⟨q1,q2,q3⟩:=hr2.own j hv b hB hbk;exact⟨q1,q2,λhd=>q3 ((hx2.D b).2 (hD1 b hd))⟩
  .rw[hB3' i hno]at hB;obtain⟨q1,q2,q3⟩:=hr.own i hv b hB hbk;exact⟨Nat.lt_of_lt_of_le q1 hx2.size,λhs=>(hx2.S' b hs).elim q2 λhd=>hd (hother i hno hv b hB hbk),q3⟩
 .rcases hcase i with ⟨p,hp,rfl⟩|hno
  .rw[hB3 p hp]at hBi;rcases hcase j with ⟨q,hq,rfl⟩|hno2
   .rw[hB3 q hq]at hBj;rw[hr2.apart p q hi hj b hBi hBj hbi hbj]
   .rw[hB3' j hno2]at hBj;exact((hr2.own p hi b hBi hbi).2.2 ((hx2.D b).2 (hother j hno2 hj b hBj hbj))).elim
  .rw[hB3' i hno]at hBi;rcases hcase j with ⟨q,hq,rfl⟩|hno2
   .rw[hB3 q hq]at hBj;exact((hr2.own q hj b hBj hbj).2.2 ((hx2.D b).2 (hother i hno hi b hBi hbi))).elim
   .rw[hB3' j hno2]at hBj;exact hr.apart i j hi hj b hBi hBj hbi hbj
end
mutual
theorem Pe(g:Nat->Nat):∀x:V,x.pure=true->V.ren g x=x/\x.ment=[]
 | .t x,_=>⟨rfl,rfl⟩
 | .elem ..,_=>⟨rfl,rfl⟩
 | .dead,_=>⟨rfl,rfl⟩
 | .agg cs,h=>by
  obtain⟨h1,h2⟩:=qF g cs (by simpa only[V.pure]using h);simp only[V.ren,V.ment,h1,h2,and_self]
 | .tup cs,h=>by
  obtain⟨h1,h2⟩:=qF g cs (by simpa only[V.pure]using h);simp only[V.ren,V.ment,h1,h2,and_self]
 | .clo f cs,h=>by
  obtain⟨h1,h2⟩:=qF g cs (by simpa only[V.pure]using h);simp only[V.ren,V.ment,h1,h2,and_self]
 | .cond b x,h=>by
  obtain⟨h1,h2⟩:=Pe g x (by simpa only[V.pure]using h);simp only[V.ren,V.ment,h1,h2,and_self]
 | .own _,h=>by simp[V.pure]at h
 | .ptr ..,h=>by simp[V.pure]at h
 | .rptr ..,h=>by simp[V.pure]at h
 | .rsl ..,h=>by simp[V.pure]at h
theorem qF(g:Nat->Nat):∀xs:List V,V.pures xs=true->V.rens g xs=xs/\V.ments xs=[]
 |[],_=>⟨rfl,rfl⟩
 |x::xs,h=>by
  simp only[V.pures,Bool.and_eq_true]at h;obtain⟨h1,h2⟩:=Pe g x h.1;obtain⟨h3,h4⟩:=qF g xs h.2;simp only[V.rens,V.ments,h1,h2,h3,h4,List.append_nil,and_self]
end
def zK(t m:Nat)(j:Nat):Nat:=
 match j with
 |0=>t
 |_=>m
theorem cio_box{P:Program}{H:Heap}{f:FuncId}{t m:Nat}{cs args cs':List V}{r:V}{nb:Blk}(hc:CIO P f 1 [(0,.box cs)] (.own 0::args) r [(1,nb),(0,.box cs')] 2)(hl:H.look t=some (.box cs))(hp:V.pures cs=true)(ha:V.pures args=true)
  (hp':V.pures cs'=true) {E:Env} {w:World} {vs:List Value} (hr:Rel w E H) (hm : ¬E.U m) (hvs:RdVs w E (.own t::args) vs) :
  Calls P f vs.toArray w λe w'=>∃v E',e=.returned v/\Rel w' E' ((m,nb.ren (zK t m))::H.set t (.box cs'))/\Ext E w E' w'/\RdV w' E' (r.ren (zK t m)) v /\∀q,E'.U q->E.U q\/q=m:=by
 have hUt:E.U t:=hr.uses hl;have htm:t≠m:=λe=>hm (e ▸ hUt)
 obtain⟨a1,a2⟩:=qF (zK t m) args ha;obtain⟨c1,c2⟩:=qF (zK t m) cs hp;obtain⟨d1,d2⟩:=qF (zK t m) cs' hp';refine(aJm hc (g:=zK t m) (H:=H) (by omega) (λi j hi hj he=>?_) (λj blk hb=>?_) (λj hj=>?_) ?_ hr (λj h1 h2 hU=>?_) ?_).mono ?_
 .have:i=0\/i=1:=by omega
  have:j=0\/j=1:=by omega
  rcases ‹i=0\/i=1› with rfl|rfl<;>rcases ‹j=0\/j=1› with rfl|rfl<;>simp only[zK]at he<;>first|rfl|exact(htm he).elim|exact(htm he.symm).elim
 .simp only[Heap.look]at hb;split at hb
  .rename_i h0;subst h0;injection hb with hb;subst hb;exact⟨by omega,by simp only[Blk.ment,c2];rfl,by simp only[Blk.ren,c1];exact hl⟩
  .cases hb
 .have:j=0:=by omega
  subst this;exact⟨_,rfl⟩
 .simp only[V.ments,V.ment,a2];rfl
 .have:j=1:=by omega
  subst this;exact hm hU
 .simp only[V.rens,V.ren,a1];exact hvs
 .rintro e w' ⟨v,E',rfl,h1,h2,h3,h4⟩;refine⟨v,E',rfl,h1 _ (λj hj=>?_) (λi hi=>?_),h2,h3,λq hq=>(h4 q hq).imp id ?_⟩
  .have:j=0\/j=1:=by omega
   rcases this with rfl|rfl
   .show Heap.look _ t=_
    simp only[Heap.look,if_neg htm];rw[Heap.look_set _ _ _ hl,if_pos rfl];simp[Blk.ren,d1]
   .show Heap.look _ m=_
    simp[Heap.look]
  .have h5:=hi 0 (by omega);have h6:=hi 1 (by omega);simp only[zK]at h5 h6;simp only[Heap.look];rw[if_neg (λe=>h6 e.symm),Heap.look_set _ _ _ hl,if_neg (λe=>h5 e.symm)]
  .rintro⟨j,j1,j2,rfl⟩;have:j=1:=by omega
   subst this;rfl
attribute [go_sem] zK V.ren V.rens V.renE V.renR Blk.ren
inductive Eff where
 |none
 |new (blk:Blk)
 |upd (t:Nat) (blk:Blk)
 |app (t:Nat) (old:Option Blk) (blk:Blk)
structure Rec where
 d:Option Tmp
 x:V
 e:Eff
def xC(fr:List V)(d:Option Tmp)(x:V):List V:=
 match d with
 |some t=>fr.set t x
 |none=>fr
def tch(n0 i:Nat)(e:Eff)(q:Nat):Option (Option Blk):=
 match e with
 | .none=>none
 | .new blk=>if q=n0+i then some (some blk)else none
 | .upd t blk=>if q=t then some (some blk)else none
 | .app t old blk=>if q=n0+i then some (some blk)else if q=t then some old else none
def orB(a:Option (Option Blk))(b:Option Blk):Option Blk:=
 match a with
 |some x=>x
 |none=>b
theorem tch_inv{n0 i q:Nat}{e:Eff}(h:tch n0 i e q≠none):q=n0+i \/∃t blk,(e=.upd t blk \/∃old,e=.app t old blk)/\q=t:=by
 cases e with
 |none=>exact(h rfl).elim
 |new blk=>
  simp only[tch]at h
  by_cases hq:q=n0+i
  .exact .inl hq
  .rw[if_neg hq]at h;exact(h rfl).elim
 |upd t blk=>
  simp only[tch]at h
  by_cases hq:q=t
  .exact .inr ⟨t,blk,.inl rfl,hq⟩
  .rw[if_neg hq]at h;exact(h rfl).elim
 |app t old blk=>
  simp only[tch]at h
  by_cases hq:q=n0+i
  .exact .inl hq
  .rw[if_neg hq]at h
   by_cases hq:q=t
   .exact .inr ⟨t,blk,.inr ⟨_,rfl⟩,hq⟩
   .rw[if_neg hq]at h;exact(h rfl).elim
def frX(X:Nat->Bool):Nat->List Rec->List V->List V
 |_,[],fr=>fr
 |i,r::rs,fr=>frX X (i+1) rs (if X i=true then xC fr r.d r.x else fr)
def lkX(n0:Nat)(X:Nat->Bool)(q:Nat):Nat->List Rec->Option Blk->Option Blk
 |_,[],b=>b
 |i,r::rs,b=>lkX n0 X q (i+1) rs (if X i=true then orB (tch n0 i r.e q) b else b)
theorem aPn{fr:List V}{d:Option Tmp}{x:V}:(xC fr d x).length=fr.length:=by cases d<;>simp[xC]
theorem setO_ne{fr:List V}{d:Option Tmp}{x:V}{t:Nat}(h:d≠some t):(xC fr d x).getD t .dead=fr.getD t .dead:=by
 cases d with
 |none=>rfl
 |some u=>
  have:u≠t:=λe=>h (by rw[e])
  simp[xC,List.getD_eq_getElem?_getD,List.getElem?_set_ne this]
theorem setO_eq{fr fr':List V}{x:V}{t:Nat}(h:fr.length=fr'.length):(xC fr (some t) x).getD t .dead=(xC fr' (some t) x).getD t .dead:=by
 simp only[xC,List.getD_eq_getElem?_getD,List.getElem?_set_self']
 by_cases ht:t<fr.length
 .rw[List.getElem?_eq_getElem ht,List.getElem?_eq_getElem (h ▸ ht)];rfl
 .rw[List.getElem?_eq_none (by omega),List.getElem?_eq_none (by omega)]
theorem aL1{fr:List V}{d e:Option Tmp}{x y:V}(h:∀t,d=some t->e≠some t):xC (xC fr d x) e y=xC (xC fr e y) d x:=by
 cases d with
 |none=>rfl
 |some t=>
  cases e with
  |none=>rfl
  |some u=>
   have:t≠u:=λh'=>h t rfl (by rw[h'])
   simp only[xC];rw[List.set_comm _ _ this]
theorem aD0{X Y:Nat->Bool}{t:Nat}:∀(rs:List Rec) (i:Nat) (fr fr':List V),(∀j r,rs[j]?=some r->r.d=some t->X (i+j)=Y (i+j))->fr.length=fr'.length->fr.getD t .dead=fr'.getD t .dead ->
  (frX X i rs fr).getD t .dead=(frX Y i rs fr').getD t .dead
 |[],i,fr,fr',_,_,h=>h
 |r::rs,i,fr,fr',hs,hl,h=>by
  unfold frX;refine aD0 rs (i+1) _ _ (λj r' hj hd=>?_) ?_ ?_
  .have:=hs (j+1) r' (by simpa using hj) hd;rwa[show i+1+j=i+(j+1) by omega]
  .split<;>split<;>simp only[aPn,hl]
  .by_cases hd:r.d=some t
   .have:=hs 0 r (by simp) hd;rw[Nat.add_zero]at this;rw[this];split
    .rw[hd];exact setO_eq hl
    .exact h
   .split<;>split<;>simp only[setO_ne hd,h]
theorem Zj{X:Nat->Bool}:∀(rs:List Rec) (i:Nat) (fr:List V),(∀j,j<rs.length->X (i+j)=false)->frX X i rs fr=fr
 |[],i,fr,_=>rfl
 |r::rs,i,fr,h=>by
  unfold frX;have h0:=h 0 (by simp);rw[Nat.add_zero]at h0;rw[h0,if_neg (by simp),Zj rs (i+1) fr λj hj=>?_];have:=h (j+1) (by simpa using hj);rwa[show i+1+j=i+(j+1) by omega]
theorem aJc{X:Nat->Bool}{d:Option Tmp}{x:V}:∀(rs:List Rec) (i:Nat) (fr:List V),(∀j r,rs[j]?=some r->X (i+j)=true ->∀t,r.d=some t->d≠some t)->frX X i rs (xC fr d x)=xC (frX X i rs fr) d x
 |[],i,fr,_=>rfl
 |r::rs,i,fr,h=>by
  unfold frX;rw[<-aJc rs (i+1) _ λj r' hj hX=>h (j+1) r' (by simpa using hj) (by rwa[show i+(j+1)=i+1+j by omega])]
  by_cases h0:X i=true
  .rw[if_pos h0,if_pos h0,aL1 λt ht e=>h 0 r (by simp) (by simpa using h0) t e ht]
  .rw[if_neg h0,if_neg h0]
def wU(X:Nat->Bool)(k:Nat):Nat->Bool:=λj=>X j||j==k
theorem aJd{X:Nat->Bool}{r:Rec}{k:Nat}(hX:X k=false):∀(rs:List Rec) (i:Nat) (fr:List V),i<=k->rs[k-i]?=some r->(∀j r',rs[j]?=some r'->i+j≠k->X (i+j)=true ->∀t,r'.d=some t->r.d≠some t) ->
  frX (wU X k) i rs fr=xC (frX X i rs fr) r.d r.x
 |[],i,fr,_,hr,_=>by simp at hr
 |r0::rs,i,fr,hi,hr,hd=>by
  unfold frX
  by_cases hik:i=k
  .subst hik;rw[Nat.sub_self]at hr;simp at hr;subst hr;have e1:wU X i i=true:=by simp[wU]
   rw[e1,hX,if_pos rfl,if_neg (by simp)];have e2:∀(rs:List Rec) (k':Nat) (fr:List V),i<k'->frX (wU X i) k' rs fr=frX X k' rs fr:=by
    intro rs
    induction rs with
    |nil=>intros;rfl
    |cons r1 rs ih=>
     intro k' fr hk';unfold frX;have:wU X i k'=X k':=by simp[wU];omega
     rw[this,ih _ _ (by omega)]
   rw[e2 _ _ _ (by omega)];refine aJc rs (i+1) fr λj r' hj hX' t ht=>?_
   exact hd (j+1) r' (by simpa using hj) (by omega) (by rwa[show i+(j+1)=i+1+j by omega]) t ht
  .have e1:wU X k i=X i:=by simp[wU,hik]
   rw[e1];refine aJd hX rs (i+1) _ (by omega) ?_ λj r' hj hne hX'=>hd (j+1) r' (by simpa using hj) (by omega) (by rwa[show i+(j+1)=i+1+j by omega])
   have:k-i=(k-(i+1))+1:=by omega
   rw[this]at hr;simpa using hr
theorem zU{n0 q:Nat}{X Y:Nat->Bool}:∀(rs:List Rec) (i:Nat) (b:Option Blk),(∀j r,rs[j]?=some r->tch n0 (i+j) r.e q≠none->X (i+j)=Y (i+j))->lkX n0 X q i rs b=lkX n0 Y q i rs b
 |[],i,b,_=>rfl
 |r::rs,i,b,hs=>by
  unfold lkX;have e1:(if X i=true then orB (tch n0 i r.e q) b else b)=(if Y i=true then orB (tch n0 i r.e q) b else b):=by
   cases ht:tch n0 i r.e q with
   |none=>simp[orB]
   |some blk=>
    have:=hs 0 r (by simp) (by rw[Nat.add_zero,ht];simp);rw[Nat.add_zero]at this;rw[this]
  rw[e1];exact zU rs (i+1) _ λj r' hj hd=>by
   have:=hs (j+1) r' (by simpa using hj) (by rwa[show i+(j+1)=i+1+j by omega]);rwa[show i+1+j=i+(j+1) by omega]
theorem Mf{n0 q:Nat}{X:Nat->Bool}:∀(rs:List Rec) (i:Nat) (b:Option Blk),(∀j r,rs[j]?=some r->X (i+j)=true->tch n0 (i+j) r.e q=none)->lkX n0 X q i rs b=b
 |[],i,b,_=>rfl
 |r::rs,i,b,h=>by
  unfold lkX;have e1:(if X i=true then orB (tch n0 i r.e q) b else b)=b:=by
   split
   .rename_i hx;have:=h 0 r (by simp) (by simpa using hx);rw[Nat.add_zero]at this;rw[this];rfl
   .rfl
  rw[e1];exact Mf rs (i+1) b λj r' hj hX=>by
   have:=h (j+1) r' (by simpa using hj) (by rwa[show i+(j+1)=i+1+j by omega]);rwa[show i+1+j=i+(j+1) by omega]
theorem aJ0{n0 q:Nat}{X:Nat->Bool}{r:Rec}{k:Nat}(hX:X k=false):∀(rs:List Rec) (i:Nat) (b:Option Blk),i<=k->rs[k-i]?=some r ->
  (tch n0 k r.e q≠none ->∀j r',rs[j]?=some r'->k<i+j->X (i+j)=true->tch n0 (i+j) r'.e q=none)->lkX n0 (wU X k) q i rs b=orB (tch n0 k r.e q) (lkX n0 X q i rs b)
 |[],i,b,_,hr,_=>by simp at hr
 |r0::rs,i,b,hi,hr,hd=>by
  unfold lkX
  by_cases hik:i=k
  .subst hik;rw[Nat.sub_self]at hr;simp at hr;subst hr;have e1:wU X i i=true:=by simp[wU]
   rw[e1,hX,if_pos rfl,if_neg (by simp)];have e2:∀(b:Option Blk),lkX n0 (wU X i) q (i+1) rs b=lkX n0 X q (i+1) rs b:=λb=>by
    refine zU rs (i+1) b λj r' hj _=>?_
    simp[wU];omega
   rw[e2];cases ht:tch n0 i r0.e q with
   |none=>rfl
   |some blk=>
    show lkX n0 X q (i+1) rs blk=blk
    refine Mf rs (i+1) _ λj r' hj hX'=>?_
    have:=hd (by rw[ht];simp) (j+1) r' (by simpa using hj) (by omega) (by rwa[show i+(j+1)=i+1+j by omega]);rwa[show i+1+j=i+(j+1) by omega]
  .have e1:wU X k i=X i:=by simp[wU,hik]
   rw[e1];refine aJ0 hX rs (i+1) _ (by omega) ?_ λht j r' hj hlt hX'=>by
    have:=hd ht (j+1) r' (by simpa using hj) (by omega) (by rwa[show i+(j+1)=i+1+j by omega]);rwa[show i+1+j=i+(j+1) by omega]
   have:k-i=(k-(i+1))+1:=by omega
   rw[this]at hr;simpa using hr
end Go.Proofs.YtkjdkbmfaamhaaaGreat
namespace Go.Proofs.YtkjdkbmfaamhaaaGreat
open Go.RowKit
theorem RelF.like{E:Env}{σ σ':St}{a:Act}{w:World}(hr:RelF E σ a w)(hf:σ'.fr=σ.fr)(hl:∀q,σ'.h.look q=σ.h.look q)(hn:σ'.nx=σ.nx)(hd:σ'.df=σ.df):RelF E σ' a w:=by
 refine⟨⟨λi blk h=>hr.rel.has i blk (by rw[<-hl];exact h),λi hv h=>?_,hr.rel.domF,hr.rel.own,hr.rel.apart,hr.rel.slt,hr.rel.dlt⟩,λi hi=>by rw[hn];exact hr.bound i hi,by rw[hf];exact hr.fr,by rw[hd];exact hr.defers⟩;obtain⟨h1,blk,h2⟩:=hr.rel.dom i hv h;exact⟨h1,blk,by rw[hl];exact h2⟩
theorem RelF.addAt{w w':World}{E:Env}{σ:St}{a:Act}{hv:Value}{blk:Blk}{m:Nat}(hr:RelF E σ a w)(hnU : ¬E.U m)(hm:m<σ.nx)(hb:Below w.heap.size w w')(hblk:∀E',Ext E w E' w'->BlkRel w' E' blk hv)
  (hnew:∀b,aV hv=some b->w.heap.size<=b/\b<w'.heap.size) (hone:hv.oneCell'=true) (hmn:blk.mine=true) :
  RelF (E.add m hv) { σ with h:=(m,blk)::σ.h } a w'/\Ext E w (E.add m hv) w'/\RdV w' (E.add m hv) (.own m) hv:=by
 obtain⟨k1,k2⟩:=hr.rel.later (S':=E.S) hb (λ_ h=>h) (λb hb=> .inl hb) (λb hb'=>Nat.lt_of_lt_of_le (hr.rel.slt b hb') hb.size);have hE:=k2.add (E0:=E) hnU hv;have hE':Ext E w' (E.add m hv) w':=(Ext.refl E w').add (E0:=E) hnU hv;have hnB:E.B m=none:=by
  cases h:E.B m with
  |none=>rfl
  |some v=>exact(hnU (hr.rel.dom _ _ h).1).elim
 refine⟨⟨⟨λi blk' hl=>?_,λi v hB=>?_,λi v hF=>?_,λi v b hB hbk=>?_,λi j hi hj b hBi hBj hbi hbj=>?_,k1.slt,k1.dlt⟩,λi hi=>?_,hE.rdVs _ hr.fr,hE.defs hr.defers⟩,hE,?_⟩
 .simp only[Heap.look]at hl;split at hl
  .rename_i hi;subst hi;injection hl with hl;subst hl;exact⟨hv,by rw[mF hmn];simp[Env.add],hblk _ hE⟩
  .rename_i hi;obtain⟨hv',hB,hrel⟩:=k1.has i blk' hl;exact⟨hv',by cases blk'<;>simp[Env.add,Env.at,hi]at hB ⊢ <;> exact hB,hrel.keep hE' λ_ _=>rfl⟩
 .simp only[Env.add]at hB;simp only[Env.add,Heap.look];split at hB
  .rename_i hi;subst hi;exact⟨.inl rfl,blk,by simp⟩
  .rename_i hi;obtain⟨q1,q2⟩:=hr.rel.dom i v hB;exact⟨.inr q1,by simp[hi];exact q2⟩
 .obtain⟨q1,q2⟩:=hr.rel.domF i v hF;refine⟨.inr q1,?_⟩;simp only[Env.add];rw[if_neg (λh=>hnU (show E.U m from by rw[<-h];exact q1))];exact q2
 .simp only[Env.add]at hB;split at hB
  .injection hB with hB;subst hB;obtain⟨q1,q2⟩:=hnew b hbk;exact⟨q2,λhs=>by have:=hr.rel.slt b hs;omega,λhd=>by have:=hr.rel.dlt b hd;omega⟩
  .exact k1.own i v b hB hbk
 .simp only[Env.add]at hBi hBj;split at hBi
  .rename_i hi';split at hBj
   .rename_i hj';rw[hi',hj']
   .injection hBi with hBi;subst hBi;have:=(hnew b hbi).1;have:=(hr.rel.own j hj b hBj hbj).1;omega
  .split at hBj
   .injection hBj with hBj;subst hBj;have:=(hnew b hbj).1;have:=(hr.rel.own i hi b hBi hbi).1;omega
   .exact hr.rel.apart i j hi hj b hBi hBj hbi hbj
 .simp only[Env.add]at hi;rcases hi with rfl|hi
  .exact hm
  .exact hr.bound i hi
 .simp only[RdV];refine⟨hone,.inl rfl,λhv' hB=>?_⟩;rcases hB with hB|hB
  .simp[Env.add]at hB;exact hB
  .exact(hnU (hr.rel.domF _ _ hB).1).elim
def OW(P:Program)(ops:List Oper)(o:Oper)(a:Act)(w:World)(next:Act->World->Prop)(Q:Exit->Act->World->Prop):Prop:=
 if Region.wanted o (yielded ops.toArray a.tmps)=true then o.wp P a w next Q/\(∀c,o.op ≠ .defer c)else next (a.put o.dst undef) w
def aNa(ops:List Oper)(o:Oper)(σ σ':St):Prop:=∀j w,o.guard=some (j,w) ->∀t,eP ops j=some t->σ'.ev (.tmp t)=σ.ev (.tmp t)
structure Vld (P:Program) (ops:List Oper) (n0 i:Nat) (o:Oper) (σ:St) (r:Rec) (M:List (Nat×Bool)):Prop where
 d:r.d=o.dst
 u:∀t blk,r.e=.upd t blk\/(∃old,r.e=.app t old blk)->(t,true)∈M
 run:∀σ',σ'.nx=σ.nx->mN σ σ' o.op.operands.toList->HeapOn (M.map (·.1)) σ.h σ'.h->aNa ops o σ σ' ->∀E a w next Q,RelF E σ' a w->n0+i<σ.nx ->¬E.U (n0+i) ->
  (∀a' w' E' σ'',σ''.fr=xC σ'.fr r.d r.x->(∀q,σ''.h.look q=orB (tch n0 i r.e q) (σ'.h.look q))->σ''.nx=σ'.nx->σ''.df=σ'.df->RelF E' σ'' a' w'->Ext E w E' w'->(∀q,E'.U q->E.U q\/q=n0+i)->next a' w')->OW P ops o a w next Q
theorem zF{σ:St}{d:Option Tmp}{x:V}:(σ.put d x).df=σ.df:=by cases d<;>rfl
theorem rP{σ:St}{d:Option Tmp}{x:V}:(σ.put d x).fr=xC σ.fr d x:=by cases d<;>rfl
theorem aLf{P:Program}{ops:List Oper}{Q:Exit->Act->World->Prop}{σ:St}{o:Oper}{K:St->Prop}(hm:fM P o.op=true)(h:dH P ops σ o.dst o.op o.guard K){E:Env}{a:Act}{w:World}(hr:RelF E σ a w){next:Act->World->Prop}
  (hn:∀a' w' E' σ',RelF E' σ' a' w'->Ext E w E' w'->(∀q,E'.U q->E.U q)->K σ'->next a' w'):OW P ops o a w next Q:=by
 unfold OW;unfold dH at h;split at h
 .rename_i hg;have hw:Region.wanted o (yielded ops.toArray a.tmps)=true:=by simp[Region.wanted,hg]
  rw[if_pos hw];have h1:pstep P true σ o.op (pN K σ o.dst):=by
   revert h hm;generalize o.op=op;intro hm h;cases op with
   |box _ _=>cases hm
   |alloc _=>cases hm
   |store _ _ _=>cases hm
   |insert _ _ _ _=>cases hm
   |makeMap _ _=>cases hm
   |makeSlice _ _ _=>cases hm
   |mapUpdate _ _ _ _=>cases hm
   |buildSlice _ _ _=>cases hm
   |call c=>
    unfold eZ Ct at h;dsimp only at h;obtain⟨callee,args,tys⟩:=c;cases callee with
    |builtin b=>
     cases b with
     |append=>cases hm
     |_=>exact h
    |invoke r m=>exact h
    |value g=>
     cases g with
     |func f=>
      have hio:P.ioF f=false:=by simpa[fM]using hm
      dsimp only at h;rw[hio]at h;exact h
     |_=>exact h
   |_=>exact h
  obtain⟨x,hK,hy⟩:=nX h1;exact⟨hy rfl E a w hr _ _ λv w' E' h1 h2 h3 h4=>hn _ w' E' _ (h1.put o.dst h3) h2 h4 hK,qG h1⟩
 .rename_i j want hg;unfold Cr at h;split at h
  .rename_i g hgs;have hw:=zZ hr hg hgs;rw[hw];rw[if_pos hm]at h;obtain⟨x,hK,hy⟩:=nX h;cases g with
   |true=>
    rw[if_pos rfl];exact⟨hy rfl E a w hr _ _ λv w' E' h1 h2 h3 h4=>hn _ w' E' _ (h1.put o.dst (nG (by rw[RdV];exact⟨λ_=>h3,λh=>by cases h⟩))) h2 h4 hK,qG h⟩
   |false=>
    rw[if_neg (by simp)];exact hn _ w E _ (hr.put o.dst (nG (by rw[RdV];exact⟨λh=>(by cases h),λ_=>rfl⟩))) (Ext.refl _ _) (λ_ h=>h) hK
  .exact h.elim
def Qw(op:Op):Bool:=
 match op with
 | .move _| .assign _| .pick .. | .unOp .. | .binOp .. | .extract .. | .field .. | .build .. | .convert .. =>false
 |_=>true
theorem Te{σ:St}{h:Heap}(x:Operand):St.ev { σ with h:=h } x=σ.ev x:=by cases x<;>rfl
theorem aBu{σ:St}{h:Heap}:∀(l:List (Nat×Operand)),qH { σ with h:=h } l=qH σ l
 |[]=>rfl
 |(i,x)::r=>by simp only[qH,Te,aBu r]
theorem pstep_h{P:Program}{G:Bool}{σ:St}{h:Heap}{op:Op}{K:V->Prop}(hb:Qw op=false):pstep P G { σ with h:=h } op K=pstep P G σ op K:=by
 cases op with
 |move x=>simp only[pstep,pB,Te]
 |assign x=>simp only[pstep,pB,Te]
 |pick c a b=>simp only[pstep,pB,Te]
 |unOp a b c=>simp only[pstep,pB,Te]
 |binOp a b c d e=>simp only[pstep,pstep.bstep,pB,Te]
 |extract a b=>simp only[pstep,pB,Te]
 |field a b c=>simp only[pstep,pB,Te]
 |build a b=>simp only[pstep,pB,aBu]
 |convert a b c=>simp only[pstep,pB,Te]
 |_=>cases hb
theorem Cm{P:Program}{G:Bool}{σ:St}{op:Op}{K:V->Prop}(h:pstep P G σ op K):
  ∃x,K x /\∀σ',mN σ σ' op.operands.toList->(Qw op=true ->∀y∈op.operands.toList,HeapOn (σ.ev y).ment σ.h σ'.h) ->∀K':V->Prop,K' x->pstep P G σ' op K':=by
 obtain⟨x,hk,hst⟩:=kY h;refine⟨x,hk,λσ' he hh K' hk'=>?_⟩;cases hb:Qw op with
 |true=>exact hst σ' he (hh hb) K' hk'
 |false=>
  rw[<-pstep_h (h:= σ.h) hb];exact hst { σ' with h:= σ.h } (λy hy=>by rw[Te];exact he y hy) (λy hy q b _ hq=>hq) K' hk'
theorem Rg{P:Program}{σ:St}{d:Option Tmp}{op:Op}{K:St->Prop}(hm:fM P op=true):eZ P σ d op K=pstep P true σ op (pN K σ d):=by
 cases op with
 |box _ _=>cases hm
 |alloc _=>cases hm
 |store _ _ _=>cases hm
 |insert _ _ _ _=>cases hm
 |makeMap _ _=>cases hm
 |makeSlice _ _ _=>cases hm
 |mapUpdate _ _ _ _=>cases hm
 |buildSlice _ _ _=>cases hm
 |call c=>
  unfold eZ Ct;dsimp only;obtain⟨callee,args,tys⟩:=c;cases callee with
  |builtin b=>
   cases b with
   |append=>cases hm
   |_=>rfl
  |invoke r m=>rfl
  |value g=>
   cases g with
   |func f=>
    have hio:P.ioF f=false:=by simpa[fM]using hm
    dsimp only;rw[hio];rfl
   |_=>rfl
 |_=>rfl
theorem Sv{P:Program}{ops:List Oper}{σ:St}{d:Option Tmp}{op:Op}{g:Option (Nat×Bool)}{K:St->Prop}(hm:fM P op=true)(h:dH P ops σ d op g K):
  ∃y,K (σ.put d y) /\∀σ',mN σ σ' op.operands.toList->(Qw op=true ->∀y∈op.operands.toList,HeapOn (σ.ev y).ment σ.h σ'.h)->(∀j w,g=some (j,w) ->∀t,eP ops j=some t->σ'.ev (.tmp t)=σ.ev (.tmp t)) ->∀K':St->Prop,K' (σ'.put d y)->dH P ops σ' d op g K':=by
 unfold dH at h;split at h
 .rw[Rg hm]at h;obtain⟨y,hk,hst⟩:=Cm h;refine⟨y,hk,λσ' he hh _ K' hk'=>?_⟩;unfold dH;dsimp only;rw[Rg hm];exact hst σ' he hh (pN K' σ' d) hk'
 .rename_i j want;unfold Cr at h;split at h
  .rename_i g' hg';rw[if_pos hm]at h;obtain⟨y,hk,hst⟩:=Cm h;refine⟨aDd g' y,hk,λσ' he hh hs K' hk'=>?_⟩;unfold dH;dsimp only;have:nA ops σ' j want=some g':=by
    rw[<-hg'];unfold nA;split
    .rename_i t ht;have:=hs j want rfl t ht;simp only[St.ev]at this;rw[this]
    .rfl
   rw[this];unfold Cr;dsimp only;rw[if_pos hm];exact hst σ' he hh (tW K' σ' d g') hk'
  .exact h.elim
theorem aNu{P:Program}{ops:List Oper}{n0 i:Nat}{o:Oper}{σ:St}{K:St->Prop}{M:List (Nat×Bool)}(hm:fM P o.op=true)(h:dH P ops σ o.dst o.op o.guard K)
  (hM:Qw o.op=true ->∀y∈o.op.operands.toList,∀q∈(σ.ev y).ment,q∈M.map (·.1)):∃y,K (σ.put o.dst y)/\Vld P ops n0 i o σ ⟨o.dst,y,.none⟩ M:=by
 obtain⟨y,hK,hst⟩:=Sv hm h;refine⟨y,hK,rfl,λt blk h=>(by rcases h with h|⟨_,h⟩<;>cases h),λσ' hnx hev hh hg E a w next Q hr _ _ hn=>?_⟩;have h2:=hst σ' hev (λhb y hy=>hh.sub (hM hb y hy)) (λj w hgd t ht=>hg j w hgd t ht) (λs=>s=σ'.put o.dst y) rfl;refine aLf hm h2 hr λa' w' E' σ'' h1 h3 h4 h5=>?_
 subst h5;exact hn a' w' E' _ rP (λq=>by rw[nJ];rfl) kM zF h1 h3 λq hq=> .inl (h4 q hq)
def Lq(P:Program)(σ:St)(op:Op):RO Blk:=
 match op with
 | .box t x=>dG (bQ true (σ.ev x)) λx'=>aTq x'
 | .alloc t=>Sh (P.zeroT t)
 | .buildSlice t n parts=>buildSliceR P n (P.elemT t) (usePartsR true (qH σ parts.toList))
 | .makeMap _ none=>some (True,.map [])
 | .makeSlice t l c=>msR P (P.elemT t) (bQ true (σ.ev l)) (bQ true (σ.ev c))
 |_=>none
theorem newR_ok{P:Program}{σ:St}{o:Oper}{p:Prop}{blk:Blk}(h:Lq P σ o.op=some (p,blk))(hp:p):Gv P o σ blk:=by
 have hk:kR (Lq P σ o.op) (λb=>b=blk):=by rw[h];exact⟨hp,rfl⟩
 unfold Lq at hk;split at hk
 .rename_i t x ho;obtain⟨b,hb,hN⟩:=aHt (K:=λb=>b=blk) ho (cN (F:=λx'=>boxV x' λb=>b=blk) (f:=aTq) (K:=λb=>b=blk) (λy hy=>⟨hy.1,hy.2⟩) hk);subst hb;exact hN
 .rename_i t ho;unfold Sh at hk;split at hk
  .rename_i z hz;have:=hk.2;subst this;exact Vh ho hz hk.1
  .exact hk.elim
 .rename_i t n parts ho;rw[Bg]at hk;obtain⟨b,hb,hN⟩:=zL ho (Ak hk);subst hb;exact hN
 .rename_i t ho;have:=hk.2;subst this;exact Kk ho
 .rename_i t l c ho;rw[ho]at h;exact aR0 ho h hp
 .exact hk.elim
theorem aLm{P:Program}{σ σ':St}{op:Op}(he:mN σ σ' op.operands.toList):Lq P σ' op=Lq P σ op:=by
 unfold Lq;split
 .rename_i t x;rw[he x (by simp[Op.operands])]
 .rfl
 .rename_i t n parts;rw[uR parts.toList λp hp=>he p.2 (by simp only[Op.operands,List.toList_toArray];exact List.mem_map.2 ⟨p,hp,rfl⟩)]
 .rfl
 .rename_i t l c;rw[he l (by simp[Op.operands]),he c (by simp[Op.operands])]
 .rfl
theorem Yv{P:Program}{o:Oper}{σ:St}{blk:Blk}(h:Gv P o σ blk){E:Env}{a:Act}{w:World}{m:Nat}{next:Act->World->Prop}{Q:Exit->Act->World->Prop}(hr:RelF E σ a w)(hnU : ¬E.U m)(hm:m<σ.nx)
  (hn:∀a' w' E',RelF E' (({ σ with h:=(m,blk)::σ.h }:St).put o.dst (.own m)) a' w'->Ext E w E' w'->(∀q,E'.U q->E.U q\/q=m)->next a' w'):o.wp P a w next Q:=by
 obtain⟨hv,w',hrun,hb,hone,hnew,hblk⟩:=h.2 E a w hr;obtain⟨k1,k2,k3⟩:=hr.addAt hnU hm hb hblk hnew hone h.1;unfold Oper.wp;rw[hrun];exact hn _ w' _ (k1.put o.dst k3) k2 λq hq=>hq.elim .inr .inl
theorem vld_new{P:Program}{ops:List Oper}{n0 i:Nat}{o:Oper}{σ:St}{p:Prop}{blk:Blk}(hg:o.guard=none)(h:Lq P σ o.op=some (p,blk))(hp:p){M:List (Nat×Bool)}:Vld P ops n0 i o σ ⟨o.dst,.own (n0+i),.new blk⟩ M:=by
 refine⟨rfl,λt blk h=>(by rcases h with h|⟨_,h⟩<;>cases h),λσ' hnx hev hh _ E a w next Q hr hlt hnU hn=>?_⟩;have h2:=newR_ok (o:=o) (σ:= σ') (by rw[aLm hev];exact h) hp;unfold OW;rw[if_pos (by simp[Region.wanted,hg])];refine⟨Yv h2 hr hnU (by omega) λa' w' E' h1 h3 h4=>hn a' w' E' _ ?_ (λq=>?_) ?_ (by rw[zF]) h1 h3 h4,λc hc=>by rw[hc]at h;simp[Lq]at h⟩
 .rw[rP]
 .rw[nJ];simp only[Heap.look,tch];split<;>rfl
 .rw[kM]
def BEff(P:Program)(m:Nat)(f:FuncId)(t:Nat)(cs args:List V)(h:Heap)(y:V)(e:Eff)(h2:Heap):Prop:=
 (∃cs',yE P f cs args y cs'/\e=.upd t (.box cs')/\h2=h.set t (.box cs')) \/
 (∃r cs' nb,CIO P f 1 [(0,.box cs)] (.own 0::args) r [(1,nb),(0,.box cs')] 2/\V.pures cs'=true/\y=r.ren (zK t m)/\e=.app t (some (.box cs')) (nb.ren (zK t m))/\h2=(m,nb.ren (zK t m))::h.set t (.box cs'))
def aE3(P:Program)(m:Nat)(σ:St)(d:Option Tmp)(f:FuncId)(xs:List V)(K:St->Prop):Prop:=
 ∃t cs args y e h2,xs=.own t::args/\σ.h.look t=some (.box cs)/\V.pures cs=true/\V.pures args=true/\BEff P m f t cs args σ.h y e h2/\K (({ σ with h:=h2 }:St).put d y)
theorem gZ{P:Program}{m:Nat}{σ:St}{d:Option Tmp}{f:FuncId}{t:Nat}{cs args cs':List V}{r:V}{K:St->Prop}(hc:yE P f cs args r cs')(hl:σ.h.look t=some (.box cs))(hp:V.pures cs=true)(ha:V.pures args=true)
  (hK:K (({ σ with h:= σ.h.set t (.box cs') }:St).put d r)):aE3 P m σ d f (.own t::args) K:=⟨t,cs,args,r,_,_,rfl,hl,hp,ha,.inl ⟨cs',hc,rfl,rfl⟩,hK⟩
theorem vld_box{P:Program}{ops:List Oper}{n0 i:Nat}{o:Oper}{σ:St}{K:St->Prop}{f:FuncId}{args:Array Operand}{tys:Array TypeId}{M:List (Nat×Bool)}(hg:o.guard=none)
  (ho:o.op=.call { callee:=.value (.func f),args:=args,argTypes:=tys }) (h:eE true (args.toList.map σ.ev) λxs=>aE3 P (n0+i) σ o.dst f xs K)
  (hM:∀x r,args.toList=x::r ->∀q∈(σ.ev x).ment,(q,true)∈M):∃y e h2,K (({ σ with h:=h2 }:St).put o.dst y)/\(∀q,h2.look q=orB (tch n0 i e q) (σ.h.look q))/\Vld P ops n0 i o σ ⟨o.dst,y,e⟩ M:=by
 obtain⟨ys,h1,hys⟩:=jQ h;obtain⟨t,cs,as',y,e,h2,rfl,hl,hp,ha,hB,hK⟩:=h1;have htM:(t,true)∈M:=by
  cases hal:args.toList with
  |nil=>rw[hal]at hys;have:=hys (λz=>z=.own t::as') rfl;simp[eE]at this
  |cons x rr=>
   rw[hal]at hys;have h3:dB true (σ.ev x) λx'=>eE true (rr.map σ.ev) λxs'=>x'::xs'=.own t::as':=hys (λz=>z=.own t::as') rfl
   obtain⟨y',h4,hy'⟩:=yR h3;obtain⟨ys',h5,_⟩:=jQ h4;injection h5 with h5 h6;subst h5;exact hM x rr hal t (Tv hy' t (by simp[V.ment]))
 have heff:∀h0:Heap,h0.look t=some (.box cs) ->∀h3,BEff P (n0+i) f t cs as' h0 y e h3 ->∀q,h3.look q=orB (tch n0 i e q) (h0.look q):=by
  rintro h0 hl0 h3 (⟨cs',_,rfl,rfl⟩|⟨r,cs',nb,_,_,_,rfl,rfl⟩) q
  .rw[Heap.look_set _ _ _ hl0];simp only[tch];split<;>rfl
  .simp only[Heap.look,tch];split
   .rfl
   .rw[Heap.look_set _ _ _ hl0];split<;>rfl
 have hside:∀h0:Heap,∃h3,BEff P (n0+i) f t cs as' h0 y e h3:=by
  intro h0;rcases hB with ⟨cs',q1,q2,_⟩|⟨r,cs',nb,q1,q2,q3,q4,_⟩
  .exact⟨_,.inl ⟨cs',q1,q2,rfl⟩⟩
  .exact⟨_,.inr ⟨r,cs',nb,q1,q2,q3,q4,rfl⟩⟩
 refine⟨y,e,h2,hK,heff _ hl _ hB,rfl,λt' blk h=>?_,λσ' hnx hev hh _ E a w next Q hr hlt hnU hn=>?_⟩
 .rcases hB with ⟨cs',_,q,_⟩|⟨r,cs',nb,_,_,_,q,_⟩
  .simp only at h;rw[q]at h;rcases h with h|⟨_,h⟩<;>cases h
   exact htM
  .simp only at h;rw[q]at h;rcases h with h|⟨_,h⟩<;>cases h
   exact htM
 have hl':σ'.h.look t=some (.box cs):=hh t _ (List.mem_map.2 ⟨_,htM,rfl⟩) hl;have hargs:args.toList.map σ'.ev=args.toList.map σ.ev:=Fh _ λy hy=>hev y (by rw[ho];simp[Op.operands,Call.operands];exact .inr (by simpa using hy))
 have h2':eE true (args.toList.map σ'.ev) λxs=>xs=.own t::as':=by rw[hargs];exact hys _ rfl
 obtain⟨ys2,h6,h7⟩:=mP h2';subst h6;have hvs:=h7 w E _ rfl (kL hr args.toList);obtain⟨h3,hB3⟩:=hside σ'.h;have h8:P.enters f=true/\Calls P f (args.toList.map a.eval).toArray w λe w'=>∃v E',e=.returned v/\Rel w' E' h3/\Ext E w E' w'/\RdV w' E' y v /\∀q,E'.U q->E.U q\/q=n0+i:=by
  rcases hB3 with ⟨cs',hc,_,rfl⟩|⟨r,cs',nb,hc,hp',rfl,_,rfl⟩
  .exact⟨hc.1,(aDm hc hl' hp ha hr.rel hvs).mono λe w' ⟨v,E',q1,q2,q3,q4,q5⟩=>⟨v,E',q1,q2,q3,q4,λq hq=> .inl (q5 q hq)⟩⟩
  .exact⟨hc.1,cio_box hc hl' hp ha hp' hr.rel hnU hvs⟩
 obtain⟨hen,h8⟩:=h8;unfold OW;rw[if_pos (by simp[Region.wanted,hg])];refine⟨?_,λc hc=>by rw[ho]at hc;cases hc⟩;unfold Oper.wp;rw[mZ ho rfl hen];simp only[Oper.upon];have e1:(args.toList.map a.eval).toArray=args.map a.eval:=by apply Array.ext';simp only[Array.toList_map]
 rw[e1]at h8;refine Calls.mono h8 ?_;rintro e' w' ⟨v,E',rfl,q2,q4,q5,q6⟩;have hr':RelF E' { σ' with h:=h3 } a w':=⟨q2,λq hq=>(q6 q hq).elim (hr.bound q) λe=>by rw[e];show n0+i<σ'.nx;omega,q4.rdVs _ hr.fr,q4.defs hr.defers⟩
 refine hn _ w' E' _ ?_ (λq=>?_) ?_ (by rw[zF]) (hr'.put o.dst q5) q4 q6
 .rw[rP]
 .rw[nJ];exact heff _ hl' _ hB3 q
 .rw[kM]
def stR(h:Heap)(sz:Option Nat)(p x:V):RO (Nat×Blk):=
 match p with
 | .own i=>stB i sz (h.look i) 0 x
 | .ptr i off=>stB i sz (h.look i) off x
 | .rptr i k n j=>stW i sz (h.look i) k n j x
 |_=>none
where
 stB (i:Nat) (sz:Option Nat) (b:Option Blk) (off:Nat) (x:V):RO (Nat×Blk):=
  match b with
  |some (.box cs)=>some (x.cells.all V.isCell=true/\sz=some x.cells.length/\off+x.cells.length<=cs.length,(i,.box (kN cs off x.cells)))
  |_=>none
 stW (i:Nat) (sz:Option Nat) (b:Option Blk) (k n j:Nat) (x:V):RO (Nat×Blk):=
  match b with
  |some (.row e k' d xs)=>some (x.cells.all V.isCell=true/\sz=some x.cells.length/\k'=k/\n<xs.length/\j+x.cells.length<=k,
    (i,.row e k d (xs.set n (kN (pL d xs n) j x.cells))))
  |_=>none
theorem stR_ok{P:Program}{h:Heap}{t:TypeId}{p x:V}{K:Heap->Prop}(q:kR (stR h (P.szT t) p x) λib=>K (h.set ib.1 ib.2)):Cy P h t p x K:=by
 unfold stR stR.stB stR.stW at q;unfold Cy;split at q
 .split at q
  .rename_i hl;obtain⟨⟨q1,q2,q3⟩,q4⟩:=q;simp only[hl];exact⟨q1,q2,by omega,q4⟩
  .exact q.elim
 .split at q
  .rename_i hl;obtain⟨⟨q1,q2,q3⟩,q4⟩:=q;simp only[hl];exact⟨q1,q2,q3,q4⟩
  .exact q.elim
 .split at q
  .rename_i hl;obtain⟨⟨q1,q2,q3⟩,q4⟩:=q;simp only[hl];exact⟨q1,q2,q3.1,q3.2.1,q3.2.2,q4⟩
  .exact q.elim
 .exact q.elim
theorem aP8{h:Heap}{sz:Option Nat}{p x:V}{r:Prop×Nat×Blk}(hr:stR h sz p x=some r):r.2.1∈p.ment /\∃old,h.look r.2.1=some old:=by
 unfold stR stR.stB stR.stW at hr;split at hr
 .split at hr
  .rename_i hl;injection hr with hr;subst hr;exact⟨by simp[V.ment],_,hl⟩
  .cases hr
 .split at hr
  .rename_i hl;injection hr with hr;subst hr;exact⟨by simp[V.ment],_,hl⟩
  .cases hr
 .split at hr
  .rename_i hl;injection hr with hr;subst hr;exact⟨by simp[V.ment],_,hl⟩
  .cases hr
 .cases hr
theorem stR_ext{h h':Heap}{sz:Option Nat}{p x:V}(he:HeapOn p.ment h h'){r:Prop×Nat×Blk}(hr:stR h sz p x=some r):stR h' sz p x=some r:=by
 unfold stR at hr⊢;split at hr
 .rename_i i;cases hl:h.look i with
  |none=>rw[hl]at hr;cases hr
  |some b=>rw[hl]at hr;rw[he i b (by simp[V.ment]) hl];exact hr
 .rename_i i off;cases hl:h.look i with
  |none=>rw[hl]at hr;cases hr
  |some b=>rw[hl]at hr;rw[he i b (by simp[V.ment]) hl];exact hr
 .rename_i i k n j;cases hl:h.look i with
  |none=>rw[hl]at hr;cases hr
  |some b=>rw[hl]at hr;rw[he i b (by simp[V.ment]) hl];exact hr
 .cases hr
def yU(P:Program)(σ:St)(t:TypeId)(p x:Operand):RO (Nat×Blk):=dG (bQ true (σ.ev p)) λp'=>dG (bQ true (σ.ev x)) λx'=>stR σ.h (P.szT t) p' x'
theorem xA{G:Bool}{x:V}:∀q∈(bQ G x).2.ment,q∈x.ment:=by
 intro q hq;cases x<;>simpa[bQ,V.ment]using hq
theorem aA4{α:Type}{s:Prop×V}{f:V->RO α}{r:Prop×α}(h:dG s f=some r):∃r',f s.2=some r'/\r'.2=r.2:=by
 obtain⟨p,y⟩:=s;have h':sC p (f y)=some r:=h;cases hy:f y with
 |none=>rw[hy]at h';cases h'
 |some q=>
  rw[hy]at h';obtain⟨q1,q2⟩:=q;injection h' with h';subst h';exact⟨_,rfl,rfl⟩
theorem aKk{P:Program}{ops:List Oper}{n0 i:Nat}{o:Oper}{σ:St}{pp:Prop}{ib:Nat×Blk}{t:TypeId}{p x:Operand}{M:List (Nat×Bool)}(hg:o.guard=none)(hd:o.dst=none)(ho:o.op=.store t p x)
  (h:yU P σ t p x=some (pp,ib)) (hp:pp) (hM:∀q∈(σ.ev p).ment,(q,true)∈M):(∃old,σ.h.look ib.1=some old)/\Vld P ops n0 i o σ ⟨none,.dead,.upd ib.1 ib.2⟩ M:=by
 obtain⟨r1,h1,e1⟩:=aA4 h;obtain⟨r2,h2,e2⟩:=aA4 h1;obtain⟨hm,old,hold⟩:=aP8 h2;have eib:r2.2=ib:=by rw[e2,e1]
 rw[eib]at hm hold;have hiM:(ib.1,true)∈M:=hM _ (xA _ hm);refine⟨⟨old,hold⟩,hd.symm,λt' blk h=>(by rcases h with h|⟨_,h⟩<;>cases h;exact hiM),λσ' hnx hev hh _ E a w next Q hr _ _ hn=>?_⟩;have hs':yU P σ' t p x=some (pp,ib):=by
  unfold yU at h⊢;rw[hev p (by rw[ho];simp[Op.operands]),hev x (by rw[ho];simp[Op.operands])];refine kK (λy r hy hr=>Hb (λz r hr=>stR_ext (λq b hq hb=>hh q b ?_ hb) hr) hr) h;exact List.mem_map.2 ⟨_,hM q (hy q hq),rfl⟩
 have hold':σ'.h.look ib.1=some old:=hh _ _ (List.mem_map.2 ⟨_,hiM,rfl⟩) hold;have hk:kR (yU P σ' t p x) (λib'=>({ σ' with h:= σ'.h.set ib'.1 ib'.2 }:St)={ σ' with h:= σ'.h.set ib.1 ib.2 }):=by rw[hs'];exact⟨hp,rfl⟩
 have hv:dB true (σ'.ev p) λp'=>dB true (σ'.ev x) λx'=>Cy P σ'.h t p' x' λh'=>({ σ' with h:=h' }:St)={ σ' with h:= σ'.h.set ib.1 ib.2 }:=cN (λy hy=>cN (λz hz=>stR_ok hz) hy) hk
 obtain⟨σ2,hσ2,hS⟩:=Nj (K:=λs=>s={ σ' with h:= σ'.h.set ib.1 ib.2 }) ho hv;subst hσ2;obtain⟨w',hrun,k1,k2⟩:=hS E a w hr;unfold OW;rw[if_pos (by simp[Region.wanted,hg])];refine⟨?_,λc hc=>by rw[ho]at hc;cases hc⟩;unfold Oper.wp;rw[hrun];show next (a.put o.dst undef) w'
 have hput:a.put o.dst undef=a:=by rw[hd];rfl
 rw[hput];refine hn a w' E { σ' with h:= σ'.h.set ib.1 ib.2 } rfl (λq=>?_) rfl rfl k1 k2 λq hq=> .inl hq
 show(σ'.h.set ib.1 ib.2).look q=_
 rw[Heap.look_set _ _ _ hold'];simp only[tch];split<;>rfl
theorem RelF.growAt{w w':World}{E:Env}{σ:St}{a:Act}{i m:Nat}{hv hv':Value}{old blk:Blk}(hr:RelF E σ a w)(hnU : ¬E.U m)(hm:m<σ.nx)(hB:E.B i=some hv)(hl:σ.h.look i=some old)(hg:w.grownBy w' (aV hv))
  (hb':aV hv'=aV hv\/aV hv'=some w.heap.size) (hlt:∀b,aV hv'=some b->b<w'.heap.size) (hone:hv'.oneCell'=true)
  (hblk:Ext E w (E.move i m hv') w'->BlkRel w' (E.move i m hv') blk hv') (hmn:blk.mine=true) :
  RelF (E.move i m hv') { σ with h:=(m,blk)::σ.h.del i } a w'/\Ext E w (E.move i m hv') w'/\RdV w' (E.move i m hv') (.own m) hv':=by
 have hne:∀b,E.S b\/E.D b->some b≠aV hv:=λb hb he=>by
  obtain⟨_,q2,q3⟩:=hr.rel.own i hv b hB he.symm;exact hb.elim q2 q3
 have hE:Ext E w (E.move i m hv') w':=⟨hg.os,hg.tape,hg.output,hg.size,λb hb=>hg.block b (hb.elim (hr.rel.slt b) (hr.rel.dlt b)) (hne b hb),λ_ h=>h,λ_ h=> .inl h,λ_=> .rfl,λ_ h=> .inr h,λq hq v hv=>by
  simp only[Env.move]at hv;split at hv
  .rename_i h;subst h;exact(hnU hq).elim
  .split at hv
   .cases hv
   .exact hv,λq hq v hv=>by
  have hqn:q≠m:=λh=>hnU (h ▸ hq)
  simp only[Env.Is,Env.move,if_neg hqn]at hv;rcases hv with hv|hv
  .split at hv
   .cases hv
   .exact .inl hv
  .exact .inr hv,rfl⟩
 have hfresh:∀b,aV hv'=some b->(aV hv=some b\/b=w.heap.size):=λb hb=>by
  rcases hb' with h|h
  .exact .inl (h ▸ hb)
  .rw[hb]at h;injection h with h;exact .inr h
 have hother:∀j v b,j≠i->E.B j=some v->aV v=some b->aV hv'≠some b:=λj v b hji hBj hb he=>by
  rcases hfresh b he with h|h
  .exact hji (hr.rel.apart j i v hv b hBj hB hb h)
  .have:=(hr.rel.own j v b hBj hb).1;omega
 refine⟨⟨⟨λj blk' hlj=>?_,λj v hBj=>?_,λj v hF=>?_,λj v b hBj hbk=>?_,λp q vp vq b hBp hBq hbp hbq=>?_,λb hb=>Nat.lt_of_lt_of_le (hr.rel.slt b hb) hg.size,λb hb=>Nat.lt_of_lt_of_le (hr.rel.dlt b hb) hg.size⟩,λj hj=>?_,hE.rdVs _ hr.fr,hE.defs hr.defers⟩,hE,?_⟩
 .simp only[Heap.look]at hlj;split at hlj
  .rename_i hj;subst hj;injection hlj with hlj;subst hlj;exact⟨hv',by rw[mF hmn];simp[Env.move],hblk hE⟩
  .rename_i hj;rw[Heap.look_del]at hlj;split at hlj
   .cases hlj
   .rename_i hji;obtain⟨v,hBj,hrel⟩:=hr.rel.has j blk' hlj;cases hmj:blk'.mine with
    |true=>
     rw[mF hmj]at hBj;refine⟨v,by rw[mF hmj];simp[Env.move,hj,hji,hBj],hrel.keep hE λb hb=>hg.block b (hr.rel.own j v b hBj hb).1 λhe=>hji (hr.rel.apart j i v hv b hBj hB hb he.symm)⟩
    |false=>
     cases blk'<;>first|exact⟨v,hBj,hE.rdT hrel⟩|simp[Blk.mine]at hmj
 .simp only[Env.move]at hBj;simp only[Env.move,Heap.look];split at hBj
  .rename_i hj;exact⟨.inl hj,blk,by rw[if_pos hj]⟩
  .rename_i hj;split at hBj
   .cases hBj
   .rename_i hji;obtain⟨q1,q2⟩:=hr.rel.dom j v hBj;exact⟨.inr q1,by rw[if_neg hj,Heap.look_del,if_neg hji];exact q2⟩
 .obtain⟨q1,q2⟩:=hr.rel.domF j v hF;refine⟨.inr q1,?_⟩;simp only[Env.move];rw[if_neg (λh=>hnU (show E.U m from by rw[<-h];exact q1))];split
  .rfl
  .exact q2
 .simp only[Env.move]at hBj;split at hBj
  .injection hBj with hBj;subst hBj;refine⟨hlt b hbk,?_⟩;rcases hfresh b hbk with h|h
   .obtain⟨_,q2,q3⟩:=hr.rel.own i hv b hB h;exact⟨q2,q3⟩
   .exact⟨λhs=>by have:=hr.rel.slt b hs;omega,λhs=>by have:=hr.rel.dlt b hs;omega⟩
  .split at hBj
   .cases hBj
   .obtain⟨q1,q2⟩:=hr.rel.own j v b hBj hbk;exact⟨Nat.lt_of_lt_of_le q1 hg.size,q2⟩
 .simp only[Env.move]at hBp hBq;split at hBp
  .rename_i hp;split at hBq
   .rename_i hq;rw[hp,hq]
   .split at hBq
    .cases hBq
    .rename_i hqi;injection hBp with hBp;subst hBp;exact(hother q vq b hqi hBq hbq hbp).elim
  .split at hBp
   .cases hBp
   .rename_i hpi;split at hBq
    .injection hBq with hBq;subst hBq;exact(hother p vp b hpi hBp hbp hbq).elim
    .split at hBq
     .cases hBq
     .exact hr.rel.apart p q vp vq b hBp hBq hbp hbq
 .simp only[Env.move]at hj;rcases hj with rfl|hj
  .exact hm
  .exact hr.bound j hj
 .simp only[RdV];refine⟨hone,.inl rfl,λv hBj=>?_⟩;rcases hBj with hBj|hBj
  .simp[Env.move]at hBj;exact hBj
  .exact(hnU (hr.rel.domF _ _ hBj).1).elim
def apR(h:Heap)(e:TypeId)(k by':Option Nat)(z:Option (List Value))(s x:V):RO (Option Nat×Blk):=
 match k,by',z with
 |some k,some by',some z=>apB h e k by' (z.length=k/\0<k) s (Cz h k x)
 |_,_,_=>none
where
 apB (h:Heap) (e k by':Nat) (p:Prop) (s:V) (src:Option (List T×List (List V))):RO (Option Nat×Blk):=
  match s with
  | .own i=>apC e k by' p i (h.look i) src
  | .rsl i kk lo hi=>apE e k by' (p/\kk=k/\lo=0) i hi (h.look i) src
  | .t (.lit (.slice none 0 0))=>apD e k by' p src
  |_=>none
 apE (e k by':Nat) (p:Prop) (i hi:Nat) (b:Option Blk) (src:Option (List T×List (List V))):RO (Option Nat×Blk):=
  match b,src with
  |some (.row e' k' d xs),some (_,ys)=>some (p/\e'=e/\k'=k/\hi+ys.length<=maxLen/\(hi+ys.length)*by'<=140737488355328,(some i,.row e' k' d (xs.take hi++ys)))
  |_,_=>none
 apC (e k by':Nat) (p:Prop) (i:Nat) (b:Option Blk) (src:Option (List T×List (List V))):RO (Option Nat×Blk):=
  match b,src with
  |some (.row e' k' d xs),some (_,ys)=>some (p/\e'=e/\k'=k/\xs.length+ys.length<=maxLen/\(xs.length+ys.length)*by'<=140737488355328,(some i,.row e' k' d (xs++ys)))
  |_,_=>none
 apD (e k by':Nat) (p:Prop) (src:Option (List T×List (List V))):RO (Option Nat×Blk):=
  match src with
  |some (d,ys)=>some (p/\ys.length<=maxLen/\ys.length*by'<=140737488355328,(none,.row e k d ys))
  |none=>none
def Zp(h:Heap)(t:Option Nat):Heap:=
 match t with
 |some t=>h.del t
 |none=>h
def aMd(t:Option Nat)(blk:Blk):Eff:=
 match t with
 |some t=> .app t none blk
 |none=> .new blk
theorem aN3{P:Program}{o:Oper}{σ:St}{s x:Operand}{t t2 e:TypeId}{s' x':V}{pp:Prop}{tb:Option Nat×Blk}(ht2:yM P t t2)(ho:o.op=.call { callee:=.builtin .append,args:=#[s,x],argTypes:=#[t,t2] })(ht:P.elemT t=some e)
  (hs:∀(w:World) (E:Env) v,RdV w E (σ.ev s) v->RdV w E s' v) (hx:∀(w:World) (E:Env) v,RdV w E (σ.ev x) v->RdV w E x' v) (h:apR σ.h e (P.szT e) (P.bytesT e) (P.zeroT e) s' x'=some (pp,tb)) (hp:pp)
  {E:Env} {a:Act} {w:World} {m:Nat} {next:Act->World->Prop} {Q:Exit->Act->World->Prop} (hr:RelF E σ a w) (hnU : ¬E.U m) (hm:m<σ.nx)
  (hn:∀a' w' E',RelF E' (({ σ with h:=(m,tb.2)::Zp σ.h tb.1 }:St).put o.dst (.own m)) a' w'->Ext E w E' w'->(∀q,E'.U q->E.U q\/q=m)->next a' w'):o.wp P a w next Q:=by
 unfold apR at h;split at h
 .rename_i k by' z hsz hby hz
  unfold apR.apB at h;split at h
  .rename_i i;unfold apR.apC at h;split at h
   .rename_i e' k' d xs d' ys hl hsrc;injection h with h;injection h with h1 h2;subst h1 h2;obtain⟨⟨hzl,hk0⟩,rfl,rfl,q1,q2⟩:=hp;have hz':(P.zeroT e').map (·.length)=some k':=by rw[hz];simp[hzl]
    obtain⟨hv,hB,hrel⟩:=hr.rel.has i _ hl;obtain⟨cells,r1,r2,r3,r4⟩:=hrel;have e1:=hs w E _ (hr.ev s);simp only[RdV]at e1;have e2:=e1.2.2 _ (.inl hB);obtain⟨v',w',news,p1,p2,p2',p3,p4,p5⟩:=nM (P:=P) (ty:=o.type) ht hsz hby hz' hk0 r1 (rA hr.rel (hx w E _ (hr.ev x)) hsrc) q1 q2;obtain⟨o1,o2⟩:=gY r1;obtain⟨o3,o4⟩:=gY p3;rw[o1]at p4 p5;rw[o3]at p5;have hlen:(xs++ys).length=xs.length+ys.length:=List.length_append;obtain⟨k1,k2,k3⟩:=hr.growAt (blk:=.row e' k' d (xs++ys)) hnU hm hB hl p4 p5 (λb hb=>(p3.lt b (o3.trans hb)).2) o4 (λhE=>by
     refine⟨cells++news,by rw[hlen];exact p3,?_,?_,?_⟩
     .rw[List.flatten_append];exact RdVs.append (hE.rdVs _ r2) (hE.rdVs _ p2)
     .intro y hy;rcases List.mem_append.1 hy with hy|hy
      .exact r3 y hy
      .obtain⟨_,_,_,_,_,_,hyk,_⟩:=rA hr.rel (hx w E _ (hr.ev x)) hsrc;exact hyk y hy
     .rw[List.all_append,r4,p2'];rfl) rfl
    unfold Oper.wp;rw[qB ht ht2 ho (by rw[e2];exact p1)];exact hn _ w' _ (k1.put o.dst k3) k2 λq hq=>hq.elim .inr .inl
   .cases h
  .rename_i i kk lo hi;unfold apR.apE at h;split at h
   .rename_i e' k' d xs d' ys hl hsrc;injection h with h;injection h with h1 h2;subst h1 h2;obtain⟨⟨⟨hzl,hk0⟩,rfl,rfl⟩,rfl,rfl,q1,q2⟩:=hp;have hz':(P.zeroT e').map (·.length)=some k':=by rw[hz];simp[hzl]
    obtain⟨hv,hB,hrel⟩:=hr.rel.has i _ hl;obtain⟨cells,r1,r2,r3,r4⟩:=hrel;have e1:=hs w E _ (hr.ev s);simp only[RdV]at e1;obtain⟨A,n,c,rfl,_,hhn,e2⟩:=e1.2.2 _ (.inl hB);have hn':n=xs.length:=by
     rcases r1.2 with ⟨h1,h0⟩|⟨g,cap,cur,h1,_⟩
     .injection h1 with h1 hh2 h3;omega
     .injection h1
    subst hn';obtain⟨r1',ob⟩:=Kj r1 hhn;have hxl:(xs.take hi).length=hi:=by rw[List.length_take];omega
    obtain⟨v',w',news,p1,p2,p2',p3,p4,p5⟩:=nM (P:=P) (ty:=o.type) (xs:=xs.take hi) ht hsz hby hz' hk0 (by rw[hxl];exact r1') (rA hr.rel (hx w E _ (hr.ev x)) hsrc) (by rw[hxl];exact q1) (by rw[hxl];exact q2);obtain⟨o3,o4⟩:=gY p3;rw[ob]at p4 p5;rw[o3]at p5;have hlen:(xs.take hi++ys).length=(xs.take hi).length+ys.length:=List.length_append;obtain⟨k1,k2,k3⟩:=hr.growAt (blk:=.row e' k' d (xs.take hi++ys)) hnU hm hB hl p4 p5 (λb hb=>(p3.lt b (o3.trans hb)).2) o4 (λhE=>by
     refine⟨cells.take (hi*k')++news,by rw[hlen];exact p3,?_,?_,?_⟩
     .rw[List.flatten_append,Ax _ _ r3];exact RdVs.append (hE.rdVs _ (RdVs.take _ r2)) (hE.rdVs _ p2)
     .intro y hy;rcases List.mem_append.1 hy with hy|hy
      .exact r3 y (List.mem_of_mem_take hy)
      .obtain⟨_,_,_,_,_,_,hyk,_⟩:=rA hr.rel (hx w E _ (hr.ev x)) hsrc;exact hyk y hy
     .rw[List.all_append,p2',Bool.and_true,List.all_eq_true];rw[List.all_eq_true]at r4;exact λv hv=>r4 v (List.mem_of_mem_take hv)) rfl
    unfold Oper.wp;rw[qB ht ht2 ho (by rw[e2];exact p1)];exact hn _ w' _ (k1.put o.dst k3) k2 λq hq=>hq.elim .inr .inl
   .cases h
  .unfold apR.apD at h;split at h
   .rename_i d ys hsrc;injection h with h;injection h with h1 h2;subst h1 h2;obtain⟨⟨hzl,hk0⟩,q1,q2⟩:=hp;have hz':(P.zeroT e).map (·.length)=some k:=by rw[hz];simp[hzl]
    have e1:=(aJ (hs w E _ (hr.ev s))).1;have hsr:=rA hr.rel (hx w E _ (hr.ev x)) hsrc;obtain⟨v',w',news,p1,p2,p2',p3,p4,p5⟩:=nM (P:=P) (ty:=o.type) (xs:=[]) ht hsz hby hz' hk0 (World.ownsRow_nil w 0 e k) hsr (by simpa using q1) (by simpa using q2);obtain⟨o3,o4⟩:=gY p3;have hbel:Below w.heap.size w w':=⟨p4.os,p4.tape,p4.output,p4.size,λb hb=>p4.block b hb (by simp[Value.ownBlock])⟩
    obtain⟨k1,k2,k3⟩:=hr.addAt (blk:=.row e k d ys) hnU hm hbel (λE' hE=>by
     refine⟨news,by simpa using p3,hE.rdVs _ p2,?_,p2'⟩;obtain⟨_,_,_,_,_,_,hyk,_⟩:=hsr;exact hyk) (λb hb=>by
     rw[o3]at p5;rcases p5 with h|h
     .rw[h]at hb;simp[Value.ownBlock]at hb
     .rw[h]at hb;injection hb with hb;subst hb;exact⟨Nat.le_refl _,(p3.lt _ (o3.trans h)).2⟩) o4 rfl
    unfold Oper.wp;rw[qB ht ht2 ho (by rw[e1];exact p1)];exact hn _ w' _ (k1.put o.dst k3) k2 λq hq=>hq.elim .inr .inl
   .cases h
  .cases h
 .cases h
theorem Nh{h h':Heap}{k:Nat}{x:V}{r:List T×List (List V)}(he:HeapOn x.ment h h')(hr:Cz h k x=some r):Cz h' k x=some r:=by
 unfold Cz at hr⊢;split at hr
 .exact hr
 .rename_i i;cases hl:h.look i with
  |none=>rw[hl]at hr;cases hr
  |some b=>rw[hl]at hr;rw[he i b (by simp[V.ment]) hl];exact hr
 .rename_i i k' lo hi;cases hl:h.look i with
  |none=>rw[hl]at hr;cases hr
  |some b=>rw[hl]at hr;rw[he i b (by simp[V.ment]) hl];exact hr
 .exact hr
 .cases hr
theorem apR_ext{h h':Heap}{e:TypeId}{k by':Option Nat}{z:Option (List Value)}{s x:V}{r:Prop×Option Nat×Blk}(he:HeapOn s.ment h h')(he':HeapOn x.ment h h')(hr:apR h e k by' z s x=some r):apR h' e k by' z s x=some r:=by
 unfold apR at hr⊢;split at hr
 .rename_i k by' z
  unfold apR.apB at hr⊢;split at hr
  .rename_i i;cases hl:h.look i with
   |none=>rw[hl]at hr;simp[apR.apC]at hr
   |some b=>
    cases hs:Cz h k x with
    |none=>rw[hl,hs]at hr;unfold apR.apC at hr;split at hr<;>first|(cases hr;done)|(rename_i hh;cases hh)
    |some q=>rw[hl,hs]at hr;rw[he i b (by simp[V.ment]) hl,Nh he' hs];exact hr
  .rename_i i kk lo hi;cases hl:h.look i with
   |none=>rw[hl]at hr;simp[apR.apE]at hr
   |some b=>
    cases hs:Cz h k x with
    |none=>rw[hl,hs]at hr;unfold apR.apE at hr;split at hr<;>first|(cases hr;done)|(rename_i hh;cases hh)
    |some q=>rw[hl,hs]at hr;rw[he i b (by simp[V.ment]) hl,Nh he' hs];exact hr
  .cases hs:Cz h k x with
   |none=>rw[hs]at hr;simp[apR.apD]at hr
   |some q=>rw[hs]at hr;rw[Nh he' hs];exact hr
  .cases hr
 .cases hr
theorem aU1{h:Heap}{e:TypeId}{k by':Option Nat}{z:Option (List Value)}{s x:V}{r:Prop×Option Nat×Blk}(hr:apR h e k by' z s x=some r){t:Nat}(ht:r.2.1=some t):t∈s.ment:=by
 unfold apR at hr;split at hr
 .unfold apR.apB at hr;split at hr
  .unfold apR.apC at hr;split at hr
   .injection hr with hr;subst hr;injection ht with ht;subst ht;simp[V.ment]
   .cases hr
  .unfold apR.apE at hr;split at hr
   .injection hr with hr;subst hr;injection ht with ht;subst ht;simp[V.ment]
   .cases hr
  .unfold apR.apD at hr;split at hr
   .injection hr with hr;subst hr;cases ht
   .cases hr
  .cases hr
 .cases hr
theorem aAg{w:World}{E:Env}{X:V}{v:Value}(h:(bQ true X).1)(hx:RdV w E X v):RdV w E (bQ true X).2 v:=by
 cases X with
 |cond g y=>
  simp only[RdV]at hx;exact hx.1 (h rfl)
 |_=>exact hx
theorem Tw{α:Type}{s:Prop×V}{f:V->RO α}{r:Prop×α}(h:dG s f=some r):∃r',f s.2=some r'/\r'.2=r.2/\(r.1->s.1/\r'.1):=by
 obtain⟨p,y⟩:=s;have h':sC p (f y)=some r:=h;cases hy:f y with
 |none=>rw[hy]at h';cases h'
 |some q=>
  rw[hy]at h';obtain⟨q1,q2⟩:=q;injection h' with h';subst h';exact⟨_,rfl,rfl,λh=>h⟩
def aN4(P:Program)(σ:St)(e:Option TypeId)(s x:Operand):RO (Option Nat×Blk):=
 match e with
 |some e=>dG (bQ true (σ.ev s)) λs'=>dG (bQ true (σ.ev x)) λx'=>apR σ.h e (P.szT e) (P.bytesT e) (P.zeroT e) s' x'
 |none=>none
theorem vld_app{P:Program}{ops:List Oper}{n0 i:Nat}{o:Oper}{σ:St}{pp:Prop}{tb:Option Nat×Blk}{t t2:TypeId}{s x:Operand}{M:List (Nat×Bool)}(hg:o.guard=none)(ht2:yM P t t2)
  (ho:o.op=.call { callee:=.builtin .append,args:=#[s,x],argTypes:=#[t,t2] }) (h:aN4 P σ (P.elemT t) s x=some (pp,tb)) (hp:pp)
  (hM:∀q∈(σ.ev s).ment,(q,true)∈M) (hM2:∀q∈(σ.ev x).ment,q∈M.map (·.1)):Vld P ops n0 i o σ ⟨o.dst,.own (n0+i),aMd tb.1 tb.2⟩ M:=by
 cases hte:P.elemT t with
 |none=>rw[hte]at h;cases h
 |some e=>
  rw[hte]at h;have h:(dG (bQ true (σ.ev s)) λs'=>dG (bQ true (σ.ev x)) λx'=>apR σ.h e (P.szT e) (P.bytesT e) (P.zeroT e) s' x')=some (pp,tb):=h;obtain⟨r1,h1,e1,c1⟩:=Tw h;obtain⟨r2,h2,e2,c2⟩:=Tw h1;obtain⟨cs,c1⟩:=c1 hp;obtain⟨cx,c2⟩:=c2 c1;have eib:r2.2=tb:=by rw[e2,e1]
  refine⟨rfl,λt' blk hh=>?_,λσ' hnx hev hh _ E a w next Q hr hlt hnU hn=>?_⟩
  .have ht:r2.2.1=some t':=by
    rw[eib];cases htb:tb.1 with
    |none=>rw[htb]at hh;rcases hh with hh|⟨_,hh⟩<;>cases hh
    |some q=>rw[htb]at hh;rcases hh with hh|⟨_,hh⟩<;>cases hh;rfl
   exact hM _ (xA _ (aU1 h2 ht))
  .have es:σ'.ev s=σ.ev s:=hev s (by rw[ho];simp[Op.operands,Call.operands]);have ex:σ'.ev x=σ.ev x:=hev x (by rw[ho];simp[Op.operands,Call.operands]);have h3:=apR_ext (h':= σ'.h) (λq b hq hb=>hh q b (List.mem_map.2 ⟨_,hM q (xA q hq),rfl⟩) hb) (λq b hq hb=>hh q b (hM2 q (xA q hq)) hb) h2;have h4:apR σ'.h e (P.szT e) (P.bytesT e) (P.zeroT e) (bQ true (σ.ev s)).2 (bQ true (σ.ev x)).2=some (r2.1,tb):=by rw[h3,<-eib]
   unfold OW;rw[if_pos (by simp[Region.wanted,hg])];refine⟨aN3 ht2 ho hte (λw E v hv=>aAg cs (by rw[<-es];exact hv)) (λw E v hv=>aAg cx (by rw[<-ex];exact hv)) h4 c2 hr hnU (by omega) λa' w' E' k1 k2 k3=>hn a' w' E' _ ?_ (λq=>?_) ?_ (by rw[zF]) k1 k2 k3,λc hc=>by rw[ho]at hc;cases hc⟩
   .rw[rP]
   .rw[nJ];simp only[Heap.look];cases htb:tb.1 with
    |none=>
     simp only[aMd,tch,Zp];split<;>rfl
    |some q'=>
     simp only[aMd,tch,Zp];rw[Heap.look_del];split
     .rfl
     .split<;>rfl
   .rw[kM]
abbrev Log:=List (Nat×Nat×Bool)
def aDz(i:Nat)(u:Bool):List Nat->Log->Log
 |[],log=>log
 |q::r,log=>(i,q,u)::aDz i u r log
def mentL(i:Nat)(u:Bool)(σ:St):List Operand->Log->Log
 |[],log=>log
 |x::r,log=>mentX i u σ x (mentL i u σ r log)
where
 mentX (i:Nat) (u:Bool) (σ:St) (x:Operand) (log:Log):Log:=
  match x with
  | .tmp t=>aDz i u (V.ment (σ.fr.getD t .dead)) log
  |_=>log
def tN(op:Op):List Operand:=
 match op with
 | .alloc _| .box .. | .buildSlice .. =>[]
 | .move _| .assign _| .pick .. | .unOp .. | .binOp .. | .extract .. | .field .. | .build .. | .convert .. =>[]
 | .load _ x| .nilCheck x| .fieldAddr _ x _=>[x]
 | .store _ p _=>[p]
 | .indexAddr _ a v| .index _ a v=>[a,v]
 | .call { callee:=.value (.func _),args,.. }=>args.toList
 | .call { callee:=.builtin _,args,.. }=>args.toList
 |op=>op.operands.toList
inductive CK where
 |look
 |new
 |box
 |store
 |app
 |bad
def ckind(P:Program)(op:Op)(g:Option (Nat×Bool)):CK:=
 match op with
 | .box .. | .alloc .. | .buildSlice .. | .makeMap .. | .makeSlice .. =>noG g .new
 | .mapUpdate .. | .insert .. | .defer _=> .bad
 | .store .. =>noG g .store
 | .call { callee:=.builtin .append,.. }=>noG g .app
 | .call { callee:=.value (.func f),.. }=>ioK (P.ioF f) g
 | .call { callee:=.value _,.. }=> .bad
 |_=> .look
where
 noG (g:Option (Nat×Bool)) (k:CK):CK:=
  match g with
  |none=>k
  |some _=> .bad
 ioK (io:Bool) (g:Option (Nat×Bool)):CK:=
  match io with
  |true=>noG g .box
  |false=> .look
def kP(i:Nat)(σ:St)(k:CK)(l:List Operand)(log:Log):Log:=
 match k,l with
 | .box,x::r=>mentL i true σ [x] (mentL i false σ r log)
 | .store,x::r=>mentL i true σ [x] (mentL i false σ r log)
 | .app,x::r=>mentL i true σ [x] (mentL i false σ r log)
 |_,l=>mentL i false σ l log
def kNewC(n0 i:Nat)(σ:St)(d:Option Tmp)(K:St->Prop)(blk:Blk):Prop:=K (({ σ with h:=(n0+i,blk)::σ.h }:St).put d (.own (n0+i)))
def boxC(P:Program)(m:Nat)(σ:St)(d:Option Tmp)(op:Op)(K:St->Prop):Prop:=
 match op with
 | .call { callee:=.value (.func f),args,.. }=>eE true (args.toList.map σ.ev) λxs=>aE3 P m σ d f xs K
 |_=>False
def storeC(P:Program)(σ:St)(d:Option Tmp)(op:Op)(K:St->Prop):Prop:=
 match op,d with
 | .store t p x,none=>kR (yU P σ t p x) (kSt σ K)
 |_,_=>False
where
 kSt (σ:St) (K:St->Prop) (ib:Nat×Blk):Prop:=K { σ with h:= σ.h.set ib.1 ib.2 }
def appC(P:Program)(n0 i:Nat)(σ:St)(d:Option Tmp)(op:Op)(K:St->Prop):Prop:=
 match op with
 | .call { callee:=.builtin .append,args,argTypes }=>apL P n0 i σ d args.toList argTypes.toList K
 |_=>False
where
 kApp (n0 i:Nat) (σ:St) (d:Option Tmp) (K:St->Prop) (tb:Option Nat×Blk):Prop:=K (({ σ with h:=(n0+i,tb.2)::Zp σ.h tb.1 }:St).put d (.own (n0+i)))
 apL (P:Program) (n0 i:Nat) (σ:St) (d:Option Tmp) (args:List Operand) (tys:List TypeId) (K:St->Prop):Prop:=
  match args,tys with
  |[s,x],[t,t']=>yM P t t'/\kR (aN4 P σ (P.elemT t) s x) (kApp n0 i σ d K)
  |_,_=>False
def Gj(P:Program)(l:List Oper)(n0 i:Nat)(σ:St)(d:Option Tmp)(op:Op)(g:Option (Nat×Bool))(k:CK)(K:St->Prop):Prop:=
 match k with
 | .look=>dH P l σ d op g K
 | .new=>kR (Lq P σ op) (kNewC n0 i σ d K)
 | .box=>boxC P (n0+i) σ d op K
 | .store=>storeC P σ d op K
 | .app=>appC P n0 i σ d op K
 | .bad=>False
def Ce(l:List Oper)(i j:Nat):Bool:=zN .any l.toArray 16 i j
def aSc(l:List Oper)(n0:Nat)(L:Log)(e:Nat×Nat×Bool):Bool:=
 (L.all λf=> !(f.2.2&&f.2.1==e.2.1)||f.1==e.1||(if f.1<e.1 then Ce l e.1 f.1 else Ce l f.1 e.1))&&(decide (e.2.1<n0)||(decide (e.2.1-n0<e.1)&&Ce l e.1 (e.2.1-n0)))
def vJ(l:List Oper)(n0:Nat)(L:Log):Bool:=L.all (aSc l n0 L)
def aG5(P:Program)(l:List Oper)(n0:Nat)(fin:St->Prop):Nat->List Oper->Log->St->Prop
 |_,[],L,σ=>vJ l n0 L=true/\fin σ
 |i,o::os,L,σ=>Gj P l n0 i σ o.dst o.op o.guard (ckind P o.op o.guard) (aG5 P l n0 fin (i+1) os (kP i σ (ckind P o.op o.guard) (tN o.op) L))
def Xd(P:Program)(l:List Oper)(n0:Nat)(L:Log)(σ':St):Nat->List Oper->List Rec->St->Prop
 |_,[],rs,σ=>rs=[]/\σ'=σ
 |i,o::os,rs,σ=>∃r rs' σ1 M,rs=r::rs'/\Vld P l n0 i o σ r M/\(∀e∈M,(i,e.1,e.2)∈L)/\σ1.fr=xC σ.fr r.d r.x/\(∀q,σ1.h.look q=orB (tch n0 i r.e q) (σ.h.look q))/\σ1.nx=σ.nx/\σ1.df=σ.df/\Xd P l n0 L σ' (i+1) os rs' σ1
theorem aCa{i:Nat}{u:Bool}{e:Nat×Nat×Bool}:∀(qs:List Nat) (log:Log),e∈aDz i u qs log↔(∃q∈qs,e=(i,q,u))\/e∈log
 |[],log=>by simp[aDz]
 |q::r,log=>by simp[aDz,aCa r log,or_assoc]
theorem cW{i:Nat}{u:Bool}{σ:St}{e:Nat×Nat×Bool}:∀(xs:List Operand) (log:Log),e∈log\/(∃t,.tmp t∈xs /\∃q∈(σ.fr.getD t .dead).ment,e=(i,q,u))->e∈mentL i u σ xs log
 |[],log,h=>by
  rcases h with h|⟨t,ht,_⟩
  .exact h
  .cases ht
 |x::r,log,h=>by
  unfold mentL;have ih:=cW (i:=i) (u:=u) (σ:= σ) (e:=e) r log;cases x with
  |tmp t=>
   unfold mentL.mentX;rw[aCa];rcases h with h|⟨t',ht,q,hq,he⟩
   .exact .inr (ih (.inl h))
   .rcases List.mem_cons.1 ht with h1|h1
    .injection h1 with h1;subst h1;exact .inl ⟨q,hq,he⟩
    .exact .inr (ih (.inr ⟨t',h1,q,hq,he⟩))
  |_=>
   unfold mentL.mentX;refine ih ?_;rcases h with h|⟨t',ht,q,hq,he⟩
   .exact .inl h
   .rcases List.mem_cons.1 ht with h1|h1
    .cases h1
    .exact .inr ⟨t',h1,q,hq,he⟩
theorem aC8{c:Prop}[Decidable c]{x:V}(h:x.ment=[]):(if c then x else V.dead).ment=[]:=by
 split
 .exact h
 .simp only[V.ment]
theorem aR2(v:Value):(Qd v).ment=[]:=by
 have key:∀(cs:List Value),V.ments (cs.map λv=>V.t (.lit v))=[]:=by
  intro cs
  induction cs with
  |nil=>simp only[List.map_nil,V.ments]
  |cons c cs ih=>simp only[List.map_cons,V.ments,V.ment,ih,List.append_nil]
 cases v with
 |agg cs=>unfold Qd;exact aC8 (by simp only[V.ment];exact key _)
 |tuple _=>unfold Qd;simp only[V.ment]
 |_=>unfold Qd;exact aC8 (by simp only[V.ment])
theorem Md{σ:St}{y:Operand}{q:Nat}(h:q∈(σ.ev y).ment):∃t,y=.tmp t/\q∈(σ.fr.getD t .dead).ment:=by
 cases y with
 |tmp t=>exact⟨t,rfl,h⟩
 |const v=>simp only[St.ev,aR2]at h;cases h
 |func f=>simp[St.ev,V.ment]at h
 |global g=>simp[St.ev,V.ment]at h
theorem opsOf_mem{P:Program}{op:Op}{y:Operand}(hm:fM P op=true)(hb:Qw op=true)(h:y∈op.operands.toList):y∈tN op \/∃f,y=.func f:=by
 cases op with
 |call c=>
  obtain⟨callee,args,tys⟩:=c;cases callee with
  |value g=>
   cases g with
   |func f=>
    simp only[Op.operands,Call.operands]at h;simp at h;rcases h with h|h
    .exact .inr ⟨f,h⟩
    .exact .inl (by simpa[tN]using h)
   |_=>exact .inl h
  |builtin b=>left;simpa[Op.operands,Call.operands,tN]using h
  |invoke r m=>exact .inl h
 |alloc t=>cases hm
 |box t x=>cases hm
 |buildSlice t n ps=>cases hm
 |store _ _ _=>cases hm
 |insert _ _ _ _=>cases hm
 |makeMap _ _=>cases hm
 |makeSlice _ _ _=>cases hm
 |mapUpdate _ _ _ _=>cases hm
 |defer _=>cases hm
 |move _=>cases hb
 |assign _=>cases hb
 |pick _ _ _=>cases hb
 |unOp _ _ _=>cases hb
 |binOp _ _ _ _ _=>cases hb
 |extract _ _=>cases hb
 |field _ _ _=>cases hb
 |build _ _=>cases hb
 |convert _ _ _=>cases hb
 |_=>left;first|exact h|simpa[Op.operands,tN]using h
def vY(i:Nat)(L:Log):List (Nat×Bool):=(L.filter λe=>e.1==i).map (·.2)
theorem jS{i:Nat}{L:Log}{e:Nat×Bool}:e∈vY i L↔(i,e.1,e.2)∈L:=by
 unfold vY;rw[List.mem_map];constructor
 .rintro⟨x,hx,rfl⟩;rw[List.mem_filter]at hx;obtain⟨h1,h2⟩:=hx;have:x.1=i:=by simpa using h2
  rw[<-this];exact h1
 .intro h;exact⟨(i,e.1,e.2),List.mem_filter.2 ⟨h,by simp⟩,rfl⟩
theorem log_box{i:Nat}{σ:St}{x:Operand}{r:List Operand}{L:Log}:kP i σ .box (x::r) L=mentL i true σ [x] (mentL i false σ r L):=rfl
theorem aLv{i:Nat}{σ:St}{x:Operand}{r:List Operand}{L:Log}:kP i σ .store (x::r) L=mentL i true σ [x] (mentL i false σ r L):=rfl
theorem log_app{i:Nat}{σ:St}{x:Operand}{r:List Operand}{L:Log}:kP i σ .app (x::r) L=mentL i true σ [x] (mentL i false σ r L):=rfl
theorem Fp{i:Nat}{σ:St}{k:CK}{l:List Operand}{L:Log}{e:Nat×Nat×Bool}(h:e∈L):e∈kP i σ k l L:=by
 unfold kP;split
 .exact cW _ _ (.inl (cW _ _ (.inl h)))
 .exact cW _ _ (.inl (cW _ _ (.inl h)))
 .exact cW _ _ (.inl (cW _ _ (.inl h)))
 .exact cW _ _ (.inl h)
theorem aCf{i:Nat}{σ:St}{k:CK}{l:List Operand}{L:Log}{y:Operand}{q:Nat}(hy:y∈l)(hq:q∈(σ.ev y).ment):∃u,(i,q,u)∈kP i σ k l L:=by
 obtain⟨t,rfl,ht⟩:=Md hq;unfold kP;split
 .rename_i x r;rcases List.mem_cons.1 hy with h1|h1
  .exact⟨true,cW _ _ (.inr ⟨t,by simp[h1],q,ht,rfl⟩)⟩
  .exact⟨false,cW _ _ (.inl (cW _ _ (.inr ⟨t,h1,q,ht,rfl⟩)))⟩
 .rename_i x r;rcases List.mem_cons.1 hy with h1|h1
  .exact⟨true,cW _ _ (.inr ⟨t,by simp[h1],q,ht,rfl⟩)⟩
  .exact⟨false,cW _ _ (.inl (cW _ _ (.inr ⟨t,h1,q,ht,rfl⟩)))⟩
 .rename_i x r;rcases List.mem_cons.1 hy with h1|h1
  .exact⟨true,cW _ _ (.inr ⟨t,by simp[h1],q,ht,rfl⟩)⟩
  .exact⟨false,cW _ _ (.inl (cW _ _ (.inr ⟨t,h1,q,ht,rfl⟩)))⟩
 .exact⟨false,cW _ _ (.inr ⟨t,hy,q,ht,rfl⟩)⟩
theorem aG3{P:Program}{op:Op}{g:Option (Nat×Bool)}(h:ckind P op g=.look):fM P op=true:=by
 unfold ckind at h;split at h
 any_goals (first|(exfalso;revert h;unfold ckind.noG;split<;>intro h<;>cases h;done)|(exfalso;cases h;done))
 .rename_i f args tys;unfold ckind.ioK at h;split at h
  .exfalso;revert h;unfold ckind.noG;split<;>intro h<;>cases h
  .rename_i hio;simp[fM,hio]
 .unfold fM;split<;>first|rfl|(exfalso;simp_all;done)|(rename_i hx1 hx2;exact(hx2 _ _ _ _ rfl).elim)|(exfalso;simp_all;rename_i hx;exact hx _ _ _ _ rfl rfl rfl rfl)
theorem aMk{P:Program}{op:Op}{g:Option (Nat×Bool)}(h:ckind P op g=.new):g=none:=by
 unfold ckind at h;split at h<;>first|(cases h;done)|(unfold ckind.ioK at h;split at h<;>first|(cases h;done)|(unfold ckind.noG at h;split at h<;>first|rfl|(cases h;done)))|(unfold ckind.noG at h;split at h<;>first|rfl|(cases h;done))
theorem aMm{P:Program}{op:Op}{g:Option (Nat×Bool)}(h:ckind P op g=.box):g=none:=by
 unfold ckind at h;split at h<;>first|(cases h;done)|(unfold ckind.ioK at h;split at h<;>first|(cases h;done)|(unfold ckind.noG at h;split at h<;>first|rfl|(cases h;done)))|(unfold ckind.noG at h;split at h<;>first|rfl|(cases h;done))
theorem aDh{P:Program}{op:Op}{g:Option (Nat×Bool)}(h:ckind P op g=.store):g=none:=by
 unfold ckind at h;split at h<;>first|(cases h;done)|(unfold ckind.ioK at h;split at h<;>first|(cases h;done)|(unfold ckind.noG at h;split at h<;>first|rfl|(cases h;done)))|(unfold ckind.noG at h;split at h<;>first|rfl|(cases h;done))
theorem aMn{P:Program}{op:Op}{g:Option (Nat×Bool)}(h:ckind P op g=.app):g=none:=by
 unfold ckind at h;split at h<;>first|(cases h;done)|(unfold ckind.ioK at h;split at h<;>first|(cases h;done)|(unfold ckind.noG at h;split at h<;>first|rfl|(cases h;done)))|(unfold ckind.noG at h;split at h<;>first|rfl|(cases h;done))
theorem mentOf{P:Program}{op:Op}{i:Nat}{σ:St}{k:CK}{L0 L:Log}(hm:fM P op=true)(hsub:∀e∈kP i σ k (tN op) L0,e∈L):Qw op=true ->∀y∈op.operands.toList,∀q∈(σ.ev y).ment,q∈(vY i L).map (·.1):=by
 intro hb y hy q hq;rcases opsOf_mem hm hb hy with h|⟨f,rfl⟩
 .obtain⟨u,hu⟩:=aCf (k:=k) (L:=L0) h hq (i:=i);exact List.mem_map.2 ⟨(q,u),jS.2 (hsub _ hu),rfl⟩
 .simp[St.ev,V.ment]at hq
theorem qV{P:Program}{l:List Oper}{n0:Nat}{fin:St->Prop}:∀(os:List Oper) (i:Nat) (L0:Log) (σ:St),aG5 P l n0 fin i os L0 σ ->∃L rs σ',(∀e∈L0,e∈L)/\Xd P l n0 L σ' i os rs σ/\vJ l n0 L=true/\fin σ'
 |[],i,L0,σ,h=>⟨L0,[],σ,λ_ h=>h,⟨rfl,rfl⟩,h.1,h.2⟩
 |o::os,i,L0,σ,h=>by
  have h:Gj P l n0 i σ o.dst o.op o.guard (ckind P o.op o.guard) (aG5 P l n0 fin (i+1) os (kP i σ (ckind P o.op o.guard) (tN o.op) L0)):=h;unfold Gj at h;cases hk:ckind P o.op o.guard with
  |bad=>rw[hk]at h;exact h.elim
  |look=>
   rw[hk]at h;dsimp only at h;have hm:=aG3 hk;obtain⟨y,hK,hst⟩:=sQ hm h;obtain⟨L,rs,σ',hsub,hS,hc,hf⟩:=qV os (i+1) _ _ hK;have h2:dH P l σ o.dst o.op o.guard (λs=>s=σ.put o.dst y):=hst σ (λ_ _=>rfl) (λ_ _ _ _ _ h=>h) (λ_ _ _ _ _=>rfl) _ rfl;obtain⟨y',hy',hV⟩:=aNu (n0:=n0) (i:=i) (M:=vY i L) hm h2 (mentOf hm hsub);refine⟨L,_,σ',λe he=>hsub e (Fp he),⟨_,rs,σ.put o.dst y',vY i L,rfl,hV,λe he=>jS.1 he,rP,λq=>by rw[nJ];rfl,kM,zF,?_⟩,hc,hf⟩;rw[hy'];exact hS
  |new=>
   rw[hk]at h;dsimp only at h;have hg:=aMk hk;cases hr:Lq P σ o.op with
   |none=>rw[hr]at h;exact h.elim
   |some pb=>
    obtain⟨p,blk⟩:=pb;rw[hr]at h;obtain⟨hp,hK⟩:=h;obtain⟨L,rs,σ',hsub,hS,hc,hf⟩:=qV os (i+1) _ _ hK;have hV:Vld P l n0 i o σ ⟨o.dst,.own (n0+i),.new blk⟩ (vY i L):=vld_new hg hr hp;refine⟨L,_,σ',λe he=>hsub e (Fp he),⟨_,rs,({ σ with h:=(n0+i,blk)::σ.h }:St).put o.dst (.own (n0+i)),vY i L,rfl,hV,λe he=>jS.1 he,rP,λq=>?_,kM,zF,hS⟩,hc,hf⟩;rw[nJ];simp only[Heap.look,tch];split<;>rfl
  |box=>
   rw[hk]at h;dsimp only at h;have hg:=aMm hk;obtain⟨f,args,tys,ho⟩:∃f args tys,o.op=.call { callee:=.value (.func f),args:=args,argTypes:=tys }:=by
    unfold boxC at h;split at h
    .rename_i ho;exact⟨_,_,_,ho⟩
    .exact h.elim
   rw[ho]at h;have h:eE true (args.toList.map σ.ev) λxs=>aE3 P (n0+i) σ o.dst f xs _:=h
   obtain⟨ys,h1,hys⟩:=jQ h;obtain⟨t,cs,al,y,e,h2,hxs,hl,hp,ha,hB,hK⟩:=h1;obtain⟨L,rs,σ',hsub,hS,hc,hf⟩:=qV os (i+1) _ _ hK;have hsub':∀e∈kP i σ .box (tN o.op) L0,e∈L:=by rw[ho];exact hsub
   have h3:eE true (args.toList.map σ.ev) λxs=>aE3 P (n0+i) σ o.dst f xs (λs=>s=(({ σ with h:=h2 }:St).put o.dst y)):=hys _ ⟨t,cs,al,y,e,h2,hxs,hl,hp,ha,hB,rfl⟩
   obtain⟨y',e',h2',hy',hlk,hV⟩:=vld_box (n0:=n0) (i:=i) (M:=vY i L) (ops:=l) hg ho h3 (λx rr hal q hq=>by
    refine jS.2 (hsub' _ ?_);obtain⟨t,rfl,ht⟩:=Md hq;have:tN o.op=.tmp t::rr:=by rw[ho];exact hal
    rw[this,log_box];exact cW _ _ (.inr ⟨t,by simp,q,ht,rfl⟩))
   refine⟨L,_,σ',λe he=>hsub e (Fp he),⟨_,rs,({ σ with h:=h2' }:St).put o.dst y',vY i L,rfl,hV,λe he=>jS.1 he,rP,λq=>?_,kM,zF,by rw[hy'];exact hS⟩,hc,hf⟩;rw[nJ];exact hlk q
  |store=>
   rw[hk]at h;dsimp only at h;have hg:=aDh hk;obtain⟨t,p,x,ho,hd⟩:∃t p x,o.op=.store t p x/\o.dst=none:=by
    unfold storeC at h;split at h
    .rename_i ho hd;exact⟨_,_,_,ho,hd⟩
    .exact h.elim
   rw[ho,hd]at h;have h:kR (yU P σ t p x) (storeC.kSt σ _):=h;cases hr:yU P σ t p x with
   |none=>rw[hr]at h;exact h.elim
   |some pb=>
    obtain⟨pp,ib⟩:=pb;rw[hr]at h;obtain⟨hp,hK⟩:=h;obtain⟨L,rs,σ',hsub,hS,hc,hf⟩:=qV os (i+1) _ _ hK;have hsub':∀e∈kP i σ .store [p] L0,e∈L:=hsub;obtain⟨⟨old,hold⟩,hV⟩:=aKk (n0:=n0) (i:=i) (ops:=l) (M:=vY i L) hg hd ho hr hp (λq hq=>by
     refine jS.2 (hsub' _ ?_);obtain⟨t,rfl,ht⟩:=Md hq;rw[aLv];exact cW _ _ (.inr ⟨t,by simp,q,ht,rfl⟩))
    refine⟨L,_,σ',λe he=>hsub' e (Fp he),⟨_,rs,{ σ with h:= σ.h.set ib.1 ib.2 },vY i L,rfl,hV,λe he=>jS.1 he,rfl,λq=>?_,rfl,rfl,hS⟩,hc,hf⟩;show(σ.h.set ib.1 ib.2).look q=_
    rw[Heap.look_set _ _ _ hold];simp only[tch];split<;>rfl
  |app=>
   rw[hk]at h;dsimp only at h;have hg:=aMn hk;obtain⟨s,x,t,t2,ht2,ho⟩:∃s x t t2,yM P t t2/\o.op=.call { callee:=.builtin .append,args:=#[s,x],argTypes:=#[t,t2] }:=by
    unfold appC at h;split at h
    .rename_i args tys ho;unfold appC.apL at h;split at h
     .rename_i s x t t' hx ht;obtain⟨ht2,_⟩:=h;have ha:args=#[s,x]:=by apply Array.ext';simpa using hx
      have hb:tys=#[t,t']:=by apply Array.ext';simpa using ht
      exact⟨s,x,t,t',ht2,by rw[ho,ha,hb]⟩
     .exact h.elim
    .exact h.elim
   rw[ho]at h;have h:yM P t t2/\kR (aN4 P σ (P.elemT t) s x) (appC.kApp n0 i σ o.dst _):=h;cases hr:aN4 P σ (P.elemT t) s x with
   |none=>rw[hr]at h;exact h.2.elim
   |some pb=>
    obtain⟨pp,tb⟩:=pb;rw[hr]at h;obtain⟨_,hp,hK⟩:=h;obtain⟨L,rs,σ',hsub,hS,hc,hf⟩:=qV os (i+1) _ _ hK;have hsub':∀e∈kP i σ .app [s,x] L0,e∈L:=hsub;have hV:Vld P l n0 i o σ ⟨o.dst,.own (n0+i),aMd tb.1 tb.2⟩ (vY i L):=vld_app hg ht2 ho hr hp (λq hq=>by
     refine jS.2 (hsub' _ ?_);obtain⟨t,rfl,ht⟩:=Md hq;rw[log_app];exact cW _ _ (.inr ⟨t,by simp,q,ht,rfl⟩)) (λq hq=>by
     obtain⟨u,hu⟩:=aCf (k:=.app) (L:=L0) (l:=[s,x]) (by simp:x ∈ [s,x]) hq (i:=i);exact List.mem_map.2 ⟨(q,u),jS.2 (hsub' _ hu),rfl⟩)
    refine⟨L,_,σ',λe he=>hsub' e (Fp he),⟨_,rs,({ σ with h:=(n0+i,tb.2)::Zp σ.h tb.1 }:St).put o.dst (.own (n0+i)),vY i L,rfl,hV,λe he=>jS.1 he,rP,λq=>?_,kM,zF,hS⟩,hc,hf⟩;rw[nJ];simp only[Heap.look];cases htb:tb.1 with
    |none=>
     simp only[aMd,tch,Zp];split<;>rfl
    |some q'=>
     simp only[aMd,tch,Zp];rw[Heap.look_del];split
     .rfl
     .split<;>rfl
theorem aAh{P:Program}{l:List Oper}{n0:Nat}{L:Log}{σ':St}:∀(os:List Oper) (i:Nat) (rs:List Rec) (σ:St),Xd P l n0 L σ' i os rs σ ->∀k o,os[k]?=some o ->
  ∃r σk M,rs[k]?=some r/\Vld P l n0 (i+k) o σk r M/\(∀e∈M,(i+k,e.1,e.2)∈L)/\σk.fr=frX (λj=>decide (j<i+k)) i rs σ.fr/\(∀q,σk.h.look q=lkX n0 (λj=>decide (j<i+k)) q i rs (σ.h.look q))/\σk.nx=σ.nx
 |[],i,rs,σ,h,k,o,ho=>by simp at ho
 |o0::os,i,rs,σ,h,0,o,ho=>by
  obtain⟨r,rs',σ1,M,rfl,hV,hM,hf,hl,hn,hnd,hS⟩:=h;simp at ho;subst ho;refine⟨r,σ,M,rfl,hV,hM,?_,λq=>?_,rfl⟩
  .rw[Zj _ _ _ λj hj=>by simp]
  .rw[Mf _ _ _ λj r hj hX=>by have:=of_decide_eq_true hX;omega]
 |o0::os,i,rs,σ,h,k+1,o,ho=>by
  obtain⟨r,rs',σ1,M,rfl,hV,hM,hf,hl,hn,hnd,hS⟩:=h;obtain⟨r',σk,M',h1,h2,h3,h4,h5,h6⟩:=aAh os (i+1) rs' σ1 hS k o (by simpa using ho);have e1:i+1+k=i+(k+1):=by omega
  rw[e1]at h2 h3 h4 h5;refine⟨r',σk,M',by simpa using h1,h2,h3,?_,λq=>?_,h6.trans hn⟩
  .rw[h4,hf];show _=frX _ (i+1) rs' (if _ then _ else _)
   rw[if_pos (by simp)]
  .rw[h5 q,hl q];show _=lkX _ _ _ (i+1) rs' (if _ then _ else _)
   rw[if_pos (by simp)]
theorem Ud{P:Program}{l:List Oper}{n0:Nat}{L:Log}{σ':St}:∀(os:List Oper) (i:Nat) (rs:List Rec) (σ:St),Xd P l n0 L σ' i os rs σ ->
  rs.length=os.length/\σ'.fr=frX (λ_=>true) i rs σ.fr/\(∀q,σ'.h.look q=lkX n0 (λ_=>true) q i rs (σ.h.look q))/\σ'.nx=σ.nx/\σ'.df=σ.df
 |[],i,rs,σ,h=>by
  obtain⟨rfl,rfl⟩:=h;exact⟨rfl,rfl,λq=>rfl,rfl,rfl⟩
 |o0::os,i,rs,σ,h=>by
  obtain⟨r,rs',σ1,M,rfl,hV,hM,hf,hl,hn,hnd,hS⟩:=h;obtain⟨h1,h4,h5,h6,h7⟩:=Ud os (i+1) rs' σ1 hS;refine⟨by simp[h1],?_,λq=>?_,h6.trans hn,h7.trans hnd⟩
  .rw[h4,hf];rfl
  .rw[h5 q,hl q];rfl
theorem vR{P:Program}{l:List Oper}{n0:Nat}{L:Log}{σ':St}:∀(os:List Oper) (i:Nat) (rs:List Rec) (σ:St),Xd P l n0 L σ' i os rs σ ->∀j r,rs[j]?=some r ->∃o,os[j]?=some o/\r.d=o.dst /\∀t blk,r.e=.upd t blk\/(∃old,r.e=.app t old blk)->(i+j,t,true)∈L
 |[],i,rs,σ,h,j,r,hj=>by
  obtain⟨rfl,rfl⟩:=h;simp at hj
 |o0::os,i,rs,σ,h,0,r,hj=>by
  obtain⟨r0,rs',σ1,M,rfl,hV,hM,hf,hl,hn,hnd,hS⟩:=h;simp at hj;subst hj;exact⟨o0,rfl,hV.d,λt blk he=>hM _ (hV.u t blk he)⟩
 |o0::os,i,rs,σ,h,j+1,r,hj=>by
  obtain⟨r0,rs',σ1,M,rfl,hV,hM,hf,hl,hn,hnd,hS⟩:=h;obtain⟨o,h1,h2,h3⟩:=vR os (i+1) rs' σ1 hS j r (by simpa using hj);exact⟨o,by simpa using h1,h2,by rwa[show i+(j+1)=i+1+j by omega]⟩
theorem Jb{X Y:Nat->Bool}:∀(rs:List Rec) (i:Nat) (fr:List V),(∀j,j<rs.length->X (i+j)=Y (i+j))->frX X i rs fr=frX Y i rs fr
 |[],i,fr,_=>rfl
 |r::rs,i,fr,h=>by
  unfold frX;have h0:=h 0 (by simp);rw[Nat.add_zero]at h0;rw[h0];exact Jb rs (i+1) _ λj hj=>by
   have:=h (j+1) (by simpa using hj);rwa[show i+1+j=i+(j+1) by omega]
def distB(l:List Oper)(m:Nat):Bool:=(List.range m).all λi=>(List.range m).all λj=>i==j||(eP l i).isNone||eP l i != eP l j
def readB(l:List Oper)(m:Nat):Bool:=(List.range m).all λi=>(l[i]?).all λo=>(o.looksAt l.toArray).all λt=>(List.range m).all λj=>
 eP l j != some t||(if j<i then Ce l i j else (j==i||Ce l j i))
def backB(l:List Oper):Bool:=(List.range l.length).all λi=>(l[i]?).all λo=>o.after.toList.all λe=> !Region.binds .any e||decide (e.on<i)
def tailB(l:List Oper)(m:Nat):Bool:=(List.range l.length).all λi=>decide (i<m)||(List.range m).all λj=>Ce l i j
def chkS(l:List Oper)(m:Nat):Bool:=distB l m&&readB l m&&backB l&&tailB l m
theorem qC{m:Nat}{f:Nat->Bool}(h:(List.range m).all f=true){i:Nat}(hi:i<m):f i=true:=(List.all_eq_true.1 h) i (List.mem_range.2 hi)
theorem Gc:∀(l:List Nat),l≠[] ->∃i∈l,∀j∈l,i<=j
 |[],h=>(h rfl).elim
 |[x],_=>⟨x,by simp,λj hj=>by simp at hj;omega⟩
 |x::y::r,_=>by
  obtain⟨i,hi,hm⟩:=Gc (y::r) (by simp)
  by_cases hx:x<=i
  .exact⟨x,by simp,λj hj=>by
    rcases List.mem_cons.1 hj with h|h
    .omega
    .have:=hm j h;omega⟩
  .exact⟨i,List.mem_cons_of_mem _ hi,λj hj=>by
    rcases List.mem_cons.1 hj with h|h
    .omega
    .exact hm j h⟩
theorem lst_add{listed:Array Bool}{i:Nat}(hi:i<listed.size):(λj=>(listed.setIfInBounds i true).getD j false)=wU (λj=>listed.getD j false) i:=by
 funext j
 by_cases hij:j=i
 .subst hij;simp[wU,hi]
 .simp only[wU];rw[getD_set_ne false (Ne.symm hij)];simp[hij]
section
variable {P:Program} {l:List Oper} {Q:Exit->St->Prop} {n0 m:Nat} {L:Log} {σT σ0:St} {rs:List Rec} {fT:Nat}
theorem aSf(hS:Xd P l n0 L σT 0 (l.take m) rs σ0)(hn:σ0.nx=n0+m)(hc:vJ l n0 L=true)(hk:chkS l m=true)(hm:m<=l.length)
  (hT:∀listed:Array Bool,listed.size=l.length->(∀i,i<l.length->listed.getD i false=decide (i<m))->Rq P l.toArray (Q .normal) fT listed σT) :
  ∀(fuel:Nat) (todo:List Nat) (listed:Array Bool) (σX:St) (E:Env) (a:Act) (w:World),fuel=todo.length+fT->todo.Nodup->(∀i,i∈todo↔i<m/\listed.getD i false=false)->(∀i,m<=i->listed.getD i false=false) ->
   HeadInv .any l.toArray l.toArray.size listed->σX.fr=frX (λj=>listed.getD j false) 0 rs σ0.fr->(∀q,σX.h.look q=lkX n0 (λj=>listed.getD j false) q 0 rs (σ0.h.look q))->σX.nx=n0+m->σX.df=σ0.df->RelF E σX a w ->
   (∀q,E.U q->q<n0 \/∃j,listed.getD j false=true/\q=n0+j) ->∀E0 w0,Ext E0 w0 E w->wpAnyIn (Wd E.ro) 0 P .any l.toArray (sD E0 w0 Q) fuel listed a w:=by
 obtain⟨hlen,hendf,hendh,hendn,hendd⟩:=Ud _ _ _ _ hS;have hlen':rs.length=m:=by rw[hlen,List.length_take];omega
 simp only[chkS,Bool.and_eq_true]at hk;obtain⟨⟨⟨kd,kr⟩,kb⟩,kt⟩:=hk;intro fuel
 induction fuel with
 |zero=>
  intro todo listed σX E a w hf hnd htodo htail inv hfr hlk hnx hdf hr hU E0 w0 hE;have h0:todo=[]:=List.length_eq_zero_iff.1 (by omega);have hf0:fT=0:=by omega
  subst hf0;have hall:∀i,i<m->listed.getD i false=true:=λi hi=>by
   cases h:listed.getD i false with
   |true=>rfl
   |false=>have:=(htodo i).2 ⟨hi,h⟩;rw[h0]at this;cases this
  have hrT:RelF E σT a w:=hr.like (by rw[hendf,hfr];exact Jb _ _ _ λj hj=>by rw[Nat.zero_add,hall j (by omega)]) (λq=>by
   rw[hendh q,hlk q];exact zU _ _ _ λj r hj _=>by
    have:=(List.getElem?_eq_some_iff.1 hj).1;rw[Nat.zero_add,hall j (by omega)]) (by rw[hendn,hn,hnx]) (by rw[hendd,hdf])
  exact Mj _ _ σT (hT listed (by simpa using inv.size) λi hi=>by
   by_cases h:i<m
   .rw[hall i h];simp[h]
   .rw[htail i (by omega)];simp[h]) E a w hrT E0 w0 hE
 |succ fuel ih=>
  intro todo listed σX E a w hf hnd htodo htail inv hfr hlk hnx hdf hr hU E0 w0 hE
  by_cases h0:todo=[]
  .have hall:∀i,i<m->listed.getD i false=true:=λi hi=>by
    cases h:listed.getD i false with
    |true=>rfl
    |false=>have:=(htodo i).2 ⟨hi,h⟩;rw[h0]at this;cases this
   have hrT:RelF E σT a w:=hr.like (by rw[hendf,hfr];exact Jb _ _ _ λj hj=>by rw[Nat.zero_add,hall j (by omega)]) (λq=>by
    rw[hendh q,hlk q];exact zU _ _ _ λj r hj _=>by
     have:=(List.getElem?_eq_some_iff.1 hj).1;rw[Nat.zero_add,hall j (by omega)]) (by rw[hendn,hn,hnx]) (by rw[hendd,hdf])
   have hfT:fuel+1=fT:=by rw[h0]at hf;simpa using hf
   rw[hfT];exact Mj _ _ σT (hT listed (by simpa using inv.size) λi hi=>by
    by_cases h:i<m
    .rw[hall i h];simp[h]
    .rw[htail i (by omega)];simp[h]) E a w hrT E0 w0 hE
  .have hsz:listed.size=l.length:=by simpa using inv.size
   have wait:∀i j,Ce l i j=true->(∀o,l[i]?=some o ->∀e∈o.after,Region.binds .any e=true->listed.getD e.on false=true)->listed.getD j false=true:=λi j hw h=>
    nZ inv 16 i hw λoj hoj e he hb=>h oj (by simpa using hoj) e he hb
   have waitl:∀i j,Ce l i j=true->listed.getD i false=true->listed.getD j false=true:=λi j hw hl=>
    nZ inv 16 i hw λoj hoj e he hb=>inv.closed i oj hoj hl e he hb
   refine⟨λhr0=>?_,λi hi=>?_⟩
   .exfalso;obtain⟨i,hi,hmin⟩:=Gc todo h0;obtain⟨him,hiu⟩:=(htodo i).1 hi;have hil:i<l.length:=by omega
    have:i∈Region.ready .any l.toArray listed:=by
     refine mem_ready.2 ⟨getD_in (by omega) hiu,l[i],by simp[hil],λe he hb=>?_⟩;have h1:=qC kb hil;rw[List.getElem?_eq_getElem hil]at h1;have h2:=(List.all_eq_true.1 h1) e (by simpa using he);rw[hb,Bool.not_true,Bool.false_or]at h2;have h2:=of_decide_eq_true h2;cases h3:listed.getD e.on false with
     |true=>rfl
     |false=>
      have:=hmin e.on ((htodo e.on).2 ⟨by omega,h3⟩);omega
    rw[hr0]at this;cases this
   .obtain⟨hiu,o,ho,hall⟩:=mem_ready.1 hi;have hil:i<l.length:=by simpa using (Array.getElem?_eq_some_iff.1 ho).1
    have hou:l[i]?=some o:=by simpa using ho
    have hiu':=getD_both hiu;have hall':∀o',l[i]?=some o' ->∀e∈o'.after,Region.binds .any e=true->listed.getD e.on false=true:=λo' ho' e he hb=>by
     rw[hou]at ho';injection ho' with ho';subst ho';exact hall e he hb
    have him:i<m:=by
     rcases Nat.lt_or_ge i m with h|h
     .exact h
     .exfalso;have h1:=qC kt hil;rw[decide_eq_false (by omega),Bool.false_or]at h1;obtain⟨j,hj⟩:=List.exists_mem_of_ne_nil _ h0;obtain⟨hjm,hju⟩:=(htodo j).1 hj;have:=wait i j (qC h1 hjm) hall';rw[hju]at this;cases this
    obtain⟨r,σk,M,hri,hV,hM,hkf,hkh,hkn⟩:=aAh _ _ _ _ hS i o (by rw[List.getElem?_take,if_pos him];exact hou);rw[Nat.zero_add]at hV hM hkf hkh;have hwr:∀t,t∈o.looksAt l.toArray->σX.fr.getD t .dead=σk.fr.getD t .dead:=λt ht=>by
     rw[hfr,hkf];refine aD0 _ _ _ _ (λj r' hj hd=>?_) rfl rfl;rw[Nat.zero_add];obtain⟨oj,hoj,hdj,_⟩:=vR _ _ _ _ hS j r' hj;have hjm:j<m:=by have:=(List.getElem?_eq_some_iff.1 hj).1;omega
     rw[List.getElem?_take,if_pos hjm]at hoj;have h1:=qC kr him;rw[hou]at h1;have h2:=qC ((List.all_eq_true.1 h1) t ht) hjm;have h3:eP l j=some t:=by unfold eP;rw[hoj];dsimp only;rw[<-hdj];exact hd
     rw[h3]at h2;simp only[bne_self_eq_false,Bool.false_or]at h2
     by_cases hji:j<i
     .rw[if_pos hji]at h2;rw[wait i j h2 hall'];simp[hji]
     .rw[if_neg hji]at h2;simp only[Bool.or_eq_true,beq_iff_eq]at h2;rcases h2 with h2|h2
      .subst h2;simp only[hiu'];simp
      .have:listed.getD j false=false:=by
        cases h4:listed.getD j false with
        |false=>rfl
        |true=>have:=waitl j i h2 h4;rw[hiu']at this;cases this
       simp only[this];simp[hji]
    have hce:∀e∈L,aSc l n0 L e=true:=List.all_eq_true.1 hc;have htc:∀q u,(i,q,u)∈L ->∀j r',rs[j]?=some r'->tch n0 j r'.e q≠none->listed.getD j false=decide (j<i):=λq u hq j r' hj ht=>by
     have h1:=hce _ hq;simp only[aSc,Bool.and_eq_true,Bool.or_eq_true]at h1;obtain⟨h1,h2⟩:=h1;have hju:∀h:(j<i->Ce l i j=true)/\(i<j->Ce l j i=true) ,listed.getD j false=decide (j<i):=λh=>by
      rcases Nat.lt_trichotomy j i with h3|h3|h3
      .rw[wait i j (h.1 h3) hall'];simp[h3]
      .subst h3;rw[hiu'];simp
      .have:listed.getD j false=false:=by
        cases h4:listed.getD j false with
        |false=>rfl
        |true=>have:=waitl j i (h.2 h3) h4;rw[hiu']at this;cases this
       rw[this];simp;omega
     obtain⟨oj,hoj,hdj,hupd⟩:=vR _ _ _ _ hS j r' hj;rcases tch_inv ht with hqj|⟨t,blk,he,hqt⟩
     .rcases h2 with h2|h2
      .have:=of_decide_eq_true h2;omega
      .obtain⟨h3,h4⟩:=h2;have h3':=of_decide_eq_true h3;have:q-n0=j:=by omega
       rw[this]at h3' h4;exact hju ⟨λ_=>h4,λh=>by omega⟩
     .have hjL:=hupd t blk he;rw[Nat.zero_add]at hjL;have h3:=(List.all_eq_true.1 h1) _ hjL;simp only[hqt,beq_self_eq_true,Bool.and_self,Bool.not_true,Bool.false_or,Bool.or_eq_true,beq_iff_eq]at h3;refine hju ⟨λh=>?_,λh=>?_⟩
      .rcases h3 with h3|h3
       .omega
       .rwa[if_pos h]at h3
      .rcases h3 with h3|h3
       .omega
       .rwa[if_neg (by omega)]at h3
    have hgL:o.looksAt l.toArray=(o.op.operands.toList.filterMap λ| .tmp t=>some t|_=>none)++(match o.guard with|some (g,_)=>((l.toArray[g]?).bind (·.dst)).toList|none=>[]):=rfl;have hmain:=hV.run σX (by rw[hnx,hkn,hn]) (λy hy=>by
     cases y with
     |tmp t=>exact hwr t (by rw[hgL];exact List.mem_append.2 (.inl (List.mem_filterMap.2 ⟨_,hy,rfl⟩)))
     |_=>rfl) (λq b hq hb=>by
     obtain⟨e,he,rfl⟩:=List.mem_map.1 hq;have:=hM e he;rw[hkh]at hb;rw[hlk,<-hb];refine zU _ _ _ λj r' hj ht=>?_
     rw[Nat.zero_add]at ht⊢;exact htc e.1 e.2 this j r' hj ht) (λj w' hg t ht=>by
     refine hwr t ?_;rw[hgL,hg];refine List.mem_append.2 (.inr ?_);dsimp only;unfold eP at ht;have e1:l.toArray[j]?=l[j]? :=by simp
     rw[e1];split at ht
     .rename_i o' ho';rw[ho'];simp[ht]
     .cases ht) E a w (wpAnyIn (Wd E.ro) 0 P .any l.toArray (sD E0 w0 Q) fuel (listed.setIfInBounds i true)) (sD E0 w0 Q) hr (by rw[hkn,hn];omega) (λhu=>by
     rcases hU _ hu with h|⟨j,hj,h⟩
     .omega
     .have:j=i:=by omega
      subst this;rw[hiu']at hj;cases hj) ?_
    .unfold wpOpIn;rw[ho];dsimp only;unfold OW at hmain;split
     .rename_i hw;rw[if_pos (by simpa using hw)]at hmain;exact fE (.inr hmain.2) hmain.1
     .rename_i hw;rw[if_neg (by simpa using hw)]at hmain;exact⟨λ_ _=>trivial,hmain⟩
    .intro a' w' E' σ'' hf2 hh2 hn2 hd2 hr2 hE2 hU2;rw[<-hE2.ro];have hX':=lst_add (listed:=listed) (i:=i) (by omega);refine ih (todo.erase i) (listed.setIfInBounds i true) σ'' E' a' w' ?_ (hnd.erase i) (λj=>?_) (λj hj=>?_) (inv.set hi (by simpa using hil)) ?_ (λq=>?_) (hn2.trans hnx) (hd2.trans hdf) hr2 (λq hq=>?_) E0 w0 (hE.trans hE2)
     .have hit:i∈todo:=(htodo i).2 ⟨him,hiu'⟩;have h1:=List.length_erase_of_mem hit;have h2:=List.length_pos_of_mem hit;omega
     .rw[hnd.mem_erase_iff,htodo j];constructor
      .rintro⟨h1,h2,h3⟩;exact⟨h2,by rw[getD_set_ne false (Ne.symm h1)];exact h3⟩
      .rintro⟨h1,h2⟩;have:j≠i:=λh=>by
        subst h;have h3:=congrFun hX' j;simp only[wU,beq_self_eq_true,Bool.or_true]at h3;rw[h3]at h2;cases h2
       exact⟨this,h1,by rw[getD_set_ne false (Ne.symm this)]at h2;exact h2⟩
     .rw[getD_set_ne false (by omega)];exact htail j hj
     .rw[hf2,hfr,hX'];refine(aJd (X:=λj=>listed.getD j false) hiu' rs 0 σ0.fr (Nat.zero_le _) (by simpa using hri) λj r' hj hne _ t ht1 ht2=>?_).symm;rw[Nat.zero_add]at hne;obtain⟨oj,hoj,hdj,_⟩:=vR _ _ _ _ hS j r' hj;have hjm:j<m:=by have:=(List.getElem?_eq_some_iff.1 hj).1;omega
      rw[List.getElem?_take,if_pos hjm]at hoj;have h1:=qC (qC kd him) hjm;have h2:eP l i=some t:=by unfold eP;rw[hou];dsimp only;rw[<-hV.d];exact ht2
      have h3:eP l j=some t:=by unfold eP;rw[hoj];dsimp only;rw[<-hdj];exact ht1
      rw[h2,h3]at h1;simp at h1;exact hne h1.symm
     .rw[hh2,hlk,hX'];refine(aJ0 (X:=λj=>listed.getD j false) hiu' rs 0 _ (Nat.zero_le _) (by simpa using hri) λht j r' hj hlt hX=>?_).symm;rw[Nat.zero_add]at hlt hX⊢;cases htj:tch n0 j r'.e q with
      |none=>rfl
      |some blk=>
       exfalso;have htj':tch n0 j r'.e q≠none:=by rw[htj];simp
       rcases tch_inv ht with hqi|⟨t,blk',hei,hqt⟩
       .rcases tch_inv htj' with hqj|⟨t,blk2,hej,hqt⟩
        .omega
        .obtain⟨oj,hoj,hdj,hupd⟩:=vR _ _ _ _ hS j r' hj;have hjL:=hupd t blk2 hej;rw[Nat.zero_add]at hjL;have h1:=hce _ hjL;simp only[aSc,Bool.and_eq_true,Bool.or_eq_true]at h1;rcases h1.2 with h2|⟨h2,h3⟩
         .have:=of_decide_eq_true h2;omega
         .have:t-n0=i:=by omega
          rw[this]at h3;have:=waitl j i h3 hX;rw[hiu']at this;cases this
       .have h1:=htc q true (by rw[hqt];exact hM _ (hV.u t blk' hei)) j r' hj htj';rw[hX]at h1;have:=of_decide_eq_true h1.symm;omega
     .rcases hU2 q hq with h|h
      .rcases hU q h with h|⟨j,hj,h⟩
       .exact .inl h
       .refine .inr ⟨j,getD_set_true hj,h⟩
      .refine .inr ⟨i,?_,h⟩;have h3:=congrFun hX' i;simp only[wU,beq_self_eq_true,Bool.or_true]at h3;exact h3
end
theorem Kq:∀(plan:List Nat) (A:Array Bool),(mA plan A).size=A.size /\∀j,j<A.size->(mA plan A).getD j false=(A.getD j false||plan.contains j)
 |[],A=>⟨rfl,λj hj=>by simp[mA]⟩
 |i::r,A=>by
  obtain⟨h1,h2⟩:=Kq r (A.setIfInBounds i true);refine⟨by simpa[mA]using h1,λj hj=>?_⟩;have h3:=h2 j (by simpa using hj);show(mA r (A.setIfInBounds i true)).getD j false=_
  rw[h3]
  by_cases hij:i=j
  .subst hij;simp[hj]
  .rw[getD_set_ne false hij];have:(j==i)=false:=by simpa using Ne.symm hij
   simp only[List.contains_cons,this,Bool.false_or]
theorem Yy{m n:Nat}{listed:Array Bool}(hs:listed.size=n)(h:∀i,i<n->listed.getD i false=decide (i<m)):listed=mA (List.range m) (Array.replicate n false):=by
 obtain⟨h1,h2⟩:=Kq (List.range m) (Array.replicate n false);have h1':(mA (List.range m) (Array.replicate n false)).size=n:=by simpa using h1
 refine Array.ext (by omega) λi hi hi'=>?_
 have h3:=h i (by omega);have h4:=h2 i (by simp;omega);rw[getD_replicate_false,Bool.false_or]at h4;have e1:listed.getD i false=listed[i]:=by simp[hi]
 have e2:(mA (List.range m) (Array.replicate n false)).getD i false=(mA (List.range m) (Array.replicate n false))[i]:=by simp[hi']
 rw[<-e1,<-e2,h3,h4]
 by_cases him:i<m
 .simp[him]
 .simp[him]
theorem aQ{P:Program}{n0 id:Nat}{l:List Oper}{Q:Exit->St->Prop}{σ:St}(m:Nat)(t:OT)(hm:P.follows .mixedOrders=true:=by exact rfl)(hS:chkS l m=true:=by kernel_rfl)
  (hT:Cf l.toArray (l.length-m) (mA (List.range m) (Array.replicate l.length false)) t true=true:=by kernel_rfl) (hlen:m<=l.length:=by decide)
  (h:aG5 P l σ.nx (mX P l (Q .normal) t) 0 (l.take m) [] { σ with nx:= σ.nx+m }):Xe P n0 id l.toArray Q σ:=by
 intro E a w hr E0 w0 hU hE;refine wpIn_region_any hm ?_;have inv:HeadInv .any l.toArray l.toArray.size (Array.replicate l.length false):=by
  have:=rE (ops:=l.toArray) (md:=.any);simpa using this
 obtain⟨L,rs,σT,_,hSt,hc,hf⟩:=qV _ _ _ _ h;have hdr:RelF E σ a { w with drawn:=w.drawn+1 }/\Ext E0 w0 E { w with drawn:=w.drawn+1 }:=by
  have hb:Below w.heap.size w { w with drawn:=w.drawn+1 }:=⟨rfl,rfl,rfl,Nat.le_refl _,λ_ _=>rfl⟩
  obtain⟨k1,k2⟩:=hr.later hb (λ_ h=>h) (λb hb=> .inl hb) (λb hb'=>hr.rel.slt b hb');exact⟨k1,hE.trans k2⟩
 obtain⟨hr1,hE1⟩:=hdr;have hr2:RelF E { σ with nx:= σ.nx+m } a { w with drawn:=w.drawn+1 }:=⟨hr1.rel,λi hi=>by have:=hr1.bound i hi;show i<σ.nx+m;omega,hr1.fr,hr1.defers⟩
 have hlenT:(l.take m).length=m:=by rw[List.length_take];omega
 have:=aSf (Q:=Q) (fT:=l.length-m) hSt rfl hc hS hlen (λlisted hs hl=>by
  rw[Yy hs hl];exact(Ed _ t _ σT true hT hf).2 rfl) l.length (List.range m) (Array.replicate l.length false) { σ with nx:= σ.nx+m } E a _ (by simp;omega) List.nodup_range (λi=>by
   rw[List.mem_range,getD_replicate_false];simp) (λi _=>getD_replicate_false _ _) inv (by
   rw[Zj];intro j hj;exact getD_replicate_false _ _) (λq=>by
   rw[Mf];intro j r hj hX;rw[getD_replicate_false]at hX;cases hX) rfl rfl hr2 (λq hq=> .inl (hr1.bound q hq)) E0 w0 hE1
 simpa using this
section
variable {P:Program} {l:List Oper} {n0 i:Nat} {fin:St->Prop} {L:Log} {σ:St}
@[go_sem] theorem cRun_nil:aG5 P l n0 fin i [] L σ=(vJ l n0 L=true/\fin σ):=rfl
@[go_sem] theorem cRun_cons{o:Oper}{os:List Oper}:aG5 P l n0 fin i (o::os) L σ=Gj P l n0 i σ o.dst o.op o.guard (ckind P o.op o.guard) (aG5 P l n0 fin (i+1) os (kP i σ (ckind P o.op o.guard) (tN o.op) L)):=rfl
@[go_sem] theorem addM_nil{u:Bool}:aDz i u [] L=L:=rfl
@[go_sem] theorem addM_cons{u:Bool}{q:Nat}{r:List Nat}:aDz i u (q::r) L=(i,q,u)::aDz i u r L:=rfl
@[go_sem] theorem mentL_nil{u:Bool}:mentL i u σ [] L=L:=rfl
@[go_sem] theorem mentL_cons{u:Bool}{x:Operand}{r:List Operand}:mentL i u σ (x::r) L=mentL.mentX i u σ x (mentL i u σ r L):=rfl
@[go_sem] theorem logOf_box{x:Operand}{r:List Operand}:kP i σ .box (x::r) L=mentL i true σ [x] (mentL i false σ r L):=rfl
@[go_sem] theorem logOf_store{x:Operand}{r:List Operand}:kP i σ .store (x::r) L=mentL i true σ [x] (mentL i false σ r L):=rfl
@[go_sem] theorem logOf_app{x:Operand}{r:List Operand}:kP i σ .app (x::r) L=mentL i true σ [x] (mentL i false σ r L):=rfl
@[go_sem] theorem logOf_look{r:List Operand}:kP i σ .look r L=mentL i false σ r L:=rfl
@[go_sem] theorem logOf_new{r:List Operand}:kP i σ .new r L=mentL i false σ r L:=rfl
end
attribute [go_sem] mentL.mentX tN ckind ckind.noG ckind.ioK Lq kNewC boxC appC appC.kApp appC.apL aN4 apR apR.apB apR.apC apR.apE apR.apD Zp storeC storeC.kSt yU stR stR.stB stR.stW Gj V.ment V.ments
