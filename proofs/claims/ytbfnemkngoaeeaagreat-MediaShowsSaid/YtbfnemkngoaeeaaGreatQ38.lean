/- Proved here: Regions that draw their order: calls that yield one block of one's own; conditions stand in each theorem. -/
import Derived.Test.YtbfnemkngoaeeaaGreatQ06
set_option linter.unusedSimpArgs false
set_option linter.unusedVariables false
set_option linter.unusedSectionVars false
set_option linter.unnecessarySimpa false
namespace Go.Proofs.YtbfnemkngoaeeaaGreat
open Go.RowKit
set_option maxRecDepth 4000
theorem aRb {P:Program} {H:Heap} {f:FuncId} {m:Nat} {args:List V} {r:V} {nb:Blk} (hc:CIO P f 0 [] args r [(0,nb)] 1) (ha:V.pures args=true)
  {E:Env} {w:World} {vs:List Value} (hr:Rel w E H) (hm : ¬ E.U m) (hvs:RdVs w E args vs) :
  Calls P f vs.toArray w fun e w' => ∃ v E',e = .returned v∧Rel w' E' ((m,nb.ren (fun _=>m))::H)∧Ext E w E' w'∧RdV w' E' (r.ren (fun _=>m)) v ∧ ∀ q,E'.U q→E.U q∨q=m:=by
 obtain ⟨a1,a2⟩:=nU (fun _=>m) args ha;refine (aC1 hc (g:=fun _=>m) (H:=H) (by omega) (fun i j hi hj he=>by omega) (fun j blk hb=>by cases hb) (fun j hj=>by omega) (by rw [a2];rfl) hr (fun j h1 h2 hU=>hm hU) (by rw [a1];exact hvs)).mono ?_;rintro e w' ⟨v,E',rfl,h1,h2,h3,h4⟩;refine ⟨v,E',rfl,h1 _ (fun j hj=>?_) (fun i hi=>?_),h2,h3,fun q hq=>(h4 q hq).imp id ?_⟩
 ·have:j=0:=by omega
  subst this;simp [Heap.look]
 ·have h5:=hi 0 (by omega);simp only [Heap.look];rw [if_neg (fun e=>h5 e.symm)]
 ·rintro ⟨j,_,_,rfl⟩;rfl
def aNw (P:Program) (m:Nat) (σ : St) (d:Option Tmp) (f:FuncId) (xs:List V) (K:St→Prop):Prop :=
 ∃ r nb,V.pures xs=true∧CIO P f 0 [] xs r [(0,nb)] 1∧K (({ σ with h:=(m,nb.ren (fun _=>m)) :: σ.h }:St).put d (r.ren (fun _=>m)))
theorem Yx {P:Program} {m:Nat} {σ : St} {d:Option Tmp} {f:FuncId} {xs:List V} {K:St→Prop} {r:V} {nb:Blk} (hc:CIO P f 0 [] xs r [(0,nb)] 1) (hp:V.pures xs=true)
  (hK:K (({ σ with h:=(m,nb.ren (fun _=>m)) :: σ.h }:St).put d (r.ren (fun _=>m)))):aNw P m σ d f xs K:=⟨r,nb,hp,hc,hK⟩
def noGd (g:Option (Nat×Bool)):Prop :=
 match g with
 | none=>True
 | some _=>False
def fsC (P:Program) (m:Nat) (σ : St) (o:Oper) (K:St→Prop):Prop :=
 noGd o.guard∧match o.op with
 | .call { callee := .value (.func f),args, .. }=>dT true (args.toList.map σ.ev) fun xs=>aNw P m σ o.dst f xs K
 | _=>False
theorem fsC_inv {P:Program} {m:Nat} {σ : St} {o:Oper} {K:St→Prop} (h:fsC P m σ o K):∃ f args tys,o.guard=none∧o.op = .call { callee := .value (.func f),args:=args,argTypes:=tys }∧dT true (args.toList.map σ.ev) fun xs=>aNw P m σ o.dst f xs K:=by
 obtain ⟨hg,h⟩:=h;have hg':o.guard=none:=by
  cases e:o.guard with
  | none=>rfl
  | some _=>rw [e] at hg;exact hg.elim
 split at h
 ·rename_i f args tys ho;exact ⟨f,args,_,hg',ho,h⟩
 ·exact h.elim
theorem aP7 {P:Program} {ops:List Oper} {n0 i:Nat} {o:Oper} {σ : St} {K:St→Prop} {f:FuncId} {args:Array Operand} {tys:Array TypeId} (hg:o.guard=none)
  (ho:o.op = .call { callee := .value (.func f),args:=args,argTypes:=tys }) (h:dT true (args.toList.map σ.ev) fun xs=>aNw P (n0+i) σ o.dst f xs K) :
  ∃ y blk,K (({ σ with h:=(n0+i,blk) :: σ.h }:St).put o.dst y) ∧ ∀ M,Vld P ops n0 i o σ ⟨o.dst,y, .new blk⟩ M:=by
 obtain ⟨ys,h1,hys⟩:=kZ h;obtain ⟨r,nb,hp,hc,hK⟩:=h1;refine ⟨_,_,hK,fun M=>⟨rfl,fun t blk h=>(by rcases h with h | ⟨_,h⟩<;>cases h),fun σ' hnx hev hh _ E a w next Q hr hlt hnU hn=>?_⟩⟩;have hargs:args.toList.map σ'.ev=args.toList.map σ.ev:=Gq _ fun y hy=>hev y (by rw [ho];simp [Op.operands,Call.operands];exact .inr (by simpa using hy))
 have h2':dT true (args.toList.map σ'.ev) fun xs=>xs=ys:=by rw [hargs];exact hys _ rfl
 obtain ⟨ys2,h6,h7⟩:=pE h2';subst h6;have hvs:=h7 w E _ rfl (nB hr args.toList);have h8:=aRb hc hp hr.rel hnU hvs;unfold OW;rw [if_pos (by simp [Region.wanted,hg])];refine ⟨?_,fun c hc=>by rw [ho] at hc;cases hc⟩;unfold Oper.wp;rw [qS ho rfl hc.1];simp only [Oper.upon];have e1:(args.toList.map a.eval).toArray=args.map a.eval:=by apply Array.ext';simp only [Array.toList_map]
 rw [e1] at h8;refine Calls.mono h8 ?_;rintro e' w' ⟨v,E',rfl,q2,q4,q5,q6⟩;have hr':RelF E' { σ' with h:=(n0+i,nb.ren (fun _=>n0+i)) :: σ'.h } a w':=⟨q2,fun q hq=>(q6 q hq).elim (hr.bound q) fun e=>by rw [e];show n0+i < σ'.nx;omega,q4.rdVs _ hr.fr,q4.defs hr.defers⟩
 refine hn _ w' E' _ ?_ (fun q=>?_) ?_ (by rw [mT]) (hr'.put o.dst q5) q4 q6
 ·rw [eX]
 ·rw [mQ];simp only [Heap.look,tch];split<;>rfl
 ·rw [fY]
def Wj (P:Program) (l:List Oper) (n0 i:Nat) (σ : St) (o:Oper) (b c:Bool) (K:CK→St→Prop):Prop :=
 match b,c with
 | true,_=>bsC P l σ o (K .new)
 | false,true=>fsC P (n0+i) σ o (K .new)
 | false,false=>yM P l n0 i σ o.dst o.op o.guard (ckind P o.op o.guard) (K (ckind P o.op o.guard))
def Ue (P:Program) (pu fs:List Nat) (l:List Oper) (n0:Nat) (fin:St→Prop):Nat→List Oper→Log→St→Prop
 | _,[],L, σ => Hp l n0 L=true∧fin σ
 | i,o::os,L, σ => Wj P l n0 i σ o (pu.contains i) (fs.contains i) (fun k=>Ue P pu fs l n0 fin (i+1) os (fV i σ k (nV o.op) L))
theorem hZ {P:Program} {pu fs:List Nat} {l:List Oper} {n0:Nat} {fin:St→Prop}:∀ (os:List Oper) (i:Nat) (L0:Log) (σ : St),Ue P pu fs l n0 fin i os L0 σ → ∃ L rs σ',(∀ e∈L0,e∈L)∧Ms P l n0 L σ' i os rs σ ∧ Hp l n0 L=true∧fin σ'
 | [],i,L0, σ,h=>⟨L0,[], σ,fun _ h=>h,⟨rfl,rfl⟩,h.1,h.2⟩
 | o::os,i,L0, σ,h=>by
  have h:Wj P l n0 i σ o (pu.contains i) (fs.contains i) (fun k=>Ue P pu fs l n0 fin (i+1) os (fV i σ k (nV o.op) L0)):=h;unfold Wj at h;split at h
  ·obtain ⟨p,e,k,d,rows,hr,hp,hg,hK⟩:=bsC_inv h;obtain ⟨L,rs, σ',hsub,hS,hc,hf⟩:=hZ os (i+1) _ _ hK;exact ⟨L,_, σ',fun e he=>hsub e (nE he),⟨_,rs, σ.put o.dst (.t (.list k d rows)),jT i L,rfl,vld_bs hg hr hp,fun e he=>cT.1 he,eX,fun q=>by rw [mQ];rfl,fY,mT,hS⟩,hc,hf⟩
  ·obtain ⟨f,args,tys,hg,ho,hu⟩:=fsC_inv h;obtain ⟨y,blk,hK,hV⟩:=aP7 (ops:=l) hg ho hu;obtain ⟨L,rs, σ',hsub,hS,hc,hf⟩:=hZ os (i+1) _ _ hK;refine ⟨L,_, σ',fun e he=>hsub e (nE he),⟨_,rs,({ σ with h:=(n0+i,blk) :: σ.h }:St).put o.dst y,jT i L,rfl,hV _,fun e he=>cT.1 he,eX,fun q=>?_,fY,mT,hS⟩,hc,hf⟩;rw [mQ];simp only [Heap.look,tch];split<;>rfl
  unfold yM at h;cases hk:ckind P o.op o.guard with
  | bad=>rw [hk] at h;exact h.elim
  | look =>
   rw [hk] at h;dsimp only at h;have hm:=Tx hk;obtain ⟨y,hK,hst⟩:=xA hm h;obtain ⟨L,rs, σ',hsub,hS,hc,hf⟩:=hZ os (i+1) _ _ hK;have h2:eY P l σ o.dst o.op o.guard (fun s=>s = σ.put o.dst y):=hst σ (fun _ _=>rfl) (fun _ _ _ _ _ h=>h) (fun _ _ _ _ _=>rfl) _ rfl;obtain ⟨y',hy',hV⟩:=aCk (n0:=n0) (i:=i) (M:=jT i L) hm h2 (aU5 hm hsub);refine ⟨L,_, σ',fun e he=>hsub e (nE he),⟨_,rs, σ.put o.dst y',jT i L,rfl,hV,fun e he=>cT.1 he,eX,fun q=>by rw [mQ];rfl,fY,mT,?_⟩,hc,hf⟩;rw [hy'];exact hS
  | new =>
   rw [hk] at h;dsimp only at h;have hg:=Zh hk;cases hr:zV P σ o.op with
   | none=>rw [hr] at h;exact h.elim
   | some pb =>
    obtain ⟨p,blk⟩:=pb;rw [hr] at h;obtain ⟨hp,hK⟩:=h;obtain ⟨L,rs, σ',hsub,hS,hc,hf⟩:=hZ os (i+1) _ _ hK;have hV:Vld P l n0 i o σ ⟨o.dst, .own (n0+i), .new blk⟩ (jT i L):=aLd hg hr hp;refine ⟨L,_, σ',fun e he=>hsub e (nE he),⟨_,rs,({ σ with h:=(n0+i,blk) :: σ.h }:St).put o.dst (.own (n0+i)),jT i L,rfl,hV,fun e he=>cT.1 he,eX,fun q=>?_,fY,mT,hS⟩,hc,hf⟩;rw [mQ];simp only [Heap.look,tch];split<;>rfl
  | box =>
   rw [hk] at h;dsimp only at h;have hg:=Zj hk;obtain ⟨f,args,tys,ho⟩:∃ f args tys,o.op = .call { callee := .value (.func f),args:=args,argTypes:=tys }:=by
    unfold boxC at h;split at h
    ·rename_i ho;exact ⟨_,_,_,ho⟩
    ·exact h.elim
   rw [ho] at h;have h:dT true (args.toList.map σ.ev) fun xs=>Ux P (n0+i) σ o.dst f xs _:=h
   obtain ⟨ys,h1,hys⟩:=kZ h;obtain ⟨t,cs,al,y,e,h2,hxs,hl,hp,ha,hB,hK⟩:=h1;obtain ⟨L,rs, σ',hsub,hS,hc,hf⟩:=hZ os (i+1) _ _ hK;have hsub':∀ e∈fV i σ .box (nV o.op) L0,e∈L:=by rw [ho];exact hsub
   have h3:dT true (args.toList.map σ.ev) fun xs=>Ux P (n0+i) σ o.dst f xs (fun s=>s=(({ σ with h:=h2 }:St).put o.dst y)):=hys _ ⟨t,cs,al,y,e,h2,hxs,hl,hp,ha,hB,rfl⟩
   obtain ⟨y',e',h2',hy',hlk,hV⟩:=aLe (n0:=n0) (i:=i) (M:=jT i L) (ops:=l) hg ho h3 (fun x rr hal q hq=>by
    refine cT.2 (hsub' _ ?_);obtain ⟨t,rfl,ht⟩:=xG hq;have:nV o.op = .tmp t::rr:=by rw [ho];exact hal
    rw [this,aMq];exact cF _ _ (.inr ⟨t,by simp,q,ht,rfl⟩))
   refine ⟨L,_, σ',fun e he=>hsub e (nE he),⟨_,rs,({ σ with h:=h2' }:St).put o.dst y',jT i L,rfl,hV,fun e he=>cT.1 he,eX,fun q=>?_,fY,mT,by rw [hy'];exact hS⟩,hc,hf⟩;rw [mQ];exact hlk q
  | store =>
   rw [hk] at h;dsimp only at h;have hg:=Mh hk;obtain ⟨t,p,x,ho,hd⟩:∃ t p x,o.op = .store t p x∧o.dst=none:=by
    unfold storeC at h;split at h
    ·rename_i ho hd;exact ⟨_,_,_,ho,hd⟩
    ·exact h.elim
   rw [ho,hd] at h;have h:kR (vF P σ t p x) (storeC.kSt σ _):=h;cases hr:vF P σ t p x with
   | none=>rw [hr] at h;exact h.elim
   | some pb =>
    obtain ⟨pp,ib⟩:=pb;rw [hr] at h;obtain ⟨hp,hK⟩:=h;obtain ⟨L,rs, σ',hsub,hS,hc,hf⟩:=hZ os (i+1) _ _ hK;have hsub':∀ e∈fV i σ .store [p] L0,e∈L:=hsub;obtain ⟨⟨old,hold⟩,hV⟩:=Vu (n0:=n0) (i:=i) (ops:=l) (M:=jT i L) hg hd ho hr hp (fun q hq=>by
     refine cT.2 (hsub' _ ?_);obtain ⟨t,rfl,ht⟩:=xG hq;rw [Ya];exact cF _ _ (.inr ⟨t,by simp,q,ht,rfl⟩))
    refine ⟨L,_, σ',fun e he=>hsub' e (nE he),⟨_,rs, { σ with h := σ.h.set ib.1 ib.2 },jT i L,rfl,hV,fun e he=>cT.1 he,rfl,fun q=>?_,rfl,rfl,hS⟩,hc,hf⟩;show (σ.h.set ib.1 ib.2).look q=_
    rw [Heap.look_set _ _ _ hold];simp only [tch];split<;>rfl
  | app =>
   rw [hk] at h;dsimp only at h;have hg:=Zk hk;obtain ⟨s,x,t,t2,ht2,ho⟩:∃ s x t t2,vC P t t2∧o.op = .call { callee := .builtin .append,args := #[s,x],argTypes := #[t,t2] }:=by
    unfold appC at h;split at h
    ·rename_i args tys ho;unfold appC.apL at h;split at h
     ·rename_i s x t t' hx ht;obtain ⟨ht2,_⟩:=h;have ha:args = #[s,x]:=by apply Array.ext';simpa using hx
      have hb:tys = #[t,t']:=by apply Array.ext';simpa using ht
      exact ⟨s,x,t,t',ht2,by rw [ho,ha,hb]⟩
     ·exact h.elim
    ·exact h.elim
   rw [ho] at h;have h:vC P t t2∧kR (aHh P σ (P.elemT t) s x) (appC.kApp n0 i σ o.dst _):=h;cases hr:aHh P σ (P.elemT t) s x with
   | none=>rw [hr] at h;exact h.2.elim
   | some pb =>
    obtain ⟨pp,tb⟩:=pb;rw [hr] at h;obtain ⟨_,hp,hK⟩:=h;obtain ⟨L,rs, σ',hsub,hS,hc,hf⟩:=hZ os (i+1) _ _ hK;have hsub':∀ e∈fV i σ .app [s,x] L0,e∈L:=hsub;have hV:Vld P l n0 i o σ ⟨o.dst, .own (n0+i),aBz tb.1 tb.2⟩ (jT i L):=aLf hg ht2 ho hr hp (fun q hq=>by
     refine cT.2 (hsub' _ ?_);obtain ⟨t,rfl,ht⟩:=xG hq;rw [aMr];exact cF _ _ (.inr ⟨t,by simp,q,ht,rfl⟩)) (fun q hq=>by
     obtain ⟨u,hu⟩:=Rw (k := .app) (L:=L0) (l:=[s,x]) (by simp:x ∈ [s,x]) hq (i:=i);exact List.mem_map.2 ⟨(q,u),cT.2 (hsub' _ hu),rfl⟩)
    refine ⟨L,_, σ',fun e he=>hsub' e (nE he),⟨_,rs,({ σ with h:=(n0+i,tb.2)::Mz σ.h tb.1 }:St).put o.dst (.own (n0+i)),jT i L,rfl,hV,fun e he=>cT.1 he,eX,fun q=>?_,fY,mT,hS⟩,hc,hf⟩;rw [mQ];simp only [Heap.look];cases htb:tb.1 with
    | none =>
     simp only [aBz,tch,Mz];split<;>rfl
    | some q' =>
     simp only [aBz,tch,Mz];rw [Heap.look_del];split
     ·rfl
     ·split<;>rfl
theorem Tk {P:Program} {n0 id:Nat} {l:List Oper} {Q:Exit→St→Prop} {σ : St} (pu fs:List Nat) (m:Nat) (t:OT) (hm:P.follows .mixedOrders=true) (hS:aKu l m=true)
  (hT:kN l.toArray (l.length - m) (jH (List.range m) (Array.replicate l.length false)) t true=true) (hlen:m≤l.length)
  (h:Ue P pu fs l σ.nx (mR P l (Q .normal) t) 0 (l.take m) [] { σ with nx := σ.nx+m }):Uv P n0 id l.toArray Q σ := by
 intro E a w hr E0 w0 hU hE;refine wpIn_region_any hm ?_;have inv:HeadInv .any l.toArray l.toArray.size (Array.replicate l.length false):=by
  have:=rK (ops:=l.toArray) (md := .any);simpa using this
 obtain ⟨L,rs, σT,_,hSt,hc,hf⟩:=hZ _ _ _ _ h;have hdr:RelF E σ a { w with drawn:=w.drawn+1 }∧Ext E0 w0 E { w with drawn:=w.drawn+1 }:=by
  have hb:Below w.heap.size w { w with drawn:=w.drawn+1 }:=⟨rfl,rfl,rfl,Nat.le_refl _,fun _ _=>rfl⟩
  obtain ⟨k1,k2⟩:=hr.later hb (fun _ h=>h) (fun b hb => .inl hb) (fun b hb'=>hr.rel.slt b hb');exact ⟨k1,hE.trans k2⟩
 obtain ⟨hr1,hE1⟩:=hdr;have hr2:RelF E { σ with nx := σ.nx+m } a { w with drawn:=w.drawn+1 }:=⟨hr1.rel,fun i hi=>by have:=hr1.bound i hi;show i < σ.nx+m;omega,hr1.fr,hr1.defers⟩
 have hlenT:(l.take m).length=m:=by rw [List.length_take];omega
 have:=aGw (Q:=Q) (fT:=l.length - m) hSt rfl hc hS hlen (fun listed hs hl=>by
  rw [xL hs hl];exact (Bc _ t _ σT true hT hf).2 rfl) l.length (List.range m) (Array.replicate l.length false) { σ with nx := σ.nx+m } E a _ (by simp;omega) List.nodup_range (fun i=>by
   rw [List.mem_range,getD_replicate_false];simp) (fun i _=>getD_replicate_false _ _) inv (by
   rw [He];intro j hj;exact getD_replicate_false _ _) (fun q=>by
   rw [Cb];intro j r hj hX;rw [getD_replicate_false] at hX;cases hX) rfl rfl hr2 (fun q hq => .inl (hr1.bound q hq)) E0 w0 hE1
 simpa using this
section
variable {P:Program} {pu fs:List Nat} {l:List Oper} {n0 i:Nat} {fin:St→Prop} {L:Log} {σ : St}
@[go_sem] theorem cRunF_nil:Ue P pu fs l n0 fin i [] L σ = (Hp l n0 L=true∧fin σ):=rfl
@[go_sem] theorem cRunF_cons {o:Oper} {os:List Oper}:Ue P pu fs l n0 fin i (o::os) L σ = Wj P l n0 i σ o (pu.contains i) (fs.contains i) (fun k=>Ue P pu fs l n0 fin (i+1) os (fV i σ k (nV o.op) L)):=rfl
@[go_sem] theorem stepF_ft {o:Oper} {K:CK→St→Prop}:Wj P l n0 i σ o false true K=fsC P (n0+i) σ o (K .new):=rfl
@[go_sem] theorem stepF_false {o:Oper} {K:CK→St→Prop}:Wj P l n0 i σ o false false K=yM P l n0 i σ o.dst o.op o.guard (ckind P o.op o.guard) (K (ckind P o.op o.guard)):=rfl
end
attribute [go_sem] fsC noGd
end Go.Proofs.YtbfnemkngoaeeaaGreat
