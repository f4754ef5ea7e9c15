/- Proved here: Regions that draw their order: calls to which blocks of one's own are lent and that change one of them, for use in the proofs of the given statements; conditions stand in each theorem. -/
import Derived.Test.YtjmoncjecpckhaaGreatVX
import Derived.Test.YtjmoncjecpckhaaGreatVF
import Derived.Test.YtjmoncjecpckhaaGreatVG
set_option linter.unusedSimpArgs false
set_option linter.unusedVariables false
set_option linter.unusedSectionVars false
set_option linter.unnecessarySimpa false
namespace Go.Proofs.YtjmoncjecpckhaaGreat
open Go.RowKit
set_option maxRecDepth 4000
@[go_sem] theorem Tryz.xby70:Tryz.prog.bytesT 70=some 128:=by kernel_rfl
@[go_sem] theorem Tryz.xsz101:Tryz.prog.szT 101=some 1:=by kernel_rfl
@[go_sem] theorem Tryz.xag101:Tryz.prog.aggT 101=some false:=by kernel_rfl
@[go_sem] theorem Tryz.xmt101:Tryz.prog.mapT 101=some (2,105):=by kernel_rfl
@[go_sem] theorem Tryz.xz1105:Tryz.prog.zero1 105=some (Value.agg #[Value.int IntKind.i64 0,Value.int IntKind.i64 0,Value.int IntKind.i64 0,Value.int IntKind.i64 0]):=by kernel_rfl
@[go_sem] theorem Tryz.xfl103_3:Tryz.prog.fldT 103 3=some (4,101):=by kernel_rfl
theorem Tryz.xen11:Tryz.prog.enters 11=true:=by kernel_rfl
theorem Tryz.xen132:Tryz.prog.enters 132=true:=by kernel_rfl
@[go_sem] theorem tEs_len (es:List Ent):(tEs es).length=es.length:=by unfold tEs;rw [List.length_map]
def sameBut (j0:Nat) (h h':Heap) (m:Nat):Prop := ∀ j,j<m→j≠j0→h'.look j=h.look j
theorem cio_upd {P:Program} {H:Heap} {f:FuncId} {m j0:Nat} {is:List Nat} {h h':Heap} {args:List V} {r:V} {nb:Blk} (hc:CIO P f is.length h args r h' is.length) (hnd:is.Nodup)
  (hin:inH is.length (numG is m) H h) (hall:allB is.length h=true) (hargs:lowL is.length (V.ments args)=true) (hj:j0<is.length) (hs:sameBut j0 h h' is.length) (hb:h'.look j0=some nb)
  {E:Env} {w:World} {vs:List Value} (hr:Rel w E H) (hvs:RdVs w E (V.rens (numG is m) args) vs) :
  Calls P f vs.toArray w fun e w' => ∃ v E',e = .returned v∧Rel w' E' (H.set (numG is m j0) (nb.ren (numG is m)))∧Ext E w E' w'∧RdV w' E' (r.ren (numG is m)) v ∧ ∀ q,E'.U q→E.U q:=by
 have hlow:=inH_inv hin
 have hal:=allB_inv hall
 have hold:∀ j (hj:j<is.length), ∃ blk,h.look j=some blk∧H.look (numG is m j)=some (blk.ren (numG is m)):=fun j hj=>by
  obtain ⟨blk,hb⟩:=hal j hj
  exact ⟨blk,hb,(hlow j blk hb).2.2⟩
 have hinj:∀ i j,i<is.length→j<is.length→numG is m i=numG is m j→i=j:=fun i j hi hj he=>by
  rw [numG_lt hi,numG_lt hj] at he
  exact (List.getElem_inj hnd).1 he
 obtain ⟨ob,_,hob⟩:=hold j0 hj
 refine (cio_use hc (Nat.le_refl _) hinj hlow hal hargs hr (fun j h1 h2=>by omega) hvs).mono ?_
 rintro e w' ⟨v,E',rfl,h1,h2,h3,h4⟩
 refine ⟨v,E',rfl,h1 _ (fun j hj1=>?_) (fun i hi=>?_),h2,h3,fun q hq=>(h4 q hq).elim id ?_⟩
 ·rw [Heap.look_set _ _ _ hob]
  by_cases e:j=j0
  ·subst e
   rw [if_pos rfl,hb]
   rfl
  ·rw [if_neg fun e2=>e (hinj _ _ hj1 hj e2),hs j hj1 e]
   obtain ⟨blk,hb1,hb2⟩:=hold j hj1
   rw [hb2,hb1]
   rfl
 ·rw [Heap.look_set _ _ _ hob,if_neg fun e=>hi j0 hj e.symm]
 ·rintro ⟨j,h5,h6,_⟩
  omega
def FUpd (P:Program) (m:Nat) (σ : St) (d:Option Tmp) (f:FuncId) (xs:List V) (K:List Nat→Nat→St→Prop):Prop :=
 ∃ (is:List Nat) (j0:Nat) (h h':Heap) (args:List V) (r:V) (nb:Blk),is.Nodup∧allB is.length h=true∧lowL is.length (V.ments args)=true∧xs=V.rens (numG is m) args∧inH is.length (numG is m) σ.h h∧j0<is.length∧sameBut j0 h h' is.length∧h'.look j0=some nb ∧
  CIO P f is.length h args r h' is.length∧K is (numG is m j0) (({ σ with h := σ.h.set (numG is m j0) (nb.ren (numG is m)) }:St).put d (r.ren (numG is m)))
theorem fupd {P:Program} {m n:Nat} {σ : St} {d:Option Tmp} {f:FuncId} {xs:List V} {K:List Nat→Nat→St→Prop} {h h':Heap} {args:List V} {r:V} {nb:Blk} (hc:CIO P f n h args r h' n) (is:List Nat) (j0:Nat) (hn:is.length=n) (hd:is.Nodup) (ha:allB n h=true) (hl:lowL n (V.ments args)=true) (hx:xs=V.rens (numG is m) args) (hj:j0<n) (hs:sameBut j0 h h' n) (hb:h'.look j0=some nb) (hi:inH n (numG is m) σ.h h)
  (hK:K is (numG is m j0) (({ σ with h := σ.h.set (numG is m j0) (nb.ren (numG is m)) }:St).put d (r.ren (numG is m)))):FUpd P m σ d f xs K:=by
 subst hn
 exact ⟨is,j0,h,h',args,r,nb,hd,ha,hl,hx,hi,hj,hs,hb,hc,hK⟩
def fuC (P:Program) (m:Nat) (σ : St) (o:Oper) (K:List Nat→Nat→St→Prop):Prop :=
 noGd o.guard∧match o.op with
 | .call { callee := .value (.func f),args, .. }=>useVs true (args.toList.map σ.ev) fun xs=>FUpd P m σ o.dst f xs K
 | _=>False
theorem fuC_inv {P:Program} {m:Nat} {σ : St} {o:Oper} {K:List Nat→Nat→St→Prop} (h:fuC P m σ o K):∃ f args tys,o.guard=none∧o.op = .call { callee := .value (.func f),args:=args,argTypes:=tys }∧useVs true (args.toList.map σ.ev) fun xs=>FUpd P m σ o.dst f xs K:=by
 obtain ⟨hg,h⟩:=h
 have hg':o.guard=none:=by
  cases e:o.guard with
  | none=>rfl
  | some _=>rw [e] at hg;exact hg.elim
 split at h
 ·rename_i f args tys ho
  exact ⟨f,args,_,hg',ho,h⟩
 ·exact h.elim
theorem vld_upd {P:Program} {ops:List Oper} {n0 i:Nat} {o:Oper} {σ : St} {K:List Nat→Nat→St→Prop} {f:FuncId} {args:Array Operand} {tys:Array TypeId} (hg:o.guard=none)
  (ho:o.op = .call { callee := .value (.func f),args:=args,argTypes:=tys }) (h:useVs true (args.toList.map σ.ev) fun xs=>FUpd P (n0+i) σ o.dst f xs K) :
  ∃ is t y blk old, σ.h.look t=some old∧K is t (({ σ with h := σ.h.set t blk }:St).put o.dst y) ∧ ∀ M:List (Nat×Bool),(∀ q∈is,q∈M.map (·.1))→(t,true)∈M→Vld P ops n0 i o σ ⟨o.dst,y, .upd t blk⟩ M:=by
 obtain ⟨ys,h1,hys⟩:=useVs_det h
 obtain ⟨is,j0,hb,hb',ar,r,nb,hd,ha,hl,hx,hi,hj,hs,hnb,hc,hK⟩:=h1
 obtain ⟨ob,hob⟩:=allB_inv ha j0 hj
 refine ⟨is,_,_,_,_,(inH_inv hi j0 ob hob).2.2,hK,fun M hM hT=>⟨rfl,fun t blk h=>?_,fun σ' hnx hev hh _ E a w next Q hr hlt hnU hn=>?_⟩⟩
 ·rcases h with h | ⟨_,h⟩
  ·injection h with h1 h2
   rw [← h1]
   exact hT
  ·cases h
 have hargs:args.toList.map σ'.ev=args.toList.map σ.ev:=map_same _ fun y hy=>hev y (by rw [ho];simp [Op.operands,Call.operands];exact .inr (by simpa using hy))
 have h2':useVs true (args.toList.map σ'.ev) fun xs=>xs=ys:=by rw [hargs];exact hys _ rfl
 obtain ⟨ys2,h6,h7⟩:=useVs_ok h2'
 subst h6
 have hvs:=h7 w E _ rfl (rdVs_map hr args.toList)
 rw [hx] at hvs
 have hi':=inH_on (fun j hj=>hM _ (by rw [numG_lt hj];exact List.getElem_mem hj)) hh hi
 have hold:=(inH_inv hi' j0 ob hob).2.2
 have h8:=cio_upd hc hd hi' ha hl hj hs hnb hr.rel hvs
 unfold OW
 rw [if_pos (by simp [Region.wanted,hg])]
 refine ⟨?_,fun c hc=>by rw [ho] at hc;cases hc⟩
 unfold Oper.wp
 rw [run_callFn ho rfl hc.1]
 simp only [Oper.upon]
 have e1:(args.toList.map a.eval).toArray=args.map a.eval:=by apply Array.ext';simp only [Array.toList_map]
 rw [e1] at h8
 refine Calls.mono h8 ?_
 rintro e' w' ⟨v,E',rfl,q2,q4,q5,q6⟩
 have hr':RelF E' { σ' with h := σ'.h.set (numG is (n0+i) j0) (nb.ren (numG is (n0+i))) } a w':=⟨q2,fun q hq=>hr.bound q (q6 q hq),q4.rdVs _ hr.fr,q4.defs hr.defers⟩
 refine hn _ w' E' _ ?_ (fun q=>?_) ?_ (by rw [put_df]) (hr'.put o.dst q5) q4 (fun q hq => .inl (q6 q hq))
 ·rw [put_setO]
 ·rw [put_h]
  show (σ'.h.set _ _).look q=_
  rw [Heap.look_set _ _ _ hold]
  simp only [tch]
  split<;>rfl
 ·rw [put_nx]
def stepU (P:Program) (l:List Oper) (n0 i:Nat) (σ : St) (o:Oper) (b c u:Bool) (K:CK→List Nat→List Nat→St→Prop):Prop :=
 match b,c,u with
 | true,_,_=>bsC P l σ o (K .new [] [])
 | false,true,_=>flC P (n0+i) σ o fun is=>K .new is []
 | false,false,true=>fuC P (n0+i) σ o fun is t=>K .new is [t]
 | false,false,false=>cStep P l n0 i σ o.dst o.op o.guard (ckind P o.op o.guard) (K (ckind P o.op o.guard) [] [])
def cRunU (P:Program) (pu fs us:List Nat) (l:List Oper) (n0:Nat) (fin:St→Prop):Nat→List Oper→Log→St→Prop
 | _,[],L, σ => chkL l n0 L=true∧fin σ
 | i,o::os,L, σ => stepU P l n0 i σ o (pu.contains i) (fs.contains i) (us.contains i) (fun k is ts=>cRunU P pu fs us l n0 fin (i+1) os (addM i true ts (addM i false is (logOf i σ k (opsOf o.op) L))))
theorem cRunU_steps {P:Program} {pu fs us:List Nat} {l:List Oper} {n0:Nat} {fin:St→Prop}:∀ (os:List Oper) (i:Nat) (L0:Log) (σ : St),cRunU P pu fs us l n0 fin i os L0 σ → ∃ L rs σ',(∀ e∈L0,e∈L)∧Steps P l n0 L σ' i os rs σ ∧ chkL l n0 L=true∧fin σ'
 | [],i,L0, σ,h=>⟨L0,[], σ,fun _ h=>h,⟨rfl,rfl⟩,h.1,h.2⟩
 | o::os,i,L0, σ,h=>by
  have h:stepU P l n0 i σ o (pu.contains i) (fs.contains i) (us.contains i) (fun k is ts=>cRunU P pu fs us l n0 fin (i+1) os (addM i true ts (addM i false is (logOf i σ k (opsOf o.op) L0)))):=h
  unfold stepU at h
  split at h
  ·obtain ⟨p,e,k,d,rows,hr,hp,hg,hK⟩:=bsC_inv h
   obtain ⟨L,rs, σ',hsub,hS,hc,hf⟩:=cRunU_steps os (i+1) _ _ hK
   exact ⟨L,_, σ',fun e he=>hsub e ((mem_addM [] _).2 (.inr ((mem_addM [] _).2 (.inr (log_sub he))))),⟨_,rs, σ.put o.dst (.t (.list k d rows)),pick2 i L,rfl,vld_bs hg hr hp,fun e he=>mem_pick2.1 he,put_setO,fun q=>by rw [put_h];rfl,put_nx,put_df,hS⟩,hc,hf⟩
  ·obtain ⟨f,args,tys,hg,ho,hu⟩:=flC_inv h
   obtain ⟨is,y,blk,hK,hV⟩:=vld_lent (ops:=l) hg ho hu
   obtain ⟨L,rs, σ',hsub,hS,hc,hf⟩:=cRunU_steps os (i+1) _ _ hK
   have hM:∀ q∈is,q∈(pick2 i L).map (·.1):=fun q hq=>List.mem_map.2 ⟨(q,false),mem_pick2.2 (hsub _ ((mem_addM is _).2 (.inl ⟨q,hq,rfl⟩))),rfl⟩
   refine ⟨L,_, σ',fun e he=>hsub e ((mem_addM is _).2 (.inr (log_sub he))),⟨_,rs,({ σ with h:=(n0+i,blk) :: σ.h }:St).put o.dst y,pick2 i L,rfl,hV _ hM,fun e he=>mem_pick2.1 he,put_setO,fun q=>?_,put_nx,put_df,hS⟩,hc,hf⟩
   rw [put_h]
   simp only [Heap.look,tch]
   split<;>rfl
  ·obtain ⟨f,args,tys,hg,ho,hu⟩:=fuC_inv h
   obtain ⟨is,t,y,blk,old,hold,hK,hV⟩:=vld_upd (ops:=l) hg ho hu
   obtain ⟨L,rs, σ',hsub,hS,hc,hf⟩:=cRunU_steps os (i+1) _ _ hK
   have hT:(t,true)∈pick2 i L:=mem_pick2.2 (hsub _ ((mem_addM [t] _).2 (.inl ⟨t,by simp,rfl⟩)))
   have hM:∀ q∈is,q∈(pick2 i L).map (·.1):=fun q hq=>List.mem_map.2 ⟨(q,false),mem_pick2.2 (hsub _ ((mem_addM [t] _).2 (.inr ((mem_addM is _).2 (.inl ⟨q,hq,rfl⟩))))),rfl⟩
   refine ⟨L,_, σ',fun e he=>hsub e ((mem_addM [t] _).2 (.inr ((mem_addM is _).2 (.inr (log_sub he))))),⟨_,rs,({ σ with h := σ.h.set t blk }:St).put o.dst y,pick2 i L,rfl,hV _ hM hT,fun e he=>mem_pick2.1 he,put_setO,fun q=>?_,put_nx,put_df,hS⟩,hc,hf⟩
   rw [put_h]
   show (σ.h.set _ _).look q=_
   rw [Heap.look_set _ _ _ hold]
   simp only [tch]
   split<;>rfl
  unfold cStep at h
  cases hk:ckind P o.op o.guard with
  | bad=>rw [hk] at h;exact h.elim
  | look =>
   rw [hk] at h
   dsimp only at h
   have hm:=ckind_look hk
   obtain ⟨y,hK,hst⟩:=ostep_stable hm h
   obtain ⟨L,rs, σ',hsub,hS,hc,hf⟩:=cRunU_steps os (i+1) _ _ hK
   have h2:ostep P l σ o.dst o.op o.guard (fun s=>s = σ.put o.dst y):=hst σ (fun _ _=>rfl) (fun _ _ _ _ _ h=>h) (fun _ _ _ _ _=>rfl) _ rfl
   obtain ⟨y',hy',hV⟩:=vld_look (n0:=n0) (i:=i) (M:=pick2 i L) hm h2 (mentOf hm fun e he=>hsub e ((mem_addM [] _).2 (.inr ((mem_addM [] _).2 (.inr he)))))
   refine ⟨L,_, σ',fun e he=>hsub e ((mem_addM [] _).2 (.inr ((mem_addM [] _).2 (.inr (log_sub he))))),⟨_,rs, σ.put o.dst y',pick2 i L,rfl,hV,fun e he=>mem_pick2.1 he,put_setO,fun q=>by rw [put_h];rfl,put_nx,put_df,?_⟩,hc,hf⟩
   rw [hy']
   exact hS
  | new =>
   rw [hk] at h
   dsimp only at h
   have hg:=ckind_new hk
   cases hr:newR P σ o.op with
   | none=>rw [hr] at h;exact h.elim
   | some pb =>
    obtain ⟨p,blk⟩:=pb
    rw [hr] at h
    obtain ⟨hp,hK⟩:=h
    obtain ⟨L,rs, σ',hsub,hS,hc,hf⟩:=cRunU_steps os (i+1) _ _ hK
    have hV:Vld P l n0 i o σ ⟨o.dst, .own (n0+i), .new blk⟩ (pick2 i L):=vld_new hg hr hp
    refine ⟨L,_, σ',fun e he=>hsub e ((mem_addM [] _).2 (.inr ((mem_addM [] _).2 (.inr (log_sub he))))),⟨_,rs,({ σ with h:=(n0+i,blk) :: σ.h }:St).put o.dst (.own (n0+i)),pick2 i L,rfl,hV,fun e he=>mem_pick2.1 he,put_setO,fun q=>?_,put_nx,put_df,hS⟩,hc,hf⟩
    rw [put_h]
    simp only [Heap.look,tch]
    split<;>rfl
  | box =>
   rw [hk] at h
   dsimp only at h
   have hg:=ckind_box hk
   obtain ⟨f,args,tys,ho⟩:∃ f args tys,o.op = .call { callee := .value (.func f),args:=args,argTypes:=tys }:=by
    unfold boxC at h
    split at h
    ·rename_i ho;exact ⟨_,_,_,ho⟩
    ·exact h.elim
   rw [ho] at h
   have h:useVs true (args.toList.map σ.ev) fun xs=>BCall P (n0+i) σ o.dst f xs _:=h
   obtain ⟨ys,h1,hys⟩:=useVs_det h
   obtain ⟨t,cs,al,y,e,h2,hxs,hl,hp,ha,hB,hK⟩:=h1
   obtain ⟨L,rs, σ',hsub,hS,hc,hf⟩:=cRunU_steps os (i+1) _ _ hK
   have hsub':∀ e∈logOf i σ .box (opsOf o.op) L0,e∈L:=by rw [ho];exact hsub
   have h3:useVs true (args.toList.map σ.ev) fun xs=>BCall P (n0+i) σ o.dst f xs (fun s=>s=(({ σ with h:=h2 }:St).put o.dst y)):=hys _ ⟨t,cs,al,y,e,h2,hxs,hl,hp,ha,hB,rfl⟩
   obtain ⟨y',e',h2',hy',hlk,hV⟩:=vld_box (n0:=n0) (i:=i) (M:=pick2 i L) (ops:=l) hg ho h3 (fun x rr hal q hq=>by
    refine mem_pick2.2 (hsub' _ ?_)
    obtain ⟨t,rfl,ht⟩:=ment_ev hq
    have:opsOf o.op = .tmp t::rr:=by rw [ho];exact hal
    rw [this,log_box]
    exact mem_mentL _ _ (.inr ⟨t,by simp,q,ht,rfl⟩))
   refine ⟨L,_, σ',fun e he=>hsub e ((mem_addM [] _).2 (.inr ((mem_addM [] _).2 (.inr (log_sub he))))),⟨_,rs,({ σ with h:=h2' }:St).put o.dst y',pick2 i L,rfl,hV,fun e he=>mem_pick2.1 he,put_setO,fun q=>?_,put_nx,put_df,by rw [hy'];exact hS⟩,hc,hf⟩
   rw [put_h]
   exact hlk q
  | store =>
   rw [hk] at h
   dsimp only at h
   have hg:=ckind_store hk
   obtain ⟨t,p,x,ho,hd⟩:∃ t p x,o.op = .store t p x∧o.dst=none:=by
    unfold storeC at h
    split at h
    ·rename_i ho hd;exact ⟨_,_,_,ho,hd⟩
    ·exact h.elim
   rw [ho,hd] at h
   have h:kR (storeS P σ t p x) (storeC.kSt σ _):=h
   cases hr:storeS P σ t p x with
   | none=>rw [hr] at h;exact h.elim
   | some pb =>
    obtain ⟨pp,ib⟩:=pb
    rw [hr] at h
    obtain ⟨hp,hK⟩:=h
    obtain ⟨L,rs, σ',hsub,hS,hc,hf⟩:=cRunU_steps os (i+1) _ _ hK
    have hsub':∀ e∈logOf i σ .store [p] L0,e∈L:=hsub
    obtain ⟨⟨old,hold⟩,hV⟩:=vld_store (n0:=n0) (i:=i) (ops:=l) (M:=pick2 i L) hg hd ho hr hp (fun q hq=>by
     refine mem_pick2.2 (hsub' _ ?_)
     obtain ⟨t,rfl,ht⟩:=ment_ev hq
     rw [log_store]
     exact mem_mentL _ _ (.inr ⟨t,by simp,q,ht,rfl⟩))
    refine ⟨L,_, σ',fun e he=>hsub' e (log_sub he),⟨_,rs, { σ with h := σ.h.set ib.1 ib.2 },pick2 i L,rfl,hV,fun e he=>mem_pick2.1 he,rfl,fun q=>?_,rfl,rfl,hS⟩,hc,hf⟩
    show (σ.h.set ib.1 ib.2).look q=_
    rw [Heap.look_set _ _ _ hold]
    simp only [tch]
    split<;>rfl
  | app =>
   rw [hk] at h
   dsimp only at h
   have hg:=ckind_app hk
   obtain ⟨s,x,t,t2,ht2,ho⟩:∃ s x t t2,appTy P t t2∧o.op = .call { callee := .builtin .append,args := #[s,x],argTypes := #[t,t2] }:=by
    unfold appC at h
    split at h
    ·rename_i args tys ho
     unfold appC.apL at h
     split at h
     ·rename_i s x t t' hx ht
      obtain ⟨ht2,_⟩:=h
      have ha:args = #[s,x]:=by apply Array.ext';simpa using hx
      have hb:tys = #[t,t']:=by apply Array.ext';simpa using ht
      exact ⟨s,x,t,t',ht2,by rw [ho,ha,hb]⟩
     ·exact h.elim
    ·exact h.elim
   rw [ho] at h
   have h:appTy P t t2∧kR (appS P σ (P.elemT t) s x) (appC.kApp n0 i σ o.dst _):=h
   cases hr:appS P σ (P.elemT t) s x with
   | none=>rw [hr] at h;exact h.2.elim
   | some pb =>
    obtain ⟨pp,tb⟩:=pb
    rw [hr] at h
    obtain ⟨_,hp,hK⟩:=h
    obtain ⟨L,rs, σ',hsub,hS,hc,hf⟩:=cRunU_steps os (i+1) _ _ hK
    have hsub':∀ e∈logOf i σ .app [s,x] L0,e∈L:=hsub
    have hV:Vld P l n0 i o σ ⟨o.dst, .own (n0+i),effA tb.1 tb.2⟩ (pick2 i L):=vld_app hg ht2 ho hr hp (fun q hq=>by
     refine mem_pick2.2 (hsub' _ ?_)
     obtain ⟨t,rfl,ht⟩:=ment_ev hq
     rw [log_app]
     exact mem_mentL _ _ (.inr ⟨t,by simp,q,ht,rfl⟩)) (fun q hq=>by
     obtain ⟨u,hu⟩:=log_ment (k := .app) (L:=L0) (l:=[s,x]) (by simp:x ∈ [s,x]) hq (i:=i)
     exact List.mem_map.2 ⟨(q,u),mem_pick2.2 (hsub' _ hu),rfl⟩)
    refine ⟨L,_, σ',fun e he=>hsub' e (log_sub he),⟨_,rs,({ σ with h:=(n0+i,tb.2)::delO σ.h tb.1 }:St).put o.dst (.own (n0+i)),pick2 i L,rfl,hV,fun e he=>mem_pick2.1 he,put_setO,fun q=>?_,put_nx,put_df,hS⟩,hc,hf⟩
    rw [put_h]
    simp only [Heap.look]
    cases htb:tb.1 with
    | none =>
     simp only [effA,tch,delO]
     split<;>rfl
    | some q' =>
     simp only [effA,tch,delO]
     rw [Heap.look_del]
     split
     ·rfl
     ·split<;>rfl
theorem drawU_of {P:Program} {n0 id:Nat} {l:List Oper} {Q:Exit→St→Prop} {σ : St} (pu fs us:List Nat) (m:Nat) (t:OT) (hm:P.follows .mixedOrders=true) (hS:chkS l m=true)
  (hT:treeB l.toArray (l.length - m) (listedP (List.range m) (Array.replicate l.length false)) t true=true) (hlen:m≤l.length)
  (h:cRunU P pu fs us l σ.nx (tsteps P l (Q .normal) t) 0 (l.take m) [] { σ with nx := σ.nx+m }):DrawR P n0 id l.toArray Q σ := by
 intro E a w hr E0 w0 hU hE
 refine wpIn_region_any hm ?_
 have inv:HeadInv .any l.toArray l.toArray.size (Array.replicate l.length false):=by
  have:=headInv_start (ops:=l.toArray) (md := .any)
  simpa using this
 obtain ⟨L,rs, σT,_,hSt,hc,hf⟩:=cRunU_steps _ _ _ _ h
 have hdr:RelF E σ a { w with drawn:=w.drawn+1 }∧Ext E0 w0 E { w with drawn:=w.drawn+1 }:=by
  have hb:Below w.heap.size w { w with drawn:=w.drawn+1 }:=⟨rfl,rfl,rfl,Nat.le_refl _,fun _ _=>rfl⟩
  obtain ⟨k1,k2⟩:=hr.later hb (fun _ h=>h) (fun b hb => .inl hb) (fun b hb'=>hr.rel.slt b hb')
  exact ⟨k1,hE.trans k2⟩
 obtain ⟨hr1,hE1⟩:=hdr
 have hr2:RelF E { σ with nx := σ.nx+m } a { w with drawn:=w.drawn+1 }:=⟨hr1.rel,fun i hi=>by have:=hr1.bound i hi;show i < σ.nx+m;omega,hr1.fr,hr1.defers⟩
 have hlenT:(l.take m).length=m:=by rw [List.length_take];omega
 have:=canon_ok (Q:=Q) (fT:=l.length - m) hSt rfl hc hS hlen (fun listed hs hl=>by
  rw [listed_range hs hl]
  exact (tree_ok _ t _ σT true hT hf).2 rfl) l.length (List.range m) (Array.replicate l.length false) { σ with nx := σ.nx+m } E a _ (by simp;omega) List.nodup_range (fun i=>by
   rw [List.mem_range,getD_replicate_false];simp) (fun i _=>getD_replicate_false _ _) inv (by
   rw [frX_out];intro j hj;exact getD_replicate_false _ _) (fun q=>by
   rw [lkX_out];intro j r hj hX;rw [getD_replicate_false] at hX;cases hX) rfl rfl hr2 (fun q hq => .inl (hr1.bound q hq)) E0 w0 hE1
 simpa using this
section
variable {P:Program} {pu fs us:List Nat} {l:List Oper} {n0 i:Nat} {fin:St→Prop} {L:Log} {σ : St}
@[go_sem] theorem cRunU_nil:cRunU P pu fs us l n0 fin i [] L σ = (chkL l n0 L=true∧fin σ):=rfl
@[go_sem] theorem cRunU_cons {o:Oper} {os:List Oper}:cRunU P pu fs us l n0 fin i (o::os) L σ = stepU P l n0 i σ o (pu.contains i) (fs.contains i) (us.contains i) (fun k is ts=>cRunU P pu fs us l n0 fin (i+1) os (addM i true ts (addM i false is (logOf i σ k (opsOf o.op) L)))):=rfl
@[go_sem] theorem stepU_fft {o:Oper} {K:CK→List Nat→List Nat→St→Prop}:stepU P l n0 i σ o false false true K=fuC P (n0+i) σ o (fun is t=>K .new is [t]):=rfl
@[go_sem] theorem stepU_false {o:Oper} {K:CK→List Nat→List Nat→St→Prop}:stepU P l n0 i σ o false false false K=cStep P l n0 i σ o.dst o.op o.guard (ckind P o.op o.guard) (K (ckind P o.op o.guard) [] []):=rfl
end
attribute [go_sem] fuC
open Go.RowKit
set_option maxRecDepth 4000
set_option maxHeartbeats 4000000 in
theorem cNewMixer2 (md:List MediumR) (q r:SequenceR) (hqr:q.name≠r.name) (hm:md.length≤16) (A:List AudioR) (ha:A.length≤100) (hn:(A.map AudioR.name).Nodup) (h8:q.sound.length≤8) (ht:∀ t∈q.sound,vTrack t=true) (r8:r.sound.length≤8) (rt:∀ t∈r.sound,vTrack t=true) :
  CIO Tryz.prog 29 0 [] [vproj ⟨md,[q,r]⟩, .t (taudios A)] (.own 6) [(9, .map []),(8, .row 135 3 zTrk (tRows (r.sound.map trkC))),(7, .box [vint r.rate.num,vint r.rate.den,vint r.channels, .own 8, .own 9]),(6, .box [.own 0, .own 1, .own 2]),(5, .map []),(4, .row 135 3 zTrk (tRows (q.sound.map trkC))),(3, .box [vint q.rate.num,vint q.rate.den,vint q.channels, .own 4, .own 5]),(2, .map [(.string q.name, .own 3),(.string r.name, .own 7)]),(1, .map (tEs (auM A))),(0, .map (tEs (rtM md)))] 10:=by
 have ww1':IntKind.i64.wrap 1=1:=by decide
 have ww1:IntKind.i64.wrap (0+1)=1:=by decide
 have ww2:IntKind.i64.wrap (1+1)=2:=by decide
 have ww3:IntKind.i64.wrap 2=2:=by decide
 have hqd:decide (r.name=q.name)=false:=decide_eq_false fun e=>hqr e.symm
 refine cio_of Tryz.xen29 Tryz.func29 rfl Tryz.ntmps29 (by rw [Tryz.results29]) (aw_ok _ ?_)
 simp only [go_sem,simprocAttr]
 refine awp_loop_f (fun (k:Nat) σ => setB 1 (.map (tEs (rtM (md.take k)))) (setS 25 (vint k) (deadS [7,26,27,28,29,30,31,32,33,34,35,36,37,38] (cleanS σ)))) (fun k=>k≤md.length) (fun k=>md.length - k) 0 (weak_self ?_) (Nat.zero_le _) ?_
 ·simp only [go_sem,simprocAttr]<;>simp [rtM,mapOf,tEs]
 ·intro k hk
  refine aw_ok _ ?_
  simp only [go_sem,simprocAttr]
  refine ⟨fun hlt=>?_,fun hge=>?_⟩
  ·simp only [bxx] at hlt
   have hkl:k<md.length:=by omega
   have hwk:IntKind.i64.wrap ((k:Int)+1)=((k+1:Nat):Int):=by rw [wrap1 (by omega)];omega
   unfold awS
   simp only [go_sem,simprocAttr]
   refine ⟨⟨by omega,by omega⟩,?_⟩
   refine drawR_of [0,1,2,3,4,5,6,7,8] (.step 9 .done) rfl (by kernel_rfl) (by kernel_rfl) (by decide) ?_
   simp only [go_sem,simprocAttr]
   refine ⟨k+1,weak_self ?_,by omega,by omega⟩
   simp only [go_sem,simprocAttr,hwk]
   refine ⟨by simp,by simp,by simp,by simp,?_,by simp⟩
   unfold rtM
   rw [mapOf_take _ _ hkl]
   exact put_rt _ _ _
  ·simp only [bxx] at hge
   unfold awS
   simp only [go_sem,simprocAttr]
   rw [List.take_of_length_le (show md.length≤k by omega)]
   refine awp_loop_f (fun (j:Nat) σ => setB 2 (.map (tEs (auM (A.take j)))) (setS 41 (vint j) (deadS [9,10,11,42,43,44,45,46,47,48,49,50,51,52,53,54,55,56,57,58,59,60,61,62,63,64] (cleanS σ)))) (fun j=>j≤A.length) (fun j=>A.length - j) 0 (weak_self ?_) (Nat.zero_le _) ?_
   ·simp only [go_sem,simprocAttr]<;>simp [auM,mapOf,tEs]
   ·intro j hj
    refine aw_ok _ ?_
    simp only [go_sem,simprocAttr]
    refine ⟨fun hlt2=>?_,fun hge2=>?_⟩
    ·simp only [bxx] at hlt2
     have hjl:j<A.length:=by omega
     have hwj:IntKind.i64.wrap ((j:Int)+1)=((j+1:Nat):Int):=by rw [wrap1 (by omega)];omega
     have hnew:=au_new hn hjl
     unfold awS
     simp only [go_sem,simprocAttr,aud_nth hjl]
     refine ⟨⟨by omega,by omega⟩,?_⟩
     refine drawC_of 13 .done rfl (by kernel_rfl) (by kernel_rfl) (by decide) ?_
     simp only [go_sem,simprocAttr,hnew]
     refine ⟨by kernel_rfl,?_⟩
     refine drawR_of [0,1,2,3,4,5,6] (.step 7 .done) rfl (by kernel_rfl) (by kernel_rfl) (by decide) ?_
     simp only [go_sem,simprocAttr]
     refine ⟨j+1,weak_self ?_,by omega,by omega⟩
     simp only [go_sem,simprocAttr,hwj]
     refine ⟨by simp,by simp,by simp,?_,by simp,by simp⟩
     unfold auM
     rw [mapOf_take _ _ hjl]
     exact put_au _ _ _
    ·simp only [bxx] at hge2
     unfold awS
     simp only [go_sem,simprocAttr]
     rw [List.take_of_length_le (show A.length≤j by omega)]
     refine awp_loopL ?_
     refine awpL_step (aw_ok _ ?_)
     simp only [go_sem,simprocAttr,decide_true,decide_false,nth_zero2]
     refine awp_loop_f (fun (i:Nat) σ => { fr:=(deadS [16,83,84,85,86,87,88,89,90,91,92,93,94,95,96,97] (setS 82 (vint i) σ)).fr,h:=[(8, .row 135 3 zTrk (tRows ((q.sound.take i).map trkC))),(7, .box [vint q.rate.num,vint q.rate.den,vint q.channels, .own 8, .own 6]),(6, .map []),(5, .box ((SequenceR.c q).map V.t)),(4, .box [.own 1, .own 2, .own 3]),(3, .map []),(2, .map (tEs (auM A))),(1, .map (tEs (rtM md))),(0, .box [.t (tmedia md), .t (tseqs [q,r])])],nx:=9 })
      (fun i=>i≤q.sound.length) (fun i=>q.sound.length - i) 0 (weak_of [(8,none),(7,some 7),(6,some 6),(5,some 5),(4,some 4),(3,some 3),(2,some 2),(1,some 1),(0,some 0)] ?_) (Nat.zero_le _) ?_
     ·simp only [go_sem,simprocAttr]<;>simp
     ·intro i hi
      refine aw_ok _ ?_
      simp only [go_sem,simprocAttr]
      refine ⟨fun hlt3=>?_,fun hge3=>?_⟩
      ·simp only [bxx] at hlt3
       have hil:i<q.sound.length:=by omega
       have hwi:IntKind.i64.wrap ((i:Int)+1)=((i+1:Nat):Int):=by rw [wrap1 (by omega)];omega
       have hnt:=cNewTrack _ (ht _ (mem_getD (d:=[]) hil))
       unfold awS
       simp only [go_sem,simprocAttr]
       refine ⟨⟨by omega,by omega⟩,?_⟩
       refine drawC_of 12 .done rfl (by kernel_rfl) (by kernel_rfl) (by decide) ?_
       simp only [go_sem,simprocAttr]
       refine ⟨_,hnt,?_⟩
       have hlen:(q.sound.take i).length=i:=by rw [List.length_take];omega
       simp only [go_sem,simprocAttr]
       refine ⟨⟨by unfold maxLen;omega,by omega⟩,by kernel_rfl,i+1,weak_of [(8,some 17),(7,some 7),(6,some 6),(5,some 5),(4,some 4),(3,some 3),(2,some 2),(1,some 1),(0,some 0)] ?_,by omega,by omega⟩
       simp only [go_sem,simprocAttr,hwi]
       refine ⟨by simp,?_,by simp⟩
       rw [List.take_add_one,List.getElem?_eq_getElem hil,List.map_append,List.getD_eq_getElem?_getD,List.getElem?_eq_getElem hil]
       rfl
      ·simp only [bxx] at hge3
       unfold awS
       simp only [go_sem,simprocAttr]
       rw [List.take_of_length_le (show q.sound.length≤i by omega)]
       refine drawR_of [0,1,2,3,4,5,6] (.step 7 .done) rfl (by kernel_rfl) (by kernel_rfl) (by decide) ?_
       simp only [go_sem,simprocAttr,decide_true,decide_false,ww1,ww1']
       refine awpL_step (aw_ok _ ?_)
       simp only [go_sem,simprocAttr,decide_true,decide_false,ww1,ww1',nth_one2]
       refine awp_loop_f (fun (i:Nat) σ => { fr:=(deadS [16,70,71,72,73,74,75,76,77,78,79,83,84,85,86,87,88,89,90,91,92,93,94,95,96,97,98,99,100,101,102,103,104,105] (setS 82 (vint i) σ)).fr,h:=[(12, .row 135 3 zTrk (tRows ((r.sound.take i).map trkC))),(11, .box [vint r.rate.num,vint r.rate.den,vint r.channels, .own 12, .own 10]),(10, .map []),(9, .box ((SequenceR.c r).map V.t)),(8, .row 135 3 zTrk (tRows (q.sound.map trkC))),(7, .box [vint q.rate.num,vint q.rate.den,vint q.channels, .own 8, .own 6]),(6, .map []),(4, .box [.own 1, .own 2, .own 3]),(3, .map [(.string q.name, .own 7)]),(2, .map (tEs (auM A))),(1, .map (tEs (rtM md))),(0, .box [.t (tmedia md), .t (tseqs [q,r])])],nx:=13 })
        (fun i=>i≤r.sound.length) (fun i=>r.sound.length - i) 0 (weak_of [(12,none),(11,some 11),(10,some 10),(9,some 9),(8,some 8),(7,some 7),(6,some 6),(4,some 4),(3,some 3),(2,some 2),(1,some 1),(0,some 0)] ?_) (Nat.zero_le _) ?_
       ·simp only [go_sem,simprocAttr]
        simp
       ·intro i2 hi2
        refine aw_ok _ ?_
        simp only [go_sem,simprocAttr]
        refine ⟨fun hlt4=>?_,fun hge4=>?_⟩
        ·simp only [bxx] at hlt4
         have hil:i2<r.sound.length:=by omega
         have hwi:IntKind.i64.wrap ((i2:Int)+1)=((i2+1:Nat):Int):=by rw [wrap1 (by omega)];omega
         have hnt:=cNewTrack _ (rt _ (mem_getD (d:=[]) hil))
         unfold awS
         simp only [go_sem,simprocAttr]
         refine ⟨⟨by omega,by omega⟩,?_⟩
         refine drawC_of 12 .done rfl (by kernel_rfl) (by kernel_rfl) (by decide) ?_
         simp only [go_sem,simprocAttr]
         refine ⟨_,hnt,?_⟩
         have hlen:(r.sound.take i2).length=i2:=by rw [List.length_take];omega
         simp only [go_sem,simprocAttr]
         refine ⟨⟨by unfold maxLen;omega,by omega⟩,by kernel_rfl,i2+1,weak_of [(12,some 21),(11,some 11),(10,some 10),(9,some 9),(8,some 8),(7,some 7),(6,some 6),(4,some 4),(3,some 3),(2,some 2),(1,some 1),(0,some 0)] ?_,by omega,by omega⟩
         simp only [go_sem,simprocAttr,hwi]
         refine ⟨by simp,?_,by simp⟩
         rw [List.take_add_one,List.getElem?_eq_getElem hil,List.map_append,List.getD_eq_getElem?_getD,List.getElem?_eq_getElem hil]
         rfl
        ·simp only [bxx] at hge4
         unfold awS
         simp only [go_sem,simprocAttr]
         rw [List.take_of_length_le (show r.sound.length≤i2 by omega)]
         refine drawR_of [0,1,2,3,4,5,6] (.step 7 .done) rfl (by kernel_rfl) (by kernel_rfl) (by decide) ?_
         simp only [go_sem,simprocAttr,decide_true,decide_false,ww1,ww1',ww2,ww3,hqd]
         refine awpL_step (aw_ok _ ?_)
         simp only [go_sem,simprocAttr,decide_true,decide_false,ww1,ww1',ww2,ww3,hqd]
         refine weak_of [(9,some 10),(8,some 12),(7,some 11),(6,some 4),(5,some 6),(4,some 8),(3,some 7),(2,some 3),(1,some 2),(0,some 1)] ?_
         simp only [go_sem,simprocAttr]
         trace_state
         simp
open Go.RowKit
set_option maxRecDepth 4000
def sqM2 (a b:ByteArray):MapT:=[(.string a,false,[.opq]),(.string b,false,[.opq])]
structure SoundOk2 (md:List MediumR) (q r:SequenceR) (A:List AudioR) (E:SndE) (m:Nat) (from0:Int) (n:Nat):Prop where
 fit:(⟨md,[q,r]⟩:ProjR).fit
 val:validP ⟨md,[q,r]⟩=0
 hm:md.length≤16
 h8:q.sound.length≤8
 ht:∀ t∈q.sound,vTrack t=true
 ne:q.name≠r.name
 r8:r.sound.length≤8
 rt:∀ t∈r.sound,vTrack t=true
 ha:A.length≤100
 hn:(A.map AudioR.name).Nodup
 hp:∀ a∈A,a.chs.length≤4 ∧ ∀ p∈a.chs,p.length=(a.chs.getD 0 []).length∧p.length≤1048576
 hch:q.channels=m
 hr:RateS q.rate
 n1:n≤1000
 f0 : -68719476736≤from0
 f1:from0+n≤68719476736
 hc:∀ i:Nat,i<n→CmpOk (rtM md) (auM A) (sqM2 q.name r.name) E m q.sound q.rate (from0+i)
theorem cSoundS {md:List MediumR} {q r:SequenceR} {A:List AudioR} {E:SndE} {from0:Int} {n:Nat} (h:SoundOk2 md q r A E 1 from0 n) :
  CPure Tryz.prog 17 [vproj ⟨md,[q,r]⟩,vstr q.name,vint from0,vint n, .t (taudios A)] (.tup [.t (tchs [sndL (fun i=>outV E 1 q.sound q.rate (from0+i) 0) n]),vint 0]):=by
 have cv:=cValid ⟨md,[q,r]⟩ h.fit
 rw [h.val] at cv
 have cm:=cNewMixer2 md q r h.ne h.hm A h.ha h.hn h.h8 h.ht h.r8 h.rt
 have cp:=cProper A (by have:=h.ha;omega) h.hp
 obtain ⟨hu,hv,hn2,hd2⟩:=rateS_v h.hr
 have hd:=h.hr.d
 have ca:=cAudible q.rate h.hr.fit ⟨by omega,by omega⟩
 rw [h.hr.aud] at ca
 have n1:=h.n1
 have f0:=h.f0
 have f1:=h.f1
 have nb:∀ s, -68719476736≤s∧s≤68719476736→numberedS s=true:=fun s hs=>by
  unfold numberedS
  rw [decide_eq_true (by omega),decide_eq_true (by omega)]
  rfl
 have c1:=cNumbered from0
 rw [nb _ ⟨by omega,by omega⟩] at c1
 have c2:=cNumbered (from0+n)
 rw [nb _ ⟨by omega,by omega⟩] at c2
 have hch:=h.hch
 have d0:decide ((n:Int)<0)=false:=decide_eq_false (by omega)
 have d1:decide ((n:Int) > 1048576)=false:=decide_eq_false (by omega)
 refine cpure_of Tryz.xen17 Tryz.func17 rfl Tryz.ntmps17 (by rw [Tryz.results17]) (aw_ok _ ?_)
 simp only [go_sem,simprocAttr,decide_true,decide_false]
 refine ⟨_,cv,?_⟩
 simp only [go_sem,simprocAttr,decide_true,decide_false]
 refine icall_io cm [] rfl (by omega) (by decide) ?_ rfl rfl rfl rfl ?_
 ·simp only [go_sem,simprocAttr,decide_true,decide_false]
 simp only [go_sem,simprocAttr,decide_true,decide_false,hch,List.getElem?_nil,d0,(ren_tEs _ _).1]
 refine ⟨_,cp,?_⟩
 simp only [go_sem,simprocAttr,decide_true,decide_false,d1,d0]
 refine ⟨_,c1,?_⟩
 simp only [go_sem,simprocAttr,decide_true,decide_false,wrap64 (x:=from0+n) (by omega) (by omega)]
 refine ⟨_,c2,?_⟩
 simp only [go_sem,simprocAttr,decide_true,decide_false]
 refine ⟨_,ca,?_⟩
 simp only [go_sem,simprocAttr,decide_true,decide_false]
 refine ⟨by decide,?_⟩
 have ww1:IntKind.i64.wrap 1=1:=by decide
 have w01:IntKind.i64.wrap (0+1)=1:=by decide
 refine awp_loopL ?_
 refine awpL_step (aw_ok _ ?_)
 simp only [go_sem,simprocAttr,decide_true,decide_false,ww1,w01]
 refine ⟨⟨by omega,by unfold maxLen;omega,by omega⟩,?_⟩
 refine awpL_step (aw_ok _ ?_)
 simp only [go_sem,simprocAttr,decide_true,decide_false,ww1,w01,set_own1]
 have hrg:∀ i:Nat, -32768≤(fun i:Nat=>outV E 1 q.sound q.rate (from0+i) 0) i∧(fun i:Nat=>outV E 1 q.sound q.rate (from0+i) 0) i≤32767:=fun i=>out_range _ _ _ _ _ _
 obtain ⟨f,hf⟩:∃ f:Nat→Int,f=fun i:Nat=>outV E 1 q.sound q.rate (from0+i) 0:=⟨_,rfl⟩
 rw [← hf] at hrg ⊢
 refine awp_loop_f (fun (i:Nat) σ => setB 14 (.row 64 1 (c16 0) (tRows ((fillP f n i).map c16))) (setS 85 (vint i) (deadS [18,19,20,86,87,88,89,90,91,92,93,94,95,96,97,98,99,100,101,102,103,104,105,106,107,108,109,110] (cleanS σ)))) (fun i=>i≤n) (fun i=>n - i) 0 (weak_self ?_) (Nat.zero_le _) ?_
 ·simp only [go_sem,simprocAttr]
  refine ⟨by simp,(fillP_zero f n).symm,?_⟩
  simp
 ·intro i hi
  refine aw_ok _ ?_
  simp only [go_sem,simprocAttr]
  refine ⟨fun hlt=>?_,fun hge=>?_⟩
  ·simp only [bxx] at hlt
   have hil:i<n:=by omega
   have hwi:IntKind.i64.wrap ((i:Int)+1)=((i+1:Nat):Int):=by rw [wrap1 (by omega)];omega
   have hcmp:=cCompute h.hr (s:=from0+i) ⟨by omega,by omega⟩ (h.hc i hil)
   have hfi:outV E 1 q.sound q.rate (from0+(i:Int)) 0=f i:=by rw [hf]
   rw [hfi] at hcmp
   unfold awS
   simp only [go_sem,simprocAttr,decide_true,decide_false,wrap64 (x:=from0+(i:Int)) (by omega) (by omega)]
   refine lcall_lend ?_
   simp only [go_sem,simprocAttr,decide_true,decide_false]
   refine ⟨_,hcmp,rfl,?_⟩
   simp only [go_sem,simprocAttr,decide_true,decide_false]
   refine awp_loopL ?_
   refine awpL_step (aw_ok _ ?_)
   simp only [go_sem,simprocAttr,decide_true,decide_false,ww1,w01]
   refine drawC_of 11 .done rfl (by kernel_rfl) (by kernel_rfl) (by decide) ?_
   simp only [go_sem,simprocAttr,decide_true,decide_false,nthV_0,ww1,w01,wrap16 (hrg i).1 (hrg i).2]
   refine ⟨⟨by omega,by rw [fillP_len];omega⟩,by rw [fillP_len];omega,by kernel_rfl,?_⟩
   refine awpL_step (aw_ok _ ?_)
   simp only [go_sem,simprocAttr,decide_true,decide_false,ww1,w01,tRows_set1]
   refine ⟨i+1,weak_self ?_,by omega,by omega⟩
   simp only [go_sem,simprocAttr,decide_true,decide_false,hwi]
   refine ⟨by simp,fillP_set f hil,?_⟩
   simp
  ·simp only [bxx] at hge
   have:n=i:=by omega
   subst this
   unfold awS
   simp only [go_sem,simprocAttr,decide_true,decide_false]
   refine ⟨nopSound,?_⟩
   rw [fillP_full]
   rfl
end Go.Proofs.YtjmoncjecpckhaaGreat
