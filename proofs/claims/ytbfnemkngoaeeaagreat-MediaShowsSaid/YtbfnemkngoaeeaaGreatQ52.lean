/- Proved here: The frames of a project in which media are exchanged, in plain Lean; conditions stand in each theorem. -/
import Derived.Test.YtbfnemkngoaeeaaGreatQ44
import Derived.Test.YtbfnemkngoaeeaaGreatQ51
import Derived.Test.YtbfnemkngoaeeaaGreatQ49
import Derived.Test.YtbfnemkngoaeeaaGreatQ48
set_option linter.unusedSimpArgs false
set_option linter.unusedVariables false
set_option linter.unusedSectionVars false
set_option linter.unnecessarySimpa false
namespace Go.Proofs.YtbfnemkngoaeeaaGreat
open Go.RowKit
set_option maxRecDepth 4000
def swN (f g n:ByteArray):ByteArray:=if n=f then g else n
theorem Yv (f g:ByteArray):∀ (t:List ClipR) (i:Nat) (n:Int),gY (t.map (fK f g)) i n=gY t i n
 | [],_,_=>rfl
 | c::t,i,n=>by
  rw [List.map_cons,rE,rE,Yv f g t];rfl
theorem aW1 (f g:ByteArray) (c:ClipR):(fK f g c).kind=c.kind∧(fK f g c).len=c.len:=⟨rfl,rfl⟩
theorem aV6 (f g:ByteArray) {t:List ClipR} {j:Nat} (h:j<t.length):(t.map (fK f g)).getD j default=fK f g (t.getD j default):=by
 rw [aJ h,aJ (by rw [List.length_map];exact h),List.getElem_map]
theorem aV2 (f g:ByteArray) (t:List ClipR) (n:Int):Sk (t.map (fK f g)) n=(Sk t n).map fun x=>(fK f g x.1,x.2):=by
 unfold Sk;rw [Yv]
 by_cases h:(gY t 0 n).2.2=true
 ·obtain ⟨j,hj,e⟩:=aFy t t 0 n h;have e2:(gY t 0 n).1.toNat=j:=by rw [e];omega
  rw [e2,aV6 f g hj,(aW1 f g _).1];split<;>rfl
 ·rw [if_neg (fun q=>h q.2.1),if_neg (fun q=>h q.2.1)];rfl
theorem aD0 (f g:ByteArray) (n:Int):∀ ts:List (List ClipR),sP n (ts.map fun t=>t.map (fK f g))=(sP n ts).map fun x=>(fK f g x.1,x.2)
 | []=>rfl
 | t::ts=>by
  have ih:=aD0 f g n ts;simp only [List.map_cons,sP,aV2,ih];cases Sk t n<;>rfl
theorem aS7 (p:ProjR) (f g n:ByteArray):pC (kP p f g) n=(pC p n).map fun t=>t.map (fK f g):=by
 unfold pC kP;simp only;rw [xM];cases bL p.seqs n with
 | none=>rfl
 | some s=>rfl
theorem Xa (t:ByteArray→ByteArray) {op:Int} (ho:op≠1) (param num den:Int) (a b:ExprR):renE t (jB op param num den a b)=jB op param num den (renE t a) (renE t b):=by
 unfold jB;rw [fU,dR,if_neg ho];rfl
theorem aM3 (f g:ByteArray) (s:SourceR) (k:Int):dB (gE f g s) k=dB s k∧aR (gE f g s)=aR s:=by
 obtain ⟨h1,h2,h3,h4⟩:=mJ f g s;unfold dB atS mZ aR aKm aKk;rw [h3,h4];exact ⟨rfl,rfl⟩
theorem aM9 {t:ByteArray→ByteArray} {F F':SourceR→Int→ExprR} {f g:ByteArray} {s:SourceR} (h:s.kind≠0 → ∀ i,F' (gE f g s) i=renE t (F s i)) (k:Int):eQ id F' (gE f g s) k=renE t (eQ id F s k):=by
 unfold eQ;rw [(mJ f g s).1,(mJ f g s).2.1,(aM3 f g s k).1,(aM3 f g s k).2]
 by_cases h0:s.kind=0
 ·rw [if_pos h0,if_pos h0,rQ]
 ·rw [if_neg h0,if_neg h0];split
  ·simp only [id];rw [Xa t (by decide),h h0,h h0]
  ·exact h h0 _
theorem aVy {t:ByteArray→ByteArray} {F F':SourceR→Int→ExprR} {f g:ByteArray} {c:ClipR} (h:∀ s,(s=c.a∨s=c.b)→s.kind≠0 → ∀ i,F' (gE f g s) i=renE t (F s i)) (k:Int):kJ id F' (fK f g c) k=renE t (kJ id F c k):=by
 have pa:=fun k=>aM9 (k:=k) (h c.a (.inl rfl))
 have pb:=fun k=>aM9 (k:=k) (h c.b (.inr rfl))
 unfold kJ;show (if c.kind=1 then eQ id F' (gE f g c.a) k else if c.kind=5 then _ else if c.kind=4 then _ else _)=_
 by_cases h1:c.kind=1
 ·rw [if_pos h1,if_pos h1];exact pa k
 ·rw [if_neg h1,if_neg h1]
  by_cases h5:c.kind=5
  ·rw [if_pos h5,if_pos h5,fU,dR,if_neg (by decide)];show ExprR.mk 5 _ 0 0 0 0 c.text [eQ id F' (gE f g c.a) k]=_
   rw [pa k];rfl
  ·rw [if_neg h5,if_neg h5]
   by_cases h4:c.kind=4
   ·rw [if_pos h4,if_pos h4];simp only [id];rw [fU,dR,if_neg (by decide)];show ExprR.mk 4 _ 0 0 0 c.param _ [eQ id F' (gE f g c.a) k,eQ id F' (gE f g c.b) k]=_
    rw [pa k,pb k];rfl
   ·rw [if_neg h4,if_neg h4];simp only [id];rw [Xa t h1];show jB c.kind c.param (c.off+k+1) (c.total+1) (eQ id F' (gE f g c.a) k) (eQ id F' (gE f g c.b) k)=_
    rw [pa k,pb k]
theorem aUn {p:ProjR} {f g:ByteArray} (hfr:uW p f=uW p g) {G G':ByteArray→Int→ExprR} {s:SourceR} (hk:s.kind=1∨s.kind=2) (h:s.kind=2 → ∀ i,G' s.name i=renE (swN f g) (G s.name i)) (i:Int) :
  kH (kP p f g) G' (gE f g s) i=renE (swN f g) (kH p G s i):=by
 have em:∀ n,uW (kP p f g) n=uW p n:=fun n=>rfl
 unfold kH;rw [(mJ f g s).1];rcases hk with hk | hk
 ·have h2 : ¬ s.kind=2:=by omega
  simp only [h2,if_false];rw [em]
  by_cases hn:s.name=f
  ·rw [Tz ⟨hk,hn⟩];simp only;rw [← hfr,hn];split
   ·rw [rQ]
   ·rw [fU,dR,if_pos rfl];unfold swN;rw [if_pos rfl];rfl
  ·rw [Cp (fun q=>hn q.2)];split
   ·rw [rQ]
   ·rw [fU,dR,if_pos rfl];unfold swN;rw [if_neg hn];rfl
 ·rw [if_pos hk,if_pos hk,Cp (fun q=>by omega)];exact h hk i
theorem Yw {p:ProjR} (h:FilmOk p) {f g:ByteArray} (hfr:uW p f=uW p g):∀ (d:Nat) (name:ByteArray) (n:Int),fJ id (kP p f g) d name n=renE (swN f g) (fJ id p d name n)
 | 0,_,_=>(rQ _).symm
 | d+1,name,n=>by
  unfold fJ;rw [aS7, ← List.map_reverse,aD0];cases e:sP n (pC p name).reverse with
  | none=>exact (rQ _).symm
  | some x =>
   obtain ⟨c,k⟩:=x;obtain ⟨⟨t,ht,hc⟩,h0,hk⟩:=Fh (fun t ht c hc=>(bZ ((wN h name t (List.mem_reverse.1 ht)).2 c hc)).1) e;have hv:=(wN h name t (List.mem_reverse.1 ht)).2 c hc;simp only [Option.map_some];unfold zA;refine aVy (fun s hs hs0 i=>?_) k;obtain ⟨va,vb⟩:=rF hv;have vs:aY s=true:=by rcases hs with rfl | rfl;exact va;exact vb
   obtain ⟨pp,dd,ok⟩:=Ch vs hs0;exact aUn hfr ok.kind (fun _ j=>Yw h hfr d s.name j) i
theorem aEw {P:ByteArray→Prop} {op param num den:Int} {a b:ExprR} (ho:op≠1) (ha:NmE P a) (hb:NmE P b):NmE P (jB op param num den a b):=by
 unfold jB;refine sK.2 ⟨fun h=>absurd h ho,fun e he=>?_⟩;simp only [List.mem_cons,List.not_mem_nil,or_false] at he;rcases he with rfl | rfl<;>assumption
theorem aTy {P:ByteArray→Prop} {F:SourceR→Int→ExprR} {s:SourceR} (h:s.kind≠0 → ∀ i,NmE P (F s i)) (k:Int):NmE P (eQ id F s k):=by
 unfold eQ;split
 ·exact Gh
 ·rename_i h0;split
  ·exact aEw (by decide) (h h0 _) (h h0 _)
  ·exact h h0 _
theorem nm_clip {P:ByteArray→Prop} {F:SourceR→Int→ExprR} {c:ClipR} (h:∀ s,(s=c.a∨s=c.b)→s.kind≠0 → ∀ i,NmE P (F s i)) (k:Int):NmE P (kJ id F c k):=by
 have pa:=fun k=>aTy (h c.a (.inl rfl)) k
 have pb:=fun k=>aTy (h c.b (.inr rfl)) k
 unfold kJ;split
 ·exact pa k
 ·rename_i h1;split
  ·refine sK.2 ⟨fun h=>absurd h (by decide),fun e he=>?_⟩;rw [List.mem_singleton] at he;subst he;exact pa k
  ·split
   ·refine sK.2 ⟨fun h=>absurd h (by decide),fun e he=>?_⟩;simp only [List.mem_cons,List.not_mem_nil,or_false] at he;rcases he with rfl | rfl
    ·exact pa k
    ·exact pb k
   ·exact aEw h1 (pa k) (pb k)
theorem aHt {p:ProjR} {name:ByteArray} {t:List ClipR} {c:ClipR} (ht:t∈pC p name) (hc:c∈t):c∈dF ((bL p.seqs name).getD default):=by
 unfold pC at ht;unfold dF;exact List.mem_flatten.2 ⟨t,List.mem_append.2 (.inl ht),hc⟩
theorem Sw {p:ProjR} (h:FilmOk p):∀ (d:Nat) (name:ByteArray) (n:Int),NmE (fun m => ∃ x,RchU p name x∧m∈uQ p x 1) (fJ id p d name n)
 | 0,_,_=>Gh
 | d+1,name,n=>by
  unfold fJ;cases e:sP n (pC p name).reverse with
  | none=>exact Gh
  | some x =>
   obtain ⟨c,k⟩:=x;obtain ⟨⟨t,ht,hc⟩,h0,hk⟩:=Fh (fun t ht c hc=>(bZ ((wN h name t (List.mem_reverse.1 ht)).2 c hc)).1) e;have hv:=(wN h name t (List.mem_reverse.1 ht)).2 c hc;have hcl:=aHt (List.mem_reverse.1 ht) hc;unfold zA;refine nm_clip (fun s hs hs0 i=>?_) k;obtain ⟨va,vb⟩:=rF hv;have vs:aY s=true:=by rcases hs with rfl | rfl;exact va;exact vb
   obtain ⟨pp,dd,ok⟩:=Ch vs hs0;unfold kH;split
   ·rename_i h2;have hin:s.name∈eH p name:=jG.2 (aMj.2 ⟨c,hcl,s,hs,h2,rfl⟩);have ih:=Sw h d s.name i;refine aMd (fun m hm=>?_) _ ih;obtain ⟨x,hx,hm⟩:=hm;exact ⟨x,hx.step hin,hm⟩
   ·rename_i h2;have h1:s.kind=1:=by rcases ok.kind with h | h;exact h;exact absurd h h2
    split
    ·exact Gh
    ·refine sK.2 ⟨fun _=>⟨name,RchU.refl _,jG.2 (aMj.2 ⟨c,hcl,s,hs,h1,rfl⟩)⟩,fun e he=>by cases he⟩
open Go.RowKit
set_option maxRecDepth 4000
theorem aTu (c:ClipR) (k:Int):(one c k).kind=c.kind:=by
 unfold one Ur;rfl
theorem Ys (c:ClipR):(frC c).map ClipR.kind=List.replicate c.len.toNat c.kind:=by
 unfold frC;rw [List.map_map,show (ClipR.kind ∘ fun k:Nat=>one c (k:Int))=fun _=>c.kind from funext fun k=>aTu c k];rw [List.map_const',List.length_range]
theorem aFt (t:List ClipR):(fr t).map ClipR.kind=t.flatMap fun c=>List.replicate c.len.toNat c.kind:=by
 unfold fr;rw [List.map_flatMap];congr 1;funext c;exact Ys c
theorem aBw (f g:ByteArray) (t:List ClipR):(fr (t.map (fK f g))).map ClipR.kind=(fr t).map ClipR.kind:=by
 rw [aFt,aFt,List.flatMap_map];rfl
def Lit (l:List Int):Prop := ∀ x,l.getLast? = some x→x≠0
theorem lit_len {a b:List Int} {c d:List Int} (ha:Lit a) (hb:Lit b) (hc:∀ x∈c,x=0) (hd:∀ x∈d,x=0) (e:a++c=b++d):a.length=b.length:=by
 have key:∀ {a b c d:List Int},Lit b→(∀ x∈c,x=0)→a++c=b++d→b.length≤a.length:=by
  intro a b c d hb hc e;apply Classical.byContradiction;intro hlt;have hb0:b ≠ []:=by intro h;subst h;simp at hlt
  have hL:=hb _ (List.getLast?_eq_some_getLast hb0);have h1:(b++d)[b.length - 1]? = some (b.getLast hb0):=by
   rw [List.getElem?_append_left (by omega),List.getLast_eq_getElem];exact List.getElem?_eq_getElem _
  rw [← e,List.getElem?_append_right (by omega)] at h1;exact hL (hc _ (List.mem_of_getElem? h1))
 exact Nat.le_antisymm (key ha hd e.symm) (key hb hc e)
theorem aFa {t:List ClipR} (hv:bC t=true) (hfit:∀ c∈t,c.fit):Lit ((fr (jU t)).map ClipR.kind):=by
 have hg:=(aJx hv hfit).1;have hn:=zS hv hfit;have hl:∀ c∈jU t,1≤c.len:=fun c hc=>(bZ ((jX hn).2.1 c hc)).1
 intro x hx;rcases List.eq_nil_or_concat (jU t) with h0 | ⟨i,c,h0⟩
 ·rw [h0] at hx;simp [fr] at hx
 ·rw [List.concat_eq_append] at h0;have hk:c.kind≠0:=by
   rw [h0] at hg;unfold nG at hg;intro e;rw [Bool.and_eq_false_iff] at hg;rcases hg with hg | hg
   ·simp at hg
   ·simp [e] at hg
  have hc1:=hl c (by rw [h0];simp);rw [h0,Yr,List.map_append,show fr [c]=frC c ++ [] from rfl,List.append_nil,Ys] at hx;obtain ⟨m,hm⟩:∃ m,c.len.toNat=m+1:=⟨c.len.toNat - 1,by omega⟩
  rw [hm,List.replicate_succ', ← List.append_assoc,List.getLast?_concat] at hx;simp only [Option.some.injEq] at hx;rw [← hx];exact hk
theorem aUg {t:List ClipR} (f g:ByteArray) (hv:bC t=true) (hfit:∀ c∈t,c.fit) (hv':bC (t.map (fK f g))=true):Kd (jU (t.map (fK f g)))=Kd (jU t):=by
 have hfit':∀ c∈t.map (fK f g),c.fit:=fun c hc=>by
  obtain ⟨d,hd,rfl⟩:=List.mem_map.1 hc;exact Ub (hfit d hd)
 have hn:=zS hv hfit;have hn':=zS hv' hfit';obtain ⟨G,hG,e⟩:=aMc hv hfit;obtain ⟨G',hG',e'⟩:=aMc hv' hfit';have ek:=aBw f g t;rw [e,e',List.map_append,List.map_append] at ek;have hz:∀ {G:List ClipR},aXb G → ∀ x∈G.map ClipR.kind,x=0:=fun hG x hx=>by
  obtain ⟨c,hc,rfl⟩:=List.mem_map.1 hx;exact hG c hc
 have hlen:=lit_len (aFa hv' hfit') (aFa hv hfit) (hz hG') (hz hG) ek;rw [List.length_map,List.length_map] at hlen;have l1:=aKe fun c hc=>(bZ ((jX hn).2.1 c hc)).1
 have l2:=aKe fun c hc=>(bZ ((jX hn').2.1 c hc)).1
 unfold Kd;rw [if_pos hn,if_pos hn', ← l1, ← l2,hlen]
theorem Rq {f g:ByteArray}:∀ (ts:List (List ClipR)) (m:Int),(∀ t∈ts,Kd (jU (t.map (fK f g)))=Kd (jU t))→vY (ts.map fun t=>t.map (fK f g)) m=vY ts m
 | [],_,_=>rfl
 | t::ts,m,h=>by
  simp only [List.map_cons,vY,h t (by simp)];exact Rq ts _ fun x hx=>h x (by simp [hx])
theorem aDk {p:ProjR} (h:Layered p) (hf:p.fit) {f g:ByteArray} (hg:aT g=true) (h':Layered (kP p f g)) (name:ByteArray):fF (kP p f g) name=fF p name:=by
 unfold fF;rw [dY h,dY h'];show (if (0:Int)≠0 then _ else match bL (p.seqs.map (Ua f g)) name with | none=>_ | some s=>_)=_
 rw [xM];cases e:bL p.seqs name with
 | none=>rfl
 | some s =>
  simp only [Option.map_some];obtain ⟨hs,_⟩:=cV e;have hok:dU s=true:=by
   have:=h.ok;rw [Bool.and_eq_true] at this;exact List.all_eq_true.1 this.2 s hs
  have hsf:=hf.2 s hs;have hT:∀ t∈s.video++s.sound,Kd (jU (t.map (fK f g)))=Kd (jU t):=fun t ht=>by
   have hv:=sX hok t ht;exact aUg f g hv (by rcases List.mem_append.1 ht with h | h;exact hsf.video t h;exact hsf.sound t h) (Av hg hv)
  show ((vY (aRd f g s.sound) (vY (aRd f g s.video) 0),(0:Int)):Int×Int)=_
  unfold aRd;rw [Rq _ _ fun t ht=>hT t (List.mem_append.2 (.inl ht)),Rq _ _ fun t ht=>hT t (List.mem_append.2 (.inr ht))];rw [if_neg (by decide)]
open Go.RowKit
set_option maxRecDepth 4000
structure ShowInv (s:StateR) (K:List ByteArray) (a b:ProjR×List ByteArray):Prop where
 up:∀ n∈a.2,n∈b.2
 dn:∀ n∈b.2,n∈a.2∨n∈K
 lay:Layered b.1
 fit:b.1.fit
 len:∀ name,fF b.1 name=fF a.1 name
 seq:∀ name,(bL b.1.seqs name).isSome=(bL a.1.seqs name).isSome
 film:∃ T:ByteArray→ByteArray,(∀ d name n,fJ id b.1 d name n=renE T (fJ id a.1 d name n))∧(∀ n,n∈K→n ∉ b.2→T n=bW s n) ∧ ∀ n, ¬ (n∈K∧n ∉ b.2)→T n=n
 on:∀ n∈K,n ∉ b.2→status s (bW s n)=1
theorem Pq {s:StateR}:∀ (K:List ByteArray) (a:ProjR×List ByteArray),Layered a.1→a.1.fit→(∀ y∈a.1.media,aT y.name=true)→K.Nodup→(∀ n∈K,status s n≠1)→(∀ n∈K,n ∉ a.2)→ShowInv s K a (K.foldl (kD s) a)
 | [],a,hl,hf,_,_,_,_=>⟨fun _ h=>h,fun _ h => .inl h,hl,hf,fun _=>rfl,fun _=>rfl,⟨id,fun _ _ _=>(ren_id (P:=fun _=>True) (fun _=>rfl) _).symm,fun n h=>(by cases h),fun _ _=>rfl⟩,fun n hn=>by cases hn⟩
 | m::K,a,hl,hf,hm,hn,hk,ha=>by
  rw [List.nodup_cons] at hn;have hkK:∀ n∈K,status s n≠1:=fun n h=>hk n (by simp [h])
  have hmm:status s m≠1:=hk m (by simp);rw [List.foldl_cons]
  by_cases hc:status s (bW s m)=1∧(mP a.1 m (bW s m)).2=0
  ·have eR:kD s a m=(kP a.1 m (bW s m),a.2):=by
    unfold kD;rw [if_pos hc,aJ2 hc.2]
   rw [eR];obtain ⟨x,y,e1,e2,e3⟩:=aPb hc.2;obtain ⟨y1,y2⟩:=cV e2;obtain ⟨i,hi,hy⟩:=Rn y1;have hg:aT (bW s m)=true:=by
    have:=hm y y1;rw [show y.name=bW s m from y2] at this;exact this
   have hl':Layered (kP a.1 m (bW s m)):=aBg hl hg ⟨i,hi,by rw [hy];exact y2⟩;have hf':=We hf m (bW s m);have hfr:uW a.1 m=uW a.1 (bW s m):=by
    unfold uW;rw [e1,e2];unfold wT at e3;simp only [Bool.and_eq_true,beq_iff_eq] at e3;exact e3.1.1.2
   have ih:=Pq K (kP a.1 m (bW s m),a.2) hl' hf' hm hn.2 hkK fun n h=>ha n (by simp [h])
   have hml:m ∉ (K.foldl (kD s) (kP a.1 m (bW s m),a.2)).2:=fun h=>by
    rcases ih.dn m h with h | h
    ·exact ha m (by simp) h
    ·exact hn.1 h
   obtain ⟨T,hT,hTy,hTo⟩:=ih.film;refine ⟨ih.up,fun n h=>?_,ih.lay,ih.fit,fun name=>?_,fun name=>?_,⟨fun n=>T (swN m (bW s m) n),fun d name n=>?_,fun n h h2=>?_,fun n h=>?_⟩,fun n h h2=>?_⟩
   ·rcases ih.dn n h with h | h
    ·exact .inl h
    ·exact .inr (by simp [h])
   ·rw [ih.len,aDk hl hf hg hl']
   ·rw [ih.seq];unfold kP;simp only;rw [xM,Option.isSome_map]
   ·rw [hT,Yw (nY hf (dY hl)) hfr,aTa]
   ·have hp:bW s m ∉ K:=fun h=>hkK _ h hc.1
    show T (swN m (bW s m) n)=_
    unfold swN
    by_cases hnm:n=m
    ·subst hnm;rw [if_pos rfl,hTo _ (fun q=>hp q.1)]
    ·rw [if_neg hnm];exact hTy n (by rcases List.mem_cons.1 h with h | h;exact absurd h hnm;exact h) h2
   ·show T (swN m (bW s m) n)=_
    unfold swN
    by_cases hnm:n=m
    ·subst hnm;exact absurd ⟨by simp,hml⟩ h
    ·rw [if_neg hnm];exact hTo n fun q=>h ⟨by simp [q.1],q.2⟩
   ·rcases List.mem_cons.1 h with rfl | h
    ·exact hc.1
    ·exact ih.on n h h2
  ·have eR:kD s a m=(a.1,a.2 ++ [m]):=by
    unfold kD;rw [if_neg hc]
   rw [eR];have ih:=Pq K (a.1,a.2 ++ [m]) hl hf hm hn.2 hkK fun n h hc=>by
    rcases List.mem_append.1 hc with hc | hc
    ·exact ha n (by simp [h]) hc
    ·rw [List.mem_singleton] at hc;subst hc;exact hn.1 h
   have hml:m∈(K.foldl (kD s) (a.1,a.2 ++ [m])).2:=ih.up m (by simp);obtain ⟨T,hT,hTy,hTo⟩:=ih.film;refine ⟨fun n h=>ih.up n (by simp [h]),fun n h=>?_,ih.lay,ih.fit,ih.len,ih.seq,⟨T,hT,fun n h h2=>?_,fun n h=>?_⟩,fun n h h2=>?_⟩
   ·rcases ih.dn n h with h | h
    ·rcases List.mem_append.1 h with h | h
     ·exact .inl h
     ·exact .inr (by rw [List.mem_singleton.1 h];simp)
    ·exact .inr (by simp [h])
   ·rcases List.mem_cons.1 h with rfl | h
    ·exact absurd hml h2
    ·exact hTy n h h2
   ·by_cases hnm:n=m
    ·subst hnm;exact hTo n fun q=>q.2 hml
    ·exact hTo n fun q=>h ⟨by simp [q.1],q.2⟩
   ·rcases List.mem_cons.1 h with rfl | h
    ·exact absurd hml h2
    ·exact ih.on n h h2
theorem Gc {s:StateR} {n:ByteArray} (hs:Ok s) (h:status s (bW s n)=1):∃ l,fE s.links n=some l∧aT (bW s n)=true:=by
 rw [Qm] at h ⊢;cases e:fE s.links n with
 | none =>
  rw [e] at h;simp only at h;exfalso;rw [Kx] at h;cases e2:fE s.links ⟨#[]⟩ with
  | none=>rw [e2] at h;exact absurd (show (0:Int)=1 from h) (by decide)
  | some l =>
   obtain ⟨k1,k2⟩:=tW e2;have:=(hs.ln l k2).1;rw [show l.media=⟨#[]⟩ from k1] at this;exact absurd this (by decide)
 | some l =>
  rw [e] at h;simp only at h ⊢;refine ⟨l,rfl,?_⟩;rw [Kx] at h;cases e2:fE s.links l.proxy with
  | none=>rw [e2] at h;exact absurd (show (0:Int)=1 from h) (by decide)
  | some l2 =>
   obtain ⟨k1,k2⟩:=tW e2;have:=(hs.ln l2 k2).1;rw [show l2.media=l.proxy from k1] at this;exact this
theorem aP8 {t:ByteArray→ByteArray} {P:ByteArray→Prop} (h:∀ n,P n→aT n=true→aT (t n)=true) (e:ExprR):NmE P e→bR e=true→bR (renE t e)=true:=by
 refine Md (Q:=fun e=>NmE P e→bR e=true→bR (renE t e)=true) ?_ e;intro op media frame num den param text args ih hn hv;obtain ⟨h1,h2⟩:=sK.1 hn;unfold bR at hv;rw [Bool.and_eq_true,jA,List.all_eq_true] at hv;rw [fU,dR];unfold bR;rw [Bool.and_eq_true,jA,List.all_eq_true,List.length_map];refine ⟨?_,fun x hx=>?_⟩
 ·by_cases ho:op=1
  ·rw [if_pos ho];have hq:=hv.1;unfold cS at hq ⊢;subst ho;rw [if_neg (by decide),if_pos (by decide)] at hq ⊢;simp only [Bool.and_eq_true] at hq ⊢;exact ⟨⟨⟨⟨⟨⟨h media (h1 rfl) hq.1.1.1.1.1.1,hq.1.1.1.1.1.2⟩,hq.1.1.1.1.2⟩,hq.1.1.1.2⟩,hq.1.1.2⟩,hq.1.2⟩,hq.2⟩
  ·rw [if_neg ho];exact hv.1
 ·obtain ⟨y,hy,rfl⟩:=List.mem_map.1 hx;exact ih y hy (h2 y hy) (hv.2 y hy)
theorem fit_ren {t:ByteArray→ByteArray} (e:ExprR):e.fit→(renE t e).fit:=by
 have hfs:∀ l:List ExprR,ExprR.fits l ↔ ∀ e∈l,e.fit:=by
  intro l
  induction l with
  | nil=>simp [ExprR.fits]
  | cons x l ih=>simp only [ExprR.fits,ih,List.mem_cons,forall_eq_or_imp]
 refine Md (Q:=fun e=>e.fit→(renE t e).fit) ?_ e;intro op media frame num den param text args ih hf;simp only [ExprR.fit] at hf;rw [fU,dR];simp only [ExprR.fit];obtain ⟨a1,a2,a3,a4,a5,a6⟩:=hf;refine ⟨a1,a2,a3,a4,a5,(hfs _).2 fun x hx=>?_⟩;obtain ⟨y,hy,rfl⟩:=List.mem_map.1 hx;exact ih y hy ((hfs _).1 a6 y hy)
theorem aPr {s:StateR} (hs:Ok s) {p:ProjR} {M N:Nat} (h:SpareP p M N) (m:Int) {r:ProjR} {left:List ByteArray} (hr:r=(qC s p (cU (qQ s (dN p s0N).1))).1) (hlf:left=cU (qC s p (cU (qQ s (dN p s0N).1))).2) :
  r.fit∧fF r s0N=fF p s0N∧(fF p s0N).2=0∧(gQ r s0N m).2=0∧(gQ p s0N m).2=0∧bR (gQ p s0N m).1=true∧bR (renE (xR s left) (gQ p s0N m).1)=true ∧
   (renE (xR s left) (gQ p s0N m).1).fit∧(gQ r s0N m).1=aDf (renE (xR s left) (gQ p s0N m).1):=by
 have hmv:∀ y∈p.media,aT y.name=true:=fun y hy=>by
  obtain ⟨i,hi,rfl⟩:=Rn hy;have hm:=h.hm;have:=(h.mok (x:=i) (by omega)).1;unfold fC at this;simp only [Bool.and_eq_true] at this;exact this.1.1.1.1.1
 have hU:=wP (p:=p) (name:=s0N) h.fit h.uses0;obtain ⟨K,hK⟩:∃ K,K=cU (qQ s (dN p s0N).1):=⟨_,rfl⟩
 have hKn:K.Nodup:=by rw [hK];exact (cK _).nodup_iff.2 (hU.2.1.filter _)
 have hKs:∀ x,x∈K ↔ x∈(dN p s0N).1∧status s x≠1:=fun x=>by
  rw [hK,(cK _).mem_iff];unfold qQ;rw [List.mem_filter,decide_eq_true_eq]
 have I:=Pq (s:=s) K (p,[]) h.lay h.fit hmv hKn (fun n hn=>((hKs n).1 hn).2) (fun n _ hc=>by cases hc);rw [← hK] at hr hlf;unfold qC at hr hlf;obtain ⟨b,hb⟩:∃ b,b=K.foldl (kD s) (p,[]):=⟨_,rfl⟩
 rw [← hb] at I hr hlf;have hs0:(bL p.seqs s0N).isSome=true:=by
  have h0:=h.uses0;unfold dN at h0;rw [dY h.lay] at h0;cases e:bL p.seqs s0N with
  | none=>rw [e] at h0;simp at h0
  | some q=>rfl
 have hs1:(bL r.seqs s0N).isSome=true:=by rw [hr,I.seq];exact hs0
 have hlr:Layered r:=by rw [hr];exact I.lay
 have hfr:r.fit:=by rw [hr];exact I.fit
 have hFp:=nY h.fit (dY h.lay);have f0:gQ p s0N m=(fJ dM p 5 s0N m,0):=by
  unfold gQ;rw [dY h.lay];cases e:bL p.seqs s0N with
  | none=>rw [e] at hs0;cases hs0
  | some q=>rfl
 have f1:gQ r s0N m=(fJ dM r 5 s0N m,0):=by
  unfold gQ;rw [dY hlr];cases e:bL r.seqs s0N with
  | none=>rw [e] at hs1;cases hs1
  | some q=>rfl
 obtain ⟨X,hX⟩:∃ X,X=fJ id p 5 s0N m:=⟨_,rfl⟩
 have hXg:=Sp hFp 5 s0N m;rw [← hX] at hXg;have e0:fJ dM p 5 s0N m=cQ X:=by rw [hX];exact (Jh p 5 s0N m).symm
 obtain ⟨T,hT,hTy,hTo⟩:=I.film;have e1:fJ dM r 5 s0N m=cQ (renE T X):=by rw [← Jh,hr,hT,hX]
 have hnm:NmE (fun n=>n∈(dN p s0N).1) X:=by
  rw [hX];exact aMd (fun n hn=>(aU6 h.fit h.uses0).2 hn) _ (Sw hFp 5 s0N m)
 have hal:∀ n,Vs n left=true ↔ n∈b.2:=fun n=>by rw [aX4,hlf,(cK _).mem_iff]
 have hins:∀ n,n∈(dN p s0N).1→T n=xR s left n:=fun n hn=>by
  unfold xR
  by_cases h1:status s n=1
  ·rw [if_pos h1,hTo n (fun q=>((hKs n).1 q.1).2 h1)]
  ·rw [if_neg h1];have hnK:n∈K:=(hKs n).2 ⟨hn,h1⟩
   by_cases h2:n∈b.2
   ·rw [hTo n (fun q=>q.2 h2),if_pos ((hal n).2 h2)]
   ·rw [hTy n hnK h2,if_neg (fun q=>h2 ((hal n).1 q))];obtain ⟨l,hl,_⟩:=Gc hs (I.on n hnK h2);rw [Qm,hl]
 have hren:renE T X=renE (xR s left) X:=aQ1 hins X hnm;have hvn:∀ n,n∈(dN p s0N).1→aT n=true→aT (xR s left n)=true:=fun n hn hv=>by
  rw [← hins n hn]
  by_cases q:n∈K∧n ∉ b.2
  ·rw [hTy n q.1 q.2];obtain ⟨l,_,hv2⟩:=Gc hs (I.on n q.1 q.2);exact hv2
  ·rw [hTo n q];exact hv
 have hsv:bR (cQ X)=true:=Pp hXg.1;have hv2:bR (renE (xR s left) (cQ X))=true:=aP8 hvn _ (nm_sim X hnm) hsv;have hfp:=aDg X hXg.2;rw [f0,f1];simp only;rw [e0];refine ⟨hfr,by rw [hr];exact I.len s0N,?_,trivial,trivial,hsv,hv2,fit_ren _ hfp,?_⟩
 ·unfold fF;rw [dY h.lay];cases e:bL p.seqs s0N with
  | none=>rw [e] at hs0;cases hs0
  | some q=>rfl
 ·rw [e1,hren];unfold aDf;rw [if_pos hv2,ren_sim _ _ hXg.1]
end Go.Proofs.YtbfnemkngoaeeaaGreat
