/- Proved here: The project of the statements about media; conditions stand in each theorem. -/
import Derived.Test.YtbfnemkngoaeeaaGreatQ35
import Derived.Test.YtbfnemkngoaeeaaGreatQ36
import Derived.Test.YtbfnemkngoaeeaaGreatQ34
import Derived.Test.YtbfnemkngoaeeaaGreatQ06
import Derived.Test.YtbfnemkngoaeeaaGreatQ39
import Derived.Test.YtbfnemkngoaeeaaGreatQ41
import Derived.Test.YtbfnemkngoaeeaaGreatQ37
set_option linter.unusedSimpArgs false
set_option linter.unusedVariables false
set_option linter.unusedSectionVars false
set_option linter.unnecessarySimpa false
namespace Go.Proofs.YtbfnemkngoaeeaaGreat
open Go.RowKit
set_option maxRecDepth 4000
def tK (a b:MediumR):MediumR := { b with seq:=a.seq,frames:=a.frames,channels:=a.channels,samples:=a.samples }
def Ka (M:List MediumR):List MediumR:=if 1<M.length then M.set 1 (tK (M.getD 0 default) (M.getD 1 default)) else M
def fZ (L:List Int):ProjR:=⟨Ka (kF L).media ++ [{ (kF L).media.getD 0 default with name:=spareN }],(kF L).seqs⟩
theorem Qy {α : Type} [Inhabited α] {c : α → List T} {l:List α} {k:Nat} (h:k<l.length) (d:List T):nth d (l.map c) k=c (l.getD k default):=by
 unfold nth;rw [List.getElem?_map,List.getD_eq_getElem?_getD,List.getElem?_eq_getElem h];rfl
theorem nth_set {xs:List (List T)} {k:Nat} (h:k<xs.length) (d r:List T):nth d (xs.set k r) k=r:=by
 unfold nth;rw [List.getElem?_set_self h];rfl
theorem as_dW {k:Nat} {d d':List T} {xs:List (List T)}:∀ (w:World) (E:Env) v,RdV w E (.t (.list k d xs)) v→RdV w E (.t (.list k d' xs)) v:=by
 intro w E v h;simp only [RdV] at h ⊢;cases h with
 | list _ _ _ A c hm hc hn hk hb hr=>exact .list k d' xs A c hm hc hn hk hb hr
theorem aE9 {M:List MediumR} {d:List T} {R:List (List T)} {Q:List SequenceR} {x:V} {h:Heap} (hx:x.lend h = .agg [.t (.list 141 d R), .t (Kv Q)]) (e:R=M.map MediumR.c):vW (rN ⟨M,Q⟩) x h:=by
 subst e;exact rR hx rfl (jZ (by exact ⟨as_dW,cC,trivial⟩))
def vsq (m:MediumR):List V:=m.seq.c.map V.t
theorem aS5 (m:MediumR):List.take 135 (List.drop 2 (dZ m))=vsq m:=(Eq.refl _).trans rfl
theorem aCf (m:MediumR):List.take 141 (dZ m)=dZ m:=(Eq.refl _).trans rfl
theorem aLc (m:MediumR):(vsq m).length=135:=(Eq.refl _).trans rfl
theorem vput_s (b a:MediumR):List.take 2 (dZ b)++vsq a++List.drop 137 (dZ b)=dZ { b with seq:=a.seq }:=(Eq.refl _).trans rfl
theorem aS3 (b:MediumR) (x:Int):List.take 137 (dZ b) ++ [V.t (.lit (.int .i64 x))]++List.drop 138 (dZ b)=dZ { b with frames:=x }:=(Eq.refl _).trans rfl
theorem aS2 (b:MediumR) (x:Int):List.take 138 (dZ b) ++ [V.t (.lit (.int .i64 x))]++List.drop 139 (dZ b)=dZ { b with channels:=x }:=(Eq.refl _).trans rfl
theorem aS1 (b:MediumR) (x:Int):List.take 139 (dZ b) ++ [V.t (.lit (.int .i64 x))]++List.drop 140 (dZ b)=dZ { b with samples:=x }:=(Eq.refl _).trans rfl
theorem aS0 (m:MediumR):(vsq m).all V.isCell=true:=by
 rw [List.all_eq_true];intro x hx;unfold vsq at hx;obtain ⟨t,_,rfl⟩:=List.mem_map.1 hx;rfl
theorem aSp (a b:MediumR):dZ { b with seq:=a.seq,frames:=a.frames,channels:=a.channels,samples:=a.samples }=(MediumR.c (tK a b)).map V.t:=by
 unfold tK dZ;rfl
theorem cProj36 (L:List Int):aM Tryz.prog 18 [.t (bY L)] (rN (fZ L)):=by
 refine cR Tryz.X18 Tryz.func18 rfl Tryz.ntmps18 (by rw [Tryz.results18]) (aD _ ?_);simp only [go_sem,simprocAttr,dtf];refine ⟨_,aW8 L,?_⟩;simp only [go_sem,simprocAttr,dtf];have hs:=aTg L;obtain ⟨P,hP⟩:∃ P,P=kF L:=⟨_,rfl⟩
 have eP:fZ L=⟨Ka P.media ++ [{ P.media.getD 0 default with name:=spareN }],P.seqs⟩:=by rw [hP];rfl
 rw [eP];rw [← hP] at hs ⊢;refine ⟨⟨by unfold maxLen;omega,by omega⟩,fun h1=>?_,fun h1=>?_⟩
 ·simp only [bxx] at h1;unfold awS;simp only [go_sem,simprocAttr,dtf];refine aK 32 .done rfl (by kernel_rfl) (by kernel_rfl) (by decide) ?_;obtain ⟨a,ha⟩:∃ a,a=P.media.getD 0 default:=⟨_,rfl⟩
  obtain ⟨b,hb⟩:∃ b,b=P.media.getD 1 default:=⟨_,rfl⟩
  have n0:∀ d,nth d (P.media.map MediumR.c) 0=MediumR.c a:=fun d=>by rw [ha];exact Qy (by omega) d
  have n1:∀ d,nth d (P.media.map MediumR.c) 1=MediumR.c b:=fun d=>by rw [hb];exact Qy (by omega) d
  have hnr:∀ d r,qD d ((aL (P.media.map MediumR.c)).set 1 r) 1=r:=fun d r=>vR MediumR.c (by omega) d r
  have hnq:∀ d r,nth d ((P.media.map MediumR.c).set 1 r) 1=r:=fun d r=>nth_set (by rw [List.length_map];omega) d r
  have hnl:∀ r,((P.media.map MediumR.c).set 1 r).length=P.media.length:=fun r=>by rw [List.length_set,List.length_map]
  have hnr:∀ d r,qD d ((aL (P.media.map MediumR.c)).set 1 r) 1=r:=fun d r=>vR MediumR.c (by omega) d r
  simp only [go_sem,simprocAttr,dtf,n0,n1,aS5,aCj,aCh,aCg,aLc,zJ,List.set_set,hnr,vput_s,aS3,aS2,aS1];refine ⟨by omega,by omega,by omega,by omega,by omega,by omega,by omega,by omega,by omega,⟨aS0 a,by omega⟩,by omega,by omega,by omega,by omega,by omega,by omega,chkQ (by kernel_rfl),?_⟩;rw [sZ MediumR.c (tK a b) (aSp a b)];have eM:Ka P.media=P.media.set 1 (tK a b):=by unfold Ka;rw [if_pos (by omega),ha,hb]
  have hl1:(P.media.set 1 (tK a b)).length=P.media.length:=List.length_set;have m0:∀ d,nth d ((P.media.set 1 (tK a b)).map MediumR.c) 0=MediumR.c a:=fun d=>by
   rw [Qy (by omega),ha,List.getD_eq_getElem?_getD,List.getElem?_set_ne (by decide), ← List.getD_eq_getElem?_getD]
  rw [eM, ← ha];simp only [go_sem,simprocAttr,dtf,m0,hl1,aCf];refine ⟨by omega,by omega,⟨by unfold maxLen;omega,by omega⟩,?_⟩;refine aE9 (d:=Tryz.z82.map T.lit) (R:=(P.media.set 1 (tK a b)).map MediumR.c ++ [MediumR.c { a with name:=spareN }]) ?_ ?_
  ·simp only [go_sem,simprocAttr,dtf];rfl
  ·rw [List.map_append];rfl
 ·simp only [bxx] at h1;have eM:Ka P.media=P.media:=by unfold Ka;rw [if_neg (by omega)]
  rw [eM];obtain ⟨a,ha⟩:∃ a,a=P.media.getD 0 default:=⟨_,rfl⟩
  have n0:∀ d,nth d (P.media.map MediumR.c) 0=MediumR.c a:=fun d=>by rw [ha];exact Qy (by omega) d
  unfold awS;simp only [go_sem,simprocAttr,dtf,n0,aS5,aCj,aCh,aCg,aLc,aCf];refine ⟨by omega,by omega,⟨by unfold maxLen;omega,by omega⟩,?_⟩;rw [← ha];refine aE9 (d:=Tryz.z82.map T.lit) (R:=P.media.map MediumR.c ++ [MediumR.c { a with name:=spareN }]) ?_ ?_
  ·simp only [go_sem,simprocAttr,dtf];rfl
  ·rw [List.map_append];rfl
open Go.RowKit
set_option maxRecDepth 4000
theorem cSumN:aM Tryz.prog 68 [.t (.lit (.slice none 0 0))] (dS 14695981039346656037):=by
 refine aH Tryz.X68 Tryz.func68 rfl Tryz.ntmps68 (by rw [Tryz.results68]) (aD _ ?_);simp only [go_sem,simprocAttr,dtf];refine aF (fun (k:Nat) σ => σ) (fun k=>k=0) (fun k=>0) 0 (aB ?_) rfl ?_
 ·simp only [go_sem,simprocAttr,dtf]
 ·rintro k rfl;refine aD _ ?_;simp only [go_sem,simprocAttr,dtf]
def nF:ByteArray:=⟨#[102]⟩
def nA:ByteArray:=⟨#[97]⟩
def e0:ByteArray:=⟨#[]⟩
def aEs:List EventR:=[⟨1,e0,nF,e0,7⟩,⟨3,nA,nF,e0,0⟩,⟨2,e0,nF,e0,0⟩,⟨1,e0,nF,e0,7⟩]
def aSt:StateR:=⟨[⟨nF,7,true⟩],[⟨nA,nF,7,e0⟩]⟩
theorem a_run:bP ⟨[],[]⟩ aEs=(aSt,[⟨nA,1⟩,⟨nA,3⟩,⟨nA,1⟩],[0,0,0,0]):=by kernel_rfl
theorem a_st0:status ⟨[],[]⟩ nA=0:=by kernel_rfl
theorem a_st1:status aSt nA=1:=by kernel_rfl
theorem aWv:aM Tryz.prog 24 [] (aS true):=by
 have c1:=cPRun ⟨[],[]⟩ aEs aJu (by decide) (by decide);rw [a_run] at c1;have c2:=yD ⟨[],[]⟩ nA (by decide) (by decide);rw [a_st0] at c2;have c3:=yD aSt nA (by decide) (by decide);rw [a_st1] at c3;refine aH Tryz.X24 Tryz.func24 rfl Tryz.ntmps24 (by rw [Tryz.results24]) (aD _ ?_);simp only [go_sem,simprocAttr,dtf];refine jK ?_;simp only [go_sem,simprocAttr,dtf];refine ⟨_,sA (.cons (jZ (by exact ⟨eN,eN,trivial⟩)) (.cons cC .nil)) c1,?_⟩;simp only [go_sem,simprocAttr,dtf];refine ⟨_,cSumN,?_⟩;simp only [go_sem,simprocAttr,dtf];refine ⟨_,sA (.cons (jZ (by exact ⟨eN,eN,trivial⟩)) (.cons cC .nil)) c2,?_⟩;simp only [go_sem,simprocAttr,dtf];refine ⟨_,c3,?_⟩;have t0:∀ (d x:List T) (l:List (List T)),nth d (x::l) 0=x:=fun _ _ _=>rfl
 have t1:∀ (d x y:List T) (l:List (List T)),nth d (x::y::l) 1=y:=fun _ _ _ _=>rfl
 have t2:∀ (d x y z:List T) (l:List (List T)),nth d (x::y::z::l) 2=z:=fun _ _ _ _ _=>rfl
 simp only [go_sem,simprocAttr,dtf,t0,t1,t2]
open Go.RowKit
set_option maxRecDepth 4000
theorem Qm (s:StateR) (n:ByteArray):bW s n=match fE s.links n with | none=>⟨#[]⟩ | some l=>l.proxy:=by
 unfold bW
 by_cases h:mG s.links n<0
 ·rw [if_pos h,Ry.1 h]
 ·rw [if_neg h,Gu h]
def aHr (l:LinkR):Prop:=(l.file=bF0∨l.file=bF1∨l.file=bF2)∧(l.proxy=gT∨l.proxy=sJ∨l.proxy=bM1)
def EvG (e:EventR):Prop:=(e.kind≠5→(e.file=bF0∨e.file=bF1∨e.file=bF2))∧(e.kind≤5)∧(e.proxy=gT∨e.proxy=sJ∨e.proxy=bM1)
theorem Xm {l:List ByteArray} {n:Int} (h0 : 0≤n) (h:n<l.length):Cz l n∈l:=by
 unfold Cz;rw [List.getD_eq_getElem?_getD,List.getElem?_eq_getElem (by omega)];exact List.getElem_mem _
theorem aVg (L:List Int) (k:Nat):EvG (ev1 L k).1:=by
 have t9:=aE (L:=L) (k:=k) (n:=9) (by omega);have t3:=aE (L:=L) (k:=k+1) (n:=3) (by omega);have t5:=aE (L:=L) (k:=k+3) (n:=4) (by omega);have hf:=Xm (l:=[bF0,bF1,bF2]) t3.1 t3.2;have hp:=Xm (l:=[gT,sJ,bM1,sJ]) t5.1 t5.2;simp only [List.mem_cons,List.not_mem_nil,or_false] at hf hp;have hk:Lj [1,1,1,2,3,3,3,4,5] (aA L k 9)≤5:=by
  have:(aA L k 9).toNat=0∨(aA L k 9).toNat=1∨(aA L k 9).toNat=2∨(aA L k 9).toNat=3∨(aA L k 9).toNat=4∨(aA L k 9).toNat=5∨(aA L k 9).toNat=6∨(aA L k 9).toNat=7∨(aA L k 9).toNat=8:=by omega
  unfold Lj;rcases this with h | h | h | h | h | h | h | h | h<;>rw [h]<;>decide
 unfold ev1;simp only;split
 ·exact ⟨fun _=>hf,by simp only;omega, .inl rfl⟩
 ·split
  ·exact ⟨fun _=>hf,by simp only;omega, .inl rfl⟩
  ·split
   ·exact ⟨fun h=>absurd rfl h,by simp only;omega,by rcases hp with h | h | h | h<;>rw [h]<;>simp⟩
   ·exact ⟨fun _=>hf,hk, .inl rfl⟩
theorem Yy (L:List Int):∀ (c k:Nat), ∀ e∈(Td L c k).1,EvG e
 | 0,k,e,h=>by cases h
 | c+1,k,e,h=>by
  simp only [Td] at h;rcases List.mem_cons.1 h with rfl | h
  ·exact aVg L k
  ·exact Yy L c _ e h
theorem aVe (L:List Int) (k:Nat) (n:Int):∀ e∈(My L k n).1,EvG e:=Yy L _ _
theorem Hc {α : Type} [Inhabited α] {P : α → Prop} {l:List α} {j:Nat} {x : α} (h:∀ y∈l,P y) (hx:j<l.length→P x):∀ y∈l.set j x,P y:=by
 intro y hy
 by_cases hj:j<l.length
 ·rcases mem_set_or hy with hy | rfl
  ·exact h y hy
  ·exact hx hj
 ·rw [List.set_eq_of_length_le (by omega)] at hy;exact h y hy
theorem Vd {s:StateR} {e:EventR} (hs:∀ l∈s.links,aHr l) (he:EvG e) (hv : 1≤e.kind):∀ l∈(bJ s e).2.links,aHr l:=by
 have hf:=he.1;have hp:=he.2.2;unfold bJ;split
 ·unfold dJ;split
  ·exact hs
  ·split<;>exact hs
 ·split
  ·unfold gM;split<;>exact hs
  ·split
   ·rename_i h3;unfold cH;split
    ·exact hs
    ·split
     ·split
      ·exact hs
      ·intro l hl;rcases List.mem_append.1 hl with hl | hl
       ·exact hs l hl
       ·rw [List.mem_singleton] at hl;subst hl;exact ⟨hf (by omega), .inl rfl⟩
     ·exact hs
   ·split
    ·rename_i h4;unfold mD;split
     ·exact hs
     ·exact Hc hs fun hj=>⟨hf (by omega),(hs _ (aW hj)).2⟩
    ·unfold jN;split
     ·exact hs
     ·split
      ·exact hs
      ·exact Hc hs fun hj=>⟨(hs _ (aW hj)).1,hp⟩
theorem aA8 {e:EventR} (h:kB e=true) : 1≤e.kind∧e.kind≤5:=by
 apply Classical.byContradiction;intro hc;unfold kB at h;rw [if_neg (by omega),if_neg (by omega),if_neg (by omega),if_neg (by omega)] at h;cases h
theorem Ww:∀ (es:List EventR) (acc:StateR×List OutR×List Int),(∀ e∈es,EvG e)→Ok acc.1→(∀ l∈acc.1.links,aHr l)→Ok (es.foldl jD acc).1 ∧ ∀ l∈(es.foldl jD acc).1.links,aHr l
 | [],acc,_,h1,h2=>⟨h1,h2⟩
 | e::r,acc,he,h1,h2=>by
  refine Ww r (jD acc e) (fun x hx=>he x (by simp [hx])) (Pv e h1) ?_;unfold jD;split
  ·rename_i h0;obtain ⟨q1,q2⟩:=aD5 h1 h0;rw [aLk h1 q1 q2];exact Vd h2 (he e (by simp)) (aA8 q1).1
  ·exact h2
def uX (L:List Int):StateR:=(bP ⟨[],[]⟩ (My L 0 14).1).1
theorem aU9 (L:List Int):Ok (uX L) ∧ ∀ l∈(uX L).links,aHr l:=Ww _ _ (aVe L 0 14) aJu (fun l hl=>by cases hl)
def aB1:ByteArray:=⟨#[111,116,104,101,114]⟩
def aX6:ByteArray:=⟨#[97,108,105,101,110]⟩
def oEs (sum:Int):List EventR:=[⟨1,gT,aB1,gT,sum⟩,⟨3,aX6,aB1,gT,0⟩,⟨2,gT,aB1,gT,0⟩]
structure SameBut (s t:StateR):Prop where
 ok:Ok t
 lk:∀ n,n≠aX6→fE t.links n=fE s.links n
 fl:∀ n,n≠aB1→uY t.files n=uY s.files n
theorem aPq {a b:MediumR} (ha:MedGood 0 a) (hb:MedGood 1 b):MedGood 1 (tK a b):=by
 have h1:=ha.ok;have h2:=hb.ok;refine ⟨hb.name,?_,⟨ha.fit.seq,ha.fit.frames,ha.fit.channels,ha.fit.samples,hb.fit.cues⟩,?_⟩
 ·unfold fC at h1 h2 ⊢;unfold tK;simp only [Bool.and_eq_true] at h1 h2 ⊢;exact ⟨⟨⟨⟨⟨h2.1.1.1.1.1,h1.1.1.1.1.2⟩,h1.1.1.1.2⟩,h1.1.1.2⟩,h1.1.2⟩,h2.2⟩
 ·have:=hb.small;unfold gL at this ⊢;exact this
theorem aU7 (M:List MediumR):(Ka M).length=M.length:=by
 unfold Ka;split<;>simp
theorem aMm {M:List MediumR} {x:Nat} (hx:x<M.length):(Ka M).getD x default=if x=1 then tK (M.getD 0 default) (M.getD 1 default) else M.getD x default:=by
 unfold Ka;split
 ·rename_i h1;rw [List.getD_eq_getElem?_getD,List.getElem?_set]
  by_cases h:x=1
  ·subst h;simp [h1]
  ·rw [if_neg (fun e=>h e.symm),if_neg h,List.getD_eq_getElem?_getD]
 ·rename_i h1;rw [if_neg (by omega)]
theorem aQ4 (L:List Int):∃ M N,SpareP (fZ L) M N:=by
 obtain ⟨M,N,m1,m3,s1,s3,h1,h2,h3,h4⟩:=Lh L;have hl:=aU7 (kF L).media;have h0:(Ka (kF L).media).getD 0 default=(kF L).media.getD 0 default:=by rw [aMm (by omega),if_neg (by decide)]
 refine ⟨M,N,m1,m3,s1,s3,?_,h2,fun x hx=>?_,?_,h4⟩
 ·unfold fZ;rw [List.length_append,hl];simp [h1]
 ·unfold fZ;simp only;rw [aX2 _ (by omega),aMm (by omega)]
  by_cases hx1:x=1
  ·subst hx1;rw [if_pos rfl];exact aPq (h3 0 (by omega)) (h3 1 hx)
  ·rw [if_neg hx1];exact h3 x hx
 ·unfold fZ;simp only;rw [aX2 _ (by omega : 0<(Ka (kF L).media).length),h0,show M=(Ka (kF L).media).length by omega,app_end]
def s0N:ByteArray:=⟨#[115,48]⟩
theorem s0_eq:cX ⟨#[115]⟩ ((0:Nat):Int)=s0N:=ByteArray.ext (by kernel_rfl)
theorem SpareP.uses0 {p:ProjR} {M N:Nat} (h:SpareP p M N):(dN p s0N).2=0:=by
 have hn:=h.hn;have h1:=h.n1;have e:bL p.seqs s0N=some (p.seqs.getD 0 default):=by
  have hl:eU SequenceR.name (p.seqs.getD 0 default).name p.seqs=_:=aQs h.lay.ns (by omega);rw [(h.seq 0 (by omega)).name,s0_eq] at hl;exact hl
 unfold dN;rw [dY h.lay,e];rfl
end Go.Proofs.YtbfnemkngoaeeaaGreat
