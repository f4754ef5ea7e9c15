/- Proved here: Frames of films, the reference: shares, sources, pictures, for use in the proofs of the given statements; conditions stand in each theorem. -/
import Derived.Test.YtmbmmijdmdoalaaGreatYM
import Derived.Test.YtmbmmijdmdoalaaGreatZK
set_option linter.unusedSimpArgs false
set_option linter.unusedVariables false
set_option linter.unusedSectionVars false
set_option linter.unnecessarySimpa false
namespace Go.Proofs.YtmbmmijdmdoalaaGreat
open Go.RowKit
set_option maxRecDepth 4000
theorem moved_floor {s:SourceR} {p d:Nat} (ok:SrcOk s p d) (k:Int):∃ g:Nat,0<g∧posS s k=(movedQ s k).num*(g:Int)∧(baseS s:Int)=((movedQ s k).den:Int)*(g:Int)∧0<(movedQ s k).den:=by
 obtain ⟨m1,m2⟩:=moved_parts ok k
 obtain ⟨e1,e2⟩:=posS_eq ok k
 have hb : 0<Nat.lcm p d:=Nat.lcm_pos ok.p1 ok.d1
 have hg : 0<Nat.gcd (numB s k p d).natAbs (Nat.lcm p d):=Nat.gcd_pos_of_pos_right _ hb
 refine ⟨Nat.gcd (numB s k p d).natAbs (Nat.lcm p d),hg,?_,?_,(movedQ s k).den_pos⟩
 ·rw [e2,m1]
  exact (Int.ediv_mul_cancel (Int.ofNat_dvd_left.2 (Nat.gcd_dvd_left _ _))).symm
 ·rw [e1,m2, ← Int.natCast_mul,Nat.div_mul_cancel (Nat.gcd_dvd_right _ _)]
theorem floor_mul {a b:Int} {g:Nat} (hg : 0<g) (hb : 0<b):a*(g:Int) / (b*(g:Int))=a / b∧a*(g:Int) % (b*(g:Int))=a % b*(g:Int):=by
 refine ⟨Int.mul_ediv_mul_of_pos_left a b (by omega),?_⟩
 rw [Int.mul_comm a,Int.mul_comm b,Int.mul_emod_mul_of_pos a b (by omega),Int.mul_comm]
theorem share_scale (op param:Int) {n d:Int} {g:Nat} (hg : 0<g) (a b:ExprR):shareE op param (n*(g:Int)) (d*(g:Int)) a b=shareE op param n d a b:=by
 have e:gcdQ (n*(g:Int)) (d*(g:Int))=gcdQ n d*(g:Int):=by
  unfold gcdQ
  rw [Int.natAbs_mul,Int.natAbs_mul,Int.natAbs_natCast,Nat.gcd_mul_right,Int.natCast_mul]
 unfold shareE
 rw [e,Int.mul_ediv_mul_of_pos_left _ _ (by omega),Int.mul_ediv_mul_of_pos_left _ _ (by omega)]
theorem picE_moved (R:ExprR→ExprR) (F:SourceR→Int→ExprR) {s:SourceR} {p d:Nat} (ok:SrcOk s p d) (k:Int):picE R F s k =
  if s.smooth=true∧(movedQ s k).num % ((movedQ s k).den:Int)≠0 then R (shareE 2 0 ((movedQ s k).num % ((movedQ s k).den:Int)) ((movedQ s k).den:Int) (F s ((movedQ s k).num / ((movedQ s k).den:Int))) (F s ((movedQ s k).num / ((movedQ s k).den:Int)+1)))
  else F s ((movedQ s k).num / ((movedQ s k).den:Int)):=by
 obtain ⟨g,hg,h1,h2,h3⟩:=moved_floor ok k
 obtain ⟨q1,q2⟩:=floor_mul (a:=(movedQ s k).num) (b:=((movedQ s k).den:Int)) hg (by omega)
 have hk:s.kind≠0:=by rcases ok.kind with e | e<;>omega
 unfold picE
 rw [if_neg hk,h1,h2,q1,q2,share_scale _ _ hg]
 have hz:(movedQ s k).num % ((movedQ s k).den:Int)*(g:Int)≠0 ↔ (movedQ s k).num % ((movedQ s k).den:Int)≠0:=by
  constructor
  ·intro h e;exact h (by rw [e];simp)
  ·intro h e
   rcases Int.mul_eq_zero.1 e with e | e
   ·exact h e
   ·omega
 simp only [hz]
theorem cRMix (op:Int) (n d:Nat) (a b:ExprR) (hd : 1≤d) (hn2:n≤4294967296) (hd2:d≤4294967296):CPure Tryz.prog 195 [vint op,vint n,vint d,vexpr a,vexpr b] (vexpr (shareE op 0 n d a b)):=by
 have hg : 0<Nat.gcd n d:=Nat.gcd_pos_of_pos_right _ hd
 have q1:n / Nat.gcd n d≤n:=Nat.div_le_self _ _
 have q2:d / Nat.gcd n d≤d:=Nat.div_le_self _ _
 rcases a with ⟨o1,m1,f1,n1,d1,p1,t1,a1⟩
 rcases b with ⟨o2,m2,f2,n2,d2,p2,t2,a2⟩
 refine cpure_ofW Tryz.xen195 Tryz.func195 rfl Tryz.ntmps195 (by rw [Tryz.results195]) (aw_ok _ ?_)
 simp only [go_sem,simprocAttr]
 refine ⟨_,cRGcd n d (by omega) (by omega),?_⟩
 simp only [go_sem,simprocAttr,Int.natAbs_natCast]
 refine drawC_of 12 .done rfl (by kernel_rfl) (by kernel_rfl) (by decide) ?_
 simp only [go_sem,simprocAttr,tdiv_nat,wrapN (n:=n / Nat.gcd n d) (by omega),wrapN (n:=d / Nat.gcd n d) (by omega)]
 refine ⟨by omega,by omega,by kernel_rfl,pureW_self ?_ rfl⟩
 simp only [go_sem,simprocAttr]
 have e1:((n:Int)) / gcdQ n d=((n / Nat.gcd n d:Nat):Int):=by unfold gcdQ;rw [Int.natAbs_natCast,Int.natAbs_natCast];rfl
 have e2:((d:Int)) / gcdQ n d=((d / Nat.gcd n d:Nat):Int):=by unfold gcdQ;rw [Int.natAbs_natCast,Int.natAbs_natCast];rfl
 unfold shareE
 rw [e1,e2]
 simp only [vexpr_mk,vex,texprs,List.map_cons,List.map_nil,ExprR.c,cs_eq]
 rfl
theorem idx_of {α : Type} [Inhabited α] {nm : α → ByteArray} {n:ByteArray} {l:List α} {x : α} (hnd:(l.map nm).Nodup) (h:lastOf nm n l=some x):∃ k,k<l.length∧fIdx (fun y=>(nm y).toList==n.toList) l=(k:Int)∧l.getD k default=x:=by
 obtain ⟨h1,h2⟩:=lastOf_mem h
 obtain ⟨i,hi,he⟩:=List.getElem_of_mem h1
 have:=fIdx_nodup hnd hi
 rw [getD_of_lt hi,he,h2] at this
 exact ⟨i,hi,this,by rw [getD_of_lt hi,he]⟩
theorem cRStill (p:ProjR) (h:FilmOk p) (G:ByteArray→Int→ExprR) (s:SourceR) (i:Int) (hk:s.kind=1∨s.kind=2) (h2:s.kind=2→(seqOf p.seqs s.name).isSome=true) (h1:s.kind=1→(medOf p.media s.name).isSome=true)
  (hG:s.kind=2 → ∀ q,seqOf p.seqs s.name=some q→CPure Tryz.prog 65 [vproj p,vsequence q,vint i] (vexpr (G s.name i))) :
  CPure Tryz.prog 239 [vproj p,vsource s,vint i] (vexpr (leafE p G s i)):=by
 refine cpure_ofW Tryz.xen239 Tryz.func239 rfl Tryz.ntmps239 (by rw [Tryz.results239]) (aw_ok _ ?_)
 simp only [go_sem,simprocAttr]
 refine ⟨fun hh=>?_,fun hh=>?_⟩
 ·simp only [bxx] at hh
  obtain ⟨q,hq⟩:=Option.isSome_iff_exists.1 (h2 hh)
  obtain ⟨k,k1,k2,k3⟩:=idx_of h.uniq.2 hq
  have hseq:=cRSequence p s.name
  rw [k2] at hseq
  have e:leafE p G s i=G s.name i:=by unfold leafE;rw [if_pos hh]
  rw [e]
  have hg:=hG hh q hq
  unfold awS
  simp only [go_sem,simprocAttr]
  refine drawC_of 12 .done rfl (by kernel_rfl) (by kernel_rfl) (by decide) ?_
  simp only [go_sem,simprocAttr]
  refine ⟨_,hseq,?_⟩
  simp only [go_sem,simprocAttr,k3]
  refine ⟨⟨by omega,by omega⟩,_,hg,?_⟩
  generalize G s.name i=x
  rcases x with ⟨op,media,frame,num,den,param,text,args⟩
  simp only [go_sem,simprocAttr]
  exact ⟨by kernel_rfl,pureW_self rfl rfl⟩
 ·simp only [bxx] at hh
  have hk1:s.kind=1:=by omega
  obtain ⟨m,hm⟩:=Option.isSome_iff_exists.1 (h1 hk1)
  obtain ⟨k,k1,k2,k3⟩:=idx_of h.uniq.1 hm
  have hmed:=cRMedium p s.name
  rw [k2] at hmed
  have e:leafE p G s i=if i<0∨m.frames≤i then zeroE else .mk 1 s.name i 0 0 0 ⟨#[]⟩ []:=by unfold leafE medFr;rw [if_neg hh,hm]
  rw [e]
  unfold awS
  simp only [go_sem,simprocAttr]
  refine drawR_of [0,1,2,3,4,5,6,7,8,9,10,11,12,13,14] .done rfl (by kernel_rfl) (by kernel_rfl) (by decide) ?_
  simp only [go_sem,simprocAttr]
  refine ⟨_,fun _=>hmed,?_⟩
  simp only [go_sem,simprocAttr,k3]
  refine ⟨fun _=>⟨by omega,by omega⟩,fun h3=>?_,fun h3=>?_⟩
  ·have h3':i<0∨m.frames≤i:=by simpa using h3
   rw [if_pos h3']
   unfold awS
   simp only [go_sem,simprocAttr]
   exact pureW_zeroE
  ·have h3' : ¬ (i<0∨m.frames≤i):=by simpa using h3
   rw [if_neg h3']
   unfold awS
   simp only [go_sem,simprocAttr]
   exact pureW_vexN ..
theorem cRPic (p:ProjR) (F:SourceR→Int→ExprR) (s:SourceR) (k:Int) (hf:s.fit) (hv:vSource s=true) (hk : 0≤k∧k≤2147483647)
  (hF:s.kind≠0 → ∀ i,I64 i→CPure Tryz.prog 239 [vproj p,vsource s,vint i] (vexpr (F s i))) :
  CPure Tryz.prog 194 [vproj p,vsource s,vint k] (vexpr (picE id F s k)):=by
 refine cpure_ofW Tryz.xen194 Tryz.func194 rfl Tryz.ntmps194 (by rw [Tryz.results194]) (aw_ok _ ?_)
 simp only [go_sem,simprocAttr]
 refine ⟨_,cBlack s,?_⟩
 simp only [go_sem,simprocAttr]
 refine ⟨fun hz=>?_,fun hz=>?_⟩
 ·have hk0:=kind_isZ hz
  have e:picE id F s k=zeroE:=by unfold picE;rw [if_pos hk0]
  rw [e]
  unfold awS
  simp only [go_sem,simprocAttr]
  exact pureW_zeroE
 ·obtain ⟨pp,dd,ok⟩:=srcOk_of hv hz
  have hk0:s.kind≠0:=by rcases ok.kind with e | e<;>omega
  have hm:=cRMoved s k hf hv (by omega)
  have hms:movedS s k = { s with pos:=ofQ (movedQ s k) }:=by unfold movedS;rw [hz];rfl
  rw [hms] at hm
  obtain ⟨b1,b2⟩:=moved_bounds ok (n:=k) (by omega)
  have hb3:(movedQ s k).den≤65536:=Nat.le_trans (Nat.le_of_dvd (Nat.lcm_pos ok.p1 ok.d1) b2) ok.lcm
  rw [picE_moved id F ok k]
  have hdp:=(movedQ s k).den_pos
  generalize placedOk { s with pos:=ofQ (movedQ s k) }=pl at hm
  unfold ofQ at hm
  generalize (movedQ s k).num=nu at *
  generalize (movedQ s k).den=de at *
  unfold awS
  simp only [go_sem,simprocAttr]
  refine ⟨_,hm,?_⟩
  simp only [go_sem,simprocAttr]
  obtain ⟨t1,t2⟩:=ediv_of (a:=nu) (b:=(de:Int)) (by omega)
  have hq:(nu.tdiv (de:Int)).natAbs≤nu.natAbs:=by
   rw [Int.natAbs_tdiv]
   exact Nat.div_le_self _ _
  have hrb1:=Int.emod_nonneg nu (show (de:Int)≠0 by omega)
  have hrb2:=Int.emod_lt_of_pos nu (show (0:Int)<de by omega)
  refine drawR_of [0,1,2,3,4,5,6,7,8,9,10,11,12,13,14,15] .done rfl (by kernel_rfl) (by kernel_rfl) (by decide) ?_
  simp only [go_sem,simprocAttr,wrap64 (x:=nu.tdiv (de:Int)) (by omega) (by omega)]
  refine ⟨by omega,by omega,fun h3=>?_,fun h3=>?_⟩
  ·simp only [bxx] at h3
   obtain ⟨g1,g2⟩:=t2 h3
   have wq:IntKind.i64.wrap (nu.tdiv (de:Int) - 1)=nu / (de:Int):=by rw [← g1];exact wrap64 (by omega) (by omega)
   have wr:IntKind.i64.wrap (nu.tmod (de:Int)+(de:Int))=nu % (de:Int):=by rw [← g2];exact wrap64 (by omega) (by omega)
   unfold awS
   simp only [go_sem,simprocAttr]
   refine drawR_of [0,1,2,3,4,5,6,7,8] .done rfl (by kernel_rfl) (by kernel_rfl) (by decide) ?_
   simp only [go_sem,simprocAttr,wq,wr]
   refine brW (b:=decide (s.smooth=true∧nu % (de:Int)≠0)) ?_ ⟨fun h4=>?_,fun h4=>?_⟩
   ·rw [Bool.eq_iff_iff,Bool.and_eq_true,decide_eq_true_eq,decide_eq_true_eq]
    constructor
    ·rintro ⟨u1,u2⟩;exact ⟨u1,by omega⟩
    ·rintro ⟨u1,u2⟩;exact ⟨u1,by omega⟩
   ·have e2:=of_decide_eq_true h4
    rw [if_pos e2]
    obtain ⟨rr,hrr⟩:∃ rr:Nat,nu % (de:Int)=rr:=⟨(nu % (de:Int)).toNat,by omega⟩
    have c1:=hF hk0 (nu / (de:Int)) ⟨by omega,by omega⟩
    have c2:=hF hk0 (nu / (de:Int)+1) ⟨by omega,by omega⟩
    have w1:IntKind.i64.wrap (nu / (de:Int)+1)=nu / (de:Int)+1:=wrap64 (by omega) (by omega)
    have hmx:=cRMix 2 rr de (F s (nu / (de:Int))) (F s (nu / (de:Int)+1)) hdp (by omega) (by omega)
    unfold awS
    rw [hrr]
    simp only [go_sem,simprocAttr,hrr]
    refine drawC_of 15 .done rfl (by kernel_rfl) (by kernel_rfl) (by decide) ?_
    simp only [go_sem,simprocAttr]
    refine ⟨_,c1,?_⟩
    generalize F s (nu / (de:Int))=x at hmx ⊢
    rcases x with ⟨op,media,frame,num,den,param,text,args⟩
    simp only [go_sem,simprocAttr,w1]
    refine ⟨_,c2,?_⟩
    generalize F s (nu / (de:Int)+1)=y at hmx ⊢
    rcases y with ⟨op',media',frame',num',den',param',text',args'⟩
    simp only [go_sem,simprocAttr]
    refine ⟨_,hmx,?_⟩
    unfold id
    generalize shareE 2 0 (rr:Int) (de:Int) _ _=z
    rcases z with ⟨op3,media3,frame3,num3,den3,param3,text3,args3⟩
    simp only [go_sem,simprocAttr]
    exact ⟨by kernel_rfl,pureW_self rfl rfl⟩
   ·have e2:=of_decide_eq_false h4
    rw [if_neg e2]
    unfold awS
    simp only [go_sem,simprocAttr]
    refine ⟨_,hF hk0 _ ⟨by omega,by omega⟩,?_⟩
    generalize F s (nu / (de:Int))=x
    rcases x with ⟨op,media,frame,num,den,param,text,args⟩
    simp only [go_sem,simprocAttr]
    exact pureW_self rfl rfl
  ·simp only [bxx] at h3
   obtain ⟨g1,g2⟩:=t1 h3
   unfold awS
   rw [← g1, ← g2]
   simp only [go_sem,simprocAttr]
   refine brW (b:=decide (s.smooth=true∧nu % (de:Int)≠0)) ?_ ⟨fun h4=>?_,fun h4=>?_⟩
   ·rw [Bool.eq_iff_iff,Bool.and_eq_true,decide_eq_true_eq,decide_eq_true_eq]
    constructor
    ·rintro ⟨u1,u2⟩;exact ⟨u1,by omega⟩
    ·rintro ⟨u1,u2⟩;exact ⟨u1,by omega⟩
   ·have e2:=of_decide_eq_true h4
    rw [if_pos e2]
    obtain ⟨rr,hrr⟩:∃ rr:Nat,nu % (de:Int)=rr:=⟨(nu % (de:Int)).toNat,by omega⟩
    have c1:=hF hk0 (nu / (de:Int)) ⟨by omega,by omega⟩
    have c2:=hF hk0 (nu / (de:Int)+1) ⟨by omega,by omega⟩
    have w1:IntKind.i64.wrap (nu / (de:Int)+1)=nu / (de:Int)+1:=wrap64 (by omega) (by omega)
    have hmx:=cRMix 2 rr de (F s (nu / (de:Int))) (F s (nu / (de:Int)+1)) hdp (by omega) (by omega)
    unfold awS
    rw [hrr]
    simp only [go_sem,simprocAttr,hrr]
    refine drawC_of 15 .done rfl (by kernel_rfl) (by kernel_rfl) (by decide) ?_
    simp only [go_sem,simprocAttr]
    refine ⟨_,c1,?_⟩
    generalize F s (nu / (de:Int))=x at hmx ⊢
    rcases x with ⟨op,media,frame,num,den,param,text,args⟩
    simp only [go_sem,simprocAttr,w1]
    refine ⟨_,c2,?_⟩
    generalize F s (nu / (de:Int)+1)=y at hmx ⊢
    rcases y with ⟨op',media',frame',num',den',param',text',args'⟩
    simp only [go_sem,simprocAttr]
    refine ⟨_,hmx,?_⟩
    unfold id
    generalize shareE 2 0 (rr:Int) (de:Int) _ _=z
    rcases z with ⟨op3,media3,frame3,num3,den3,param3,text3,args3⟩
    simp only [go_sem,simprocAttr]
    exact ⟨by kernel_rfl,pureW_self rfl rfl⟩
   ·have e2:=of_decide_eq_false h4
    rw [if_neg e2]
    unfold awS
    simp only [go_sem,simprocAttr]
    refine ⟨_,hF hk0 _ ⟨by omega,by omega⟩,?_⟩
    generalize F s (nu / (de:Int))=x
    rcases x with ⟨op,media,frame,num,den,param,text,args⟩
    simp only [go_sem,simprocAttr]
    exact pureW_self rfl rfl
open Go.RowKit
set_option maxRecDepth 4000
theorem cRClipE (p:ProjR) (F:SourceR→Int→ExprR) (c:ClipR) (k:Int) (hv:vClip c=true) (h0:c.kind≠0) (hk : 0≤k∧k<c.len)
  (hA:CPure Tryz.prog 194 [vproj p,vsource c.a,vint k] (vexpr (picE id F c.a k))) (hB:CPure Tryz.prog 194 [vproj p,vsource c.b,vint k] (vexpr (picE id F c.b k))) :
  CPure Tryz.prog 132 [vproj p,vclip c,vint k] (vexpr (clipE id F c k)):=by
 unfold vClip kindOk at hv
 rw [Bool.and_eq_true,if_neg h0] at hv
 obtain ⟨hb,hv⟩:=hv
 unfold baseOk at hb
 simp only [Bool.and_eq_true,decide_eq_true_eq] at hb
 have e1:c.kind=1→clipE id F c k=picE id F c.a k:=fun h=>by unfold clipE;rw [if_pos h]
 have e2:c.kind=2→clipE id F c k=shareE 2 0 (c.off+k+1) (c.total+1) (picE id F c.a k) (picE id F c.b k):=fun h=>by
  rw [if_neg (by omega),if_pos h] at hv
  simp only [Bool.and_eq_true,beq_iff_eq] at hv
  unfold clipE
  rw [if_neg (by omega),if_neg (by omega),if_neg (by omega),h,hv.1.2]
  rfl
 have e3:c.kind=3→clipE id F c k=shareE 3 c.param (c.off+k+1) (c.total+1) (picE id F c.a k) (picE id F c.b k):=fun h=>by
  unfold clipE
  rw [if_neg (by omega),if_neg (by omega),if_neg (by omega),h]
  rfl
 have e4:c.kind=4→clipE id F c k = .mk 4 ⟨#[]⟩ 0 0 0 c.param ⟨#[]⟩ [picE id F c.a k,picE id F c.b k]:=fun h=>by
  unfold clipE
  rw [if_neg (by omega),if_neg (by omega),if_pos h]
  rfl
 have e5:c.kind=5→clipE id F c k = .mk 5 ⟨#[]⟩ 0 0 0 0 c.text [picE id F c.a k]:=fun h=>by
  unfold clipE
  rw [if_neg (by omega),if_pos h]
 have hsh:c.kind=2∨c.kind=3→0≤c.off∧c.total≤2147483647∧c.off≤c.total - c.len:=fun h=>by
  rcases h with h | h
  ·rw [if_neg (by omega),if_pos h] at hv
   unfold shareOk at hv
   simp only [Bool.and_eq_true,decide_eq_true_eq,beq_iff_eq] at hv
   omega
  ·rw [if_neg (by omega),if_neg (by omega),if_pos h] at hv
   unfold shareOk at hv
   simp only [Bool.and_eq_true,decide_eq_true_eq,beq_iff_eq] at hv
   omega
 refine cpure_ofW Tryz.xen132 Tryz.func132 rfl Tryz.ntmps132 (by rw [Tryz.results132]) (aw_ok _ ?_)
 simp only [go_sem,simprocAttr]
 refine ⟨_,hA,?_⟩
 generalize picE id F c.a k=x at e1 e2 e3 e4 e5 ⊢
 rcases x with ⟨op,media,frame,num,den,param,text,args⟩
 simp only [go_sem,simprocAttr]
 refine ⟨fun h2=>?_,fun h2=>?_⟩
 ·simp only [bxx] at h2
  obtain ⟨s1,s2,s3⟩:=hsh (.inl h2)
  obtain ⟨nn,hnn⟩:∃ nn:Nat,c.off+k+1=nn:=⟨(c.off+k+1).toNat,by omega⟩
  obtain ⟨dd,hdd⟩:∃ dd:Nat,c.total+1=dd:=⟨(c.total+1).toNat,by omega⟩
  rw [e2 h2,hnn,hdd]
  have hmx:=cRMix 2 nn dd (.mk op media frame num den param text args) (picE id F c.b k) (by omega) (by omega) (by omega)
  unfold awS
  simp only [go_sem,simprocAttr,decide_true,decide_false]
  refine drawC_of 16 .done rfl (by kernel_rfl) (by kernel_rfl) (by decide) ?_
  simp only [go_sem,simprocAttr,decide_true,decide_false,wrap64 (x:=c.off+k) (by omega) (by omega),hnn,hdd,wrapN (n:=nn) (by omega),wrapN (n:=dd) (by omega)]
  refine ⟨_,hB,?_⟩
  generalize picE id F c.b k=y at hmx ⊢
  rcases y with ⟨op',media',frame',num',den',param',text',args'⟩
  simp only [go_sem,simprocAttr,decide_true,decide_false]
  refine ⟨_,hmx,?_⟩
  generalize shareE 2 0 (nn:Int) (dd:Int) _ _=z
  rcases z with ⟨op3,media3,frame3,num3,den3,param3,text3,args3⟩
  simp only [go_sem,simprocAttr]
  exact ⟨by kernel_rfl,pureW_self rfl rfl⟩
 ·simp only [bxx] at h2
  unfold awS
  simp only [go_sem,simprocAttr]
  refine ⟨fun h3=>?_,fun h3=>?_⟩
  ·simp only [bxx] at h3
   obtain ⟨s1,s2,s3⟩:=hsh (.inr h3)
   obtain ⟨nn,hnn⟩:∃ nn:Nat,c.off+k+1=nn:=⟨(c.off+k+1).toNat,by omega⟩
   obtain ⟨dd,hdd⟩:∃ dd:Nat,c.total+1=dd:=⟨(c.total+1).toNat,by omega⟩
   rw [e3 h3,hnn,hdd]
   have hmx:=cRMix 3 nn dd (.mk op media frame num den param text args) (picE id F c.b k) (by omega) (by omega) (by omega)
   unfold awS
   simp only [go_sem,simprocAttr,decide_true,decide_false]
   refine drawC_of 17 .done rfl (by kernel_rfl) (by kernel_rfl) (by decide) ?_
   simp only [go_sem,simprocAttr,decide_true,decide_false,wrap64 (x:=c.off+k) (by omega) (by omega),hnn,hdd,wrapN (n:=nn) (by omega),wrapN (n:=dd) (by omega)]
   refine ⟨_,hB,?_⟩
   generalize picE id F c.b k=y at hmx ⊢
   rcases y with ⟨op',media',frame',num',den',param',text',args'⟩
   simp only [go_sem,simprocAttr,decide_true,decide_false]
   refine ⟨_,hmx,?_⟩
   unfold shareE
   simp only [go_sem,simprocAttr,decide_true,decide_false]
   exact ⟨by kernel_rfl,pureW_self rfl rfl⟩
  ·simp only [bxx] at h3
   unfold awS
   simp only [go_sem,simprocAttr]
   refine ⟨fun h4=>?_,fun h4=>?_⟩
   ·simp only [bxx] at h4
    rw [e4 h4]
    unfold awS
    simp only [go_sem,simprocAttr,decide_true,decide_false]
    refine drawC_of 11 .done rfl (by kernel_rfl) (by kernel_rfl) (by decide) ?_
    simp only [go_sem,simprocAttr,decide_true,decide_false]
    refine ⟨_,hB,?_⟩
    generalize picE id F c.b k=y
    rcases y with ⟨op',media',frame',num',den',param',text',args'⟩
    simp only [go_sem,simprocAttr,decide_true,decide_false]
    refine ⟨by kernel_rfl,pureW_self ?_ rfl⟩
    simp only [go_sem,simprocAttr,decide_true,decide_false]
    simp only [vex,texprs,List.map_cons,List.map_nil,ExprR.c,cs_eq]
    rfl
   ·simp only [bxx] at h4
    unfold awS
    simp only [go_sem,simprocAttr]
    refine ⟨fun h5=>?_,fun h5=>?_⟩
    ·simp only [bxx] at h5
     rw [e5 h5]
     unfold awS
     simp only [go_sem,simprocAttr,decide_true,decide_false]
     refine pureW_self ?_ rfl
     simp only [go_sem,simprocAttr,decide_true,decide_false]
     simp only [vex,texprs,List.map_cons,List.map_nil,ExprR.c,cs_eq]
     rfl
    ·simp only [bxx] at h5
     have hk1:c.kind=1:=by
      by_cases h1:c.kind=1
      ·exact h1
      ·rw [if_neg h1,if_neg h2,if_neg h3,if_neg h4,if_neg h5] at hv
       cases hv
     rw [e1 hk1]
     unfold awS
     simp only [go_sem,simprocAttr]
     exact pureW_self rfl rfl
theorem trk_nth {v:List (List ClipR)} {k:Nat} (h:k<v.length) (d:List T):nth d (v.map trackC) k=trackC (v.getD k []):=by
 unfold nth
 rw [List.getElem?_map,List.getElem?_eq_getElem h,List.getD_eq_getElem?_getD,List.getElem?_eq_getElem h]
 rfl
theorem findT_hit {t:List ClipR} (hv:vTrack t=true) (n:Int):hitT t n=if (findT t n).2.2=true∧(t.getD (findT t n).1.toNat default).kind≠0 then some (t.getD (findT t n).1.toNat default,(findT t n).2.1) else none:=by
 by_cases hn : 0≤n
 ·have e:findT t n=findL t 0 n:=by unfold findT;rw [if_pos ⟨hv,hn⟩]
  rw [e]
  unfold hitT
  simp only [hn,true_and]
 ·have e:findT t n=(0,0,false):=by unfold findT;rw [if_neg (fun h=>hn h.2)]
  rw [e]
  unfold hitT
  rw [if_neg (fun h=>hn h.1),if_neg (fun h=>by cases h.1)]
theorem findT_idx {t:List ClipR} (hv:vTrack t=true) {n:Int} (h:(findT t n).2.2=true):∃ r:Nat,r<t.length∧(findT t n).1=(r:Int)∧0≤(findT t n).2.1∧(findT t n).2.1<(t.getD r default).len:=by
 have hv':=hv
 unfold vTrack at hv'
 simp only [Bool.and_eq_true,decide_eq_true_eq,List.all_eq_true] at hv'
 have hp:∀ c∈t,1≤c.len∧c.len≤2147483647:=fun c hc=>vClip_len (hv'.1.2 c hc)
 unfold findT at h ⊢
 split at h
 ·rename_i hh
  rw [if_pos hh]
  obtain ⟨r,r1,r2,r3,r4⟩:=srch_spec t n hp hh.2
  rw [r4 0] at h ⊢
  by_cases hr:r<t.length
  ·rw [if_pos hr]
   have e:=totL_take t r hr
   have h3:=r3 r (Nat.le_refl _) hr
   refine ⟨r,hr,by simp,?_,by simp only;omega⟩
   simp only
   rcases r with _ | r
   ·simp [totL_nil];exact hh.2
   ·have:=r2 r (by omega);omega
  ·rw [if_neg hr] at h
   cases h
 ·cases h
theorem cRFrameS (p:ProjR) (h:FilmOk p) (G:ByteArray→Int→ExprR) (name:ByteArray) (n:Int) (s:SequenceR) (hs:seqOf p.seqs name=some s) (hn:I64 n)
  (hG:∀ m∈inner p name, ∀ q,seqOf p.seqs m=some q → ∀ i,I64 i→CPure Tryz.prog 65 [vproj p,vsequence q,vint i] (vexpr (G m i))) :
  CPure Tryz.prog 65 [vproj p,vsequence s,vint n] (vexpr (showE id (leafE p G) (topT n s.video.reverse))):=by
 have hsm:s∈p.seqs:=(seqOf_mem hs).1
 have hvt:∀ t∈s.video,vTrack t=true ∧ ∀ c∈t,vClip c=true:=fun t ht=>vids_ok h name t (by unfold vidsOf;rw [hs];exact ht)
 have hft:=(h.fit.seqs s hsm).video
 have hvl:s.video.length≤8:=by
  have:=h.small
  unfold smallB at this
  simp only [Bool.and_eq_true,decide_eq_true_eq] at this
  have:=List.all_eq_true.1 this.2 s hsm
  unfold seqSmall at this
  simp only [Bool.and_eq_true,decide_eq_true_eq] at this
  omega
 refine cpure_ofW Tryz.xen65 Tryz.func65 rfl Tryz.ntmps65 (by rw [Tryz.results65]) (aw_ok _ ?_)
 simp only [go_sem,simprocAttr]
 refine awp_loop_f (fun (m:Nat) σ => setS 7 (vint ((m:Int) - 1)) (deadS [8,9,10,15,16,17,18,19,20,21,22,23,24,25,26,27,28,29,30,31,32,33,34,35,36,37,38,39,40,41,42,43,44,45,46,47,48,49,50,51,52,53,54] (cleanS σ))) (fun m=>m≤s.video.length∧topT n (s.video.take m).reverse=topT n s.video.reverse) (fun m=>m) s.video.length (weak_self ?_) ⟨Nat.le_refl _,by rw [List.take_length]⟩ ?_
 ·simp only [go_sem,simprocAttr,wrap64 (x:=(s.video.length:Int) - 1) (by omega) (by omega)]<;>simp
 ·rintro m ⟨hm,ht⟩
  refine aw_ok _ ?_
  simp only [go_sem,simprocAttr]
  refine ⟨fun hlt=>?_,fun hge=>?_⟩
  ·simp only [bxx] at hlt
   obtain ⟨k,rfl⟩:∃ k,m=k+1:=⟨m - 1,by omega⟩
   have hkl:k<s.video.length:=by omega
   rw [topT_take hkl] at ht
   have ek:((k+1:Nat):Int) - 1=(k:Int):=by omega
   have hmem:s.video.getD k []∈s.video:=by rw [List.getD_eq_getElem?_getD,List.getElem?_eq_getElem hkl];exact List.getElem_mem hkl
   obtain ⟨t,htt⟩:∃ t,t=s.video.getD k []:=⟨_,rfl⟩
   have hln:∀ d,nth d (s.video.map trackC) k = [tclips t]:=fun d=>by rw [trk_nth hkl, ← htt];rfl
   rw [← htt] at ht hmem
   obtain ⟨hvT,hvC⟩:=hvt t hmem
   rw [findT_hit hvT] at ht
   have hfi:=cRFind t n hn (hft t hmem)
   unfold awS
   simp only [go_sem,simprocAttr,ek,hln]
   refine ⟨⟨by omega,by omega⟩,_,hfi,?_⟩
   have hidx:=fun hh=>findT_idx hvT (n:=n) hh
   obtain ⟨⟨fi,fo,fb⟩,hfr⟩:∃ fr,findT t n=fr:=⟨_,rfl⟩
   rw [hfr] at ht hidx ⊢
   simp only at ht hidx ⊢
   cases fb with
   | false =>
    rw [if_neg (fun h=>by cases h.1)] at ht
    simp only [go_sem,simprocAttr,ek,hln]
    refine ⟨fun h=>h.elim,fun h=>h.elim,?_⟩
    refine ⟨k,weak_self ?_,⟨by omega,ht⟩,by omega⟩
    simp only [go_sem,simprocAttr]
    rw [wrap64 (x:=(k:Int) - 1) (by omega) (by omega)]
    simp
   | true =>
    obtain ⟨r,q1,q2,q3,q4⟩:=hidx rfl
    subst q2
    rw [Int.toNat_natCast] at ht
    simp only [go_sem,simprocAttr,ek,hln]
    refine ⟨⟨by omega,by omega⟩,⟨by omega,by omega⟩,fun hk0=>?_,fun hk0=>?_⟩
    ·have hk0':(t.getD r default).kind≠0:=by simpa using hk0
     rw [if_pos ⟨rfl,hk0'⟩] at ht
     have ht2:topT n s.video.reverse=some (t.getD r default,fo):=ht.symm
     rw [ht2]
     have hct:t.getD r default∈t:=mem_getD q1
     have hvc:=hvC _ hct
     have hfc:=hft t hmem _ hct
     have hlen:=vClip_len hvc
     obtain ⟨va,vb⟩:=clip_srcs hvc
     have hleaf:∀ x:SourceR,(x=(t.getD r default).a∨x=(t.getD r default).b)→x.kind≠0 → ∀ i,I64 i→CPure Tryz.prog 239 [vproj p,vsource x,vint i] (vexpr (leafE p G x i)):=fun x hx hx0 i hi=>by
      have vx:vSource x=true:=by rcases hx with rfl | rfl;exact va;exact vb
      obtain ⟨pp,dd,ok⟩:=kind_nz vx hx0
      exact cRStill p h G x i ok.kind (fun h2=>(inner_of h hs hmem hct hx h2).2) (fun h1=>med_of h hs hmem hct hx h1) fun h2 q hq=>hG _ (inner_of h hs hmem hct hx h2).1 q hq i hi
     have cc:=cRClipE p (leafE p G) (t.getD r default) fo hvc hk0' ⟨q3,q4⟩ (cRPic p _ _ _ hfc.a va ⟨by omega,by omega⟩ (hleaf _ (.inl rfl))) (cRPic p _ _ _ hfc.b vb ⟨by omega,by omega⟩ (hleaf _ (.inr rfl)))
     unfold showE awS
     simp only [go_sem,simprocAttr]
     refine drawC_of 12 .done rfl (by kernel_rfl) (by kernel_rfl) (by decide) ?_
     simp only [go_sem,simprocAttr,hln]
     refine ⟨⟨by omega,by omega⟩,⟨by omega,by omega⟩,_,cc,?_⟩
     generalize clipE id (leafE p G) (t.getD r default) fo=x
     rcases x with ⟨op,media,frame,num,den,param,text,args⟩
     simp only [go_sem,simprocAttr]
     exact ⟨by kernel_rfl,pureW_self rfl rfl⟩
    ·have hk0' : ¬ ((t.getD r default).kind≠0):=by simpa using hk0
     rw [if_neg (fun h=>hk0' h.2)] at ht
     unfold awS
     simp only [go_sem,simprocAttr]
     refine ⟨k,weak_self ?_,⟨by omega,ht⟩,by omega⟩
     simp only [go_sem,simprocAttr]
     rw [wrap64 (x:=(k:Int) - 1) (by omega) (by omega)]
     simp
  ·simp only [bxx] at hge
   have:m=0:=by omega
   subst this
   simp only [List.take_zero,List.reverse_nil] at ht
   rw [← ht]
   unfold topT showE awS
   simp only [go_sem,simprocAttr]
   exact pureW_zeroE
theorem cRFrameF (p:ProjR) (h:FilmOk p):∀ (d:Nat) (name:ByteArray) (s:SequenceR) (n:Int), ¬ Wk p d name→seqOf p.seqs name=some s→I64 n→CPure Tryz.prog 65 [vproj p,vsequence s,vint n] (vexpr (filmE id p d name n))
 | 0,name,s,n,hw,_,_=>absurd trivial hw
 | d+1,name,s,n,hw,hs,hn=>by
  have:=cRFrameS p h (filmE id p d) name n s hs hn fun m hm q hq i hi=>cRFrameF p h d m q i (wk_inner hw hm) hq hi
  have e2:filmE id p (d+1) name n=showE id (leafE p (filmE id p d)) (topT n s.video.reverse):=by
   conv=>lhs;unfold filmE
   unfold vidsOf
   rw [hs]
   rfl
  rw [e2]
  exact this
end Go.Proofs.YtmbmmijdmdoalaaGreat
