/- Proved here: What the frames of a film are, in plain Lean, for use in the proofs of the given statements; conditions stand in each theorem. -/
import Derived.Test.YtmbmmijdmdoalaaGreatY4
import Derived.Test.YtmbmmijdmdoalaaGreatZK
import Derived.Test.YtmbmmijdmdoalaaGreatYD
import Derived.Test.YtmbmmijdmdoalaaGreatZX
set_option linter.unusedSimpArgs false
set_option linter.unusedVariables false
set_option linter.unusedSectionVars false
set_option linter.unnecessarySimpa false
namespace Go.Proofs.YtmbmmijdmdoalaaGreat
open Go.RowKit
set_option maxRecDepth 4000
def denP (s:SourceR):Nat:=s.pos.den.toNat
def denS (s:SourceR):Nat:=s.speed.den.toNat
def baseS (s:SourceR):Nat:=Nat.lcm (denP s) (denS s)
def atS (s:SourceR):Int:=s.pos.num*((baseS s / denP s:Nat):Int)
def stepS (s:SourceR):Int:=s.speed.num*((baseS s / denS s:Nat):Int)
def posS (s:SourceR) (k:Int):Int:=atS s+k*stepS s
def gcdQ (num den:Int):Int:=((Nat.gcd num.natAbs den.natAbs:Nat):Int)
def redX:ExprR→ExprR
 | .mk op media frame num den param text args=>redE op media frame num den param text args
def shareE (op param num den:Int) (a b:ExprR):ExprR := .mk op ⟨#[]⟩ 0 (num / gcdQ num den) (den / gcdQ num den) param ⟨#[]⟩ [a,b]
def picE (R:ExprR→ExprR) (F:SourceR→Int→ExprR) (s:SourceR) (k:Int):ExprR :=
 if s.kind=0 then zeroE
 else if s.smooth=true∧posS s k % (baseS s:Int)≠0 then
  R (shareE 2 0 (posS s k % (baseS s:Int)) (baseS s) (F s (posS s k / (baseS s:Int))) (F s (posS s k / (baseS s:Int)+1)))
 else F s (posS s k / (baseS s:Int))
def clipE (R:ExprR→ExprR) (F:SourceR→Int→ExprR) (c:ClipR) (k:Int):ExprR :=
 if c.kind=1 then picE R F c.a k
 else if c.kind=5 then .mk 5 ⟨#[]⟩ 0 0 0 0 c.text [picE R F c.a k]
 else if c.kind=4 then R (.mk 4 ⟨#[]⟩ 0 0 0 c.param ⟨#[]⟩ [picE R F c.a k,picE R F c.b k])
 else R (shareE c.kind c.param (c.off+k+1) (c.total+1) (picE R F c.a k) (picE R F c.b k))
def hitT (t:List ClipR) (n:Int):Option (ClipR×Int) :=
 if 0≤n∧(findL t 0 n).2.2=true∧(t.getD (findL t 0 n).1.toNat default).kind≠0 then some (t.getD (findL t 0 n).1.toNat default,(findL t 0 n).2.1) else none
def topT (n:Int):List (List ClipR)→Option (ClipR×Int)
 | []=>none
 | t::ts=>match hitT t n with
  | some r=>some r
  | none=>topT n ts
def medFr (p:ProjR) (n:ByteArray):Int:=match medOf p.media n with
 | some m=>m.frames
 | none=>0
def leafE (p:ProjR) (G:ByteArray→Int→ExprR) (s:SourceR) (i:Int):ExprR :=
 if s.kind=2 then G s.name i
 else if i<0∨medFr p s.name≤i then zeroE else .mk 1 s.name i 0 0 0 ⟨#[]⟩ []
def showE (R:ExprR→ExprR) (F:SourceR→Int→ExprR):Option (ClipR×Int)→ExprR
 | some x=>clipE R F x.1 x.2
 | none=>zeroE
def vidsOf (p:ProjR) (n:ByteArray):List (List ClipR):=((seqOf p.seqs n).getD default).video
def filmE (R:ExprR→ExprR) (p:ProjR):Nat→ByteArray→Int→ExprR
 | 0,_,_=>zeroE
 | d+1,name,n=>showE R (leafE p (filmE R p d)) (topT n (vidsOf p name).reverse)
theorem sim_mk (op:Int) (media:ByteArray) (frame num den param:Int) (text:ByteArray) (a b:ExprR):simE (.mk op media frame num den param text [a,b])=redX (.mk op media frame num den param text [simE a,simE b]):=by
 rw [simE_two];rfl
theorem sim_share (op param num den:Int) (a b:ExprR):simE (shareE op param num den a b)=redX (shareE op param num den (simE a) (simE b)):=sim_mk ..
theorem sim_pic (F:SourceR→Int→ExprR) (s:SourceR) (k:Int):simE (picE id F s k)=picE redX (fun s i=>simE (F s i)) s k:=by
 unfold picE
 split
 ·exact simE_zero
 ·split
  ·rw [id,sim_share]
  ·rfl
theorem sim_clip (F:SourceR→Int→ExprR) (c:ClipR) (k:Int):simE (clipE id F c k)=clipE redX (fun s i=>simE (F s i)) c k:=by
 unfold clipE
 split
 ·exact sim_pic ..
 ·split
  ·rw [simE_one,sim_pic]
  ·split
   ·rw [id,sim_mk,sim_pic,sim_pic]
   ·rw [id,sim_share,sim_pic,sim_pic]
theorem sim_src (n:ByteArray) (i:Int):simE (.mk 1 n i 0 0 0 ⟨#[]⟩ []) = .mk 1 n i 0 0 0 ⟨#[]⟩ []:=by
 simp only [simE,simEs]
 rfl
theorem sim_leaf (p:ProjR) (G:ByteArray→Int→ExprR) (s:SourceR) (i:Int):simE (leafE p G s i)=leafE p (fun n j=>simE (G n j)) s i:=by
 unfold leafE
 split
 ·rfl
 ·split
  ·exact simE_zero
  ·exact sim_src ..
theorem sim_frame (p:ProjR):∀ (d:Nat) (name:ByteArray) (n:Int),simE (filmE id p d name n)=filmE redX p d name n
 | 0,_,_=>simE_zero
 | d+1,name,n=>by
  unfold filmE
  cases topT n (vidsOf p name).reverse with
  | none=>exact simE_zero
  | some x =>
   unfold showE
   rw [sim_clip]
   congr 1
   funext s i
   rw [sim_leaf]
   congr 1
   funext m j
   exact sim_frame p d m j
theorem share_ok {n d:Int} (h0 : 0<n) (h1:n<d) (h2:d≤2147483648):shareB (n / gcdQ n d) (d / gcdQ n d)=true:=by
 obtain ⟨a,rfl⟩:∃ a:Nat,n=a:=⟨n.toNat,by omega⟩
 obtain ⟨b,rfl⟩:∃ b:Nat,d=b:=⟨d.toNat,by omega⟩
 have e:gcdQ (a:Int) (b:Int)=((Nat.gcd a b:Nat):Int):=by unfold gcdQ;simp
 rw [e, ← Int.natCast_ediv, ← Int.natCast_ediv]
 have hg : 0<Nat.gcd a b:=Nat.gcd_pos_of_pos_left _ (by omega)
 have q1 : 0<a / Nat.gcd a b:=Nat.div_pos (Nat.le_of_dvd (by omega) (Nat.gcd_dvd_left a b)) hg
 have q2:a / Nat.gcd a b<b / Nat.gcd a b:=by
  refine Nat.lt_of_mul_lt_mul_left (a:=Nat.gcd a b) ?_
  rw [Nat.mul_div_cancel' (Nat.gcd_dvd_left a b),Nat.mul_div_cancel' (Nat.gcd_dvd_right a b)]
  omega
 have q3:b / Nat.gcd a b≤b:=Nat.div_le_self _ _
 have q4:Nat.gcd (a / Nat.gcd a b) (b / Nat.gcd a b)=1:=Nat.gcd_div_gcd_div_gcd_of_pos_left (by omega)
 unfold shareB vRat
 simp only [Int.natAbs_natCast,q4,Bool.and_eq_true,decide_eq_true_eq]
 refine ⟨⟨⟨by omega,by omega⟩,by omega⟩,⟨by omega,by omega⟩,?_⟩
 first | trivial | rfl
def goodE (e:ExprR):Prop:=validE e=true∧e.fit
theorem goodE_zero:goodE zeroE:=⟨validE_zero,by simp only [zeroE,ExprR.fit,ExprR.fits,I64,and_true,true_and];omega⟩
theorem shareB_le {a b:Int} (h:shareB a b=true) : 0<a∧a<b∧b≤2147483648:=by
 unfold shareB at h
 simp only [Bool.and_eq_true,decide_eq_true_eq] at h
 omega
theorem goodE_share {op param n d:Int} {a b:ExprR} (ho:op=2∧param=0∨op=3∧0≤param∧param≤3) (h0 : 0<n) (h1:n<d) (h2:d≤2147483648) (ha:goodE a) (hb:goodE b):goodE (shareE op param n d a b):=by
 have hs:=share_ok h0 h1 h2
 obtain ⟨b1,b2,b3⟩:=shareB_le hs
 refine ⟨validE_mk ?_ ?_,?_⟩
 ·rcases ho with ⟨rfl,rfl⟩ | ⟨rfl,p1,p2⟩
  ·simp [fieldsOk,noB,hs]
  ·simp [fieldsOk,noB,hs,p1,p2]
 ·intro e he
  simp only [List.mem_cons,List.not_mem_nil,or_false] at he
  rcases he with rfl | rfl
  ·exact ha.1
  ·exact hb.1
 ·simp only [shareE,ExprR.fit,ExprR.fits,I64,and_true]
  exact ⟨by omega,by omega,by omega,by omega,by omega,ha.2,hb.2⟩
theorem posS_eq {s:SourceR} {p d:Nat} (h:SrcOk s p d) (k:Int):baseS s=Nat.lcm p d∧posS s k=numB s k p d:=by
 have e1:denP s=p:=by unfold denP;rw [h.hp];rfl
 have e2:denS s=d:=by unfold denS;rw [h.hd];rfl
 refine ⟨by unfold baseS;rw [e1,e2],?_⟩
 unfold posS atS stepS numB baseS
 rw [e1,e2,Int.mul_assoc]
theorem kind_nz {s:SourceR} (hv:vSource s=true) (h:s.kind≠0):∃ p d,SrcOk s p d:=srcOk_of hv (by
 cases hz:s.isZ with
 | false=>rfl
 | true=>exact absurd (kind_isZ hz) h)
theorem goodE_pic {F:SourceR→Int→ExprR} {s:SourceR} {k:Int} (hv:vSource s=true) (hF:s.kind≠0 → ∀ i,goodE (F s i)):goodE (picE id F s k):=by
 unfold picE
 split
 ·exact goodE_zero
 ·rename_i hk
  split
  ·rename_i hs
   obtain ⟨p,d,ok⟩:=kind_nz hv hk
   obtain ⟨e1,e2⟩:=posS_eq ok k
   have hb : 0<baseS s:=by rw [e1];exact Nat.lcm_pos ok.p1 ok.d1
   have hb2:baseS s≤65536:=by rw [e1];exact ok.lcm
   have r1:=Int.emod_nonneg (posS s k) (show (baseS s:Int)≠0 by omega)
   have r2:=Int.emod_lt_of_pos (posS s k) (show (0:Int)<baseS s by omega)
   exact goodE_share (.inl ⟨rfl,rfl⟩) (by omega) r2 (by omega) (hF hk _) (hF hk _)
  ·exact hF hk _
theorem goodE_clip {F:SourceR→Int→ExprR} {c:ClipR} {k:Int} (hv:vClip c=true) (h0:c.kind≠0) (hk : 0≤k∧k<c.len) (hF:∀ s:SourceR,(s=c.a∨s=c.b)→s.kind≠0 → ∀ i,goodE (F s i)):goodE (clipE id F c k):=by
 obtain ⟨va,vb⟩:=clip_srcs hv
 have ga:=goodE_pic (k:=k) va (hF c.a (.inl rfl))
 have gb:=goodE_pic (k:=k) vb (hF c.b (.inr rfl))
 unfold vClip kindOk at hv
 rw [Bool.and_eq_true] at hv
 obtain ⟨hb,hv⟩:=hv
 unfold baseOk at hb
 simp only [Bool.and_eq_true,decide_eq_true_eq] at hb
 rw [if_neg h0] at hv
 unfold clipE
 split
 ·exact ga
 ·rename_i h1
  rw [if_neg h1] at hv
  split
  ·rename_i h5
   rw [if_neg (by omega),if_neg (by omega),if_neg (by omega),if_pos h5] at hv
   simp only [Bool.and_eq_true,beq_iff_eq] at hv
   refine ⟨validE_mk ?_ ?_,?_⟩
   ·simp [fieldsOk,noB,hv.2]
   ·intro e he
    simp only [List.mem_cons,List.not_mem_nil,or_false] at he
    subst he;exact ga.1
   ·simp only [ExprR.fit,ExprR.fits,I64,and_true]
    exact ⟨by omega,by omega,by omega,by omega,by omega,ga.2⟩
  ·rename_i h5
   split
   ·rename_i h4
    rw [if_neg (by omega),if_neg (by omega),if_pos h4] at hv
    simp only [Bool.and_eq_true,decide_eq_true_eq] at hv
    refine ⟨validE_mk ?_ ?_,?_⟩
    ·simp [fieldsOk,noB,hv.1.1.2,hv.1.2]
    ·intro e he
     simp only [List.mem_cons,List.not_mem_nil,or_false] at he
     rcases he with rfl | rfl
     ·exact ga.1
     ·exact gb.1
    ·have i0:I64 0:=⟨by decide,by decide⟩
     unfold id ExprR.fit
     refine ⟨⟨by decide,by decide⟩,i0,i0,i0,⟨by omega,by omega⟩,?_⟩
     simp only [ExprR.fits,and_true]
     exact ⟨ga.2,gb.2⟩
   ·rename_i h4
    by_cases h2:c.kind=2
    ·rw [if_pos h2] at hv
     unfold shareOk at hv
     simp only [Bool.and_eq_true,decide_eq_true_eq,beq_iff_eq] at hv
     rw [h2]
     exact goodE_share (.inl ⟨rfl,hv.1.2⟩) (by omega) (by omega) (by omega) ga gb
    ·rw [if_neg h2] at hv
     by_cases h3:c.kind=3
     ·rw [if_pos h3] at hv
      unfold shareOk at hv
      simp only [Bool.and_eq_true,decide_eq_true_eq,beq_iff_eq] at hv
      rw [h3]
      exact goodE_share (.inr ⟨rfl,hv.1.1.2,hv.1.2⟩) (by omega) (by omega) (by omega) ga gb
     ·rw [if_neg h3,if_neg h4,if_neg h5] at hv
      cases hv
theorem goodE_leaf {p:ProjR} {G:ByteArray→Int→ExprR} {s:SourceR} {i:Int} (hn:vName s.name=true) (hm:∀ m∈p.media,m.frames≤2147483647) (hG:s.kind=2→goodE (G s.name i)):goodE (leafE p G s i):=by
 unfold leafE
 split
 ·rename_i h;exact hG h
 ·split
  ·exact goodE_zero
  ·rename_i h
   have hf:medFr p s.name≤2147483647:=by
    unfold medFr
    split
    ·rename_i m hm'
     exact hm m (lastOf_mem hm').1
    ·decide
   refine ⟨validE_mk ?_ ?_,?_⟩
   ·simp [fieldsOk,noB,hn,show 0≤i by omega,show i≤2147483646 by omega]
   ·intro e he;cases he
   ·simp only [ExprR.fit,ExprR.fits,I64,and_true]
    omega
theorem hitT_inv {t:List ClipR} {n:Int} {c:ClipR} {k:Int} (hv:∀ c∈t,1≤c.len) (h:hitT t n=some (c,k)):c∈t∧c.kind≠0∧0≤k∧k<c.len:=by
 have key:∀ (l:List ClipR) (i:Nat) (n:Int),(∀ c∈l,1≤c.len)→0≤n→(findL l i n).2.2=true → ∃ j,j<l.length∧(findL l i n).1=((i+j:Nat):Int)∧0≤(findL l i n).2.1∧(findL l i n).2.1<(l.getD j default).len:=by
  intro l
  induction l with
  | nil=>intro i n _ _ h;cases h
  | cons x l ih =>
   intro i n hl hn h
   rw [findL_cons] at h ⊢
   by_cases hx:n<x.len
   ·rw [if_pos hx]
    exact ⟨0,by simp,rfl,hn,by simpa using hx⟩
   ·rw [if_neg hx] at h ⊢
    obtain ⟨j,h1,h2,h3,h4⟩:=ih (i+1) (n - x.len) (fun c hc=>hl c (by simp [hc])) (by omega) h
    exact ⟨j+1,by simpa using h1,by rw [h2];congr 1;omega,h3,by simpa using h4⟩
 unfold hitT at h
 split at h
 ·rename_i hh
  obtain ⟨h0,h1,h2⟩:=hh
  obtain ⟨j,q1,q2,q3,q4⟩:=key t 0 n hv h0 h1
  have e:(findL t 0 n).1.toNat=j:=by omega
  rw [e] at h h2
  injection h with h
  injection h with h3 h4
  subst h3 h4
  exact ⟨mem_getD q1,h2,q3,q4⟩
 ·cases h
theorem topT_inv {n:Int} {c:ClipR} {k:Int}:∀ {l:List (List ClipR)},(∀ t∈l, ∀ c∈t,1≤c.len)→topT n l=some (c,k)→(∃ t∈l,c∈t)∧c.kind≠0∧0≤k∧k<c.len
 | [],_,h=>by cases h
 | t::l,hv,h=>by
  unfold topT at h
  split at h
  ·rename_i r hr
   injection h with h;subst h
   obtain ⟨h1,h2⟩:=hitT_inv (hv t (by simp)) hr
   exact ⟨⟨t,by simp,h1⟩,h2⟩
  ·obtain ⟨⟨t',h1,h2⟩,h3⟩:=topT_inv (fun t ht=>hv t (by simp [ht])) h
   exact ⟨⟨t',by simp [h1],h2⟩,h3⟩
structure FilmOk (p:ProjR):Prop where
 small:smallB p=true
 fit:p.fit
 med:∀ m∈p.media,medOk m=true
 seq:∀ s∈p.seqs,seqOk s=true
 compl:∀ s∈p.seqs,complS p s=true
 uniq:(p.media.map MediumR.name).Nodup∧(p.seqs.map SequenceR.name).Nodup
 wk:∀ s∈p.seqs, ¬ Wk p 5 s.name
open Go.RowKit
set_option maxRecDepth 4000
theorem filmOk_of {p:ProjR} (hf:p.fit) (h:validP p=0):FilmOk p:=by
 unfold validP at h
 split at h
 ·cases h
 ·rename_i a1
  split at h
  ·cases h
  ·rename_i a2
   split at h
   ·cases h
   ·rename_i a3
    split at h
    ·cases h
    ·rename_i a4
     split at h
     ·cases h
     ·rename_i a5
      split at h
      ·cases h
      ·rename_i a6
       rw [Bool.not_eq_false] at a1 a2 a3 a4 a5 a6
       have hO:=a2
       rw [Bool.and_eq_true,List.all_eq_true,List.all_eq_true] at a2
       have hlen:p.seqs.length≤16:=by
        have:=a1
        unfold smallB at this
        simp only [Bool.and_eq_true,decide_eq_true_eq] at this
        omega
       refine ⟨a1,hf,a2.1,a2.2,fun s hs=>List.all_eq_true.1 a4 s hs,(uniq_iff p).1 a3,fun s hs hw=>?_⟩
       obtain ⟨c1,c2⟩:=chainA_spec hlen (shown_ok a1 hO a4) p.seqs [] (fun s hs=>hs) (good_nil p) (fun _ h=>absurd h (Int.lt_irrefl 0))
       obtain ⟨e1,e2,e3⟩:=c2 a5
       have hv:=e3 s hs
       have hd:=List.all_eq_true.1 a6 s hs
       unfold deepB at hd
       rw [decide_eq_true_eq] at hd
       exact e1.dn _ hv (Wk_le (by omega) hw)
theorem seqOf_mem {p:ProjR} {n:ByteArray} {s:SequenceR} (h:seqOf p.seqs n=some s):s∈p.seqs∧s.name=n:=lastOf_mem h
theorem vids_ok {p:ProjR} (h:FilmOk p) (n:ByteArray):∀ t∈vidsOf p n,vTrack t=true ∧ ∀ c∈t,vClip c=true:=by
 intro t ht
 unfold vidsOf at ht
 cases e:seqOf p.seqs n with
 | none=>rw [e] at ht;cases ht
 | some s =>
  rw [e] at ht
  have hs:=h.seq s (seqOf_mem e).1
  have:=valid_trk hs t (List.mem_append_left _ ht)
  refine ⟨this,fun c hc=>?_⟩
  unfold vTrack at this
  simp only [Bool.and_eq_true] at this
  exact List.all_eq_true.1 this.1.2 c hc
theorem clip_in {p:ProjR} {n:ByteArray} {t:List ClipR} {c:ClipR} {s:SequenceR} (hs:seqOf p.seqs n=some s) (ht:t∈s.video) (hc:c∈t):c∈clipsOf s:=by
 unfold clipsOf
 exact List.mem_flatten.2 ⟨t,List.mem_append_left _ ht,hc⟩
theorem inner_of {p:ProjR} (h:FilmOk p) {n:ByteArray} {s:SequenceR} (hs:seqOf p.seqs n=some s) {t:List ClipR} (ht:t∈s.video) {c:ClipR} (hc:c∈t) {x:SourceR} (hx:x=c.a∨x=c.b) (hk:x.kind=2) :
  x.name∈inner p n∧(seqOf p.seqs x.name).isSome=true:=by
 have hcs:=clip_in hs ht hc
 constructor
 ·unfold inner
  rw [hs]
  show x.name∈namedS s 2
  rw [mem_namedS,mem_srcs2]
  refine ⟨x,?_,hk,rfl⟩
  unfold srcsOf srcsF
  refine List.mem_filter.2 ⟨List.mem_flatMap.2 ⟨c,hcs,by simpa using hx⟩,?_⟩
  cases hz:x.isZ with
  | false=>rfl
  | true=>rw [kind_isZ hz] at hk;cases hk
 ·have:=List.all_eq_true.1 (h.compl s (seqOf_mem hs).1) c hcs
  unfold clipThere at this
  rw [Bool.and_eq_true] at this
  have hx2:srcThere p x=true:=by rcases hx with rfl | rfl;exact this.1;exact this.2
  unfold srcThere at hx2
  rw [hk] at hx2
  cases e:seqOf p.seqs x.name with
  | none=>rw [e] at hx2;cases hx2
  | some _=>rfl
theorem med_of {p:ProjR} (h:FilmOk p) {n:ByteArray} {s:SequenceR} (hs:seqOf p.seqs n=some s) {t:List ClipR} (ht:t∈s.video) {c:ClipR} (hc:c∈t) {x:SourceR} (hx:x=c.a∨x=c.b) (hk:x.kind=1) :
  (medOf p.media x.name).isSome=true:=by
 have:=List.all_eq_true.1 (h.compl s (seqOf_mem hs).1) c (clip_in hs ht hc)
 unfold clipThere at this
 rw [Bool.and_eq_true] at this
 have hx2:srcThere p x=true:=by rcases hx with rfl | rfl;exact this.1;exact this.2
 unfold srcThere at hx2
 rw [hk] at hx2
 cases e:medOf p.media x.name with
 | none=>rw [e] at hx2;cases hx2
 | some _=>rfl
theorem wk_inner {p:ProjR} {d:Nat} {n m:ByteArray} (h : ¬ Wk p (d+1) n) (hm:m∈inner p n) : ¬ Wk p d m:=fun hw=>h ⟨m,hm,hw⟩
theorem med_frames {p:ProjR} (h:FilmOk p):∀ m∈p.media,0≤m.frames∧m.frames≤2147483647:=by
 intro m hm
 have:=h.med m hm
 unfold medOk countOk at this
 simp only [Bool.and_eq_true,decide_eq_true_eq] at this
 omega
theorem good_frame {p:ProjR} (h:FilmOk p):∀ (d:Nat) (name:ByteArray) (n:Int),goodE (filmE id p d name n)
 | 0,_,_=>goodE_zero
 | d+1,name,n=>by
  unfold filmE
  cases e:topT n (vidsOf p name).reverse with
  | none=>exact goodE_zero
  | some x =>
   obtain ⟨c,k⟩:=x
   obtain ⟨⟨t,ht,hc⟩,h0,hk⟩:=topT_inv (fun t ht c hc=>(vClip_len ((vids_ok h name t (List.mem_reverse.1 ht)).2 c hc)).1) e
   have hv:=(vids_ok h name t (List.mem_reverse.1 ht)).2 c hc
   unfold showE
   refine goodE_clip hv h0 hk fun s hs hs0 i=>?_
   obtain ⟨va,vb⟩:=clip_srcs hv
   have vs:vSource s=true:=by rcases hs with rfl | rfl;exact va;exact vb
   obtain ⟨pp,dd,ok⟩:=kind_nz vs hs0
   exact goodE_leaf ok.name (fun m hm=>(med_frames h m hm).2) fun _=>good_frame h d s.name i
open Go.RowKit
set_option maxRecDepth 4000
structure Layered (p:ProjR):Prop where
 small:smallB p=true
 ok:(p.media.all medOk&&p.seqs.all seqOk)=true
 nm:(p.media.map MediumR.name).Nodup
 ns:(p.seqs.map SequenceR.name).Nodup
 le:p.seqs.length≤5
 m1:∀ j,j<p.seqs.length → ∀ x∈srcsOf (p.seqs.getD j default),x.kind=1 → ∃ i,i<p.media.length∧(p.media.getD i default).name=x.name
 s2:∀ j,j<p.seqs.length → ∀ x∈srcsOf (p.seqs.getD j default),x.kind=2 → ∃ i,i<j∧(p.seqs.getD i default).name=x.name
def tSeq (n:ByteArray) (ts:List (List ClipR)):SequenceR:=⟨n,⟨25,1⟩,16,16,ts,[],[],0⟩
end Go.Proofs.YtmbmmijdmdoalaaGreat
