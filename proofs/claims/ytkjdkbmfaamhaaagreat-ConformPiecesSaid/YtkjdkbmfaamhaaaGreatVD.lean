/- Proved here: Contracts of a medium's sample and of a source's channel, for use in the proofs of the given statements; conditions stand in each theorem. -/
import Derived.Test.YtkjdkbmfaamhaaaGreatVC
import Derived.Test.YtkjdkbmfaamhaaaGreatVB
set_option linter.unusedSimpArgs false
set_option linter.unusedVariables false
set_option linter.unusedSectionVars false
set_option linter.unnecessarySimpa false
namespace Go.Proofs.YtkjdkbmfaamhaaaGreat
open Go.RowKit
set_option maxRecDepth 4000
def c16 (x:Int):List T:=[.lit (.int .i16 x)]
def t16 (l:List Int):T := .list 1 (c16 0) (l.map c16)
def tchs (L:List (List Int)):T := .list 1 [.lit (.slice none 0 0)] (L.map fun p=>[t16 p])
@[go_sem] theorem c16_t (n:Int):(c16 n).map V.t = [.t (.lit (.int .i16 n))]:=rfl
@[go_sem] theorem c16_l (n:Int):(c16 n).length=1:=rfl
def tchan (n a b c d i:Int):Int:=if i<0∨n≤i then 0 else [a,b,c,d].getD i.toNat 0
theorem cChannel (n a b c d i:Int) (hn:n≤4):CPure Tryz.prog 92 [vtone n a b c d,vint i] (vint (tchan n a b c d i)):=by
 unfold tchan
 by_cases h:i<0∨n≤i
 ·rw [if_pos h]
  exact cChannel0 n a b c d i h
 ·rw [if_neg h]
  obtain ⟨k,hk⟩:=Int.eq_ofNat_of_zero_le (show 0≤i by omega)
  subst hk
  exact cChannel1 n a b c d k (by omega) (by omega)
theorem c16_nth {p:List Int} {k:Nat} (h:k<p.length) (d:List T):nth d (p.map c16) k=c16 (p.getD k 0):=by
 unfold nth
 rw [List.getElem?_map,List.getElem?_eq_getElem h,List.getD_eq_getElem?_getD,List.getElem?_eq_getElem h]
 rfl
theorem nth_pcm {p:List Int} {j:Int} (h0 : 0≤j) (h1:j<p.length) (d:List T):nth d (p.map c16) j.toNat=c16 (pcmAt p j):=by
 unfold pcmAt
 rw [if_pos h0,c16_nth (by omega)]
theorem pcm_out {p:List Int} {j:Int} (h:j<0∨(p.length:Int)≤j):pcmAt p j=0:=by
 unfold pcmAt
 split
 ·rw [List.getD_eq_getElem?_getD,List.getElem?_eq_none (by omega)]
  rfl
 ·rfl
theorem nth_zero2 (d x:List T) (l:List (List T)):nth d (x::l) 0=x:=rfl
theorem nth_one2 (d x y:List T) (l:List (List T)):nth d (x::y::l) 1=y:=rfl
theorem cNumM1 (R A Q:MapT) (s:SourceR) (hk:s.kind=1) (p:List Int) (hp:I16s p) (hpl:p.length≤1048576) (nm:ByteArray) (hA:kindsT .string A=true) (hl:lookT (.string s.name) A=some (.agg [vstr nm, .t (tchs [p])])) (j:Int) (hj:I64 j) :
  CPure Tryz.prog 128 [vmix R A Q,vsource s,vint j] (vtone 1 (pcmAt p j) (0) 0 0):=by
 have ww1:IntKind.i64.wrap 1=1:=by decide
 have ww2:IntKind.i64.wrap 2=2:=by decide
 have wp:=wrap64 (x:=pcmAt p j) (by have:=pcmAt_i16 hp j;omega) (by have:=pcmAt_i16 hp j;omega)
 refine cpure_of Tryz.xen128 Tryz.func128 rfl Tryz.ntmps128 (by rw [Tryz.results128]) (aw_ok _ ?_)
 simp only [go_sem,simprocAttr,hk]
 refine drawC_of 13 .done rfl (by kernel_rfl) (by kernel_rfl) (by decide) ?_
 simp only [go_sem,simprocAttr,nth_one,hl,hA,tchs,t16]
 refine ⟨by kernel_rfl,?_⟩
 refine awp_loopL ?_
 by_cases hin : 0≤j∧j<p.length
 ·have d1:decide (j ≥ 0)=true:=decide_eq_true hin.1
  have np:=fun d=>nth_pcm (p:=p) (j:=j) hin.1 (by omega) d
  have lp:decide (j<(p.length:Int))=true:=decide_eq_true (by omega)
  refine awpL_step (aw_ok _ ?_)
  simp only [go_sem,simprocAttr,nth_one,nth_zero2,nth_one2,ww1,ww2]
  refine ⟨fun _=>?_,fun h=>absurd h (by decide)⟩
  unfold awS
  simp only [go_sem,simprocAttr,nth_one,nth_zero2,nth_one2,d1,np,lp,wp,ww1,ww2]
  refine ⟨⟨hin.1,by omega⟩,?_⟩
  refine awpL_step (aw_ok _ ?_)
  simp only [go_sem,simprocAttr,nth_one,nth_zero2,nth_one2,ww1,ww2]
  refine ⟨fun h=>absurd h (by decide),fun _=>?_⟩
  unfold awS
  simp only [go_sem,simprocAttr,ww1,ww2,d1,np,lp,wp,ww1,ww2]
 ·have z1:pcmAt p j=0:=pcm_out (by omega)
  rw [z1]
  refine awpL_step (aw_ok _ ?_)
  simp only [go_sem,simprocAttr,nth_one,nth_zero2,nth_one2,ww1,ww2]
  refine ⟨fun _=>?_,fun h=>absurd h (by decide)⟩
  unfold awS
  simp only [go_sem,simprocAttr,nth_one,nth_zero2,nth_one2,ww1,ww2]
  refine ⟨fun h=>?_,fun h=>?_⟩
  ·exfalso
   simp only [bxx] at h
   omega
  unfold awS
  simp only [go_sem,simprocAttr,nth_one,nth_zero2,nth_one2,ww1,ww2]
  refine awpL_step (aw_ok _ ?_)
  simp only [go_sem,simprocAttr,nth_one,nth_zero2,nth_one2,ww1,ww2]
  refine ⟨fun h=>absurd h (by decide),fun _=>?_⟩
  unfold awS
  simp only [go_sem,simprocAttr,ww1,ww2,ww1,ww2]
theorem cNumM2 (R A Q:MapT) (s:SourceR) (hk:s.kind=1) (p:List Int) (hp:I16s p) (q:List Int) (hq:I16s q) (hpl:p.length≤1048576) (hq2:q.length=p.length) (nm:ByteArray) (hA:kindsT .string A=true) (hl:lookT (.string s.name) A=some (.agg [vstr nm, .t (tchs [p,q])])) (j:Int) (hj:I64 j) :
  CPure Tryz.prog 128 [vmix R A Q,vsource s,vint j] (vtone 2 (pcmAt p j) (pcmAt q j) 0 0):=by
 have ww1:IntKind.i64.wrap 1=1:=by decide
 have ww2:IntKind.i64.wrap 2=2:=by decide
 have wp:=wrap64 (x:=pcmAt p j) (by have:=pcmAt_i16 hp j;omega) (by have:=pcmAt_i16 hp j;omega)
 have wq:=wrap64 (x:=pcmAt q j) (by have:=pcmAt_i16 hq j;omega) (by have:=pcmAt_i16 hq j;omega)
 refine cpure_of Tryz.xen128 Tryz.func128 rfl Tryz.ntmps128 (by rw [Tryz.results128]) (aw_ok _ ?_)
 simp only [go_sem,simprocAttr,hk]
 refine drawC_of 13 .done rfl (by kernel_rfl) (by kernel_rfl) (by decide) ?_
 simp only [go_sem,simprocAttr,nth_one,hl,hA,tchs,t16]
 refine ⟨by kernel_rfl,?_⟩
 refine awp_loopL ?_
 by_cases hin : 0≤j∧j<p.length
 ·have d1:decide (j ≥ 0)=true:=decide_eq_true hin.1
  have np:=fun d=>nth_pcm (p:=p) (j:=j) hin.1 (by omega) d
  have lp:decide (j<(p.length:Int))=true:=decide_eq_true (by omega)
  have nq:=fun d=>nth_pcm (p:=q) (j:=j) hin.1 (by omega) d
  have lq:decide (j<(q.length:Int))=true:=decide_eq_true (by omega)
  refine awpL_step (aw_ok _ ?_)
  simp only [go_sem,simprocAttr,nth_one,nth_zero2,nth_one2,ww1,ww2]
  refine ⟨fun _=>?_,fun h=>absurd h (by decide)⟩
  unfold awS
  simp only [go_sem,simprocAttr,nth_one,nth_zero2,nth_one2,d1,np,lp,wp,nq,lq,wq,ww1,ww2]
  refine ⟨⟨hin.1,by omega⟩,?_⟩
  refine awpL_step (aw_ok _ ?_)
  simp only [go_sem,simprocAttr,nth_one,nth_zero2,nth_one2,ww1,ww2]
  refine ⟨fun _=>?_,fun h=>absurd h (by decide)⟩
  unfold awS
  simp only [go_sem,simprocAttr,nth_one,nth_zero2,nth_one2,d1,np,lp,wp,nq,lq,wq,ww1,ww2]
  refine ⟨⟨hin.1,by omega⟩,?_⟩
  refine awpL_step (aw_ok _ ?_)
  simp only [go_sem,simprocAttr,nth_one,nth_zero2,nth_one2,ww1,ww2]
  refine ⟨fun h=>absurd h (by decide),fun _=>?_⟩
  unfold awS
  simp only [go_sem,simprocAttr,ww1,ww2,d1,np,lp,wp,nq,lq,wq,ww1,ww2]
 ·have z1:pcmAt p j=0:=pcm_out (by omega)
  have z2:pcmAt q j=0:=pcm_out (by omega)
  rw [z1,z2]
  refine awpL_step (aw_ok _ ?_)
  simp only [go_sem,simprocAttr,nth_one,nth_zero2,nth_one2,ww1,ww2]
  refine ⟨fun _=>?_,fun h=>absurd h (by decide)⟩
  unfold awS
  simp only [go_sem,simprocAttr,nth_one,nth_zero2,nth_one2,ww1,ww2]
  refine ⟨fun h=>?_,fun h=>?_⟩
  ·exfalso
   simp only [bxx] at h
   omega
  unfold awS
  simp only [go_sem,simprocAttr,nth_one,nth_zero2,nth_one2,ww1,ww2]
  refine awpL_step (aw_ok _ ?_)
  simp only [go_sem,simprocAttr,nth_one,nth_zero2,nth_one2,ww1,ww2]
  refine ⟨fun _=>?_,fun h=>absurd h (by decide)⟩
  unfold awS
  simp only [go_sem,simprocAttr,nth_one,nth_zero2,nth_one2,ww1,ww2]
  refine ⟨fun h=>?_,fun h=>?_⟩
  ·exfalso
   simp only [bxx] at h
   omega
  unfold awS
  simp only [go_sem,simprocAttr,nth_one,nth_zero2,nth_one2,ww1,ww2]
  refine awpL_step (aw_ok _ ?_)
  simp only [go_sem,simprocAttr,nth_one,nth_zero2,nth_one2,ww1,ww2]
  refine ⟨fun h=>absurd h (by decide),fun _=>?_⟩
  unfold awS
  simp only [go_sem,simprocAttr,ww1,ww2,ww1,ww2]
open Go.RowKit
set_option maxRecDepth 4000
theorem qb_val {k:Rat} {K D:Nat} (h0 : -((K:Int):Rat)≤k) (h1:k≤((K:Int):Rat)) (hd:k.den≤D):QB k (K*D) D:=by
 refine ⟨?_,hd⟩
 have dp:(0:Rat)<((k.den:Int):Rat):=ratpos (by have:=k.den_pos;omega)
 have e:k*((k.den:Int):Rat)=(k.num:Rat):=by
  have h:=Rat.num_divInt_den k
  rw [Rat.divInt_eq_div] at h
  have dz:((k.den:Int):Rat)≠0:=by grind
  generalize ((k.den:Int):Rat)=d at *
  rw [← h]
  grind
 have a1:(k.num:Rat)≤(((K:Int)*(k.den:Int):Int):Rat):=by
  rw [Rat.intCast_mul, ← e]
  exact Rat.mul_le_mul_of_nonneg_right h1 (by grind)
 have a2:(((-(K:Int))*(k.den:Int):Int):Rat)≤(k.num:Rat):=by
  rw [Rat.intCast_mul, ← e,Rat.intCast_neg]
  exact Rat.mul_le_mul_of_nonneg_right h0 (by grind)
 have b1:k.num≤(K:Int)*(k.den:Int):=Rat.intCast_le_intCast.1 a1
 have b2:(-(K:Int))*(k.den:Int)≤k.num:=Rat.intCast_le_intCast.1 a2
 have b3:(K:Int)*(k.den:Int)≤(K:Int)*(D:Int):=Int.mul_le_mul_of_nonneg_left (by omega) (by omega)
 rw [Int.neg_mul] at b2
 have b4:((K*D:Nat):Int)=(K:Int)*(D:Int):=Int.natCast_mul _ _
 omega
theorem toQ_div {r:RatR} (hv:vRat r=true):toQ r=(r.num:Rat) / (r.den:Rat):=by
 have hd:=vRat_den hv
 unfold toQ
 rw [Rat.mkRat_eq_div]
 congr 1
 have:((r.den.toNat:Nat):Int)=r.den:=by omega
 rw [← this]
 rfl
structure RateS (r:RatR):Prop where
 fit:r.fit
 aud:audibleR r=true
 b1:QB (48000 / toQ r) 8192 8
 b2:QB (toQ r / 48000) 8 8192
 n : 0<r.num
 d : 0<r.den
 m30:r.num≤30*r.den
theorem rateS25:RateS ⟨25,1⟩:=⟨⟨⟨by decide,by decide⟩,⟨by decide,by decide⟩⟩,of_decide_eq_true (by kernel_rfl),⟨of_decide_eq_true (by kernel_rfl),of_decide_eq_true (by kernel_rfl)⟩,⟨of_decide_eq_true (by kernel_rfl),of_decide_eq_true (by kernel_rfl)⟩,by decide,by decide,by decide⟩
theorem rateS24:RateS ⟨24,1⟩:=⟨⟨⟨by decide,by decide⟩,⟨by decide,by decide⟩⟩,of_decide_eq_true (by kernel_rfl),⟨of_decide_eq_true (by kernel_rfl),of_decide_eq_true (by kernel_rfl)⟩,⟨of_decide_eq_true (by kernel_rfl),of_decide_eq_true (by kernel_rfl)⟩,by decide,by decide,by decide⟩
theorem rateS2997:RateS ⟨30000,1001⟩:=⟨⟨⟨by decide,by decide⟩,⟨by decide,by decide⟩⟩,of_decide_eq_true (by kernel_rfl),⟨of_decide_eq_true (by kernel_rfl),of_decide_eq_true (by kernel_rfl)⟩,⟨of_decide_eq_true (by kernel_rfl),of_decide_eq_true (by kernel_rfl)⟩,by decide,by decide,by decide⟩
theorem rateS_v {r:RatR} (h:RateS r):usableR r=true∧vRat r=true∧r.num≤1048576∧r.den≤65536:=by
 have a:=h.aud
 unfold audibleR at a
 rw [Bool.and_eq_true] at a
 have u:=a.1
 have u2:=u
 unfold usableR at u2
 simp only [Bool.and_eq_true,decide_eq_true_eq] at u2
 exact ⟨u,u2.1.1.1,u2.1.2,u2.2⟩
theorem time_qb {r:RatR} (h:RateS r) (s:Int):timeQ r s=(s:Rat)*(toQ r / 48000)∧QB (timeQ r s) (s.natAbs*8) 8192:=by
 have e:timeQ r s=(s:Rat)*(toQ r / 48000):=by
  rw [toQ_div (rateS_v h).2.1]
  have hd:=rat_ne (show r.den≠0 by have:=h.d;omega)
  unfold timeQ
  grind
 refine ⟨e,?_⟩
 rw [e]
 have:=qb_mul (qb_int s) h.b2
 rw [Nat.one_mul] at this
 exact this
def toneL (L:List (List Int)) (y:Rat):V:=vtone L.length (lerpV (L.getD 0 []) y) (lerpV (L.getD 1 []) y) 0 0
theorem tchan_chan {L:List (List Int)} (hL:L.length≤2) (c:Int) (y:Rat):tchan L.length (lerpV (L.getD 0 []) y) (lerpV (L.getD 1 []) y) 0 0 c=chanV L c y:=by
 unfold tchan chanV
 by_cases h0:c<0
 ·rw [if_pos (Or.inl h0),if_pos h0]
 ·rw [if_neg h0]
  obtain ⟨n,hn⟩:=Int.eq_ofNat_of_zero_le (show 0≤c by omega)
  subst hn
  rw [Int.toNat_natCast]
  by_cases h1:L.length≤n
  ·rw [if_pos (Or.inr (by show (L.length:Int)≤(n:Int);omega)),List.getElem?_eq_none h1]
  ·rw [if_neg (by show ¬ ((n:Int)<0∨(L.length:Int)≤(n:Int));omega)]
   rcases L with _ | ⟨p,_ | ⟨q,_ | ⟨o,l⟩⟩⟩
   ·simp at h1
   ·have:n=0:=by simp at h1;omega
    subst this
    rfl
   ·have:n=0∨n=1:=by simp at h1;omega
    rcases this with rfl | rfl<;>rfl
   ·simp at hL
structure SrcM (R A:MapT) (s:SourceR) (r:RatR) (L:List (List Int)) (k:Rat):Prop where
 kind:s.kind=1
 hR:kindsT .string R=true
 lR:lookT (.string s.name) R=some (vrat r)
 hA:kindsT .string A=true
 lA:lookT (.string s.name) A=some (.agg [vstr s.name, .t (tchs L)])
 hL:L.length=1∨L.length=2
 i16:∀ p∈L,I16s p
 len:∀ p∈L,p.length≤1048576
 same:∀ p∈L,p.length=(L.getD 0 []).length
 rate:RateS r
 kb:QB k 134217728 16384
 vp:vRat s.pos=true
 vs:vRat s.speed=true
 pb:QB (toQ s.pos) 256 1024
 sb:QB (toQ s.speed) 4096 2048
 y0 : -((549755813888:Int):Rat)≤posQ s k*(48000 / toQ r)
 y1:posQ s k*(48000 / toQ r)≤((549755813888:Int):Rat)
theorem len_two {L:List (List Int)} (h:L.length=2):∃ p q,L = [p,q]:=by
 rcases L with _ | ⟨p,_ | ⟨q,_ | ⟨o,l⟩⟩⟩
 ·simp at h
 ·simp at h
 ·exact ⟨p,q,rfl⟩
 ·simp at h
theorem pcm_nil (j:Int):pcmAt [] j=0:=pcm_out (by simp;omega)
theorem cNumL {R A Q:MapT} {s:SourceR} {r:RatR} {L:List (List Int)} {k:Rat} (h:SrcM R A s r L k) (j:Int) (hj:I64 j) :
  CPure Tryz.prog 128 [vmix R A Q,vsource s,vint j] (vtone L.length (pcmAt (L.getD 0 []) j) (pcmAt (L.getD 1 []) j) 0 0):=by
 have hl:=h.lA
 have hi:=h.i16
 have hn:=h.len
 have he:=h.same
 rcases h.hL with h1 | h1
 ·obtain ⟨p,rfl⟩:=List.length_eq_one_iff.1 h1
  have e3:pcmAt ([p].getD 1 []) j=0:=pcm_nil j
  rw [e3]
  exact cNumM1 R A Q s h.kind p (hi p (by simp)) (hn p (by simp)) s.name h.hA hl j hj
 ·obtain ⟨p,q,rfl⟩:=len_two h1
  exact cNumM2 R A Q s h.kind p (hi p (by simp)) q (hi q (by simp)) (hn p (by simp)) (he q (by simp)) s.name h.hA hl j hj
theorem lerp_share (p:List Int) (y:Rat):lerpV p y=pcmAt p y.floor+near (pcmAt p (y.floor+1) - pcmAt p y.floor) (((y.num - y.floor*(y.den:Int):Int):Rat) / ((y.den:Int):Rat)):=by
 unfold lerpV
 rw [frac_share]
theorem share_range (y:Rat) : 0≤y.num - y.floor*(y.den:Int)∧y.num - y.floor*(y.den:Int)<(y.den:Int):=by
 have dp:=y.den_pos
 have e:y.floor=y.num / (y.den:Int):=by
  rw [← floor_frac y.num (d:=(y.den:Int)) (by omega)]
  have h:=Rat.num_divInt_den y
  rw [Rat.divInt_eq_div] at h
  exact congrArg Rat.floor h.symm
 rw [e]
 have h1:=Int.mul_ediv_add_emod y.num (y.den:Int)
 have h2:=Int.emod_nonneg y.num (show (y.den:Int)≠0 by omega)
 have h3:=Int.emod_lt_of_pos y.num (show (0:Int)<(y.den:Int) by omega)
 rw [Int.mul_comm] at h1
 omega
theorem cBetL (m:V) (hm:m.pure=true) {L:List (List Int)} (hL:L.length=1∨L.length=2) (hi:∀ p∈L,I16s p) (y:Rat) (hd:y.den<35184372088832) :
  CPure Tryz.prog 127 [m,vtone L.length (pcmAt (L.getD 0 []) y.floor) (pcmAt (L.getD 1 []) y.floor) 0 0,vtone L.length (pcmAt (L.getD 0 []) (y.floor+1)) (pcmAt (L.getD 1 []) (y.floor+1)) 0 0,vint (y.num - y.floor*(y.den:Int)),vint (y.den:Int)] (toneL L y):=by
 obtain ⟨s0,s1⟩:=share_range y
 have dp:=y.den_pos
 have eN:∀ j,pcmAt [] j=0:=fun j=>pcm_out (by simp;omega)
 unfold toneL
 by_cases h0:y.num - y.floor*(y.den:Int)=0
 ·have e:∀ p,lerpV p y=pcmAt p y.floor:=fun p=>by
   rw [lerp_share,h0]
   have:((0:Int):Rat) / ((y.den:Int):Rat)=0:=by
    have:((0:Int):Rat)=0:=rfl
    grind
   rw [this,near_zero,Int.add_zero]
  rw [h0,e,e]
  exact cBetween0 _ _ _ _ _ _ _ _ _ _ _ _
 ·rcases hL with h1 | h1
  ·obtain ⟨p,rfl⟩:=List.length_eq_one_iff.1 h1
   have a1:=pcmAt_i16 (hi p (by simp)) y.floor
   have a2:=pcmAt_i16 (hi p (by simp)) (y.floor+1)
   have hb:=cBetween1 m hm (y.num - y.floor*(y.den:Int)) y.den ⟨by omega,s1⟩ hd (pcmAt p y.floor) (pcmAt p (y.floor+1)) a1 a2
   have e1:lerpV ([p].getD 1 []) y=0:=by
    rw [lerp_share]
    show pcmAt [] _+near (pcmAt [] _ - pcmAt [] _) _=0
    rw [eN,eN,show (0:Int) - 0=0 from rfl,near_of_zero]
    rfl
   have e2:lerpV ([p].getD 0 []) y=lerpV p y:=rfl
   have e3:∀ j,pcmAt ([p].getD 1 []) j=0:=fun j=>eN j
   have e4:∀ j,pcmAt ([p].getD 0 []) j=pcmAt p j:=fun _=>rfl
   rw [e1,e2,e3,e3,e4,e4,lerp_share]
   exact hb
  ·obtain ⟨p,q,rfl⟩:=len_two h1
   have a1:=pcmAt_i16 (hi p (by simp)) y.floor
   have a2:=pcmAt_i16 (hi p (by simp)) (y.floor+1)
   have b1:=pcmAt_i16 (hi q (by simp)) y.floor
   have b2:=pcmAt_i16 (hi q (by simp)) (y.floor+1)
   have hb:=cBetween2 m hm (y.num - y.floor*(y.den:Int)) y.den ⟨by omega,s1⟩ hd (pcmAt p y.floor) (pcmAt q y.floor) (pcmAt p (y.floor+1)) (pcmAt q (y.floor+1)) a1 b1 a2 b2
   have e1:lerpV ([p,q].getD 1 []) y=lerpV q y:=rfl
   have e2:lerpV ([p,q].getD 0 []) y=lerpV p y:=rfl
   have e3:∀ j,pcmAt ([p,q].getD 1 []) j=pcmAt q j:=fun _=>rfl
   have e4:∀ j,pcmAt ([p,q].getD 0 []) j=pcmAt p j:=fun _=>rfl
   rw [e1,e2,e3,e3,e4,e4,lerp_share,lerp_share]
   exact hb
open Go.RowKit
set_option maxRecDepth 4000
theorem way_qb {R A:MapT} {s:SourceR} {r:RatR} {L:List (List Int)} {k:Rat} (h:SrcM R A s r L k) :
  QB (k*toQ s.speed) 549755813888 33554432∧QB (posQ s k) 562958543355904 34359738368∧QB (posQ s k*(48000 / toQ r)) 4611756387171565568 274877906944:=by
 have m1:=qb_mul h.kb h.sb
 have m2:=qb_add h.pb m1
 have m3:=qb_mul m2 h.rate.b1
 exact ⟨qb_mono m1 (by decide) (by decide),qb_mono m2 (by decide) (by decide),qb_mono m3 (by decide) (by decide)⟩
theorem cSourceM {R A Q:MapT} {s:SourceR} {r:RatR} {L:List (List Int)} {k:Rat} (h:SrcM R A s r L k) :
  CPure Tryz.prog 91 [vmix R A Q,vsource s,vrat (ofQ k)] (toneL L (posQ s k*(48000 / toQ r))):=by
 obtain ⟨hu,hv,hn2,hd2⟩:=rateS_v h.rate
 have hn:=h.rate.n
 have hd:=h.rate.d
 obtain ⟨w1,w2,w3⟩:=way_qb h
 have c1:=cMulQ h.kb h.sb (by decide) (by decide) (by decide) (by decide) (by decide) (by decide)
 rw [ofQ_toQ h.vs] at c1
 have c2:=cAddQ h.pb w1 (by decide) (by decide) (by decide) (by decide) (by decide) (by decide) (by decide)
 rw [ofQ_toQ h.vp] at c2
 have e2:toQ s.pos+k*toQ s.speed=posQ s k:=rfl
 rw [e2] at c2
 obtain ⟨dn,hdn⟩:=nat_of (n:=r.num) (by omega)
 have c3:=cOfZ (48000*r.den) dn (by omega) (by omega) (by omega)
 have e3:(((48000*r.den:Int)):Rat) / ((dn:Int):Rat)=48000 / toQ r:=by
  rw [toQ_div hv, ← hdn,Rat.intCast_mul]
  have h1:=rat_ne (show r.num≠0 by omega)
  have h2:=rat_ne (show r.den≠0 by omega)
  have h3:((48000:Int):Rat)=48000:=rfl
  grind
 rw [e3, ← hdn] at c3
 have c4:=cMulQ w2 h.rate.b1 (by decide) (by decide) (by decide) (by decide) (by decide) (by decide)
 obtain ⟨y,hy⟩:∃ y,y=posQ s k*(48000 / toQ r):=⟨_,rfl⟩
 have y0:=h.y0
 have y1:=h.y1
 rw [← hy] at w3 c4 y0 y1 ⊢
 obtain ⟨fy,vy⟩:=qb_fit w3 (by decide) (by decide)
 have c5:=cFloor (ofQ y) fy vy
 rw [toQ_ofQ] at c5
 have j0 : -549755813888≤y.floor:=Rat.le_floor_iff.2 y0
 have j1:y.floor≤549755813888:=by
  have:=Rat.floor_lt_iff.2 (show y<((549755813889:Int):Rat) from by
   have:((549755813889:Int):Rat)=((549755813888:Int):Rat)+1:=int_succ 549755813888
   grind)
  omega
 obtain ⟨s0,s1⟩:=share_range y
 have c6:=cNumL (Q:=Q) h y.floor ⟨by omega,by omega⟩
 have c7:=cNumL (Q:=Q) h (y.floor+1) ⟨by omega,by omega⟩
 have hden:=w3.2
 have hnum:=w3.1
 have c8:=cBetL (vmix R A Q) rfl h.hL h.i16 y (by omega)
 have hk:=h.kind
 have wm:IntKind.i64.wrap (y.floor*(ofQ y).den)=y.floor*(y.den:Int):=by
  show IntKind.i64.wrap (y.floor*(y.den:Int))=_
  exact wrap64 (by omega) (by omega)
 have wd:IntKind.i64.wrap ((ofQ y).num - y.floor*(y.den:Int))=y.num - y.floor*(y.den:Int):=by
  show IntKind.i64.wrap (y.num - y.floor*(y.den:Int))=_
  exact wrap64 (by omega) (by omega)
 have c8:CPure Tryz.prog 127 [vmix R A Q,vtone L.length (pcmAt (L.getD 0 []) y.floor) (pcmAt (L.getD 1 []) y.floor) 0 0,vtone L.length (pcmAt (L.getD 0 []) (y.floor+1)) (pcmAt (L.getD 1 []) (y.floor+1)) 0 0,vint (y.num - y.floor*(y.den:Int)),vint (ofQ y).den] (toneL L y):=c8
 have ca:=cAudible r h.rate.fit ⟨by omega,by omega⟩
 rw [h.rate.aud] at ca
 have cr:=cRateM R A Q s hk r h.hR h.lR
 have hk0:(s.kind==0)=false:=by rw [hk];rfl
 have j2:decide (y.floor < -1099511627776)=false:=decide_eq_false (by omega)
 have j3:decide (y.floor ≥ 1099511627776)=false:=decide_eq_false (by omega)
 refine cpure_of Tryz.xen91 Tryz.func91 rfl Tryz.ntmps91 (by rw [Tryz.results91]) (aw_ok _ ?_)
 simp only [go_sem,simprocAttr,hk0]
 refine ⟨_,cr,?_⟩
 simp only [go_sem,simprocAttr]
 refine ⟨_,ca,?_⟩
 simp only [go_sem,simprocAttr]
 refine drawC_of 15 .done rfl (by kernel_rfl) (by kernel_rfl) (by decide) ?_
 simp only [go_sem,simprocAttr]
 refine ⟨_,c1,?_⟩
 simp only [go_sem,simprocAttr]
 refine ⟨_,cMustR _,?_⟩
 simp only [go_sem,simprocAttr]
 refine ⟨_,c2,?_⟩
 simp only [go_sem,simprocAttr]
 refine ⟨_,cMustR _,?_⟩
 simp only [go_sem,simprocAttr]
 refine ⟨by kernel_rfl,?_⟩
 simp only [go_sem,simprocAttr,wrap64 (x:=48000*r.den) (by omega) (by omega)]
 refine ⟨_,c3,?_⟩
 simp only [go_sem,simprocAttr]
 refine ⟨_,cMustR _,?_⟩
 simp only [go_sem,simprocAttr]
 refine ⟨_,c4,?_⟩
 simp only [go_sem,simprocAttr]
 refine ⟨_,cMustR _,?_⟩
 simp only [go_sem,simprocAttr]
 refine ⟨_,c5,?_⟩
 simp only [go_sem,simprocAttr,j2,j3]
 refine drawC_of 21 .done rfl (by kernel_rfl) (by kernel_rfl) (by decide) ?_
 simp only [go_sem,simprocAttr]
 refine ⟨_,c6,?_⟩
 simp only [go_sem,simprocAttr,wrap64 (x:=y.floor+1) (by omega) (by omega)]
 refine ⟨_,c7,?_⟩
 simp only [go_sem,simprocAttr,wm,wd]
 refine ⟨_,c8,?_⟩
 simp only [go_sem,simprocAttr,toneL]
 kernel_rfl
end Go.Proofs.YtkjdkbmfaamhaaaGreat
