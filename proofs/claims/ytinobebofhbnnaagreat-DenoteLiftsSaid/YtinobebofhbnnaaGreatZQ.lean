/- Proved here: Plain laws of moved and shortened clips: they are valid, for use in the proofs of the given statements; conditions stand in each theorem. -/
import Derived.Test.YtinobebofhbnnaaGreatZM
import Derived.Test.YtinobebofhbnnaaGreatY8
set_option linter.unusedSimpArgs false
set_option linter.unusedVariables false
set_option linter.unusedSectionVars false
set_option linter.unnecessarySimpa false
namespace Go.Proofs.YtinobebofhbnnaaGreat
open Go.RowKit
set_option maxRecDepth 4000
theorem movedS_z {s:SourceR} (h:s.isZ=true) (n:Int):movedS s n=s:=by unfold movedS;rw [if_pos h]
theorem movedS_ok {s:SourceR} (hv:vSource s=true) {n:Int} (hn:n.natAbs≤2147483648) (hp:placedOk (movedS s n)=true):vSource (movedS s n)=true:=by
 cases hb:s.isZ with
 | true=>rw [movedS_z hb];exact hv
 | false =>
  obtain ⟨p,d,ok⟩:=srcOk_of hv hb
  obtain ⟨m3,m4⟩:=moved_bounds ok hn
  have mok:=moved_ok ok hn
  have hms:movedS s n = { s with pos:=ofQ (movedQ s n) }:=by unfold movedS;rw [hb];rfl
  have hk:s.kind≠0:=by rcases ok.kind with h | h<;>omega
  have hz:SourceR.isZ { s with pos:=ofQ (movedQ s n) }=false:=isZ_kind hk
  rw [hms] at hp ⊢
  unfold placedOk at hp
  rw [hz,Bool.false_or] at hp
  have hd2:s.speed.den.natAbs=d:=by rw [ok.hd,Int.natAbs_natCast]
  have hl:lcmS { s with pos:=ofQ (movedQ s n) }≤65536:=by
   unfold lcmS
   simp only [ofQ_den,Int.natAbs_natCast]
   rw [hd2]
   exact Nat.le_trans (Nat.le_of_dvd (Nat.lcm_pos ok.p1 ok.d1) (Nat.lcm_dvd m4 (Nat.dvd_lcm_right p d))) ok.lcm
  unfold vSource
  rw [hz]
  simp only [ok.name,mok,ok.speed,hp,ok.wspeed,decide_eq_true hl,Bool.and_true,Bool.false_or]
  rcases ok.kind with h | h<;>simp [h]
theorem kindOk_cases {c:ClipR} (h:kindOk c=true):c.kind=0∨c.kind=1∨c.kind=2∨c.kind=3∨c.kind=4∨c.kind=5:=by have:=kindOk_range h;omega
theorem kindOk_like {c d:ClipR} (h:kindOk c=true) (hk:d.kind=c.kind) (ha:c.a.isZ=true→d.a.isZ=true) (hb:c.b.isZ=true→d.b.isZ=true) (hp:d.param=c.param) (ht:d.text=c.text) (hg:d.gain=c.gain) (hc:d.chan=c.chan)
  (hn:shK c.kind=false→noShare c=true→noShare d=true) (hs:shK c.kind=true→shareOk c=true→shareOk d=true):kindOk d=true:=by
 rcases kindOk_cases h with e | e | e | e | e | e
 ·rw [kind0 e] at h
  rw [kind0 (hk.trans e),hp,ht,hg,hc]
  rw [e] at hn hs
  simp only [Bool.and_eq_true] at h ⊢
  obtain ⟨⟨⟨⟨⟨⟨x1,x2⟩,x3⟩,x4⟩,x5⟩,x6⟩,x7⟩:=h
  exact ⟨⟨⟨⟨⟨⟨ha x1,hb x2⟩,hn rfl x3⟩,x4⟩,x5⟩,x6⟩,x7⟩
 ·rw [kind1 e] at h
  rw [kind1 (hk.trans e),hp,ht]
  rw [e] at hn hs
  simp only [Bool.and_eq_true] at h ⊢
  obtain ⟨⟨⟨x2,x3⟩,x4⟩,x5⟩:=h
  exact ⟨⟨⟨hb x2,hn rfl x3⟩,x4⟩,x5⟩
 ·rw [kind2 e] at h
  rw [kind2 (hk.trans e),hp,ht]
  rw [e] at hn hs
  simp only [Bool.and_eq_true] at h ⊢
  obtain ⟨⟨x3,x4⟩,x5⟩:=h
  exact ⟨⟨hs rfl x3,x4⟩,x5⟩
 ·rw [kind3 e] at h
  rw [kind3 (hk.trans e),hp,ht]
  rw [e] at hn hs
  simp only [Bool.and_eq_true] at h ⊢
  obtain ⟨⟨⟨x3,x4⟩,x5⟩,x6⟩:=h
  exact ⟨⟨⟨hs rfl x3,x4⟩,x5⟩,x6⟩
 ·rw [kind4 e] at h
  rw [kind4 (hk.trans e),hp,ht]
  rw [e] at hn hs
  simp only [Bool.and_eq_true] at h ⊢
  obtain ⟨⟨⟨x3,x4⟩,x5⟩,x6⟩:=h
  exact ⟨⟨⟨hn rfl x3,x4⟩,x5⟩,x6⟩
 ·rw [kind5 e] at h
  rw [kind5 (hk.trans e),hp,ht]
  rw [e] at hn hs
  simp only [Bool.and_eq_true] at h ⊢
  obtain ⟨⟨⟨x2,x3⟩,x4⟩,x5⟩:=h
  exact ⟨⟨⟨hb x2,hn rfl x3⟩,x4⟩,x5⟩
theorem vClip_mk {d:ClipR} (h1 : 1≤d.len) (h2:d.len≤2147483647) (h3 : 0≤d.gain) (h4:d.gain≤65536) (h5:vChans d.chan=true) (h6:vSource d.a=true) (h7:vSource d.b=true) (h8:kindOk d=true):vClip d=true:=by
 unfold vClip baseOk
 rw [h5,h6,h7,h8,decide_eq_true h1,decide_eq_true h2,decide_eq_true h3,decide_eq_true h4]
 rfl
theorem noShare_off {c d:ClipR} (h1:d.off=c.off) (h2:d.total=c.total) (h:noShare c=true):noShare d=true:=by unfold noShare at h ⊢; rw [h1,h2];exact h
theorem shareOk_mk {d:ClipR} (h1 : 0≤d.off) (h2:d.len≤d.total) (h3:d.total≤2147483647) (h4:d.off≤d.total - d.len):shareOk d=true:=by
 unfold shareOk
 rw [decide_eq_true h1,decide_eq_true h2,decide_eq_true h3,decide_eq_true h4]
 rfl
theorem shareOk_inv {c:ClipR} (h:shareOk c=true) : 0≤c.off∧c.len≤c.total∧c.total≤2147483647∧c.off≤c.total - c.len:=by
 unfold shareOk at h
 simp only [Bool.and_eq_true,decide_eq_true_eq] at h
 exact ⟨h.1.1.1,h.1.1.2,h.1.2,h.2⟩
theorem advR_ok {c:ClipR} (hv:vClip c=true) {n:Int} (h0 : 0≤n) (h1:n<c.len) (hp:placedOk (movedS c.a n)=true) (hq:placedOk (movedS c.b n)=true):vClip (advR c n)=true:=by
 obtain ⟨v1,v2,v3,v4,v5,v6,v7,v8⟩:=vClip_parts hv
 refine vClip_mk (by show 1≤c.len - n;omega) (by show c.len - n≤_;omega) v3 v4 v5 (movedS_ok v6 (by omega) hp) (movedS_ok v7 (by omega) hq) ?_
 refine kindOk_like v8 rfl (fun h=>?_) (fun h=>?_) rfl rfl rfl rfl (fun hs hn=>?_) (fun hs hn=>?_)
 ·show (movedS c.a n).isZ=true;rw [movedS_z h];exact h
 ·show (movedS c.b n).isZ=true;rw [movedS_z h];exact h
 ·refine noShare_off (c:=c) ?_ rfl hn
  show (if shK c.kind=true then _ else _)=_
  rw [hs];rfl
 ·obtain ⟨s1,s2,s3,s4⟩:=shareOk_inv hn
  have e:(advR c n).off=c.off+n:=by show (if shK c.kind=true then _ else _)=_;rw [hs];rfl
  have e2:(advR c n).len=c.len - n:=rfl
  have e3:(advR c n).total=c.total:=rfl
  refine shareOk_mk ?_ ?_ ?_ ?_<;>omega
theorem headR_ok {c:ClipR} (hv:vClip c=true) {n:Int} (h0 : 1≤n) (h1:n≤c.len):vClip { c with len:=n }=true:=by
 obtain ⟨v1,v2,v3,v4,v5,v6,v7,v8⟩:=vClip_parts hv
 refine vClip_mk h0 (by show n≤_;omega) v3 v4 v5 v6 v7 ?_
 refine kindOk_like v8 rfl (fun h=>h) (fun h=>h) rfl rfl rfl rfl (fun hs hn=>noShare_off rfl rfl hn) (fun hs hn=>?_)
 obtain ⟨s1,s2,s3,s4⟩:=shareOk_inv hn
 refine shareOk_mk s1 ?_ s3 ?_<;>simp only<;>omega
def smallS (s:SourceR):Prop:=s.isZ=true∨(s.pos.num.natAbs≤1000000∧s.speed.num.natAbs≤1000000)
theorem placed_small {s:SourceR} (hv:vSource s=true) (hs:smallS s) {n:Int} (hn:n.natAbs≤1000):placedOk (movedS s n)=true:=by
 cases hb:s.isZ with
 | true=>rw [movedS_z hb];unfold placedOk;rw [hb];rfl
 | false =>
  obtain ⟨p,d,ok⟩:=srcOk_of hv hb
  have hsm:s.pos.num.natAbs≤1000000∧s.speed.num.natAbs≤1000000:=by
   rcases hs with h | h
   ·rw [hb] at h;cases h
   ·exact h
  have hms:movedS s n = { s with pos:=ofQ (movedQ s n) }:=by unfold movedS;rw [hb];rfl
  obtain ⟨q1,q2⟩:=moved_parts ok n
  have hL : 0<Nat.lcm p d:=Nat.lcm_pos ok.p1 ok.d1
  have hN:(numB s n p d).natAbs≤1099511627776*Nat.lcm p d:=by
   unfold numB
   have b1:(s.pos.num*((Nat.lcm p d / p:Nat):Int)).natAbs≤1000000*Nat.lcm p d:=by
    rw [Int.natAbs_mul,Int.natAbs_natCast]
    exact Nat.mul_le_mul hsm.1 (Nat.div_le_self _ _)
   have b2:(n*s.speed.num*((Nat.lcm p d / d:Nat):Int)).natAbs≤1000*1000000*Nat.lcm p d:=by
    rw [Int.natAbs_mul,Int.natAbs_natCast,Int.natAbs_mul]
    exact Nat.mul_le_mul (Nat.mul_le_mul hn hsm.2) (Nat.div_le_self _ _)
   have b3:=Int.natAbs_add_le (s.pos.num*((Nat.lcm p d / p:Nat):Int)) (n*s.speed.num*((Nat.lcm p d / d:Nat):Int))
   omega
  have hh:((movedQ s n).num.natAbs:Int)≤1099511627776*((movedQ s n).den:Int):=by
   rw [q1,q2]
   generalize numB s n p d=N at *
   generalize Nat.lcm p d=L at *
   have hg0 : 0<Nat.gcd N.natAbs L:=Nat.gcd_pos_of_pos_right _ hL
   obtain ⟨L',hL'⟩:=Nat.gcd_dvd_right N.natAbs L
   obtain ⟨N',hN'⟩:((Nat.gcd N.natAbs L:Nat):Int) ∣ N:=Int.ofNat_dvd_left.2 (Nat.gcd_dvd_left N.natAbs L)
   generalize Nat.gcd N.natAbs L=g at *
   have e1:N / (g:Int)=N':=by rw [hN'];exact Int.mul_ediv_cancel_left _ (by omega)
   have e2:L / g=L':=by rw [hL'];exact Nat.mul_div_cancel_left _ hg0
   rw [e1,e2]
   have h1:g*N'.natAbs≤g*(1099511627776*L'):=by
    have:N.natAbs=g*N'.natAbs:=by rw [hN',Int.natAbs_mul,Int.natAbs_natCast]
    rw [← this]
    calc N.natAbs≤1099511627776*L:=hN
     _=g*(1099511627776*L'):=by rw [hL',Nat.mul_left_comm]
   have h2:=Nat.le_of_mul_le_mul_left h1 hg0
   omega
  unfold placedOk
  rw [hms,Bool.or_eq_true]
  right
  unfold vWith
  exact decide_eq_true hh
open Go.RowKit
set_option maxRecDepth 4000
def pkA (c:ClipR):List ClipR→List ClipR
 | []=>[c]
 | q::l=>if contC c q=true then pkA { c with len:=c.len+q.len } l else c::pkA q l
def pk:List ClipR→List ClipR
 | []=>[]
 | c::l=>pkA c l
def Src2 (c:ClipR):Prop:=vSource c.a=true∧vSource c.b=true
theorem src2_of {c:ClipR} (h:vClip c=true):Src2 c:=by
 obtain ⟨v1,v2,v3,v4,v5,v6,v7,v8⟩:=vClip_parts h
 exact ⟨v6,v7⟩
theorem contC_len (c q:ClipR) (m:Int):contC c { q with len:=m }=contC c q:=by
 unfold contC
 simp only
 split
 ·rfl
 ·unfold ClipR.eqb
  simp only [beq_self_eq_true]
theorem packGo_pk {t:List ClipR} (hv:vTrack t=true) (hfit:∀ c∈t,c.fit):∀ k,1≤k→k≤t.length → ∃ i c,packGo t k=i ++ [c]∧pk t=i++pkA c (t.drop k)
 | 0,h,_=>by omega
 | 1,_,hk=>by
  refine ⟨[],t.getD 0 default,?_,?_⟩
  ·rw [packGo,if_neg (by simp [packB])];rfl
  ·conv=>lhs;rw [← List.drop_zero (l:=t),drop_cons (t:=t) (k:=0) (by omega)]
   rfl
 | k+2,_,hk=>by
  obtain ⟨i,c,h1,h2⟩:=packGo_pk hv hfit (k+1) (by omega) (by omega)
  have hl:=packGo_last hv hfit (k+1) (by omega) i c h1 (t.getD (k+1) default)
  have hp:packB t (k+1)=contC c (t.getD (k+1) default):=by unfold packB;rw [hl,decide_eq_true (by omega : 0<k+1),Bool.true_and]
  rw [drop_cons (t:=t) (k:=k+1) (by omega),pkA] at h2
  rw [packGo,hp,h1]
  split
  ·rename_i hc
   rw [if_pos hc] at h2
   exact ⟨i,_,addLast_snoc _ _ _,h2⟩
  ·rename_i hc
   rw [if_neg hc] at h2
   exact ⟨i ++ [c],_,rfl,by rw [h2];simp⟩
theorem packP_pk {t:List ClipR} (hv:vTrack t=true) (hfit:∀ c∈t,c.fit):packP t=pk t:=by
 cases t with
 | nil=>rfl
 | cons x l =>
  obtain ⟨i,c,h1,h2⟩:=packGo_pk hv hfit (x::l).length (by simp) (Nat.le_refl _)
  unfold packP
  rw [h1,h2,List.drop_length]
  rfl
theorem pkA_head:∀ (l:List ClipR) (c:ClipR), ∃ n r,pkA c l = { c with len:=n }::r
 | [],c=>⟨c.len,[],rfl⟩
 | q::l,c=>by
  rw [pkA]
  split
  ·obtain ⟨n,r,h⟩:=pkA_head l { c with len:=c.len+q.len }
   exact ⟨n,r,h⟩
  ·exact ⟨c.len,_,rfl⟩
theorem pkA_tot:∀ (l:List ClipR) (c:ClipR),totL (pkA c l)=c.len+totL l
 | [],c=>by simp [pkA,totL]
 | q::l,c=>by
  rw [pkA]
  split
  ·rw [pkA_tot l];simp only [totL];omega
  ·simp only [totL];rw [pkA_tot l q]
theorem pkA_size:∀ (l:List ClipR) (c:ClipR),(pkA c l).length≤l.length+1
 | [],c=>by simp [pkA]
 | q::l,c=>by
  rw [pkA]
  split
  ·have:=pkA_size l { c with len:=c.len+q.len }
   simp only [List.length_cons];omega
  ·have:=pkA_size l q
   simp only [List.length_cons];omega
def NoC:List ClipR→Prop
 | []=>True
 | [_]=>True
 | c::d::l=>contC c d=false∧NoC (d::l)
theorem pkA_noC:∀ (l:List ClipR) (c:ClipR),Src2 c→(∀ d∈l,Src2 d)→NoC (pkA c l)
 | [],c,_,_=>trivial
 | q::l,c,hc,hl=>by
  rw [pkA]
  split
  ·exact pkA_noC l _ hc fun d hd=>hl d (by simp [hd])
  ·rename_i hn
   obtain ⟨n,r,h⟩:=pkA_head l q
   have ih:=pkA_noC l q (hl q (by simp)) fun d hd=>hl d (by simp [hd])
   rw [h] at ih ⊢
   exact ⟨by rw [contC_len];simpa using hn,ih⟩
theorem pkA_id:∀ (l:List ClipR) (c:ClipR),NoC (c::l)→pkA c l=c::l
 | [],c,_=>rfl
 | q::l,c,h=>by
  rw [pkA,if_neg (by rw [h.1];simp),pkA_id l q h.2]
theorem pk_id {l:List ClipR} (h:NoC l):pk l=l:=by
 cases l with
 | nil=>rfl
 | cons c l=>exact pkA_id l c h
theorem pk_noC {l:List ClipR} (h:∀ d∈l,Src2 d):NoC (pk l):=by
 cases l with
 | nil=>trivial
 | cons c l=>exact pkA_noC l c (h c (by simp)) fun d hd=>h d (by simp [hd])
theorem pk_tot (l:List ClipR):totL (pk l)=totL l:=by
 cases l with
 | nil=>rfl
 | cons c l=>exact pkA_tot l c
theorem pk_size (l:List ClipR):(pk l).length≤l.length:=by
 cases l with
 | nil=>exact Nat.le_refl _
 | cons c l=>exact pkA_size l c
theorem gap_eq {c:ClipR} (h:vClip c=true) (hk:c.kind=0):c=⟨c.len,0,zSource,zSource,0,0,0,⟨#[]⟩,0,[]⟩:=by
 obtain ⟨v1,v2,v3,v4,v5,v6,v7,v8⟩:=vClip_parts h
 rw [kind0 hk] at v8
 simp only [Bool.and_eq_true,beq_iff_eq,noShare,emp] at v8
 obtain ⟨⟨⟨⟨⟨⟨x1,x2⟩,x3⟩,x4⟩,x5⟩,x6⟩,x7⟩:=v8
 have y1:=SourceR.eqb_iff.1 x1
 have y2:=SourceR.eqb_iff.1 x2
 have y5:c.text=⟨#[]⟩:=bytes_inj x5
 have y7:c.chan = []:=List.length_eq_zero_iff.1 x7
 obtain ⟨len,kind,a,b,off,total,param,text,gain,chan⟩:=c
 simp only at *
 obtain ⟨x3,x3'⟩:=x3
 subst hk y1 y2 x3 x3' x4 y5 x6 y7
 rfl
theorem gap_shift (len n:Int):shiftR ⟨len,0,zSource,zSource,0,0,0,⟨#[]⟩,0,[]⟩ n=⟨len,0,zSource,zSource,0,0,0,⟨#[]⟩,0,[]⟩:=by
 unfold shiftR
 simp only [movedS_z (s:=zSource) (by kernel_rfl)]
 rfl
theorem contC_iff {c q:ClipR} (hc:vClip c=true) (hq:vClip q=true):contC c q=true ↔ q = { shiftR c c.len with len:=q.len }:=by
 unfold contC
 split
 ·rename_i hk
  simp only [Bool.and_eq_true,beq_iff_eq] at hk
  have e1:=gap_eq hc hk.1
  have e2:=gap_eq hq hk.2
  constructor
  ·intro _
   rw [e1,gap_shift]
   exact e2
  ·intro _;rfl
 ·rw [ClipR.eqb_iff]
theorem join_ok {c q:ClipR} (hc:vClip c=true) (hq:vClip q=true) (h:contC c q=true) (hl:c.len+q.len≤2147483647):vClip { c with len:=c.len+q.len }=true:=by
 have e:=(contC_iff hc hq).1 h
 obtain ⟨v1,v2,v3,v4,v5,v6,v7,v8⟩:=vClip_parts hc
 obtain ⟨w1,w2,w3,w4,w5,w6,w7,w8⟩:=vClip_parts hq
 refine vClip_mk (by show 1≤c.len+q.len;omega) hl v3 v4 v5 v6 v7 ?_
 refine kindOk_like v8 rfl (fun h=>h) (fun h=>h) rfl rfl rfl rfl (fun hs hn=>noShare_off rfl rfl hn) (fun hs hn=>?_)
 obtain ⟨s1,s2,s3,s4⟩:=shareOk_inv hn
 have e1:q.off=c.off+c.len:=by
  rw [e]
  show (if shK c.kind=true then _ else _)=_
  rw [hs];rfl
 have e2:q.total=c.total:=by rw [e];rfl
 have ek:q.kind=c.kind:=by rw [e];rfl
 have:=share_off hq (by rw [ek];exact hs)
 refine shareOk_mk s1 ?_ s3 ?_<;>simp only<;>omega
theorem fit_len {c:ClipR} (h:c.fit) {n:Int} (h0 : 0≤n) (h1:n≤2147483647):({ c with len:=n }:ClipR).fit:=⟨⟨by simp only;omega,by simp only;omega⟩,h.kind,h.a,h.b,h.off,h.total,h.param,h.gain⟩
theorem pkA_ok:∀ (l:List ClipR) (c:ClipR),(vClip c=true∧c.fit)→(∀ d∈l,vClip d=true∧d.fit)→c.len+totL l≤2147483647 → ∀ d∈pkA c l,vClip d=true∧d.fit
 | [],c,hc,_,_,d,hd=>by
  simp only [pkA,List.mem_cons,List.not_mem_nil,or_false] at hd
  rw [hd];exact hc
 | q::l,c,hc,hl,ht,d,hd=>by
  have hq:=hl q (by simp)
  have hl2:∀ d∈l,vClip d=true∧d.fit:=fun d hd=>hl d (by simp [hd])
  have h0:=totL_nonneg l fun d hd=>(vClip_len (hl2 d hd).1).1
  have hc1:=vClip_len hc.1
  have hq1:=vClip_len hq.1
  simp only [totL] at ht
  rw [pkA] at hd
  split at hd
  ·rename_i hcc
   exact pkA_ok l _ ⟨join_ok hc.1 hq.1 hcc (by omega),fit_len hc.2 (by omega) (by omega)⟩ hl2 (by simp only;omega) d hd
  ·rcases List.mem_cons.1 hd with hd | hd
   ·rw [hd];exact hc
   ·exact pkA_ok l q hq hl2 (by omega) d hd
theorem vTrack_mk {t:List ClipR} (h1:t.length≤64) (h2:∀ c∈t,vClip c=true) (h3:totL t≤2147483647):vTrack t=true:=by
 unfold vTrack
 rw [decide_eq_true h1,decide_eq_true h3,List.all_eq_true.2 h2]
 rfl
theorem pk_ok {t:List ClipR} (h:∀ d∈t,vClip d=true∧d.fit) (ht:totL t≤2147483647):∀ d∈pk t,vClip d=true∧d.fit:=by
 cases t with
 | nil=>intro d hd;simp [pk] at hd
 | cons c l=>exact pkA_ok l c (h c (by simp)) (fun d hd=>h d (by simp [hd])) (by simpa [totL] using ht)
section
variable {t:List ClipR} (hv:vTrack t=true) (hfit:∀ c∈t,c.fit)
include hv hfit
theorem both_of:∀ d∈t,vClip d=true∧d.fit:=fun d hd=>⟨(track_all hv).2.1 d hd,hfit d hd⟩
theorem packT_pk:packT t=pk t:=by unfold packT;rw [if_pos hv,packP_pk hv hfit]
theorem pack_vTrack:vTrack (packT t)=true:=by
 rw [packT_pk hv hfit]
 obtain ⟨h1,h2,h3⟩:=track_all hv
 exact vTrack_mk (Nat.le_trans (pk_size t) h1) (fun c hc=>(pk_ok (both_of hv hfit) h3 c hc).1) (by rw [pk_tot];exact h3)
theorem pack_fit:∀ c∈packT t,c.fit:=by
 rw [packT_pk hv hfit]
 exact fun c hc=>(pk_ok (both_of hv hfit) (track_all hv).2.2 c hc).2
theorem pack_len:lenT (packT t)=lenT t:=by
 unfold lenT
 rw [if_pos hv,if_pos (pack_vTrack hv hfit),packT_pk hv hfit,pk_tot]
end
theorem cleanL_take (o:List ClipR):∃ k,cleanL o=o.take k∧o.length≤k+1:=by
 unfold cleanL
 split
 ·exact ⟨o.length - 1,rfl,by omega⟩
 ·exact ⟨o.length,by rw [List.take_length],by omega⟩
theorem totL_takeLe {t:List ClipR} (h:∀ c∈t,1≤c.len) (k:Nat):totL (t.take k)≤totL t:=by
 have e:=totL_app (t.take k) (t.drop k)
 rw [List.take_append_drop] at e
 have:=totL_nonneg (t.drop k) fun c hc=>h c (List.mem_of_mem_drop hc)
 omega
theorem NoC_take:∀ (l:List ClipR) (k:Nat),NoC l→NoC (l.take k)
 | [],k,_=>by simp [NoC]
 | [c],0,_=>trivial
 | [c],k+1,_=>by simp [NoC]
 | c::d::l,0,_=>trivial
 | c::d::l,1,_=>by simp [NoC]
 | c::d::l,k+2,h=>by
  have ih:=NoC_take (d::l) (k+1) h.2
  simp only [List.take_succ_cons] at ih ⊢
  exact ⟨h.1,ih⟩
theorem NoC_app:∀ (l:List ClipR) (c d:ClipR),NoC (l ++ [c,d])→contC c d=false
 | [],c,d,h=>h.1
 | [x],c,d,h=>h.2.1
 | x::y::l,c,d,h=>NoC_app (y::l) c d h.2
theorem gapLast_snoc (i:List ClipR) (c:ClipR):gapLast (i ++ [c])=(c.kind==0):=by
 unfold gapLast
 have:(i ++ [c]).length - 1=i.length:=by simp
 rw [this,getD_snoc]
 simp
theorem clean_facts {o:List ClipR} (h:NoC o):gapLast (cleanL o)=false∧NoC (cleanL o):=by
 cases hg:gapLast o with
 | false =>
  have e:cleanL o=o:=by unfold cleanL;rw [hg];rfl
  rw [e];exact ⟨hg,h⟩
 | true =>
  have e:cleanL o=o.take (o.length - 1):=by unfold cleanL;rw [if_pos hg]
  rw [e]
  refine ⟨?_,NoC_take _ _ h⟩
  rcases List.eq_nil_or_concat o with rfl | ⟨i,c,rfl⟩
  ·rfl
  ·rw [List.concat_eq_append] at *
   rw [gapLast_snoc] at hg
   have e2:(i ++ [c]).take ((i ++ [c]).length - 1)=i:=by simp
   rw [e2]
   rcases List.eq_nil_or_concat i with rfl | ⟨j,d,rfl⟩
   ·rfl
   ·rw [List.concat_eq_append] at *
    rw [gapLast_snoc]
    have h3:=NoC_app j d c (by simpa using h)
    rw [Bool.eq_false_iff]
    intro hd
    unfold contC at h3
    rw [if_pos (by rw [hd,hg];rfl)] at h3
    cases h3
theorem clean_id {o:List ClipR} (h:gapLast o=false):cleanL o=o:=by unfold cleanL;rw [h];rfl
section
variable {t:List ClipR} (hv:vTrack t=true) (hfit:∀ c∈t,c.fit)
include hv hfit
theorem norm_take:∃ k,normT t=(packT t).take k∧(packT t).length≤k+1:=cleanL_take _
theorem norm_fit:∀ c∈normT t,c.fit:=by
 obtain ⟨k,e,_⟩:=norm_take hv hfit
 rw [e]
 exact fun c hc=>pack_fit hv hfit c (List.mem_of_mem_take hc)
theorem norm_vTrack:vTrack (normT t)=true:=by
 obtain ⟨k,e,_⟩:=norm_take hv hfit
 obtain ⟨h1,h2,h3⟩:=track_all (pack_vTrack hv hfit)
 rw [e]
 refine vTrack_mk (by simp only [List.length_take];omega) (fun c hc=>h2 c (List.mem_of_mem_take hc)) ?_
 have:=totL_takeLe (t:=packT t) (fun c hc=>(vClip_len (h2 c hc)).1) k
 omega
theorem norm_facts:gapLast (normT t)=false∧NoC (normT t):=by
 refine clean_facts ?_
 rw [packT_pk hv hfit]
 exact pk_noC fun d hd=>src2_of ((track_all hv).2.1 d hd)
theorem norm_pack:packT (normT t)=normT t:=by
 rw [packT_pk (norm_vTrack hv hfit) (norm_fit hv hfit),pk_id (norm_facts hv hfit).2]
theorem norm_idem:normT (normT t)=normT t:=by
 have e:normT (normT t)=cleanL (packT (normT t)):=rfl
 rw [e,norm_pack hv hfit,clean_id (norm_facts hv hfit).1]
end
open Go.RowKit
set_option maxRecDepth 4000
def Small (s:SourceR):Prop:=s.pos.num.natAbs≤100000∧s.pos.den.natAbs≤100000∧s.speed.num.natAbs≤100000
theorem small_z:Small zSource:=⟨by decide,by decide,by decide⟩
theorem ratOk_small {r q:RatR} (h:ratOk r q=true) {kd:Int} {nm:ByteArray} {sm:Bool}:Small ⟨kd,nm,r,q,sm⟩:=by
 unfold ratOk at h
 simp only [Bool.and_eq_true,decide_eq_true_eq] at h
 exact ⟨h.1.1.1.2,h.1.1.2,h.1.2⟩
theorem srcAt_small (L:List Int) (k:Nat) (m s:Int):Small (srcAt L k m s).1:=by
 unfold srcAt
 split
 ·exact small_z
 ·split
  ·exact ratOk_small (tape_rat L _ _)
  ·split
   ·exact ratOk_small (tape_rat L _ _)
   ·exact small_z
theorem clipAt_small (L:List Int) (k:Nat) (m s:Int):Small (clipAt L k m s).1.a∧Small (clipAt L k m s).1.b∧1≤(clipAt L k m s).1.len∧(clipAt L k m s).1.len≤9:=by
 have n9:=tapeN_lt (L:=L) (k:=k) (n:=9) (by omega)
 have hl : 1≤1+tapeN L k 9∧1+tapeN L k 9≤9:=by omega
 have h1:=srcAt_small L (k+2) m s
 have h2:=srcAt_small L (srcAt L (k+2) m s).2 m s
 unfold clipAt
 simp only
 split
 ·exact ⟨small_z,small_z,hl⟩
 ·split
  ·split<;>exact ⟨h1,h2,hl⟩
  ·split
   ·exact ⟨h1,h2,hl⟩
   ·split<;>exact ⟨h1,small_z,hl⟩
def one1:RatR:=⟨1,1⟩
def splitB (c:ClipR):Bool:=(c.kind != 2)&&(c.kind != 3)&&c.a.speed.eqb one1&&c.b.isZ
def splitD (c:ClipR) (n:Int):ClipR := { c with len:=n,a := { c.a with pos := { c.a.pos with num:=c.a.pos.num+c.len*c.a.pos.den } } }
def trkStep (L:List Int) (k:Nat) (m s:Int):List ClipR×Nat :=
 if tapeN L (clipAt L k m s).2 4=0 then
  (if splitB (clipAt L k m s).1=true then [(clipAt L k m s).1,splitD (clipAt L k m s).1 (1+tapeN L ((clipAt L k m s).2+1) 4)] else [(clipAt L k m s).1],(clipAt L k m s).2+2)
 else ([(clipAt L k m s).1],(clipAt L k m s).2+1)
def trkGo (L:List Int) (m s:Int):Nat→Nat→List ClipR×Nat
 | 0,k=>([],k)
 | n+1,k=>((trkStep L k m s).1++(trkGo L m s n (trkStep L k m s).2).1,(trkGo L m s n (trkStep L k m s).2).2)
def trkAt (L:List Int) (k:Nat) (m s most:Int):List ClipR×Nat:=trkGo L m s (tapeN L k (most+1)).toNat (k+1)
def trackT (L:List Int):List ClipR:=(trkAt L 0 3 2 9).1
structure Nice (c:ClipR):Prop where
 ok:vClip c=true
 fit:c.fit
 sa:smallS c.a
 sb:smallS c.b
 l9:c.len≤9
 chan:c.chan = []
theorem small_S {s:SourceR} (h:Small s):smallS s := .inr ⟨by have:=h.1;omega,by have:=h.2.2;omega⟩
theorem clipAt_nice (L:List Int) (k:Nat) (m s:Int) (hm:m≤9) (hs:s≤9):Nice (clipAt L k m s).1:=by
 obtain ⟨h1,h2⟩:=clipAt_ok L k m s hm hs
 obtain ⟨h3,h4,h5,h6⟩:=clipAt_small L k m s
 exact ⟨h1,h2,small_S h3,small_S h4,h6,clipAt_chan L k m s⟩
theorem splitB_inv {c:ClipR} (h:splitB c=true):c.kind≠2∧c.kind≠3∧c.a.speed=one1∧c.b.isZ=true:=by
 unfold splitB at h
 simp only [Bool.and_eq_true,bne_iff_ne,ne_eq] at h
 obtain ⟨⟨⟨h1,h2⟩,h3⟩,h4⟩:=h
 refine ⟨h1,h2,?_,h4⟩
 unfold RatR.eqb at h3
 simp only [Bool.and_eq_true,beq_iff_eq] at h3
 cases hsp:c.a.speed with
 | mk n d =>
  rw [hsp] at h3
  obtain ⟨h5,h6⟩:=h3
  simp only [one1] at h5 h6
  rw [h5,h6]
  rfl
theorem split_nice {c:ClipR} (h:Nice c) (hs:Small c.a) (hb:splitB c=true) {n:Int} (n0 : 1≤n) (n1:n≤4):Nice (splitD c n):=by
 obtain ⟨k2,k3,hsp,hbz⟩:=splitB_inv hb
 obtain ⟨v1,v2,v3,v4,v5,v6,v7,v8⟩:=vClip_parts h.ok
 have hz:c.a.isZ=false:=by
  rw [Bool.eq_false_iff]
  intro hz
  have e:=SourceR.eqb_iff.1 hz
  rw [e] at hsp
  cases hsp
 obtain ⟨p,d,ok⟩:=srcOk_of v6 hz
 obtain ⟨q1,q2,q3⟩:=hs
 have hl9:=h.l9
 have hp:=ok.hp
 have p1:=ok.p1
 have hpd:c.a.pos.den.natAbs=p:=by rw [hp,Int.natAbs_natCast]
 rw [hpd] at q2
 have hb1 : 0≤c.len*c.a.pos.den∧c.len*c.a.pos.den≤900000:=by
  rw [hp]
  have:c.len*(p:Int)≤9*100000:=Int.mul_le_mul (by omega) (by omega) (by omega) (by omega)
  exact ⟨Int.mul_nonneg (by omega) (by omega),by omega⟩
 have hk:c.a.kind≠0:=by rcases ok.kind with h | h<;>omega
 have hz2:(splitD c n).a.isZ=false:=isZ_kind hk
 have hg:Nat.gcd (c.a.pos.num+c.len*c.a.pos.den).natAbs c.a.pos.den.natAbs=1:=by
  have h1:=ok.pos
  unfold vRat at h1
  simp only [Bool.and_eq_true,decide_eq_true_eq] at h1
  have h2:Int.gcd (c.a.pos.num+c.len*c.a.pos.den) c.a.pos.den=Int.gcd c.a.pos.num c.a.pos.den:=Int.gcd_add_mul_right_left _ _ _
  exact h2.trans h1.2
 have hva:vSource (splitD c n).a=true:=by
  unfold vSource
  rw [hz2]
  have e1:vRat (splitD c n).a.pos=true:=by
   unfold vRat
   have f1 : 1≤(splitD c n).a.pos.den:=by show 1≤c.a.pos.den;omega
   have f2 : -9223372036854775808<(splitD c n).a.pos.num:=by show _<c.a.pos.num+c.len*c.a.pos.den;omega
   rw [decide_eq_true f1,decide_eq_true f2]
   exact decide_eq_true hg
  have e2:vWith (splitD c n).a.pos 1099511627776=true:=by
   unfold vWith
   refine decide_eq_true ?_
   show ((c.a.pos.num+c.len*c.a.pos.den).natAbs:Int)≤1099511627776*c.a.pos.den
   omega
  have e3:decide (lcmS (splitD c n).a≤65536)=true:=by
   have:lcmS (splitD c n).a=Nat.lcm p d:=by unfold lcmS splitD;simp only;rw [hpd,ok.hd,Int.natAbs_natCast]
   rw [this]
   exact decide_eq_true ok.lcm
  have e4:vRat (splitD c n).a.speed=true:=ok.speed
  have e5:vWith (splitD c n).a.speed 1024=true:=ok.wspeed
  have e6:vName (splitD c n).a.name=true:=ok.name
  rw [e1,e2,e3,e4,e5,e6]
  have e7:(splitD c n).a.kind=1∨(splitD c n).a.kind=2:=ok.kind
  rcases e7 with h | h<;>simp [h]
 have hok:vClip (splitD c n)=true:=by
  refine vClip_mk n0 (by show n≤_;omega) v3 v4 v5 hva v7 ?_
  refine kindOk_like v8 rfl (fun h=>?_) (fun h=>h) rfl rfl rfl rfl (fun hs hn=>noShare_off (c:=c) rfl rfl hn) (fun hs hn=>?_)
  ·rw [hz] at h;cases h
  ·unfold shK at hs
   have:c.kind=2∨c.kind=3:=by simpa using hs
   omega
 refine ⟨hok,⟨⟨by show _≤n;omega,by show n≤_;omega⟩,h.fit.kind,⟨h.fit.a.kind,⟨⟨?_,?_⟩,h.fit.a.pos.den⟩,h.fit.a.speed⟩,h.fit.b,h.fit.off,h.fit.total,h.fit.param,h.fit.gain⟩, .inr ⟨?_,?_⟩,h.sb,by show n≤9;omega,h.chan⟩
 ·show _≤c.a.pos.num+c.len*c.a.pos.den;omega
 ·show c.a.pos.num+c.len*c.a.pos.den≤_;omega
 ·show (c.a.pos.num+c.len*c.a.pos.den).natAbs≤_;omega
 ·show c.a.speed.num.natAbs≤_;omega
theorem trkStep_facts (L:List Int) (k:Nat) (m s:Int) (hm:m≤9) (hs:s≤9):(∀ c∈(trkStep L k m s).1,Nice c)∧(trkStep L k m s).1.length≤2∧(trkStep L k m s).2≤k+19∧1≤(trkStep L k m s).1.length:=by
 have h1:=clipAt_nice L k m s hm hs
 have h2:=(clipAt_small L k m s).1
 have h3:=clipAt_le L k m s
 have h4:=tapeN_lt (L:=L) (k:=(clipAt L k m s).2+1) (n:=4) (by omega)
 unfold trkStep
 split
 ·split
  ·rename_i hb
   refine ⟨fun c hc=>?_,by simp,by simp only;omega,by simp⟩
   simp only [List.mem_cons,List.not_mem_nil,or_false] at hc
   rcases hc with rfl | rfl
   ·exact h1
   ·exact split_nice h1 h2 hb (by omega) (by omega)
  ·refine ⟨fun c hc=>?_,by simp,by simp only;omega,by simp⟩
   simp only [List.mem_cons,List.not_mem_nil,or_false] at hc
   rw [hc];exact h1
 ·refine ⟨fun c hc=>?_,by simp,by simp only;omega,by simp⟩
  simp only [List.mem_cons,List.not_mem_nil,or_false] at hc
  rw [hc];exact h1
theorem trkGo_facts (L:List Int) (m s:Int) (hm:m≤9) (hs:s≤9):∀ (n k:Nat),(∀ c∈(trkGo L m s n k).1,Nice c)∧(trkGo L m s n k).1.length≤2*n
 | 0,k=>⟨fun c hc=>by simp [trkGo] at hc,by simp [trkGo]⟩
 | n+1,k=>by
  obtain ⟨h1,h2⟩:=trkGo_facts L m s hm hs n (trkStep L k m s).2
  obtain ⟨h3,h4,_,_⟩:=trkStep_facts L k m s hm hs
  simp only [trkGo]
  refine ⟨fun c hc=>?_,by simp only [List.length_append];omega⟩
  rcases List.mem_append.1 hc with hc | hc
  ·exact h3 c hc
  ·exact h1 c hc
theorem totL_nine:∀ (l:List ClipR),(∀ c∈l,c.len≤9)→totL l≤9*l.length
 | [],_=>by simp [totL]
 | c::l,h=>by
  have h1:=totL_nine l fun d hd=>h d (by simp [hd])
  have h2:=h c (by simp)
  simp only [totL,List.length_cons]
  omega
theorem trkAt_facts (L:List Int) (k:Nat) (m s most:Int) (hm:m≤9) (hs:s≤9) (h0 : 0≤most) (h9:most≤9):(∀ c∈(trkAt L k m s most).1,Nice c)∧(trkAt L k m s most).1.length≤18:=by
 obtain ⟨h1,h2⟩:=trkGo_facts L m s hm hs (tapeN L k (most+1)).toNat (k+1)
 have h3:=tapeN_lt (L:=L) (k:=k) (n:=most+1) (by omega)
 exact ⟨h1,by unfold trkAt;omega⟩
theorem vTrack_nice {t:List ClipR} (h:∀ c∈t,Nice c) (hl:t.length≤64):vTrack t=true:=by
 have h1:=totL_nine t fun c hc=>(h c hc).l9
 unfold vTrack
 rw [decide_eq_true hl,decide_eq_true (by omega:totL t≤2147483647),List.all_eq_true.2 fun c hc=>(h c hc).ok]
 rfl
open Go.RowKit
set_option maxRecDepth 4000
theorem advC_ok {c:ClipR} (hv:vClip c=true) {n:Int} (h0 : 0≤n) (h1:n<c.len) (hp:placedOk (movedS c.a n)=true) (hq:placedOk (movedS c.b n)=true):advC c n=(advR c n,0):=by
 unfold advC advOk
 rw [hv,decide_eq_true h0,decide_eq_true h1,hp,hq]
 rfl
theorem advR_fit {c:ClipR} (h:c.fit) (hv:vClip c=true) {n:Int} (h0 : 0≤n) (h1:n<c.len):(advR c n).fit:=by
 obtain ⟨v1,v2,v3,v4,v5,v6,v7,v8⟩:=vClip_parts hv
 refine ⟨⟨by show _≤c.len - n;omega,by show c.len - n≤_;omega⟩,h.kind,(moved_facts h.a v6 (by omega)).1,(moved_facts h.b v7 (by omega)).1,?_,h.total,h.param,h.gain⟩
 show I64 (if shK c.kind=true then c.off+n else c.off)
 split
 ·rename_i hs
  have:=share_off hv hs
  exact ⟨by omega,by omega⟩
 ·exact h.off
theorem advR_add {c:ClipR} (hv:vClip c=true) (n m:Int):advR (advR c n) m=advR c (n+m):=by
 obtain ⟨v1,v2,v3,v4,v5,v6,v7,v8⟩:=vClip_parts hv
 unfold advR
 simp only [movedS_add v6,movedS_add v7]
 have e:c.len - n - m=c.len - (n+m):=by omega
 rw [e]
 cases hs:shK c.kind with
 | true=>simp only [if_true];congr 1;omega
 | false=>simp only [Bool.false_eq_true,if_false]
theorem nice_placed {c:ClipR} (h:Nice c) {n:Int} (hn:n.natAbs≤1000):placedOk (movedS c.a n)=true∧placedOk (movedS c.b n)=true:=by
 obtain ⟨v1,v2,v3,v4,v5,v6,v7,v8⟩:=vClip_parts h.ok
 exact ⟨placed_small v6 h.sa hn,placed_small v7 h.sb hn⟩
end Go.Proofs.YtinobebofhbnnaaGreat
