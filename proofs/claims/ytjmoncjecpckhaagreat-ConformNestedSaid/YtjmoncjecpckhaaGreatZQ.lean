/- Proved here: Plain laws of moved and shortened clips: they are valid, for use in the proofs of the given statements; conditions stand in each theorem. -/
import Derived.Test.YtjmoncjecpckhaaGreatZM
import Derived.Test.YtjmoncjecpckhaaGreatY8
set_option linter.unusedSimpArgs false
set_option linter.unusedVariables false
set_option linter.unusedSectionVars false
set_option linter.unnecessarySimpa false
namespace Go.Proofs.YtjmoncjecpckhaaGreat
open Go.RowKit
set_option maxRecDepth 4000
theorem movedS_z {s:SourceR} (h:s.isZ=true) (n:Int):movedS s n=s:=by unfold movedS;rw [if_pos h]
theorem movedS_ok {s:SourceR} (hv:vSource s=true) {n:Int} (hn:n.natAbs≤2147483648) (hp:placedOk (movedS s n)=true):vSource (movedS s n)=true:=by
 cases hb:s.isZ with
 | true=>rw [movedS_z hb];exact hv
 | false =>
  obtain ⟨p,d,ok⟩:=srcOk_of hv hb
  obtain ⟨m3,m4⟩:=moved_bounds ok hn
  have mok:=moved_ok ok hn
  have hms:movedS s n = { s with pos:=ofQ (movedQ s n) }:=by unfold movedS;rw [hb];rfl
  have hk:s.kind≠0:=by rcases ok.kind with h | h<;>omega
  have hz:SourceR.isZ { s with pos:=ofQ (movedQ s n) }=false:=isZ_kind hk
  rw [hms] at hp ⊢
  unfold placedOk at hp
  rw [hz,Bool.false_or] at hp
  have hd2:s.speed.den.natAbs=d:=by rw [ok.hd,Int.natAbs_natCast]
  have hl:lcmS { s with pos:=ofQ (movedQ s n) }≤65536:=by
   unfold lcmS
   simp only [ofQ_den,Int.natAbs_natCast]
   rw [hd2]
   exact Nat.le_trans (Nat.le_of_dvd (Nat.lcm_pos ok.p1 ok.d1) (Nat.lcm_dvd m4 (Nat.dvd_lcm_right p d))) ok.lcm
  unfold vSource
  rw [hz]
  simp only [ok.name,mok,ok.speed,hp,ok.wspeed,decide_eq_true hl,Bool.and_true,Bool.false_or]
  rcases ok.kind with h | h<;>simp [h]
theorem kindOk_cases {c:ClipR} (h:kindOk c=true):c.kind=0∨c.kind=1∨c.kind=2∨c.kind=3∨c.kind=4∨c.kind=5:=by have:=kindOk_range h;omega
theorem kindOk_like {c d:ClipR} (h:kindOk c=true) (hk:d.kind=c.kind) (ha:c.a.isZ=true→d.a.isZ=true) (hb:c.b.isZ=true→d.b.isZ=true) (hp:d.param=c.param) (ht:d.text=c.text) (hg:d.gain=c.gain) (hc:d.chan=c.chan)
  (hn:shK c.kind=false→noShare c=true→noShare d=true) (hs:shK c.kind=true→shareOk c=true→shareOk d=true):kindOk d=true:=by
 rcases kindOk_cases h with e | e | e | e | e | e
 ·rw [kind0 e] at h
  rw [kind0 (hk.trans e),hp,ht,hg,hc]
  rw [e] at hn hs
  simp only [Bool.and_eq_true] at h ⊢
  obtain ⟨⟨⟨⟨⟨⟨x1,x2⟩,x3⟩,x4⟩,x5⟩,x6⟩,x7⟩:=h
  exact ⟨⟨⟨⟨⟨⟨ha x1,hb x2⟩,hn rfl x3⟩,x4⟩,x5⟩,x6⟩,x7⟩
 ·rw [kind1 e] at h
  rw [kind1 (hk.trans e),hp,ht]
  rw [e] at hn hs
  simp only [Bool.and_eq_true] at h ⊢
  obtain ⟨⟨⟨x2,x3⟩,x4⟩,x5⟩:=h
  exact ⟨⟨⟨hb x2,hn rfl x3⟩,x4⟩,x5⟩
 ·rw [kind2 e] at h
  rw [kind2 (hk.trans e),hp,ht]
  rw [e] at hn hs
  simp only [Bool.and_eq_true] at h ⊢
  obtain ⟨⟨x3,x4⟩,x5⟩:=h
  exact ⟨⟨hs rfl x3,x4⟩,x5⟩
 ·rw [kind3 e] at h
  rw [kind3 (hk.trans e),hp,ht]
  rw [e] at hn hs
  simp only [Bool.and_eq_true] at h ⊢
  obtain ⟨⟨⟨x3,x4⟩,x5⟩,x6⟩:=h
  exact ⟨⟨⟨hs rfl x3,x4⟩,x5⟩,x6⟩
 ·rw [kind4 e] at h
  rw [kind4 (hk.trans e),hp,ht]
  rw [e] at hn hs
  simp only [Bool.and_eq_true] at h ⊢
  obtain ⟨⟨⟨x3,x4⟩,x5⟩,x6⟩:=h
  exact ⟨⟨⟨hn rfl x3,x4⟩,x5⟩,x6⟩
 ·rw [kind5 e] at h
  rw [kind5 (hk.trans e),hp,ht]
  rw [e] at hn hs
  simp only [Bool.and_eq_true] at h ⊢
  obtain ⟨⟨⟨x2,x3⟩,x4⟩,x5⟩:=h
  exact ⟨⟨⟨hb x2,hn rfl x3⟩,x4⟩,x5⟩
theorem vClip_mk {d:ClipR} (h1 : 1≤d.len) (h2:d.len≤2147483647) (h3 : 0≤d.gain) (h4:d.gain≤65536) (h5:vChans d.chan=true) (h6:vSource d.a=true) (h7:vSource d.b=true) (h8:kindOk d=true):vClip d=true:=by
 unfold vClip baseOk
 rw [h5,h6,h7,h8,decide_eq_true h1,decide_eq_true h2,decide_eq_true h3,decide_eq_true h4]
 rfl
theorem noShare_off {c d:ClipR} (h1:d.off=c.off) (h2:d.total=c.total) (h:noShare c=true):noShare d=true:=by unfold noShare at h ⊢; rw [h1,h2];exact h
theorem shareOk_mk {d:ClipR} (h1 : 0≤d.off) (h2:d.len≤d.total) (h3:d.total≤2147483647) (h4:d.off≤d.total - d.len):shareOk d=true:=by
 unfold shareOk
 rw [decide_eq_true h1,decide_eq_true h2,decide_eq_true h3,decide_eq_true h4]
 rfl
theorem shareOk_inv {c:ClipR} (h:shareOk c=true) : 0≤c.off∧c.len≤c.total∧c.total≤2147483647∧c.off≤c.total - c.len:=by
 unfold shareOk at h
 simp only [Bool.and_eq_true,decide_eq_true_eq] at h
 exact ⟨h.1.1.1,h.1.1.2,h.1.2,h.2⟩
theorem advR_ok {c:ClipR} (hv:vClip c=true) {n:Int} (h0 : 0≤n) (h1:n<c.len) (hp:placedOk (movedS c.a n)=true) (hq:placedOk (movedS c.b n)=true):vClip (advR c n)=true:=by
 obtain ⟨v1,v2,v3,v4,v5,v6,v7,v8⟩:=vClip_parts hv
 refine vClip_mk (by show 1≤c.len - n;omega) (by show c.len - n≤_;omega) v3 v4 v5 (movedS_ok v6 (by omega) hp) (movedS_ok v7 (by omega) hq) ?_
 refine kindOk_like v8 rfl (fun h=>?_) (fun h=>?_) rfl rfl rfl rfl (fun hs hn=>?_) (fun hs hn=>?_)
 ·show (movedS c.a n).isZ=true;rw [movedS_z h];exact h
 ·show (movedS c.b n).isZ=true;rw [movedS_z h];exact h
 ·refine noShare_off (c:=c) ?_ rfl hn
  show (if shK c.kind=true then _ else _)=_
  rw [hs];rfl
 ·obtain ⟨s1,s2,s3,s4⟩:=shareOk_inv hn
  have e:(advR c n).off=c.off+n:=by show (if shK c.kind=true then _ else _)=_;rw [hs];rfl
  have e2:(advR c n).len=c.len - n:=rfl
  have e3:(advR c n).total=c.total:=rfl
  refine shareOk_mk ?_ ?_ ?_ ?_<;>omega
theorem headR_ok {c:ClipR} (hv:vClip c=true) {n:Int} (h0 : 1≤n) (h1:n≤c.len):vClip { c with len:=n }=true:=by
 obtain ⟨v1,v2,v3,v4,v5,v6,v7,v8⟩:=vClip_parts hv
 refine vClip_mk h0 (by show n≤_;omega) v3 v4 v5 v6 v7 ?_
 refine kindOk_like v8 rfl (fun h=>h) (fun h=>h) rfl rfl rfl rfl (fun hs hn=>noShare_off rfl rfl hn) (fun hs hn=>?_)
 obtain ⟨s1,s2,s3,s4⟩:=shareOk_inv hn
 refine shareOk_mk s1 ?_ s3 ?_<;>simp only<;>omega
def smallS (s:SourceR):Prop:=s.isZ=true∨(s.pos.num.natAbs≤1000000∧s.speed.num.natAbs≤1000000)
open Go.RowKit
set_option maxRecDepth 4000
def pkA (c:ClipR):List ClipR→List ClipR
 | []=>[c]
 | q::l=>if contC c q=true then pkA { c with len:=c.len+q.len } l else c::pkA q l
def pk:List ClipR→List ClipR
 | []=>[]
 | c::l=>pkA c l
def Src2 (c:ClipR):Prop:=vSource c.a=true∧vSource c.b=true
theorem packGo_pk {t:List ClipR} (hv:vTrack t=true) (hfit:∀ c∈t,c.fit):∀ k,1≤k→k≤t.length → ∃ i c,packGo t k=i ++ [c]∧pk t=i++pkA c (t.drop k)
 | 0,h,_=>by omega
 | 1,_,hk=>by
  refine ⟨[],t.getD 0 default,?_,?_⟩
  ·rw [packGo,if_neg (by simp [packB])];rfl
  ·conv=>lhs;rw [← List.drop_zero (l:=t),drop_cons (t:=t) (k:=0) (by omega)]
   rfl
 | k+2,_,hk=>by
  obtain ⟨i,c,h1,h2⟩:=packGo_pk hv hfit (k+1) (by omega) (by omega)
  have hl:=packGo_last hv hfit (k+1) (by omega) i c h1 (t.getD (k+1) default)
  have hp:packB t (k+1)=contC c (t.getD (k+1) default):=by unfold packB;rw [hl,decide_eq_true (by omega : 0<k+1),Bool.true_and]
  rw [drop_cons (t:=t) (k:=k+1) (by omega),pkA] at h2
  rw [packGo,hp,h1]
  split
  ·rename_i hc
   rw [if_pos hc] at h2
   exact ⟨i,_,addLast_snoc _ _ _,h2⟩
  ·rename_i hc
   rw [if_neg hc] at h2
   exact ⟨i ++ [c],_,rfl,by rw [h2];simp⟩
theorem packP_pk {t:List ClipR} (hv:vTrack t=true) (hfit:∀ c∈t,c.fit):packP t=pk t:=by
 cases t with
 | nil=>rfl
 | cons x l =>
  obtain ⟨i,c,h1,h2⟩:=packGo_pk hv hfit (x::l).length (by simp) (Nat.le_refl _)
  unfold packP
  rw [h1,h2,List.drop_length]
  rfl
theorem pkA_head:∀ (l:List ClipR) (c:ClipR), ∃ n r,pkA c l = { c with len:=n }::r
 | [],c=>⟨c.len,[],rfl⟩
 | q::l,c=>by
  rw [pkA]
  split
  ·obtain ⟨n,r,h⟩:=pkA_head l { c with len:=c.len+q.len }
   exact ⟨n,r,h⟩
  ·exact ⟨c.len,_,rfl⟩
theorem pkA_tot:∀ (l:List ClipR) (c:ClipR),totL (pkA c l)=c.len+totL l
 | [],c=>by simp [pkA,totL]
 | q::l,c=>by
  rw [pkA]
  split
  ·rw [pkA_tot l];simp only [totL];omega
  ·simp only [totL];rw [pkA_tot l q]
theorem pkA_size:∀ (l:List ClipR) (c:ClipR),(pkA c l).length≤l.length+1
 | [],c=>by simp [pkA]
 | q::l,c=>by
  rw [pkA]
  split
  ·have:=pkA_size l { c with len:=c.len+q.len }
   simp only [List.length_cons];omega
  ·have:=pkA_size l q
   simp only [List.length_cons];omega
def NoC:List ClipR→Prop
 | []=>True
 | [_]=>True
 | c::d::l=>contC c d=false∧NoC (d::l)
theorem pk_tot (l:List ClipR):totL (pk l)=totL l:=by
 cases l with
 | nil=>rfl
 | cons c l=>exact pkA_tot l c
theorem pk_size (l:List ClipR):(pk l).length≤l.length:=by
 cases l with
 | nil=>exact Nat.le_refl _
 | cons c l=>exact pkA_size l c
theorem gap_eq {c:ClipR} (h:vClip c=true) (hk:c.kind=0):c=⟨c.len,0,zSource,zSource,0,0,0,⟨#[]⟩,0,[]⟩:=by
 obtain ⟨v1,v2,v3,v4,v5,v6,v7,v8⟩:=vClip_parts h
 rw [kind0 hk] at v8
 simp only [Bool.and_eq_true,beq_iff_eq,noShare,emp] at v8
 obtain ⟨⟨⟨⟨⟨⟨x1,x2⟩,x3⟩,x4⟩,x5⟩,x6⟩,x7⟩:=v8
 have y1:=SourceR.eqb_iff.1 x1
 have y2:=SourceR.eqb_iff.1 x2
 have y5:c.text=⟨#[]⟩:=bytes_inj x5
 have y7:c.chan = []:=List.length_eq_zero_iff.1 x7
 obtain ⟨len,kind,a,b,off,total,param,text,gain,chan⟩:=c
 simp only at *
 obtain ⟨x3,x3'⟩:=x3
 subst hk y1 y2 x3 x3' x4 y5 x6 y7
 rfl
theorem gap_shift (len n:Int):shiftR ⟨len,0,zSource,zSource,0,0,0,⟨#[]⟩,0,[]⟩ n=⟨len,0,zSource,zSource,0,0,0,⟨#[]⟩,0,[]⟩:=by
 unfold shiftR
 simp only [movedS_z (s:=zSource) (by kernel_rfl)]
 rfl
theorem contC_iff {c q:ClipR} (hc:vClip c=true) (hq:vClip q=true):contC c q=true ↔ q = { shiftR c c.len with len:=q.len }:=by
 unfold contC
 split
 ·rename_i hk
  simp only [Bool.and_eq_true,beq_iff_eq] at hk
  have e1:=gap_eq hc hk.1
  have e2:=gap_eq hq hk.2
  constructor
  ·intro _
   rw [e1,gap_shift]
   exact e2
  ·intro _;rfl
 ·rw [ClipR.eqb_iff]
theorem join_ok {c q:ClipR} (hc:vClip c=true) (hq:vClip q=true) (h:contC c q=true) (hl:c.len+q.len≤2147483647):vClip { c with len:=c.len+q.len }=true:=by
 have e:=(contC_iff hc hq).1 h
 obtain ⟨v1,v2,v3,v4,v5,v6,v7,v8⟩:=vClip_parts hc
 obtain ⟨w1,w2,w3,w4,w5,w6,w7,w8⟩:=vClip_parts hq
 refine vClip_mk (by show 1≤c.len+q.len;omega) hl v3 v4 v5 v6 v7 ?_
 refine kindOk_like v8 rfl (fun h=>h) (fun h=>h) rfl rfl rfl rfl (fun hs hn=>noShare_off rfl rfl hn) (fun hs hn=>?_)
 obtain ⟨s1,s2,s3,s4⟩:=shareOk_inv hn
 have e1:q.off=c.off+c.len:=by
  rw [e]
  show (if shK c.kind=true then _ else _)=_
  rw [hs];rfl
 have e2:q.total=c.total:=by rw [e];rfl
 have ek:q.kind=c.kind:=by rw [e];rfl
 have:=share_off hq (by rw [ek];exact hs)
 refine shareOk_mk s1 ?_ s3 ?_<;>simp only<;>omega
theorem fit_len {c:ClipR} (h:c.fit) {n:Int} (h0 : 0≤n) (h1:n≤2147483647):({ c with len:=n }:ClipR).fit:=⟨⟨by simp only;omega,by simp only;omega⟩,h.kind,h.a,h.b,h.off,h.total,h.param,h.gain⟩
theorem vTrack_mk {t:List ClipR} (h1:t.length≤64) (h2:∀ c∈t,vClip c=true) (h3:totL t≤2147483647):vTrack t=true:=by
 unfold vTrack
 rw [decide_eq_true h1,decide_eq_true h3,List.all_eq_true.2 h2]
 rfl
section
variable {t:List ClipR} (hv:vTrack t=true) (hfit:∀ c∈t,c.fit)
include hv hfit
end
section
variable {t:List ClipR} (hv:vTrack t=true) (hfit:∀ c∈t,c.fit)
include hv hfit
end
open Go.RowKit
set_option maxRecDepth 4000
def Small (s:SourceR):Prop:=s.pos.num.natAbs≤100000∧s.pos.den.natAbs≤100000∧s.speed.num.natAbs≤100000
def one1:RatR:=⟨1,1⟩
def splitB (c:ClipR):Bool:=(c.kind != 2)&&(c.kind != 3)&&c.a.speed.eqb one1&&c.b.isZ
def splitD (c:ClipR) (n:Int):ClipR := { c with len:=n,a := { c.a with pos := { c.a.pos with num:=c.a.pos.num+c.len*c.a.pos.den } } }
def trkStep (L:List Int) (k:Nat) (m s:Int):List ClipR×Nat :=
 if tapeN L (clipAt L k m s).2 4=0 then
  (if splitB (clipAt L k m s).1=true then [(clipAt L k m s).1,splitD (clipAt L k m s).1 (1+tapeN L ((clipAt L k m s).2+1) 4)] else [(clipAt L k m s).1],(clipAt L k m s).2+2)
 else ([(clipAt L k m s).1],(clipAt L k m s).2+1)
def trkGo (L:List Int) (m s:Int):Nat→Nat→List ClipR×Nat
 | 0,k=>([],k)
 | n+1,k=>((trkStep L k m s).1++(trkGo L m s n (trkStep L k m s).2).1,(trkGo L m s n (trkStep L k m s).2).2)
def trkAt (L:List Int) (k:Nat) (m s most:Int):List ClipR×Nat:=trkGo L m s (tapeN L k (most+1)).toNat (k+1)
def trackT (L:List Int):List ClipR:=(trkAt L 0 3 2 9).1
structure Nice (c:ClipR):Prop where
 ok:vClip c=true
 fit:c.fit
 sa:smallS c.a
 sb:smallS c.b
 l9:c.len≤9
 chan:c.chan = []
open Go.RowKit
set_option maxRecDepth 4000
theorem advC_ok {c:ClipR} (hv:vClip c=true) {n:Int} (h0 : 0≤n) (h1:n<c.len) (hp:placedOk (movedS c.a n)=true) (hq:placedOk (movedS c.b n)=true):advC c n=(advR c n,0):=by
 unfold advC advOk
 rw [hv,decide_eq_true h0,decide_eq_true h1,hp,hq]
 rfl
theorem advR_fit {c:ClipR} (h:c.fit) (hv:vClip c=true) {n:Int} (h0 : 0≤n) (h1:n<c.len):(advR c n).fit:=by
 obtain ⟨v1,v2,v3,v4,v5,v6,v7,v8⟩:=vClip_parts hv
 refine ⟨⟨by show _≤c.len - n;omega,by show c.len - n≤_;omega⟩,h.kind,(moved_facts h.a v6 (by omega)).1,(moved_facts h.b v7 (by omega)).1,?_,h.total,h.param,h.gain⟩
 show I64 (if shK c.kind=true then c.off+n else c.off)
 split
 ·rename_i hs
  have:=share_off hv hs
  exact ⟨by omega,by omega⟩
 ·exact h.off
theorem advR_add {c:ClipR} (hv:vClip c=true) (n m:Int):advR (advR c n) m=advR c (n+m):=by
 obtain ⟨v1,v2,v3,v4,v5,v6,v7,v8⟩:=vClip_parts hv
 unfold advR
 simp only [movedS_add v6,movedS_add v7]
 have e:c.len - n - m=c.len - (n+m):=by omega
 rw [e]
 cases hs:shK c.kind with
 | true=>simp only [if_true];congr 1;omega
 | false=>simp only [Bool.false_eq_true,if_false]
end Go.Proofs.YtjmoncjecpckhaaGreat
