/- Proved here: Tracks above each other, in plain Lean, and the calls of the statement about them, for use in the proofs of the given statements; conditions stand in each theorem. -/
import Derived.Test.YtinobebofhbnnaaGreatYT
import Derived.Test.YtinobebofhbnnaaGreatZG
import Derived.Test.YtinobebofhbnnaaGreatWB
import Derived.Test.YtinobebofhbnnaaGreatYN
import Derived.Test.YtinobebofhbnnaaGreatYS
set_option linter.unusedSimpArgs false
set_option linter.unusedVariables false
set_option linter.unusedSectionVars false
set_option linter.unnecessarySimpa false
namespace Go.Proofs.YtinobebofhbnnaaGreat
open Go.RowKit
set_option maxRecDepth 4000
def trkL (p:ProjR) (ts:List (List ClipR)) (n:Nat):List ExprR:=(List.range n).map fun k:Nat=>trkE p ts k
theorem trkL_len (p:ProjR) (ts:List (List ClipR)) (n:Nat):(trkL p ts n).length=n:=by unfold trkL;simp
def seenB (u:List ClipR) (i:Int):Bool:=(findL u 0 i).2.2&&((u.getD (findL u 0 i).1.toNat default).kind != 0)
theorem norm_lenT {t:List ClipR} (hv:vTrack t=true) (hf:∀ c∈t,c.fit) : 0≤lenT (normT t)∧lenT (normT t)≤totL t:=by
 have hn:=norm_vTrack hv hf
 have hp:=pack_vTrack hv hf
 have h1:lenT (normT t)=totL (normT t):=by unfold lenT;rw [if_pos hn]
 have h2:=pack_len hv hf
 unfold lenT at h2
 rw [if_pos hv,if_pos hp] at h2
 obtain ⟨k,e,_⟩:=norm_take hv hf
 rw [h1]
 refine ⟨totL_nonneg _ fun c hc=>(vClip_len ((track_all hn).2.1 c hc)).1,?_⟩
 rw [e, ← h2]
 exact totL_takeLe (fun c hc=>(vClip_len ((track_all hp).2.1 c hc)).1) k
theorem cWithT (L:List Int) (ts:List (List ClipR)) {raw:T} (hr:Imp raw (ttracks ts)):CPure Tryz.prog 40 [vproj (madeP L), .t raw] (vproj (addP (madeP L) (tSeq ⟨#[116]⟩ ts))) :=
 cpure_as (.cons as_refl (.cons (as_imp hr) .nil)) (cWith (madeP L) ts (by simp [madeP]))
theorem cFilmT (L:List Int) {ts:List (List ClipR)} (hl:ts.length≤8) (h:∀ t∈ts,TrkP (madeP L) t) (n:Nat) (hn:n≤65536):CPure Tryz.prog 39 [vproj (addP (madeP L) (tSeq ⟨#[116]⟩ ts)),vint n] (.t (texprs (trkL (madeP L) ts n))):=by
 have hc:=cFilm25 (addP (madeP L) (tSeq ⟨#[116]⟩ ts)) n (fit_add (made_fit L) (t_in hl h))
 rw [film_made hl h n hn] at hc
 exact hc
open Go.RowKit
set_option maxRecDepth 4000
theorem movedQ_zero (s:SourceR):movedQ s 0=toQ s.pos:=by
 unfold movedQ wayQ
 have z:toQ ⟨0,1⟩=0:=by unfold toQ;rfl
 rw [z,Rat.zero_mul,Rat.add_zero]
theorem pic_moved0 (R:ExprR→ExprR) (F:SourceR→Int→ExprR) (hF:∀ s s':SourceR,s.kind=s'.kind→s.name=s'.name→F s=F s') {s:SourceR} (hv:vSource s=true) (k:Int) (hv':vSource (movedS s k)=true):picE R F (movedS s k) 0=picE R F s k:=by
 by_cases hz:s.isZ=true
 ·have e:movedS s k=s:=by unfold movedS;rw [if_pos hz]
  have h0:s.kind=0:=kind_isZ hz
  rw [e]
  unfold picE
  rw [if_pos h0,if_pos h0]
 ·have e:movedS s k = { s with pos:=ofQ (movedQ s k) }:=by unfold movedS;rw [if_neg hz]
  obtain ⟨p,d,ok⟩:=srcOk_of hv (by simpa using hz)
  have hk:(movedS s k).kind≠0:=by
   rw [e]
   rcases ok.kind with h | h<;>(show s.kind≠0;omega)
  obtain ⟨p',d',ok'⟩:=kind_nz hv' hk
  have hq:movedQ (movedS s k) 0=movedQ s k:=by
   rw [movedQ_zero,e]
   exact toQ_ofQ _
  have hsm:(movedS s k).smooth=s.smooth:=by rw [e]
  have hFF:F (movedS s k)=F s:=hF _ _ (by rw [e]) (by rw [e])
  rw [picE_moved R F ok' 0,picE_moved R F ok k,hq,hsm,hFF]
theorem leaf_same (p:ProjR) (G:ByteArray→Int→ExprR) (s s':SourceR) (h1:s.kind=s'.kind) (h2:s.name=s'.name):leafE p G s=leafE p G s':=by
 funext i
 unfold leafE
 rw [h1,h2]
theorem clip_one (R:ExprR→ExprR) (F:SourceR→Int→ExprR) (hF:∀ s s':SourceR,s.kind=s'.kind→s.name=s'.name→F s=F s') {m:Int} {c:ClipR} (h:Gd m c) {k:Int} (h0 : 0≤k) (h1:k≤m) (h2:m≤2147483648) (hk:c.kind≠0):clipE R F (one c k) 0=clipE R F c k:=by
 obtain ⟨v1,v2,v3,v4,v5,v6,v7,v8⟩:=vClip_parts h.ok
 have hs:=one_src2 h h0 h1 h2
 have ha:picE R F (movedS c.a k) 0=picE R F c.a k:=pic_moved0 R F hF v6 k (movedS_ok v6 (by omega) (h.pl k h0 h1).1)
 have hb:picE R F (movedS c.b k) 0=picE R F c.b k:=pic_moved0 R F hF v7 k (movedS_ok v7 (by omega) (h.pl k h0 h1).2)
 unfold clipE one advR
 simp only
 rw [ha,hb]
 by_cases k1:c.kind=1
 ·rw [if_pos k1,if_pos k1]
 ·rw [if_neg k1,if_neg k1]
  by_cases k5:c.kind=5
  ·rw [if_pos k5,if_pos k5]
  ·rw [if_neg k5,if_neg k5]
   by_cases k4:c.kind=4
   ·rw [if_pos k4,if_pos k4]
   ·rw [if_neg k4,if_neg k4]
    have hsh:shK c.kind=true:=by
     have:c.kind=2∨c.kind=3:=by
      have v8':=v8
      unfold kindOk at v8'
      by_cases q2:c.kind=2
      ·exact .inl q2
      ·by_cases q3:c.kind=3
       ·exact .inr q3
       ·exfalso
        rw [if_neg hk,if_neg k1,if_neg q2,if_neg q3,if_neg k4,if_neg k5] at v8'
        cases v8'
     unfold shK
     rcases this with e | e<;>rw [e]<;>rfl
    rw [if_pos hsh]
    congr 2
    omega
def frE (p:ProjR) (x:ClipR):ExprR:=if x.kind=0 then zeroE else clipE redX (leafE p (filmE redX p 4)) x 0
def frsE (p:ProjR) (l:List ClipR) (i:Int):ExprR:=if i<0 then zeroE else match l[i.toNat]? with
 | some x=>frE p x
 | none=>zeroE
theorem hit_fr {t:List ClipR} (hv:∀ c∈t,vClip c=true) {a:Int} (h0 : 0≤a) :
  (∃ c o,c∈t∧0≤o∧o<c.len∧o≤a∧(fr t)[a.toNat]? = some (one c o)∧hitT t a=if c.kind=0 then none else some (c,o))∨((fr t)[a.toNat]? = none∧hitT t a=none):=by
 have hl:∀ c∈t,1≤c.len:=fun c hc=>(vClip_len (hv c hc)).1
 rcases findL_fr t 0 a hv h0 with ⟨g1,j,o,g2,g3,g4,g5,g6,g7⟩ | ⟨g1,g2⟩
 ·refine .inl ⟨t.getD j default,o,mem_getD g3,g4,g5,g6,?_,?_⟩
  ·have e:(fr t)[a.toNat]? = ((fr t).drop a.toNat)[0]? := by rw [List.getElem?_drop];rfl
   rw [e, ← g7,fr_cons]
   obtain ⟨r,hr⟩:∃ r,((t.getD j default).len - o).toNat=r+1:=⟨((t.getD j default).len - o).toNat - 1,by omega⟩
   have e2:frC (advR (t.getD j default) o)=one (advR (t.getD j default) o) 0::(List.range r).map fun k:Nat=>one (advR (t.getD j default) o) ((k+1:Nat):Int):=by
    unfold frC
    show (List.range ((t.getD j default).len - o).toNat).map _=_
    rw [hr,List.range_succ_eq_map,List.map_cons,List.map_map]
    rfl
   rw [e2,one_adv (hv _ (mem_getD g3)),Int.add_zero]
   rfl
  ·unfold hitT
   rw [g2]
   have e3:((0+j:Nat):Int).toNat=j:=by omega
   simp only [e3]
   by_cases hk:(t.getD j default).kind=0
   ·rw [if_pos hk,if_neg (fun h=>h.2.2 hk)]
   ·rw [if_neg hk,if_pos ⟨h0,trivial,hk⟩]
 ·refine .inr ⟨?_,?_⟩
  ·have:=fr_len hl
   exact List.getElem?_eq_none (by omega)
  ·unfold hitT
   rw [if_neg (fun h=>by rw [g1] at h;cases h.2.1)]
theorem trk_fr {p:ProjR} {m:Int} (hm:m≤2147483648) {t:List ClipR} (hg:∀ c∈t,Gd m c∧c.len≤m+1) (i:Int):trkE p [t] i=frsE p (fr t) i:=by
 unfold trkE frsE
 show showE _ _ (topT i [t])=_
 by_cases hi:i<0
 ·rw [if_pos hi]
  have:topT i [t]=none:=by
   show (match hitT t i with | some r=>some r | none=>none)=none
   unfold hitT
   rw [if_neg (fun h=>absurd h.1 (by omega))]
  rw [this]
  rfl
 ·rw [if_neg hi]
  have ht:topT i [t]=hitT t i:=by
   show (match hitT t i with | some r=>some r | none=>none)=_
   cases hitT t i<;>rfl
  rw [ht]
  rcases hit_fr (fun c hc=>(hg c hc).1.ok) (Int.not_lt.1 hi) with ⟨c,o,h1,h2,h3,h4,h5,h6⟩ | ⟨h5,h6⟩
  ·rw [h5,h6]
   unfold frE
   have hk:(one c o).kind=c.kind:=rfl
   by_cases hz:c.kind=0
   ·simp only [hk]
    rw [if_pos hz,if_pos hz]
    rfl
   ·simp only [hk]
    rw [if_neg hz,if_neg hz]
    have:=(hg c h1).2
    exact (clip_one redX _ (leaf_same p _) (hg c h1).1 h2 (by omega) hm hz).symm
  ·rw [h5,h6]
   rfl
open Go.RowKit
set_option maxRecDepth 4000
structure CliP (p:ProjR) (c:ClipR):Prop where
 sil:silentB c=true
 a:SrcP p c.a
 b:SrcP p c.b
theorem srcP_zero {p:ProjR} {s:SourceR} (h:s.kind=0):SrcP p s:=⟨fun h1=>absurd h1 (by omega),fun h1=>absurd h1 (by omega)⟩
theorem srcP_moved {p:ProjR} {s:SourceR} (h:SrcP p s) (k:Int):SrcP p (movedS s k):=by
 unfold movedS
 split
 ·exact h
 ·exact ⟨h.m1,h.s2⟩
theorem cliP_adv {p:ProjR} {c:ClipR} (h:CliP p c) (k:Int):CliP p (advR c k):=⟨h.sil,srcP_moved h.a k,srcP_moved h.b k⟩
theorem cliP_len {p:ProjR} {c:ClipR} (h:CliP p c) (n:Int):CliP p { c with len:=n }:=⟨h.sil,h.a,h.b⟩
theorem cliP_gap (p:ProjR) (n:Int):CliP p (gapC n):=⟨rfl,srcP_zero rfl,srcP_zero rfl⟩
theorem cliP_def (p:ProjR):CliP p default:=⟨rfl,srcP_zero rfl,srcP_zero rfl⟩
theorem cutR_cl {p:ProjR}:∀ (E:List ClipR) (n:Int),(∀ c∈E,CliP p c) → ∀ d∈(cutR E n).1,CliP p d
 | [],_,_,d,hd=>by cases hd
 | c::l,n,h,d,hd=>by
  unfold cutR at hd
  split at hd
  ·cases hd
  ·rcases List.mem_cons.1 hd with rfl | hd
   ·exact cliP_len (h c (by simp)) _
   ·exact cutR_cl l _ (fun x hx=>h x (by simp [hx])) d hd
theorem gapEnd_cl {p:ProjR} {r:List ClipR×Int} (h:∀ c∈r.1,CliP p c):∀ d∈gapEnd r,CliP p d:=by
 intro d hd
 unfold gapEnd at hd
 split at hd
 ·rcases List.mem_append.1 hd with hd | hd
  ·exact h d hd
  ·rw [List.mem_singleton.1 hd];exact cliP_gap p _
 ·exact h d hd
theorem cut_cl {p:ProjR} {t:List ClipR} (h:∀ c∈t,CliP p c) (a n:Int):∀ d∈cutT t a n,CliP p d:=by
 unfold cutT
 split
 ·refine gapEnd_cl (cutR_cl _ _ fun c hc=>?_)
  unfold advD at hc
  have hD:∀ x∈t.drop (findL t 0 a).1.toNat,CliP p x:=fun x hx=>h x (List.mem_of_mem_drop hx)
  generalize t.drop (findL t 0 a).1.toNat=D at hc hD
  rcases List.mem_cons.1 hc with rfl | hc
  ·refine cliP_adv ?_ _
   cases D with
   | nil=>exact cliP_def p
   | cons x D=>exact hD x (by simp)
  ·exact hD c (List.mem_of_mem_drop hc)
 ·exact gapEnd_cl fun c hc=>(by cases hc)
theorem pkA_cl {p:ProjR}:∀ (l:List ClipR) (c:ClipR),CliP p c→(∀ d∈l,CliP p d) → ∀ d∈pkA c l,CliP p d
 | [],c,hc,_,d,hd=>by
  rw [List.mem_singleton.1 hd];exact hc
 | q::l,c,hc,hl,d,hd=>by
  rw [pkA] at hd
  split at hd
  ·exact pkA_cl l _ (cliP_len hc _) (fun x hx=>hl x (by simp [hx])) d hd
  ·rcases List.mem_cons.1 hd with rfl | hd
   ·exact hc
   ·exact pkA_cl l q (hl q (by simp)) (fun x hx=>hl x (by simp [hx])) d hd
theorem pk_cl {p:ProjR} {l:List ClipR} (h:∀ d∈l,CliP p d):∀ d∈pk l,CliP p d:=by
 cases l with
 | nil=>intro d hd;cases hd
 | cons c l=>exact pkA_cl l c (h c (by simp)) fun d hd=>h d (by simp [hd])
theorem trkP_cl {p:ProjR} {t:List ClipR} (h:TrkP p t):∀ c∈t,CliP p c:=fun c hc=>⟨(h.cl c hc).2.1,(h.cl c hc).2.2.1,(h.cl c hc).2.2.2⟩
theorem trkP_mk {p:ProjR} {t:List ClipR} (h1:vTrack t=true) (h2:∀ c∈t,c.fit) (h3:∀ c∈t,CliP p c):TrkP p t:=⟨h1,fun c hc=>⟨h2 c hc,(h3 c hc).sil,(h3 c hc).a,(h3 c hc).b⟩⟩
theorem frE_gap (p:ProjR):frE p (gapC 1)=zeroE:=rfl
theorem frsE_pad (p:ProjR) (F:List ClipR) (r:Nat) (i:Int):frsE p (F++List.replicate r (gapC 1)) i=frsE p F i:=by
 unfold frsE
 by_cases hi:i<0
 ·rw [if_pos hi,if_pos hi]
 ·rw [if_neg hi,if_neg hi]
  rcases Nat.lt_or_ge i.toNat F.length with h | h
  ·rw [List.getElem?_append_left h]
  ·rw [List.getElem?_append_right h,List.getElem?_eq_none h,List.getElem?_replicate]
   by_cases h2:i.toNat - F.length<r
   ·rw [if_pos h2];exact frE_gap p
   ·rw [if_neg h2]
theorem cut_two (F:List ClipR) {k:Nat} (hk:k≤F.length) (r:Nat):cutF F 0 k++cutF F k (F.length+r - k)=F++List.replicate r (gapC 1):=by
 unfold cutF
 rw [List.drop_zero]
 have e1:k - (F.take k).length=0:=by rw [List.length_take];omega
 have e2:(F.drop k).take (F.length+r - k)=F.drop k:=List.take_of_length_le (by rw [List.length_drop];omega)
 have e3:F.length+r - k - (F.drop k).length=r:=by rw [List.length_drop];omega
 rw [e1,e2,e3,List.replicate_zero,List.append_nil, ← List.append_assoc,List.take_append_drop]
open Go.RowKit
set_option maxRecDepth 4000
theorem madeT_gd (L:List Int):∀ c∈madeT L,Gd 1000 c:=by
 intro c hc
 have ht:=madeT_trk L
 obtain ⟨n1,n2⟩:=trkAt_facts L (madeK L) 3 2 5 (by omega) (by omega) (by omega) (by omega)
 obtain ⟨d,hd,e1,e2,_,_⟩:=norm_from _ c hc
 have hg:=gd_nice (n1 d hd)
 refine ⟨(track_all ht.ok).2.1 c hc,(ht.cl c hc).1,fun k k0 k1=>?_⟩
 rw [e1,e2]
 exact hg.pl k k0 k1
theorem madeT_len (L:List Int):(madeT L).length≤18∧(fr (madeT L)).length≤162:=by
 have ht:=madeT_trk L
 obtain ⟨n1,n2⟩:=trkAt_facts L (madeK L) 3 2 5 (by omega) (by omega) (by omega) (by omega)
 have hv:=vTrack_nice n1 (by omega)
 have hf:∀ c∈(trkAt L (madeK L) 3 2 5).1,c.fit:=fun c hc=>(n1 c hc).fit
 have h9:=totL_nine _ fun c hc=>(n1 c hc).l9
 have hnl:=norm_lenT hv hf
 have e:lenT (normT (trkAt L (madeK L) 3 2 5).1)=totL (madeT L):=by
  unfold lenT
  rw [if_pos (show vTrack (normT (trkAt L (madeK L) 3 2 5).1)=true from ht.ok)]
  rfl
 have hfl:=fr_len (l:=madeT L) fun c hc=>(vClip_len ((track_all ht.ok).2.1 c hc)).1
 refine ⟨?_,by omega⟩
 obtain ⟨k,e2,_⟩:=norm_take hv hf
 have e3:packT (trkAt L (madeK L) 3 2 5).1=pk (trkAt L (madeK L) 3 2 5).1:=by
  unfold packT
  rw [if_pos hv]
  exact packP_pk hv hf
 have h1:=pk_size (trkAt L (madeK L) 3 2 5).1
 show (normT (trkAt L (madeK L) 3 2 5).1).length≤18
 rw [e2,e3,List.length_take]
 omega
theorem madeT_cut (L:List Int):CutOk 1000 (madeT L) (fr (madeT L)):=cutOk_mk (madeT_gd L) (by have:=(madeT_len L).1;omega) rfl (by have:=(madeT_len L).2;omega)
theorem trkP_cut {p:ProjR} {m:Int} {t F:List ClipR} (h:CutOk m t F) (ht:TrkP p t) (hl:t.length≤60) {a n:Int} (ha : 0≤a) (ham:a≤m) (hn : 0≤n) (hn2:n≤1000):CutOk (m - a) (pk (cutT t a n)) (cutF F a.toNat n.toNat)∧(pk (cutT t a n)).length≤t.length+1 ∧ ∀ c∈pk (cutT t a n),CliP p c:=by
 obtain ⟨h1,h2⟩:=cutOk_cut h hl ha ham hn hn2
 refine ⟨cutOk_pk h1,?_,pk_cl (cut_cl (trkP_cl ht) a n)⟩
 have:=pk_size (cutT t a n)
 omega
theorem same_trk {p:ProjR} {t F:List ClipR} (h:CutOk 1000 t F) (ht:TrkP p t) (hl:t.length≤18) (hF:F.length≤200) {k:Nat} (hk:k≤F.length) :
  TrkP p (pk (cutT t 0 k)++pk (cutT t k (F.length+2 - k))) ∧ ∀ i,trkE p [pk (cutT t 0 k)++pk (cutT t k (F.length+2 - k))] i=trkE p [t] i:=by
 obtain ⟨a1,a2,a3⟩:=trkP_cut h ht (by omega) (a:=0) (n:=k) (by omega) (by omega) (by omega) (by omega)
 obtain ⟨b1,b2,b3⟩:=trkP_cut h ht (by omega) (a:=(k:Int)) (n:=(F.length:Int)+2 - k) (by omega) (by omega) (by omega) (by omega)
 generalize pk (cutT t 0 k)=x at *
 generalize pk (cutT t k (F.length+2 - k))=y at *
 have hgx:∀ c∈x,Gd 700 c:=fun c hc=>gd_le (a1.gd c hc) (by omega)
 have hgy:∀ c∈y,Gd 700 c:=fun c hc=>gd_le (b1.gd c hc) (by omega)
 have e:fr (x++y)=F++List.replicate 2 (gapC 1):=by
  rw [fr_append,a1.fr,b1.fr, ← cut_two F hk 2]
  congr 1
  congr 1
  omega
 have hg:∀ c∈x++y,Gd 700 c:=fun c hc=>(List.mem_append.1 hc).elim (hgx c) (hgy c)
 have hv:∀ c∈x++y,vClip c=true:=fun c hc=>(hg c hc).ok
 have h1:∀ c∈x++y,1≤c.len:=fun c hc=>(vClip_len (hv c hc)).1
 have htot:=fr_len h1
 rw [e,List.length_append,List.length_replicate] at htot
 refine ⟨trkP_mk (vTrack_mk (by rw [List.length_append];omega) hv (by omega)) (fun c hc=>(hg c hc).fit) (fun c hc=>(List.mem_append.1 hc).elim (a3 c) (b3 c)),fun i=>?_⟩
 have ht1:∀ c∈t,1≤c.len:=fun c hc=>(vClip_len (h.gd c hc).ok).1
 rw [trk_fr (m:=700) (by omega) (fun c hc=>⟨hg c hc,by have:=len_le_tot h1 c hc;omega⟩),trk_fr (m:=1000) (by omega) (fun c hc=>⟨h.gd c hc,by have:=len_le_tot ht1 c hc;have:=h.tot;omega⟩),e,frsE_pad,h.fr]
open Go.RowKit
set_option maxRecDepth 4000
def Dark (G:List ClipR):Prop := ∀ x∈G,x.kind=0
theorem frsE_dark (p:ProjR) (F:List ClipR) {G:List ClipR} (hG:Dark G) (i:Int):frsE p (F++G) i=frsE p F i:=by
 unfold frsE
 by_cases hi:i<0
 ·rw [if_pos hi,if_pos hi]
 ·rw [if_neg hi,if_neg hi]
  rcases Nat.lt_or_ge i.toNat F.length with h | h
  ·rw [List.getElem?_append_left h]
  ·rw [List.getElem?_append_right h,List.getElem?_eq_none h]
   cases e:G[i.toNat - F.length]? with
   | none=>rfl
   | some x =>
    have hx:=hG x (List.mem_of_getElem? e)
    show frE p x=zeroE
    unfold frE
    rw [if_pos hx]
theorem dark_gaps (r:Nat):Dark (List.replicate r (gapC 1)):=fun x hx=>by rw [(List.mem_replicate.1 hx).2];rfl
theorem dark_frC {c:ClipR} (h:c.kind=0):Dark (frC c):=fun x hx=>by
 unfold frC at hx
 obtain ⟨k,_,rfl⟩:=List.mem_map.1 hx
 exact h
theorem clean_fr (o:List ClipR):∃ G,Dark G∧fr o=fr (cleanL o)++G:=by
 cases hg:gapLast o with
 | false=>exact ⟨[],fun x hx=>(by cases hx),by rw [clean_id hg,List.append_nil]⟩
 | true =>
  have e:cleanL o=o.take (o.length - 1):=by unfold cleanL;rw [if_pos hg]
  rw [e]
  rcases List.eq_nil_or_concat o with rfl | ⟨i,c,rfl⟩
  ·exact ⟨[],fun x hx=>(by cases hx),rfl⟩
  ·rw [List.concat_eq_append] at *
   rw [gapLast_snoc] at hg
   have e2:(i ++ [c]).take ((i ++ [c]).length - 1)=i:=by simp
   rw [e2,fr_append]
   refine ⟨fr [c],?_,rfl⟩
   show Dark (frC c ++ [])
   rw [List.append_nil]
   exact dark_frC (by simpa using hg)
def frsL (p:ProjR) (F:List ClipR) (n:Nat):List ExprR:=(List.range n).map fun k:Nat=>frsE p F k
theorem frsL_dark (p:ProjR) (F:List ClipR) {G:List ClipR} (hG:Dark G) (n:Nat):frsL p (F++G) n=frsL p F n:=List.map_congr_left fun k _=>frsE_dark p F hG k
theorem frsL_len (p:ProjR) (F:List ClipR) (n:Nat):(frsL p F n).length=n:=by unfold frsL;simp
theorem frsE_at (p:ProjR) (F:List ClipR) (k:Nat):frsE p F (k:Int)=match F[k]? with
  | some x=>frE p x
  | none=>zeroE:=by
 unfold frsE
 rw [if_neg (by omega),Int.toNat_natCast]
 all_goals (cases F[k]? <;> rfl)
theorem frsL_all (p:ProjR) (F:List ClipR):frsL p F F.length=F.map (frE p):=by
 refine List.ext_getElem (by rw [frsL_len,List.length_map]) fun i h1 h2=>?_
 rw [List.length_map] at h2
 simp only [frsL,List.getElem_map,List.getElem_range]
 rw [frsE_at,List.getElem?_eq_getElem h2]
open Go.RowKit
set_option maxRecDepth 4000
theorem frsL_exch (p:ProjR) (F C:List ClipR) {n r M:Nat} (h1:n≤r) (h2:r≤M) (h3:F.length≤M) :
  frsL p (cutF F 0 n++C++F.drop r) (n+C.length+(M - r))=(frsL p F M).take n++C.map (frE p)++(frsL p F M).drop r:=by
 obtain ⟨P,hP⟩:∃ P,P=F++List.replicate (M - F.length) (gapC 1):=⟨_,rfl⟩
 have hPl:P.length=M:=by rw [hP,List.length_append,List.length_replicate];omega
 have e1:frsL p F M=P.map (frE p):=by
  rw [← frsL_all,hPl,hP]
  exact (frsL_dark p F (dark_gaps _) M).symm
 have e2:cutF F 0 n=P.take n:=by
  unfold cutF
  rw [hP,List.drop_zero,List.take_append,List.take_replicate,List.length_take]
  congr 2
  omega
 have e3:P.drop r=F.drop r++List.replicate (M - F.length - (r - F.length)) (gapC 1):=by
  rw [hP,List.drop_append,List.drop_replicate]
 have e4:(cutF F 0 n++C++F.drop r)++List.replicate (M - F.length - (r - F.length)) (gapC 1)=P.take n++C++P.drop r:=by
  simp only [e3,e2,List.append_assoc]
 have hl:(P.take n++C++P.drop r).length=n+C.length+(M - r):=by
  rw [List.length_append,List.length_append,List.length_take,List.length_drop,hPl]
  omega
 rw [← frsL_dark p _ (dark_gaps (M - F.length - (r - F.length))),e4, ← hl,frsL_all,e1,List.map_append,List.map_append,List.map_take,List.map_drop]
theorem frsL_own (p:ProjR) (C:List ClipR):frsL p C C.length=C.map (frE p):=frsL_all p C
theorem trkL_fr {p:ProjR} {m:Int} (hm:m≤2147483648) {t:List ClipR} (hg:∀ c∈t,Gd m c∧c.len≤m+1) (n:Nat):trkL p [t] n=frsL p (fr t) n:=by
 unfold trkL frsL
 exact List.map_congr_left fun k _=>trk_fr hm hg k
def restT (N:List ClipR) (a:Int):List ClipR:=if a<totL N then pk (cutT N a (totL N - a)) else []
def gapL (n:Int):List ClipR:=if n≤0 then [] else [gapC n]
def exchL (N:List ClipR) (a:Int) (C:List ClipR) (r:Int):List ClipR:=pk (cutT N 0 (min a (totL N)))++gapL (a - totL N)++C++restT N r
def nrmE (l:List ClipR):List ClipR:=cleanL (pk l)
theorem fr_gapL (n:Int):fr (gapL n)=List.replicate n.toNat (gapC 1):=by
 unfold gapL
 split
 ·rename_i h
  have:n.toNat=0:=by omega
  rw [this]
  rfl
 ·show frC (gapC n) ++ []=_
  rw [List.append_nil,frC_gap]
theorem fr_restT {m:Int} {N F:List ClipR} (h:CutOk m N F) (hl:N.length≤60) (hF:F.length≤1000) {a:Int} (ha : 0≤a) (ham:a≤m):fr (restT N a)=F.drop a.toNat:=by
 unfold restT
 have ht:=h.tot
 split
 ·rename_i hlt
  obtain ⟨k1,k2⟩:=cutOk_cut h hl ha ham (n:=totL N - a) (by omega) (by omega)
  rw [(cutOk_pk k1).fr]
  have e:(totL N - a).toNat=F.length - a.toNat:=by omega
  rw [e]
  unfold cutF
  have e2:(F.drop a.toNat).take (F.length - a.toNat)=F.drop a.toNat:=List.take_of_length_le (by rw [List.length_drop];exact Nat.le_refl _)
  rw [e2,List.length_drop,Nat.sub_self]
  simp
 ·rename_i hge
  rw [List.drop_of_length_le (by omega)]
  rfl
theorem fr_exchL {m:Int} {N F:List ClipR} (h:CutOk m N F) (hl:N.length≤60) (hF:F.length≤1000) {a r:Int} (ha : 0≤a) (hr : 0≤r) (hrm:r≤m) (hm : 0≤m) (C:List ClipR):fr (exchL N a C r)=cutF F 0 a.toNat++fr C++F.drop r.toNat:=by
 have ht:=h.tot
 obtain ⟨k1,k2⟩:=cutOk_cut h hl (a:=0) (n:=min a (totL N)) (by omega) hm (by omega) (by omega)
 unfold exchL
 rw [fr_append,fr_append,fr_append,(cutOk_pk k1).fr,fr_gapL,fr_restT h hl hF hr hrm]
 congr 2
 unfold cutF
 show _++_++_=_
 rw [Int.toNat_zero,List.drop_zero]
 rcases Nat.lt_or_ge F.length a.toNat with h1 | h1
 ·have e1:(min a (totL N)).toNat=F.length:=by omega
  have e2:(a - totL N).toNat=a.toNat - F.length:=by omega
  rw [e1,e2,List.take_length,Nat.sub_self,List.take_of_length_le (by omega)]
  simp
 ·have e1:(min a (totL N)).toNat=a.toNat:=by omega
  have e2:(a - totL N).toNat=0:=by omega
  have e3:a.toNat - (F.take a.toNat).length=0:=by rw [List.length_take];omega
  rw [e1,e2,e3]
  simp
theorem fr_nrmE {l:List ClipR} (hv:∀ c∈l,vClip c=true) (ht:totL l≤2147483647):∃ G,Dark G∧fr l=fr (nrmE l)++G:=by
 obtain ⟨G,hG,e⟩:=clean_fr (pk l)
 exact ⟨G,hG,by rw [← fr_pk hv ht];exact e⟩
open Go.RowKit
set_option maxRecDepth 4000
theorem cleanL_mem {o:List ClipR} {c:ClipR} (h:c∈cleanL o):c∈o:=by
 obtain ⟨k,e,_⟩:=cleanL_take o
 rw [e] at h
 exact List.mem_of_mem_take h
theorem cleanL_len (o:List ClipR):(cleanL o).length≤o.length:=by
 obtain ⟨k,e,_⟩:=cleanL_take o
 rw [e,List.length_take]
 omega
theorem mem_gapL {n:Int} {c:ClipR} (h:c∈gapL n) : 1≤n∧c=gapC n:=by
 unfold gapL at h
 split at h
 ·cases h
 ·exact ⟨by omega,List.mem_singleton.1 h⟩
theorem gapL_len (n:Int):(gapL n).length≤1:=by
 unfold gapL
 split<;>simp
structure Parts (p:ProjR) (X:List ClipR):Prop where
 gd:∀ c∈X,Gd 600 c
 cl:∀ c∈X,CliP p c
 len:X.length≤60
 tot:(fr X).length≤600
theorem Parts.totL {p:ProjR} {X:List ClipR} (h:Parts p X):totL X≤600:=by
 have:=fr_len (l:=X) fun c hc=>(vClip_len (h.gd c hc).ok).1
 have:=h.tot
 omega
theorem nrm_trk {p:ProjR} {X:List ClipR} (h:Parts p X):TrkP p (nrmE X)∧(nrmE X).length≤X.length∧(∀ c∈nrmE X,Gd 600 c)∧(∃ G,Dark G∧fr X=fr (nrmE X)++G) ∧ ∀ n,trkL p [nrmE X] n=frsL p (fr X) n:=by
 have ht:=h.totL
 have hv:∀ c∈X,vClip c=true:=fun c hc=>(h.gd c hc).ok
 have hg:∀ c∈nrmE X,Gd 600 c:=fun c hc=>pk_gd h.gd (by omega) c (cleanL_mem hc)
 have hc:∀ c∈nrmE X,CliP p c:=fun c hc=>pk_cl h.cl c (cleanL_mem hc)
 obtain ⟨G,hG,e⟩:=fr_nrmE hv (by omega)
 have h1:∀ c∈nrmE X,1≤c.len:=fun c hc=>(vClip_len (hg c hc).ok).1
 have hfl:=fr_len h1
 have hle:(fr (nrmE X)).length≤600:=by
  have:=h.tot
  rw [e,List.length_append] at this
  omega
 have hlen:(nrmE X).length≤X.length:=by
  have a1:=cleanL_len (pk X)
  have a2:=pk_size X
  unfold nrmE
  omega
 have hl60:=h.len
 refine ⟨trkP_mk (vTrack_mk (by omega) (fun c hc=>(hg c hc).ok) (by omega)) (fun c hc=>(hg c hc).fit) hc,hlen,hg,⟨G,hG,e⟩,fun n=>?_⟩
 rw [trkL_fr (m:=600) (by omega) (fun c hc=>⟨hg c hc,by have:=len_le_tot h1 c hc;omega⟩),e,frsL_dark p _ hG]
theorem exch_parts {p:ProjR} {N F:List ClipR} (h:CutOk 1000 N F) (hN:TrkP p N) (hl:N.length≤18) (hF:F.length≤200) {C:List ClipR} (hC:∀ c∈C,Gd 600 c∧CliP p c) (hCl:C.length≤16) (hCt:(fr C).length≤200)
  {a r:Int} (ha : 0≤a) (ha2:a≤100) (hr : 0≤r) (hr2:r≤400):Parts p (exchL N a C r)∧fr (exchL N a C r)=cutF F 0 a.toNat++fr C++F.drop r.toNat:=by
 have ht:=h.tot
 have e:=fr_exchL h (by omega) (by omega) ha hr (show r≤1000 by omega) (by omega) C
 obtain ⟨b1,b2,b3⟩:=trkP_cut h hN (by omega) (a:=0) (n:=min a (totL N)) (by omega) (by omega) (by omega) (by omega)
 have hrest:(∀ c∈restT N r,Gd 600 c∧CliP p c)∧(restT N r).length≤19:=by
  unfold restT
  split
  ·obtain ⟨c1,c2,c3⟩:=trkP_cut h hN (by omega) (a:=r) (n:=totL N - r) hr (by omega) (by omega) (by omega)
   exact ⟨fun c hc=>⟨gd_le (c1.gd c hc) (by omega),c3 c hc⟩,by omega⟩
  ·exact ⟨fun c hc=>(by cases hc),by simp⟩
 have hgl:=gapL_len (a - totL N)
 have hall:∀ c∈exchL N a C r,Gd 600 c∧CliP p c:=fun c hc=>by
  unfold exchL at hc
  rcases List.mem_append.1 hc with hc | hc
  ·rcases List.mem_append.1 hc with hc | hc
   ·rcases List.mem_append.1 hc with hc | hc
    ·exact ⟨gd_le (b1.gd c hc) (by omega),b3 c hc⟩
    ·obtain ⟨q1,rfl⟩:=mem_gapL hc
     exact ⟨gd_gap _ _ q1 (by omega),cliP_gap p _⟩
   ·exact hC c hc
  ·exact hrest.1 c hc
 refine ⟨⟨fun c hc=>(hall c hc).1,fun c hc=>(hall c hc).2,?_,?_⟩,e⟩
 ·unfold exchL
  simp only [List.length_append]
  omega
 ·rw [e,List.length_append,List.length_append,cutF_len,List.length_drop]
  omega
theorem exch_film {p:ProjR} {N F:List ClipR} (h:CutOk 1000 N F) (hN:TrkP p N) (hl:N.length≤18) (hF:F.length≤200) {C:List ClipR} (hC:∀ c∈C,Gd 600 c∧CliP p c) (hCl:C.length≤16) (hCt:(fr C).length≤200)
  {a r M:Nat} (har:a≤r) (ha2:a≤100) (hr2:r≤400) (hrM:r≤M) (hFM:F.length≤M) :
  TrkP p (nrmE (exchL N a C r))∧trkL p [nrmE (exchL N a C r)] (a+(fr C).length+(M - r))=(frsL p F M).take a++(fr C).map (frE p)++(frsL p F M).drop r:=by
 obtain ⟨h1,h2⟩:=exch_parts h hN hl hF hC hCl hCt (a:=a) (r:=r) (by omega) (by omega) (by omega) (by omega)
 obtain ⟨k1,_,_,_,k5⟩:=nrm_trk h1
 refine ⟨k1,?_⟩
 rw [k5,h2,Int.toNat_natCast,Int.toNat_natCast]
 exact frsL_exch p F (fr C) har hrM hFM
end Go.Proofs.YtinobebofhbnnaaGreat
