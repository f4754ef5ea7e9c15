/- Proved here: Helps for the statements about sound: chosen rates, parts of sounds, the made project's track of one cut, for use in the proofs of the given statements; conditions stand in each theorem. -/
import Derived.Test.YtjmoncjecpckhaaGreatVI
import Derived.Test.YtjmoncjecpckhaaGreatZG
import Derived.Test.YtjmoncjecpckhaaGreatVB
import Derived.Test.YtjmoncjecpckhaaGreatVA
import Derived.Test.YtjmoncjecpckhaaGreatVD
import Derived.Test.YtjmoncjecpckhaaGreatWB
set_option linter.unusedSimpArgs false
set_option linter.unusedVariables false
set_option linter.unusedSectionVars false
set_option linter.unnecessarySimpa false
namespace Go.Proofs.YtjmoncjecpckhaaGreat
open Go.RowKit
set_option maxRecDepth 4000
theorem rate4 (w:Int) (d:List T):∃ r:RatR,RateS r∧nth d [[ti 25,ti 1],[ti 24,ti 1],[ti 30000,ti 1001],[ti 24000,ti 1001]] ((w.tmod 4+4).tmod 4).toNat = [ti r.num,ti r.den]∧0≤(w.tmod 4+4).tmod 4∧(w.tmod 4+4).tmod 4<4:=by
 have h1:=tmod_abs w (n:=4) (by decide)
 have h2:=Int.tmod_nonneg 4 (show 0≤w.tmod 4+4 by omega)
 have h3:=Int.tmod_lt_of_pos (w.tmod 4+4) (show (0:Int)<4 by decide)
 obtain ⟨e,he⟩:∃ e,e=(w.tmod 4+4).tmod 4:=⟨_,rfl⟩
 rw [← he] at h2 h3 ⊢
 have:e=0∨e=1∨e=2∨e=3:=by omega
 rcases this with rfl | rfl | rfl | rfl
 ·exact ⟨⟨25,1⟩,rateS25,rfl,by decide,by decide⟩
 ·exact ⟨⟨24,1⟩,rateS24,rfl,by decide,by decide⟩
 ·exact ⟨⟨30000,1001⟩,rateS2997,rfl,by decide,by decide⟩
 ·exact ⟨⟨24000,1001⟩,rateS2398,rfl,by decide,by decide⟩
theorem cSC {r:RatR} (hr:RateS r) {A:List AudioR} {p q u v:List Int} (h:TwoA A p q u v) {at0 sp:RatR} {len gain:Int} (hv:vClip (cutC nmA at0 sp len gain 0)=true) (hf:(cutC nmA at0 sp len gain 0).fit) (hl:len≤63) (hg : 0≤gain∧gain≤65536) (vp:vRat at0=true) (vs:vRat sp=true) (pb:QB (toQ at0) 256 256) (sb:QB (toQ sp) 4096 2048) (from0:Int) (n:Nat) (hn:n≤1000) (f0 : 0≤from0) (f1:from0≤1000000) :
  CPure Tryz.prog 17 [vproj (prjG r r r 1 [[cutC nmA at0 sp len gain 0]]),vstr nmS,vint from0,vint n, .t (taudios A)] (.tup [.t (tchs [sndV (prjE r r A) [[cutC nmA at0 sp len gain 0]] r from0 n 0]),vint 0]):=by
 refine cSnd1 hr hr hr (by simp) (fun t ht=>?_) (two_aud h) hn (by omega) (by omega) (fun t ht x hx _=>?_)
 ·simp only [List.mem_cons,List.not_mem_nil,or_false] at ht
  subst ht
  exact cutC_trk (.inl rfl) hv hf
 ·simp only [List.mem_cons,List.not_mem_nil,or_false] at ht
  subst ht
  simp only [List.mem_cons,List.not_mem_nil,or_false] at hx
  subst hx
  exact cutT_a h hr hl hg vp vs pb sb
theorem sndL_len (f:Nat→Int) (n:Nat):(sndL f n).length=n:=by unfold sndL;simp
theorem sndV_len (E:SndE) (ts:List (List ClipR)) (r:RatR) (s:Int) (n c:Nat):(sndV E ts r s n c).length=n:=sndL_len _ _
theorem sndL_at (f:Nat→Int) {n i:Nat} (h:i<n):(sndL f n).getD i 0=f i:=by
 unfold sndL
 rw [List.getD_eq_getElem?_getD,List.getElem?_map,List.getElem?_range h]
 rfl
theorem pcm_getD (p:List Int) (i:Nat):pcmAt p (i:Int)=p.getD i 0:=by
 unfold pcmAt
 rw [if_pos (by omega),Int.toNat_natCast]
theorem snd_part {E:SndE} {ts:List (List ClipR)} {r:RatR} {k:Nat} {n:Nat} {p:List Int} (hp:k+n≤p.length) (h:∀ i:Nat,i<n→smpV E ts r ((k:Int)+i) 0=pcmAt p ((k:Int)+i)):sndV E ts r (k:Int) n 0=(p.drop k).take n:=by
 refine List.ext_getElem (by rw [sndV_len,List.length_take,List.length_drop];omega) fun i h1 h2=>?_
 rw [sndV_len] at h1
 have e1:=sndL_at (fun i:Nat=>smpV E ts r ((k:Int)+i) 0) h1
 rw [List.getD_eq_getElem?_getD,List.getElem?_eq_getElem (by rw [sndL_len];exact h1),Option.getD_some] at e1
 have e2:(sndV E ts r (k:Int) n 0)[i]'(by rw [sndV_len];exact h1)=smpV E ts r ((k:Int)+i) 0:=e1
 rw [e2,h i h1,List.getElem_take,List.getElem_drop]
 have e3:((k:Int)+(i:Int))=((k+i:Nat):Int):=by omega
 rw [e3,pcm_getD,List.getD_eq_getElem?_getD,List.getElem?_eq_getElem (by omega),Option.getD_some]
theorem fr01:(⟨0,1⟩:RatR).fit:=⟨⟨by decide,by decide⟩,⟨by decide,by decide⟩⟩
theorem fr11:(⟨1,1⟩:RatR).fit:=⟨⟨by decide,by decide⟩,⟨by decide,by decide⟩⟩
theorem vr01:vRat ⟨0,1⟩=true:=by kernel_rfl
theorem vr11:vRat ⟨1,1⟩=true:=by kernel_rfl
theorem qb01 (N D:Nat) (h1 : 1≤D):QB (toQ ⟨0,1⟩) N D:=by
 rw [toQ_int]
 exact qb_mono (qb_int 0) (by simp) h1
theorem qb11 (N D:Nat) (h1 : 1≤N) (h2 : 1≤D):QB (toQ ⟨1,1⟩) N D:=by
 rw [toQ_int]
 exact qb_mono (qb_int 1) h1 h2
theorem part_eq (P:List Int) (k m:Nat):List.drop k (List.take ((k:Int)+(m:Int)).toNat (P.map c16))=((P.drop k).take m).map c16:=by
 have e:((k:Int)+(m:Int)).toNat=k+m:=by omega
 rw [e,List.drop_take,Nat.add_sub_cancel_left, ← List.map_drop, ← List.map_take]
theorem qbI (n:Int) (N D:Nat) (h:n.natAbs≤N) (h1 : 1≤D):QB (toQ ⟨n,1⟩) N D:=by
 rw [toQ_int]
 exact qb_mono (qb_int n) h h1
theorem qbF {n:Int} {d:Nat} (N D:Nat) (hv:vRat ⟨n,d⟩=true) (h:n.natAbs≤N) (h1:d≤D):QB (toQ ⟨n,d⟩) N D:=by
 obtain ⟨e1,e2⟩:=toQ_num hv
 simp only at e1 e2
 exact ⟨by rw [e1];exact h,by omega⟩
theorem frI (n d:Int) (h : -1000000≤n∧n≤1000000) (h1 : -1000000≤d∧d≤1000000):(⟨n,d⟩:RatR).fit:=⟨i64s h,i64s h1⟩
theorem cutC_v {nm:ByteArray} {at0 sp:RatR} {len gain ch:Int} (h:vClip (cutC nm at0 sp len 4096 ch)=true) (hg : 0≤gain∧gain≤65536):vClip (cutC nm at0 sp len gain ch)=true:=by
 have ek:kindOk (cutC nm at0 sp len gain ch)=kindOk (cutC nm at0 sp len 4096 ch):=rfl
 unfold vClip baseOk at h ⊢
 simp only [Bool.and_eq_true,decide_eq_true_eq] at h ⊢
 obtain ⟨⟨⟨⟨⟨⟨⟨h1,h2⟩,h3⟩,h4⟩,h5⟩,h6⟩,h7⟩,h8⟩:=h
 exact ⟨⟨⟨⟨⟨⟨⟨h1,h2⟩,hg.1⟩,hg.2⟩,h5⟩,h6⟩,h7⟩,by rw [ek];exact h8⟩
open Go.RowKit
set_option maxRecDepth 4000
theorem cScale (r:RatR) (f:r.fit) (hv:vRat r=true) (hn : 0<r.num∧r.num≤2147483648) (hd:r.den≤2147483648):CPure Tryz.prog 66 [vrat r] (vbool true):=by
 have d1:decide (r.num > 0)=true:=decide_eq_true hn.1
 have d2:decide (r.num≤2147483648)=true:=decide_eq_true hn.2
 have d3:decide (r.den≤2147483648)=true:=decide_eq_true hd
 refine cpure_of Tryz.xen66 Tryz.func66 rfl Tryz.ntmps66 (by rw [Tryz.results66]) (aw_ok _ ?_)
 simp only [go_sem,simprocAttr,decide_true,decide_false]
 refine ⟨_,cPRat r f,?_⟩
 simp only [go_sem,simprocAttr,decide_true,decide_false,hv,d1,d2,d3]
theorem cInRange (n:Int) (h : -2147483647≤n∧n≤2147483647):CPure Tryz.prog 39 [vint n] (vbool true):=by
 have d1:decide (n ≥ -2147483647)=true:=decide_eq_true h.1
 have d2:decide (n≤2147483647)=true:=decide_eq_true h.2
 refine cpure_of Tryz.xen39 Tryz.func39 rfl Tryz.ntmps39 (by rw [Tryz.results39]) (aw_ok _ ?_)
 simp only [go_sem,simprocAttr,decide_true,decide_false,d1,d2]
theorem vwide_nat (d:Nat):(V.agg [vbool false,vu64 0,vu64 (d:Int)])=vwide (d:Int):=by
 have e:decide ((d:Int)<0)=false:=decide_eq_false (by omega)
 have e2:vwide (d:Int)=V.agg [vbool (decide ((d:Int)<0)),vu64 0,vu64 (((d:Int).natAbs:Nat):Int)]:=rfl
 rw [e2,e]
 rfl
theorem cPosition48 (n:Int) (hn : 0≤n∧n≤100000000) (r:RatR) (hr:RateS r):CPure Tryz.prog 40 [vint n,vrat r,vrat ⟨48000,1⟩] (.tup [vint (begS r n),vint 0]):=by
 obtain ⟨hu,hv,hn2,hd2⟩:=rateS_v hr
 have n0:=hr.n
 have d0:=hr.d
 obtain ⟨dn,hdn⟩:=nat_of (n:=r.num) (by omega)
 have v48:vRat ⟨48000,1⟩=true:=by kernel_rfl
 have f48:(⟨48000,1⟩:RatR).fit:=⟨⟨by decide,by decide⟩,⟨by decide,by decide⟩⟩
 have hb:(n*(48000*r.den)).natAbs≤100000000*3145728000:=by rw [Int.natAbs_mul];exact Nat.mul_le_mul (by omega) (by omega)
 have p1:=cProduct n (48000*r.den) ⟨by omega,by omega⟩ ⟨by omega,by omega⟩ (by rw [← Int.natAbs_mul];omega)
 have p2:=cPlus (n*(48000*r.den)) (n*(48000*r.den)) (by omega) (by omega)
 have p3:=cPlus (n*(48000*r.den)+n*(48000*r.den)) (dn:Int) (by omega) (by omega)
 rw [← vwide_nat] at p3
 have p4:=cDivideR (n*(48000*r.den)+n*(48000*r.den)+(dn:Int)) (2*dn) (by omega) (by omega) (by omega)
 have eb:(n*(48000*r.den)+n*(48000*r.den)+(dn:Int)) / ((2*dn:Nat):Int)=begS r n:=by
  unfold begS
  have e1:((2*dn:Nat):Int)=2*r.num:=by omega
  have e2 : 2*n*(48000*r.den)=n*(48000*r.den)+n*(48000*r.den):=by rw [Int.mul_assoc];omega
  rw [e1,e2, ← hdn]
 rw [eb] at p4
 have w2:IntKind.u64.wrap (2*(dn:Int))=((2*dn:Nat):Int):=by rw [wrapU64 (by omega) (by omega)];omega
 refine cpure_of Tryz.xen40 Tryz.func40 rfl Tryz.ntmps40 (by rw [Tryz.results40]) (aw_ok _ ?_)
 simp only [go_sem,simprocAttr,decide_true,decide_false]
 refine ⟨_,cScale r hr.fit hv ⟨by omega,by omega⟩ (by omega),?_⟩
 simp only [go_sem,simprocAttr,decide_true,decide_false]
 refine ⟨_,cScale ⟨48000,1⟩ f48 v48 (by decide) (by decide),?_⟩
 simp only [go_sem,simprocAttr,decide_true,decide_false]
 refine drawC_of 12 .done rfl (by kernel_rfl) (by kernel_rfl) (by decide) ?_
 simp only [go_sem,simprocAttr,decide_true,decide_false,wrap64 (x:=48000*r.den) (by omega) (by omega),wrap64 (x:=r.num) (by omega) (by omega),Int.one_mul]
 refine ⟨by kernel_rfl,_,p1,?_⟩
 simp only [go_sem,simprocAttr,decide_true,decide_false]
 refine ⟨_,p1,?_⟩
 simp only [go_sem,simprocAttr,decide_true,decide_false]
 refine ⟨_,p2,?_⟩
 simp only [go_sem,simprocAttr,decide_true,decide_false,hdn,wrapNU (n:=dn) (by omega)]
 refine ⟨_,p3,?_⟩
 simp only [go_sem,simprocAttr,decide_true,decide_false,wrapNU (n:=dn) (by omega),w2]
 refine ⟨_,p4,?_⟩
 simp only [go_sem,simprocAttr,decide_true,decide_false]
theorem cSampleF (n:Int) (hn : 0≤n∧n≤100000000) (r:RatR) (hr:RateS r):CPure Tryz.prog 24 [vint n,vrat r] (.tup [vint (begS r n),vint 0]):=by
 obtain ⟨hu,hv,hn2,hd2⟩:=rateS_v hr
 have cu:=cUsable r hr.fit
 rw [hu] at cu
 refine cpure_of Tryz.xen24 Tryz.func24 rfl Tryz.ntmps24 (by rw [Tryz.results24]) (aw_ok _ ?_)
 simp only [go_sem,simprocAttr,decide_true,decide_false]
 refine ⟨_,cu,?_⟩
 simp only [go_sem,simprocAttr,decide_true,decide_false]
 refine ⟨_,cInRange n ⟨by omega,by omega⟩,?_⟩
 simp only [go_sem,simprocAttr,decide_true,decide_false]
 refine ⟨_,cPosition48 n hn r hr,?_⟩
 simp only [go_sem,simprocAttr,decide_true,decide_false]
open Go.RowKit
set_option maxRecDepth 4000
theorem cCutI3 {m:Int} {t F:List ClipR} (h:CutOk m t F) (hl:t.length≤60) (hF:F.length≤1000) (a b:Int) (ha : 0≤a) (ham:a≤m) (hm:m≤1000) (hb:a≤b) (hb2:b≤1000) (hlm:totL t≤m) :
  CIO Tryz.prog 25 0 [] [.t (tclips t),vint a,vint b] (.tup [.own 0,vint 0]) [(0,RowC (pk (cutT t a (b - a))))] 1:=by
 obtain ⟨k1,k2⟩:=cutOk_cut h hl ha ham (n:=b - a) (by omega) (by omega)
 obtain ⟨t1,t2,t3⟩:=track_all k1.tr
 have hf:∀ c∈cutT t a (b - a),c.fit:=fun c hc=>(k1.gd c hc).fit
 have hT:Trk (cutT t a (b - a)):=trk_mk (by omega) t2 t3
 have e:=packP_pk k1.tr hf
 have hv:=(track_all h.tr).2.1
 have h1:∀ c∈t,1≤c.len:=fun c hc=>(vClip_len (hv c hc)).1
 have hc:=cCutIO t a b (fun c hc=>(h.gd c hc).fit) h.tr ha hb (by omega) (fun i o hi o0 o1 hfi=>by
   have hg:=h.gd _ (mem_getD (d:=default) hi)
   have hle:=len_le_tot h1 _ (mem_getD (d:=default) hi)
   have hp:=hg.pl o o0 (by omega)
   exact advC_ok hg.ok o0 o1 hp.1 hp.2) (fun hin=>by
   rcases findL_fr t 0 a hv ha with ⟨_,j,o,g2,g3,g4,g5,_,_⟩ | ⟨g1,_⟩
   ·rw [Nat.zero_add] at g2
    exact ⟨j,o,g2,g3,g4,g5⟩
   ·rw [g1] at hin;cases hin) hT hf (by rw [e];exact Nat.le_trans (pk_size _) t1)
 rw [e] at hc
 exact hc
theorem cut_two2 (F:List ClipR) {k:Nat} (hk:k≤F.length) (r:Nat):cutF F 0 k++cutF F k (F.length+r - k)=F++List.replicate r (gapC 1):=by
 unfold cutF
 rw [List.drop_zero]
 have e1:k - (F.take k).length=0:=by rw [List.length_take];omega
 have e2:(F.drop k).take (F.length+r - k)=F.drop k:=List.take_of_length_le (by rw [List.length_drop];omega)
 have e3:F.length+r - k - (F.drop k).length=r:=by rw [List.length_drop];omega
 rw [e1,e2,e3,List.replicate_zero,List.append_nil, ← List.append_assoc,List.take_append_drop]
def chS (s:SourceR):Bool:=s.kind==1&&decide (s.name=nmA)&&vRat s.pos&&vRat s.speed&&decide (s.pos.num.natAbs≤256)&&decide (s.pos.den≤256)&&decide (s.speed.num.natAbs≤4096)&&decide (s.speed.den≤2048)
def chZ (s:SourceR):Bool:=chS s||s.kind==0
def chX (x:ClipR):Bool:=audB 1 x&&chZ x.a&&chZ x.b&&(x.kind==0||((x.chan == [0])&&decide (1≤x.len)&&decide (x.len≤63)&&x.gain==4096&&chS x.a&&(x.kind==1||(x.kind==2&&chS x.b&&decide (0≤x.off)&&decide (x.off+x.len≤x.total)&&decide (x.total≤1000000)))))
def okS (l:List ClipR):Bool:=vTrack l&&l.all chX
theorem qb_of {r:RatR} {N D:Nat} (hv:vRat r=true) (h:r.num.natAbs≤N) (h1:r.den≤D):QB (toQ r) N D:=by
 obtain ⟨e1,e2⟩:=toQ_num hv
 exact ⟨by rw [e1];exact h,by omega⟩
theorem chS_src {A:List AudioR} {p q u v:List Int} (h:TwoA A p q u v) {ra rb:RatR} (hr:RateS ra) {s:SourceR} (hs:chS s=true):SrcF (prjR ra rb) (auM A) s ra [p,q]∧s.kind=1∧s.name=nmA:=by
 unfold chS at hs
 simp only [Bool.and_eq_true,decide_eq_true_eq,beq_iff_eq] at hs
 obtain ⟨⟨⟨⟨⟨⟨⟨h1,h2⟩,h3⟩,h4⟩,h5⟩,h6⟩,h7⟩,h8⟩:=hs
 exact ⟨srcF_a h hr h1 h2 h3 h4 (qb_of h3 h5 h6) (qb_of h4 h7 h8),h1,h2⟩
theorem chX_clip {A:List AudioR} {p q u v:List Int} (h:TwoA A p q u v) {r:RatR} (hr:RateS r) {Q:MapT} {x:ClipR} (hx:chX x=true) (hk:x.kind≠0):ClipT (prjR r r) (auM A) Q (prjE r r A) 1 x:=by
 unfold chX at hx
 simp only [Bool.and_eq_true,Bool.or_eq_true,decide_eq_true_eq,beq_iff_eq] at hx
 obtain ⟨_,hz | ⟨⟨⟨⟨⟨h1,h2⟩,h3⟩,h4⟩,h5⟩,h6⟩⟩:=hx
 ·exact absurd hz hk
 obtain ⟨sa,ka,na⟩:=chS_src (rb:=r) h hr h5
 have hE:(prjE r r A).chs x.a.name = [p,q]:=by rw [na];exact (two_a h).2 r r
 have hR:(prjE r r A).rate x.a.name=toQ r:=by rw [na];exact rate_a r r A
 rcases h6 with h6 | ⟨⟨⟨⟨h6,h7⟩,h8⟩,h9⟩,h10⟩
 ·exact clipT_cut1 h6 h1 h3 sa hE hR (by omega)
 ·obtain ⟨sb,kb,nb⟩:=chS_src (rb:=r) h hr h7
  have hE':(prjE r r A).chs x.b.name = [p,q]:=by rw [nb];exact (two_a h).2 r r
  have hR':(prjE r r A).rate x.b.name=toQ r:=by rw [nb];exact rate_a r r A
  exact clipT_mix1 h6 h1 h3 h8 h9 h10 (by omega) sa hE hR sb hE' hR' (by omega)
theorem okS_trk {l:List ClipR} (h:okS l=true) (hf:∀ x∈l,x.fit):TrkQ 1 l:=by
 unfold okS at h
 rw [Bool.and_eq_true,List.all_eq_true] at h
 refine ⟨h.1,fun c hc=>⟨hf c hc,?_,fun x hx=>?_⟩⟩
 ·have:=h.2 c hc
  unfold chX at this
  simp only [Bool.and_eq_true] at this
  exact this.1.1.1
 ·have h1:=h.2 c hc
  unfold chX at h1
  simp only [Bool.and_eq_true] at h1
  have hz:chZ x=true:=by
   rcases hx with rfl | rfl
   ·exact h1.1.1.2
   ·exact h1.1.2
  unfold chZ at hz
  simp only [Bool.or_eq_true,beq_iff_eq] at hz
  rcases hz with hz | hz
  ·unfold chS at hz
   simp only [Bool.and_eq_true,decide_eq_true_eq,beq_iff_eq] at hz
   have h2:=hz.1.1.1.1.1.1
   exact ⟨by omega,fun _ => .inl h2.2⟩
  ·exact ⟨by omega,fun h=>by omega⟩
abbrev xA:ClipR:=cutC nmA ⟨0,1⟩ ⟨3,2⟩ 3 4096 0
abbrev xB:ClipR:=⟨4,2,⟨1,nmA,⟨5,2⟩,⟨-1,2⟩,false⟩,⟨1,nmA,⟨0,1⟩,⟨3,2⟩,false⟩,0,5,0,⟨#[]⟩,4096,[0]⟩
abbrev xC:ClipR:=cutC nmA ⟨1,1⟩ ⟨1,1⟩ 3 4096 0
def tS:List ClipR:=[xA,xB,xC]
def pieceS (k:Nat):List ClipR:=pk (cutT tS 0 k)++pk (cutT tS k (12 - k))
theorem okS_t:okS tS=true:=by kernel_rfl
theorem okS_all:((List.range 11).all fun k=>okS (pieceS k))=true:=by kernel_rfl
theorem okS_k {k:Nat} (h:k≤10):okS (pieceS k)=true:=List.all_eq_true.1 okS_all k (List.mem_range.2 (by omega))
theorem pl_all (c:ClipR) (h:((List.range 13).all fun k:Nat=>placedOk (movedS c.a (k:Int))&&placedOk (movedS c.b (k:Int)))=true):∀ k:Int,0≤k→k≤12→placedOk (movedS c.a k)=true∧placedOk (movedS c.b k)=true:=fun k h0 h1=>by
 obtain ⟨n,rfl⟩:=Int.eq_ofNat_of_zero_le h0
 have:=List.all_eq_true.1 h n (List.mem_range.2 (by omega))
 rw [Bool.and_eq_true] at this
 exact this
theorem xB_fit:xB.fit:=by
 have i0:I64 0:=⟨by decide,by decide⟩
 have i1:I64 1:=⟨by decide,by decide⟩
 have i2:I64 2:=⟨by decide,by decide⟩
 have i4:I64 4:=⟨by decide,by decide⟩
 have i5:I64 5:=⟨by decide,by decide⟩
 have i40:I64 4096:=⟨by decide,by decide⟩
 exact ⟨i4,i2,⟨i1,frI 5 2 (by decide) (by decide),frI (-1) 2 (by decide) (by decide)⟩,⟨i1,fr01,frI 3 2 (by decide) (by decide)⟩,i0,i5,i0,i40⟩
theorem tS_cut:CutOk 12 tS (fr tS):=by
 refine cutOk_mk (fun d hd=>?_) (by decide) rfl (by decide)
 unfold tS at hd
 simp only [List.mem_cons,List.not_mem_nil,or_false] at hd
 rcases hd with rfl | rfl | rfl
 ·exact ⟨by kernel_rfl,cutC_fit fr01 (frI 3 2 (by decide) (by decide)) (by decide) (by decide) (by decide),pl_all _ (by kernel_rfl)⟩
 ·exact ⟨by kernel_rfl,xB_fit,pl_all _ (by kernel_rfl)⟩
 ·exact ⟨by kernel_rfl,cutC_fit fr11 fr11 (by decide) (by decide) (by decide),pl_all _ (by kernel_rfl)⟩
theorem tS_len:(fr tS).length=10:=by decide
theorem piece_fr {k:Nat} (hk:k≤10):fr (pieceS k)=fr tS++List.replicate 2 (gapC 1) ∧ ∀ x∈pieceS k,x.fit:=by
 obtain ⟨a1,_⟩:=cutOk_cut tS_cut (by decide) (a:=0) (n:=k) (by omega) (by omega) (by omega) (by omega)
 obtain ⟨b1,_⟩:=cutOk_cut tS_cut (by decide) (a:=(k:Int)) (n:=12 - (k:Int)) (by omega) (by omega) (by omega) (by omega)
 have a2:=cutOk_pk a1
 have b2:=cutOk_pk b1
 constructor
 ·unfold pieceS
  rw [fr_append,a2.fr,b2.fr]
  have h:=cut_two2 (fr tS) (k:=k) (by rw [tS_len];omega) 2
  rw [tS_len] at h
  have e1:(0:Int).toNat=0:=rfl
  have e2:((k:Int)).toNat=k:=by omega
  have e3:(12 - (k:Int)).toNat=10+2 - k:=by omega
  rw [e1,e2,e3]
  exact h
 ·intro x hx
  unfold pieceS at hx
  rcases List.mem_append.1 hx with h | h
  ·exact (a2.gd x h).fit
  ·exact (b2.gd x h).fit
theorem sndS {r:RatR} (hr:RateS r) {A:List AudioR} {p q u v:List Int} (h:TwoA A p q u v) {l:List ClipR} (hl:okS l=true) (hf:∀ x∈l,x.fit) (m:Int) (f0 : 0≤m) (f1:m≤1000000) :
  CPure Tryz.prog 17 [vproj (prjG r r r 1 [l]),vstr nmS,vint m,vint (20:Nat), .t (taudios A)] (.tup [.t (tchs [sndV (prjE r r A) [l] r m 20 0]),vint 0]):=by
 refine cSnd1 hr hr hr (by simp) (fun t ht=>?_) (two_aud h) (by decide) (by omega) (by omega) (fun t ht x hx hk=>?_)
 ·simp only [List.mem_cons,List.not_mem_nil,or_false] at ht
  subst ht
  exact okS_trk hl hf
 ·simp only [List.mem_cons,List.not_mem_nil,or_false] at ht
  subst ht
  unfold okS at hl
  rw [Bool.and_eq_true,List.all_eq_true] at hl
  exact chX_clip h hr (hl.2 x hx) hk
theorem split_same (E:SndE) (r:RatR) (m:Int) {k:Nat} (hk:k≤10):sndV E [pieceS k] r m 20 0=sndV E [tS] r m 20 0:=by
 unfold sndV
 congr 1
 funext i
 exact snd_same (piece_fr hk).1 (fun x hx=>by rw [List.eq_of_mem_replicate hx];rfl) r _ 0
end Go.Proofs.YtjmoncjecpckhaaGreat
