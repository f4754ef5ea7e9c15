/- Proved here: The project of two media and one sequence of sound, for use in the proofs of the given statements; conditions stand in each theorem. -/
import Derived.Test.YtkjdkbmfaamhaaaGreatYJ
import Derived.Test.YtkjdkbmfaamhaaaGreatYF
import Derived.Test.YtkjdkbmfaamhaaaGreatVA
import Derived.Test.YtkjdkbmfaamhaaaGreatVD
import Derived.Test.YtkjdkbmfaamhaaaGreatVE
import Derived.Test.YtkjdkbmfaamhaaaGreatVF
set_option linter.unusedSimpArgs false
set_option linter.unusedVariables false
set_option linter.unusedSectionVars false
set_option linter.unnecessarySimpa false
namespace Go.Proofs.YtkjdkbmfaamhaaaGreat
open Go.RowKit
set_option maxRecDepth 4000
def nmA:ByteArray:=⟨#[97]⟩
def nmB:ByteArray:=⟨#[98]⟩
def nmS:ByteArray:=⟨#[115]⟩
def prjM (nm:ByteArray) (r:RatR):MediumR:=⟨nm,0,⟨0,0,r,false,0,0,fun _=>0⟩,16777216,2,16777216,[]⟩
def prjQ (r:RatR) (m:Int) (ts:List (List ClipR)):SequenceR:=⟨nmS,r,16,16,[],ts,[],m⟩
def prjG (ra rb r:RatR) (m:Int) (ts:List (List ClipR)):ProjR:=⟨[prjM nmA ra,prjM nmB rb],[prjQ r m ts]⟩
theorem fillB2 (s:SeqR) (n:ByteArray) (f c g:Int):fillV (fun i=>[(0,1),(1,1),(2,135),(137,1),(138,1),(139,1),(140,1)][i]?) (zeroV Tryz.z58) [(0, .t (.lit (.string n))),(2, .agg (vseq s)),(3, .t (.lit (.int .i64 f))),(4, .t (.lit (.int .i64 c))),(5, .t (.lit (.int .i64 g)))]=some (vmedX ⟨n,0,s,f,c,g,[]⟩ (.t (.lit (.slice none 0 0)))):=by
 rfl
def zSeqT:List T:=[tstr ⟨#[]⟩,ti 0,ti 0,ti 0,ti 0, .lit (.slice none 0 0), .lit (.slice none 0 0), .lit (.slice none 0 0),ti 0]
theorem iL_app2 {a b:T}:∀ l:List T,Imp a b→ImpL (l ++ [a]) (l ++ [b])
 | [],h=>⟨h,trivial⟩
 | x::l,h=>⟨imp_refl,iL_app2 l h⟩
theorem cWhole (n:Int):CPure Tryz.prog 32 [vint n] (vrat ⟨n,1⟩):=by
 refine cpure_of Tryz.xen32 Tryz.func32 rfl Tryz.ntmps32 (by rw [Tryz.results32]) (aw_ok _ ?_)
 simp only [go_sem,simprocAttr]<;>rfl
theorem cCut27 (at0 sp:RatR) (n:Int):CPure Tryz.prog 33 [vrat at0,vrat sp,vint n] (vclip (cutC nmA at0 sp n 4096 0)):=by
 refine cpure_of Tryz.xen33 Tryz.func33 rfl Tryz.ntmps33 (by rw [Tryz.results33]) (aw_ok _ ?_)
 simp only [go_sem,simprocAttr]<;>rfl
theorem cProject27 (r:RatR) (ts:List (List ClipR)):CPure Tryz.prog 31 [vrat r, .t (ttracks ts)] (vproj (prjG r r r 1 ts)):=by
 refine cpure_ofW Tryz.xen31 Tryz.func31 rfl Tryz.ntmps31 (by rw [Tryz.results31]) (aw_ok _ ?_)
 have ww1:IntKind.i64.wrap 1=1:=by decide
 have ww2:IntKind.i64.wrap 2=2:=by decide
 have w01:IntKind.i64.wrap (0+1)=1:=by decide
 have w11:IntKind.i64.wrap (1+1)=2:=by decide
 simp only [go_sem,simprocAttr,decide_true,decide_false]
 refine awp_loopL ?_
 refine awpL_step (aw_ok _ ?_)
 simp only [go_sem,simprocAttr,decide_true,decide_false,↓fillA,↓fillB2,ww1,ww2,w01,w11]
 refine ⟨by decide,?_⟩
 refine awpL_step (aw_ok _ ?_)
 simp only [go_sem,simprocAttr,decide_true,decide_false,↓fillA,↓fillB2,ww1,ww2,w01,w11]
 refine ⟨by decide,?_⟩
 refine awpL_step (aw_ok _ ?_)
 simp only [go_sem,simprocAttr,decide_true,decide_false,↓fillA,↓fillB2,ww1,ww2,w01,w11]
 refine pureW_as (r' := .agg [.t (.list 141 (Tryz.z58.map T.lit) [mHead (prjM nmA r) ++ [.lit (.slice none 0 0)],mHead (prjM nmB r) ++ [.lit (.slice none 0 0)]]), .t (.list 9 zSeqT [[tstr nmS,ti r.num,ti r.den,ti 16,ti 16, .lit (.slice none 0 0),ttracks ts, .lit (.slice none 0 0),ti 1]])]) ?_ rfl ?_
 ·simp only [go_sem,simprocAttr]<;>rfl
 ·refine as_impAgg (by exact ⟨as_imp (imp_list ⟨iL_app2 _ imp_nil,iL_app2 _ imp_nil,trivial⟩),as_imp (imp_list (by exact ⟨⟨imp_refl,imp_refl,imp_refl,imp_refl,imp_refl,imp_nil,imp_refl,imp_nil,imp_refl,trivial⟩,trivial⟩)),trivial⟩)
open Go.RowKit
set_option maxRecDepth 4000
structure SrcF (R A:MapT) (s:SourceR) (r:RatR) (L:List (List Int)):Prop where
 kind:s.kind=1
 hR:kindsT .string R=true
 lR:lookT (.string s.name) R=some (vrat r)
 hA:kindsT .string A=true
 lA:lookT (.string s.name) A=some (.agg [vstr s.name, .t (tchs L)])
 hL:L.length=1∨L.length=2
 i16:∀ p∈L,I16s p
 len:∀ p∈L,p.length≤1048576
 same:∀ p∈L,p.length=(L.getD 0 []).length
 rate:RateS r
 vp:vRat s.pos=true
 vs:vRat s.speed=true
 pb:QB (toQ s.pos) 256 1024
 sb:QB (toQ s.speed) 4096 2048
theorem qb_abs {q:Rat} {N D:Nat} (h:QB q N D) : -((N:Int):Rat)≤q∧q≤((N:Int):Rat):=by
 have dp:(1:Rat)≤((q.den:Int):Rat):=by
  have:=q.den_pos
  have h1:((1:Int):Rat)≤((q.den:Int):Rat):=by exact_mod_cast (show (1:Int)≤(q.den:Int) by omega)
  exact h1
 have e:q*((q.den:Int):Rat)=(q.num:Rat):=by
  have h:=Rat.num_divInt_den q
  rw [Rat.divInt_eq_div] at h
  have dz:((q.den:Int):Rat)≠0:=by grind
  generalize ((q.den:Int):Rat)=d at *
  rw [← h]
  grind
 have n1:(q.num:Rat)≤((N:Int):Rat):=by exact_mod_cast (show q.num≤(N:Int) by have:=h.1;omega)
 have n2:((-(N:Int):Int):Rat)≤(q.num:Rat):=by exact_mod_cast (show -(N:Int)≤q.num by have:=h.1;omega)
 rw [Rat.intCast_neg] at n2
 have n0:(0:Rat)≤((N:Int):Rat):=by exact_mod_cast (show (0:Int)≤(N:Int) by omega)
 generalize ((q.den:Int):Rat)=d at *
 generalize ((N:Int):Rat)=M at *
 generalize (q.num:Rat)=x at *
 constructor
 ·by_cases h0 : -M≤q
  ·exact h0
  ·exfalso
   have:=Rat.mul_nonneg (a := -M - q) (b:=d - 1) (by grind) (by grind)
   have:=Rat.mul_nonneg (a:=M) (b:=d - 1) (by grind) (by grind)
   grind
 ·by_cases h0:q≤M
  ·exact h0
  ·exfalso
   have:=Rat.mul_nonneg (a:=q - M) (b:=d - 1) (by grind) (by grind)
   have:=Rat.mul_nonneg (a:=M) (b:=d - 1) (by grind) (by grind)
   grind
theorem abs_mul {a b M N:Rat} (ha : -M≤a∧a≤M) (hb : -N≤b∧b≤N) : -(M*N)≤a*b∧a*b≤M*N:=by
 have p1:=Rat.mul_nonneg (a:=M - a) (b:=N+b) (by grind) (by grind)
 have p2:=Rat.mul_nonneg (a:=M+a) (b:=N - b) (by grind) (by grind)
 have p3:=Rat.mul_nonneg (a:=M - a) (b:=N - b) (by grind) (by grind)
 have p4:=Rat.mul_nonneg (a:=M+a) (b:=N+b) (by grind) (by grind)
 constructor<;>grind
theorem srcM_of {R A:MapT} {s:SourceR} {r:RatR} {L:List (List Int)} (h:SrcF R A s r L) {k:Rat} (k0 : -64≤k) (k1:k≤64) (kd:k.den≤8192):SrcM R A s r L k:=by
 have c64:(((64:Nat):Int):Rat)=64:=rfl
 have hk:=qb_val (K:=64) (D:=8192) (by rw [c64];exact k0) (by rw [c64];exact k1) kd
 have hy : -(2149580800:Rat)≤posQ s k*(48000 / toQ r)∧posQ s k*(48000 / toQ r)≤(2149580800:Rat):=by
  have a1:=qb_abs h.pb
  have a2:=qb_abs h.sb
  have a3:=qb_abs h.rate.b1
  have a4:=abs_mul (M:=64) ⟨k0,k1⟩ a2
  have a5 : -((256+64*4096:Rat))≤posQ s k∧posQ s k≤(256+64*4096:Rat):=by
   have e1:(((256:Nat):Int):Rat)=256:=rfl
   have e2:(((4096:Nat):Int):Rat)=4096:=rfl
   rw [e1] at a1
   rw [e2] at a4
   unfold posQ
   constructor<;>grind
  have a6:=abs_mul a5 a3
  have e3:(256+64*4096:Rat)*(((8192:Nat):Int):Rat)=2149580800:=by
   have:(((8192:Nat):Int):Rat)=8192:=rfl
   grind
  rw [e3] at a6
  exact a6
 have b1:((549755813888:Int):Rat)=549755813888:=rfl
 exact ⟨h.kind,h.hR,h.lR,h.hA,h.lA,h.hL,h.i16,h.len,h.same,h.rate,qb_mono hk (by decide) (by decide),h.vp,h.vs,h.pb,h.sb,by grind,by grind⟩
theorem time_in {r:RatR} (hr:RateS r) (s:Int):(ownF r s:Rat) - 1≤timeQ r s∧timeQ r s≤(ownF r s:Rat)+1:=by
 have hn:=hr.n
 have hd:=hr.d
 have h30:=hr.m30
 have hp : 0<96000*r.den:=by omega
 have h1:=Int.mul_ediv_add_emod ((2*s+1)*r.num - 1) (96000*r.den)
 have h2:=Int.emod_nonneg ((2*s+1)*r.num - 1) (show (96000*r.den:Int)≠0 by omega)
 have h3:=Int.emod_lt_of_pos ((2*s+1)*r.num - 1) hp
 have ho:((2*s+1)*r.num - 1) / (96000*r.den)=ownF r s:=rfl
 rw [ho] at h1
 have e1:(2*s+1)*r.num=2*(s*r.num)+r.num:=by rw [Int.add_mul,Int.mul_assoc];omega
 rw [e1] at h1 h2 h3
 generalize (2*(s*r.num)+r.num - 1) % (96000*r.den)=m at *
 generalize ownF r s=f at *
 have i1 : 2*(s*r.num)≤96000*r.den*f+96000*r.den:=by omega
 have i2 : 96000*r.den*f - 96000*r.den≤2*(s*r.num):=by omega
 have dq:(0:Rat)<((r.den:Int):Rat):=ratpos hd
 have et:timeQ r s*(48000*(r.den:Rat))=(s:Rat)*r.num:=by
  unfold timeQ
  grind
 have q1:((2*(s*r.num):Int):Rat)≤((96000*r.den*f+96000*r.den:Int):Rat):=Rat.intCast_le_intCast.2 i1
 have q2:((96000*r.den*f - 96000*r.den:Int):Rat)≤((2*(s*r.num):Int):Rat):=Rat.intCast_le_intCast.2 i2
 simp only [Rat.intCast_mul,Rat.intCast_add,Rat.intCast_sub] at q1 q2
 have c1:((96000:Int):Rat)=96000:=rfl
 have c2:((2:Int):Rat)=2:=rfl
 rw [c1,c2, ← et] at q1 q2
 generalize timeQ r s=t at *
 generalize (f:Rat)=g at *
 generalize (r.den:Rat)=d at *
 constructor
 ·have:=nonneg_of (v:=t - (g - 1)) dq (by grind)
  grind
 ·have:=nonneg_of (v:=g+1 - t) dq (by grind)
  grind
def ClipT (R A Q:MapT) (E:SndE) (m:Nat) (x:ClipR):Prop:=x.len≤63 ∧ ∀ k:Rat, -1≤k→k≤(x.len:Rat)→k.den≤8192→AddOk R A Q E m x k
theorem cmpOk_of {R A Q:MapT} {E:SndE} {m:Nat} {ts:List (List ClipR)} {r:RatR} (hr:RateS r) (h8:ts.length≤8) (ht:∀ t∈ts,vTrack t=true) (hx:∀ t∈ts, ∀ x∈t,x.kind≠0→ClipT R A Q E m x) (s:Int):CmpOk R A Q E m ts r s:=by
 refine ⟨h8,ht,fun t htm i x hi hk a b=>?_⟩
 obtain ⟨hl,hadd⟩:=hx t htm x (List.mem_of_getElem? hi) hk
 obtain ⟨t1,t2⟩:=time_in hr s
 obtain ⟨_,tq⟩:=time_qb hr s
 have f1:((totL (t.take i):Int):Rat)≤(ownF r s:Rat):=by exact_mod_cast a
 have f2:((ownF r s+1:Int):Rat)≤((totL (t.take i)+x.len:Int):Rat):=by exact_mod_cast (show ownF r s+1≤totL (t.take i)+x.len by omega)
 rw [int_succ,Rat.intCast_add] at f2
 refine hadd _ (by grind) (by grind) ?_
 have:=(qb_add tq (qb_neg (qb_int (totL (t.take i))))).2
 rw [Rat.sub_eq_add_neg]
 exact Nat.le_trans this (by decide)
theorem chan_range {L:List (List Int)} (hL:L.length≤2) (hi:∀ p∈L,I16s p) (y:Rat) (c:Int) : -65536≤tchan L.length (lerpV (L.getD 0 []) y) (lerpV (L.getD 1 []) y) 0 0 c∧tchan L.length (lerpV (L.getD 0 []) y) (lerpV (L.getD 1 []) y) 0 0 c≤65536:=by
 rw [tchan_chan hL]
 have:=chan_i16 hi c y
 omega
theorem srcS_med {E:SndE} {s:SourceR} (hk:s.kind=1) {r:RatR} (hR:E.rate s.name=toQ r) (k:Rat) (c:Int):srcS E s k c=chanV (E.chs s.name) c (posQ s k*(48000 / toQ r)):=by
 unfold srcS posY
 rw [if_neg (by omega),hR]
theorem clipT_cut1 {R A Q:MapT} {E:SndE} {c:ClipR} {r:RatR} {L:List (List Int)} (hk:c.kind=1) {x:Int} (hc:c.chan = [x]) (hl:c.len≤63) (h:SrcF R A c.a r L) (hE:E.chs c.a.name=L) (hR:E.rate c.a.name=toQ r) (hg : 0≤c.gain∧c.gain≤65536):ClipT R A Q E 1 c:=by
 refine ⟨hl,fun k k0 k1 kd=>?_⟩
 have kl:(c.len:Rat)≤((63:Int):Rat):=by exact_mod_cast hl
 have c63:((63:Int):Rat)=63:=rfl
 rw [c63] at kl
 have hs:=srcM_of h (k:=k) (by grind) (by grind) kd
 have hL2:L.length≤2:=by rcases h.hL with e | e<;>omega
 have src:=cSourceM (Q:=Q) hs
 unfold toneL at src
 have hz:=chan_range hL2 h.i16 (posQ c.a k*(48000 / toQ r))
 have ev:clipV E c k 0=gainV (tchan L.length (lerpV (L.getD 0 []) (posQ c.a k*(48000 / toQ r))) (lerpV (L.getD 1 []) (posQ c.a k*(48000 / toQ r))) 0 0 x) c.gain:=by
  unfold clipV mixV
  rw [if_neg (by omega),hc,srcS_med h.kind hR,hE,tchan_chan hL2]
  rfl
 have hb:=gain_bound (hz x) hg
 refine ⟨fun i=>?_,fun s0 s1 s2 s3 h0 h1 h2 h3=>?_⟩
 ·unfold chV
  split
  ·rename_i hi
   have:i=0:=by omega
   subst this
   rw [ev]
   exact hb.2.2
  ·decide
 ·have:=cAddC1 R A Q c hk x hc k L.length _ _ 0 0 (by omega) src hz hg s0 s1 s2 s3 h0 h1 h2 h3
  rw [← ev] at this
  have z:∀ i,1≤i→chV E 1 c k i=0:=fun i hi=>by unfold chV;rw [if_neg (by omega)]
  have z0:chV E 1 c k 0=clipV E c k 0:=by unfold chV;rw [if_pos (by omega)]
  rw [z 1 (by omega),z 2 (by omega),z 3 (by omega),z0,Int.add_zero,Int.add_zero,Int.add_zero]
  exact this
open Go.RowKit
set_option maxRecDepth 4000
structure TrkQ (m:Nat) (t:List ClipR):Prop where
 ok:vTrack t=true
 cl:∀ c∈t,c.fit∧audB m c=true ∧ ∀ x,(x=c.a∨x=c.b)→x.kind≠2∧(x.kind=1→x.name=nmA∨x.name=nmB)
theorem prjM_ok {nm:ByteArray} {r:RatR} (hn:vName nm=true) (hr:rateOk r=true):medOk (prjM nm r)=true:=by
 have e:medOk (prjM nm r)=(vName nm&&rateOk r&&countOk 16777216&&countOk 16777216&&chanOk 2&&cuesOk []):=rfl
 rw [e,hn,hr]
 rfl
theorem prj_srcs {r:RatR} {m:Int} {ts:List (List ClipR)} {x:SourceR} (hx:x∈srcsOf (prjQ r m ts)):∃ t∈ts, ∃ c∈t,x=c.a∨x=c.b:=by
 unfold srcsOf srcsF at hx
 obtain ⟨c,hc,hx⟩:=List.mem_flatMap.1 (List.mem_filter.1 hx).1
 unfold clipsOf prjQ at hc
 obtain ⟨t,ht,hct⟩:=List.mem_flatten.1 hc
 rw [List.nil_append] at ht
 exact ⟨t,ht,c,hct,by simpa using hx⟩
theorem two_names : [nmA,nmB].Nodup:=by
 simp only [List.nodup_cons,List.mem_singleton,List.not_mem_nil,not_false_eq_true,List.nodup_nil,and_self,and_true]
 decide
theorem prj_lay {ra rb r:RatR} {m:Nat} {ts:List (List ClipR)} (ha:rateOk ra=true) (hb:rateOk rb=true) (hr:rateOk r=true) (hm:m≤4) (h8:ts.length≤8) (ht:∀ t∈ts,TrkQ m t):Layered (prjG ra rb r m ts):=by
 have n1:vName nmA=true:=by kernel_rfl
 have n2:vName nmB=true:=by kernel_rfl
 have n3:vName nmS=true:=by kernel_rfl
 have hsn:ts.all (sndOk (m:Int))=true:=List.all_eq_true.2 fun t h=>by
  unfold sndOk
  rw [(ht t h).ok,List.all_eq_true.2 fun c hc=>((ht t h).cl c hc).2.1]
  rfl
 have hch:chanOk (m:Int)=true:=by
  unfold chanOk
  rw [decide_eq_true (by omega),decide_eq_true (by omega)]
  rfl
 have hq:seqOk (prjQ r m ts)=true:=by
  have e:seqOk (prjQ r m ts)=((vName nmS&&rateOk r&&sizeOk 16&&sizeOk 16&&chanOk m&&cuesOk [])&&true&&ts.all (sndOk (m:Int))):=rfl
  rw [e,hsn,hch,hr,n3]
  rfl
 refine ⟨?_,?_,two_names,(by show [nmS].Nodup;simp),by simp [prjG],fun j hj x hx k1=>?_,fun j hj x hx k2=>?_⟩
 ·have e:smallB (prjG ra rb r m ts)=(true&&true&&(true&&(true&&true))&&((decide (((0:Nat):Int)≤8)&&decide ((ts.length:Int)≤8)&&decide (((0:Nat):Int)≤64))&&true)):=rfl
  rw [e,decide_eq_true (show (ts.length:Int)≤8 by omega)]
  rfl
 ·simp only [prjG,List.all_cons,List.all_nil,prjM_ok n1 ha,prjM_ok n2 hb,hq]
  rfl
 ·simp only [prjG,List.length_cons,List.length_nil] at hj
  have:j=0:=by omega
  subst this
  obtain ⟨t,htm,c,hc,hxe⟩:=prj_srcs hx
  rcases (((ht t htm).cl c hc).2.2 x hxe).2 k1 with e | e
  ·exact ⟨0,by simp [prjG],e.symm⟩
  ·exact ⟨1,by simp [prjG],e.symm⟩
 ·simp only [prjG,List.length_cons,List.length_nil] at hj
  have:j=0:=by omega
  subst this
  obtain ⟨t,htm,c,hc,hxe⟩:=prj_srcs hx
  exact absurd k2 (((ht t htm).cl c hc).2.2 x hxe).1
theorem prj_fit {ra rb r:RatR} {m:Nat} {ts:List (List ClipR)} (fa:ra.fit) (fb:rb.fit) (fr:r.fit) (hm:m≤4) (ht:∀ t∈ts,TrkQ m t):(prjG ra rb r m ts).fit:=by
 have i0:I64 0:=⟨by decide,by decide⟩
 have i2:I64 2:=⟨by decide,by decide⟩
 have i24:I64 16777216:=⟨by decide,by decide⟩
 have i16:I64 16:=⟨by decide,by decide⟩
 refine ⟨fun y hy=>?_,fun y hy=>?_⟩
 ·simp only [prjG,List.mem_cons,List.not_mem_nil,or_false] at hy
  rcases hy with rfl | rfl
  ·exact ⟨⟨i0,i0,fa,i0,i0⟩,i24,i2,i24,fun c hc=>by cases hc⟩
  ·exact ⟨⟨i0,i0,fb,i0,i0⟩,i24,i2,i24,fun c hc=>by cases hc⟩
 ·simp only [prjG,List.mem_cons,List.not_mem_nil,or_false] at hy
  subst hy
  exact ⟨fr,i16,i16,fun t ht=>(by cases ht),fun t htm c hc=>((ht t htm).cl c hc).1,fun c hc=>(by cases hc),⟨by show (-9223372036854775808:Int)≤(m:Int);omega,by show (m:Int)≤9223372036854775807;omega⟩⟩
theorem rateOk_s {r:RatR} (h:RateS r):rateOk r=true:=by
 unfold rateOk
 rw [(rateS_v h).2.1,decide_eq_true h.n]
 rfl
def prjE (ra rb:RatR) (A:List AudioR):SndE:=⟨fun nm=>if nm=nmB then toQ rb else toQ ra,fun nm=>(lastOf AudioR.name nm A).elim [] AudioR.chs⟩
abbrev prjR (ra rb:RatR):MapT:=rtM [prjM nmA ra,prjM nmB rb]
theorem look_a (ra rb:RatR):lookT (.string nmA) (prjR ra rb)=some (vrat ra):=by
 rw [look_rt]
 rfl
structure TwoA (A:List AudioR) (p q u v:List Int):Prop where
 eq:A = [⟨nmA,[p,q]⟩,⟨nmB,[u,v]⟩]
 ip:I16s p
 iq:I16s q
 iu:I16s u
 iv:I16s v
 n:p.length≤1048576
 nq:q.length=p.length
 nu:u.length=p.length
 nv:v.length=p.length
theorem rate_a (ra rb:RatR) (A:List AudioR):(prjE ra rb A).rate nmA=toQ ra:=by
 show (if nmA=nmB then toQ rb else toQ ra)=toQ ra
 rw [if_neg (by decide)]
end Go.Proofs.YtkjdkbmfaamhaaaGreat
