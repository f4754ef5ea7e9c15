/- Proved here: Arguments whose nil slices are read as empty lists. -/
import Derived.Test.YtkjdkbmfaamhaaaGreatQ05
import Derived.Lib.AppendZeros
import Derived.Shelf.RegionOpenPlain
import Derived.Shelf.SlIter.Nil
import Derived.Shelf.SortM.Plain
import Derived.Shelf.SortM.SortNone
import Derived.RecoverIn
set_option linter.unusedSimpArgs false
set_option linter.unusedVariables false
set_option linter.unnecessarySimpa false
namespace Go.Proofs.YtkjdkbmfaamhaaaGreat
open Go.RowKit
set_option maxRecDepth 4000
def aQz:List V->List V->Prop
 |[],[]=>True
 |x::xs,y::ys=>(x=y\/(x=.t (.lit (.slice none 0 0)) /\∃k d,y=.t (.list k d [])))/\aQz xs ys
 |_,_=>False
theorem aC2{w:World}{E:Env}:∀{xs ys:List V} {vs:List Value},aQz xs ys->RdVs w E xs vs->RdVs w E ys vs
 |[],[],_,_,h=>h
 |x::xs,y::ys,[],_,h=>by simp only[RdVs]at h
 |x::xs,y::ys,v::vs,hn,h=>by
  simp only[RdVs]at h⊢;refine⟨?_,aC2 hn.2 h.2⟩;rcases hn.1 with rfl|⟨rfl,k,d,rfl⟩
  .exact h.1
  .have h1:=h.1;simp only[RdV]at h1⊢;cases h1;exact .list _ _ _ none 0 (Nat.zero_le _) (Nat.zero_le _) (λ_=>rfl) (by simp) (by simp) (by simp)
 |[],_::_,_,hn,_=>hn.elim
 |_::_,[],_,hn,_=>hn.elim
def asTs:List T->List T->Prop
 |[],[]=>True
 |x::xs,y::ys=>(x=y\/(x=.lit (.slice none 0 0) /\∃k d,y=.list k d []))/\asTs xs ys
 |_,_=>False
def asRows:List (List T)->List (List T)->Prop
 |[],[]=>True
 |x::xs,y::ys=>asTs x y/\asRows xs ys
 |_,_=>False
def AsVs(xs ys:List V):Prop:=∀(w:World) (E:Env) (vs:List Value),RdVs w E xs vs->RdVs w E ys vs
theorem wR{P:Program}{f:FuncId}{args args':List V}{r:V}(ha:AsVs args' args)(h:aL P f args r):aL P f args' r:=
 ⟨h.1,λw S vs hS hv=>h.2 w S vs hS (ha _ _ _ hv)⟩
theorem AsVs.cons{x y:V}{xs ys:List V}(h1:∀(w:World) (E:Env) v,RdV w E x v->RdV w E y v)(h2:AsVs xs ys):AsVs (x::xs) (y::ys):=by
 intro w E vs h;cases vs with
 |nil=>simp only[RdVs]at h
 |cons v vs=>
  simp only[RdVs]at h⊢;exact⟨h1 _ _ _ h.1,h2 _ _ _ h.2⟩
theorem AsVs.nil:AsVs [] []:=λ_ _ _ h=>h
theorem sT{x:V}:∀(w:World) (E:Env) v,RdV w E x v->RdV w E x v:=λ_ _ _ h=>h
theorem as_agg{xs ys:List V}(ha:aQz xs ys):∀(w:World) (E:Env) v,RdV w E (.agg xs) v->RdV w E (.agg ys) v:=by
 intro w E v h;simp only[RdV]at h⊢;obtain⟨vs,rfl,q1,q2⟩:=h;exact⟨vs,rfl,aC2 ha q1,q2⟩
theorem aF1{r x:V}{h:Heap}(e:x.lend h=r)(hp:r.pure=true):aHf r x h:=⟨by rw[e];exact hp,λw E v hv=>by rw[e]at hv;exact hv⟩
theorem Mk{P:Program}{f:FuncId}{cs args cs':List V}{r r':V}(ha:∀(w:World) (E:Env) v,RdV w E r v->RdV w E r' v)(h:yE P f cs args r cs'):yE P f cs args r' cs':=
 ⟨h.1,λw S b ty cells vs h1 h2 h3 h4 h5 h6=>(h.2 w S b ty cells vs h1 h2 h3 h4 h5 h6).mono λe w' ⟨v,S',ty',cells',k0,k1,k2,k3,k4,k5⟩=>⟨v,S',ty',cells',k0,k1,k2,k3,ha _ _ _ k4,k5⟩⟩
structure CueR where
 frm:Int
 upto:Int
 lines:List ByteArray
 deriving Inhabited
structure CueR.fit (c:CueR):Prop where
 frm:I64 c.frm
 upto:I64 c.upto
abbrev vcue (c:CueR):V:=.agg [aA c.frm,aA c.upto,.t (aGr c.lines)]
def CueR.c(c:CueR):List T:=[ti c.frm,ti c.upto,aGr c.lines]
@[go_sem] theorem CueR.ct(c:CueR):(CueR.c c).map V.t=[aA c.frm,aA c.upto,.t (aGr c.lines)]:=rfl
@[go_sem] theorem CueR.cl(c:CueR):(CueR.c c).length=3:=rfl
@[go_sem] abbrev Cg (l:List CueR):T:=.list 3 (CueR.c default) (l.map CueR.c)
structure SeqR where
 w:Int
 h:Int
 rate:RatR
 inter:Bool
 bits:Int
 buf:Int
 q:Nat->Int
 deriving Inhabited
structure SeqR.fit (s:SeqR):Prop where
 w:I64 s.w
 h:I64 s.h
 rate:s.rate.fit
 bits:I64 s.bits
 buf:I64 s.buf
def quantC(q:Nat->Int):List T:=(List.range 128).map λi=> .lit (.int .u8 (q i))
def SeqR.c(s:SeqR):List T:=[ti s.w,ti s.h,ti s.rate.num,ti s.rate.den,tbl s.inter,ti s.bits,ti s.buf]++quantC s.q
structure MediumR where
 name:ByteArray
 sum:Int
 seq:SeqR
 frames:Int
 channels:Int
 samples:Int
 cues:List CueR
 deriving Inhabited
structure MediumR.fit (m:MediumR):Prop where
 seq:m.seq.fit
 frames:I64 m.frames
 channels:I64 m.channels
 samples:I64 m.samples
 cues:∀c∈m.cues,c.fit
def MediumR.c(m:MediumR):List T:=[mW m.name,tu m.sum]++m.seq.c++[ti m.frames,ti m.channels,ti m.samples,Cg m.cues]
def mV(m:MediumR):List V:=(MediumR.c m).map .t
@[go_sem] theorem MediumR.ct(m:MediumR):(MediumR.c m).map V.t=mV m:=rfl
@[go_sem] theorem MediumR.cl(m:MediumR):(MediumR.c m).length=141:=rfl
@[go_sem] theorem vmed_len(m:MediumR):(mV m).length=141:=rfl
theorem aKf(m:MediumR):(mV m).all V.isCell=true:=by
 rw[List.all_eq_true];intro x hx;unfold mV at hx;obtain⟨t,_,rfl⟩:=List.mem_map.1 hx;rfl
attribute [go_sem] aKf
@[go_sem] theorem vmed_0(m:MediumR):(mV m)[0]?=some (cF m.name):=rfl
@[go_sem] theorem vmed_1(m:MediumR):(mV m)[1]?=some (bD m.sum):=rfl
@[go_sem] theorem vmed_137(m:MediumR):(mV m)[137]?=some (aA m.frames):=rfl
@[go_sem] theorem vmed_138(m:MediumR):(mV m)[138]?=some (aA m.channels):=rfl
@[go_sem] theorem vmed_139(m:MediumR):(mV m)[139]?=some (aA m.samples):=rfl
@[go_sem] theorem vmed_140(m:MediumR):(mV m)[140]?=some (.t (Cg m.cues)):=rfl
def aKd(s:SeqR):List V:=(SeqR.c s).map .t
@[go_sem] theorem vseq_len(s:SeqR):(aKd s).length=135:=rfl
theorem aNs(m:MediumR):List.take 135 (List.drop 2 (mV m))=aKd m.seq:=rfl
theorem aKe(m:MediumR):List.take 2 (List.drop 4 (mV m))=[aA m.seq.rate.num,aA m.seq.rate.den]:=rfl
theorem aNt(m:MediumR):List.take 141 (List.drop 0 (mV m))=mV m:=rfl
theorem aKg(m:MediumR):List.take 141 (mV m)=mV m:=rfl
attribute [go_sem] aNs aKe aNt aKg
@[go_sem] theorem drop_zmed(f:Value->V):List.drop 141 (List.map f Tryz.z58)=[]:=List.drop_of_length_le (by rw[List.length_map,Tryz.zlen58];exact Nat.le_refl _)
structure SequenceR where
 name:ByteArray
 rate:RatR
 w:Int
 h:Int
 video:List (List ClipR)
 sound:List (List ClipR)
 cues:List CueR
 channels:Int
 deriving Inhabited
def fJ(t:List ClipR):List T:=[jC t]
@[go_sem] theorem trackC_t(t:List ClipR):(fJ t).map V.t=[.t (jC t)]:=rfl
@[go_sem] theorem trackC_l(t:List ClipR):(fJ t).length=1:=rfl
@[go_sem] abbrev gC (l:List (List ClipR)):T:=.list 1 (fJ []) (l.map fJ)
def SequenceR.c(s:SequenceR):List T:=[mW s.name,ti s.rate.num,ti s.rate.den,ti s.w,ti s.h,gC s.video,gC s.sound,Cg s.cues,ti s.channels]
abbrev dE (s:SequenceR):V:=.agg [cF s.name,aA s.rate.num,aA s.rate.den,aA s.w,aA s.h,.t (gC s.video),.t (gC s.sound),.t (Cg s.cues),aA s.channels]
@[go_sem] theorem SequenceR.ct(s:SequenceR):(SequenceR.c s).map V.t=[cF s.name,aA s.rate.num,aA s.rate.den,aA s.w,aA s.h,.t (gC s.video),.t (gC s.sound),.t (Cg s.cues),aA s.channels]:=rfl
@[go_sem] theorem SequenceR.cl(s:SequenceR):(SequenceR.c s).length=9:=rfl
structure SequenceR.fit (s:SequenceR):Prop where
 rate:s.rate.fit
 w:I64 s.w
 h:I64 s.h
 video:∀t∈s.video,∀c∈t,c.fit
 sound:∀t∈s.sound,∀c∈t,c.fit
 cues:∀c∈s.cues,c.fit
 channels:I64 s.channels
structure ProjR where
 media:List MediumR
 seqs:List SequenceR
 deriving Inhabited
structure ProjR.fit (p:ProjR):Prop where
 media:∀m∈p.media,m.fit
 seqs:∀s∈p.seqs,s.fit
@[go_sem] abbrev hZ (l:List MediumR):T:=.list 141 (MediumR.c default) (l.map MediumR.c)
@[go_sem] abbrev nP (l:List SequenceR):T:=.list 9 (SequenceR.c default) (l.map SequenceR.c)
abbrev jY (p:ProjR):V:=.agg [.t (hZ p.media),.t (nP p.seqs)]
def ProjR.c(p:ProjR):List T:=[hZ p.media,nP p.seqs]
def Kz(c:CueR):Bool:=decide (0<=c.frm)&&decide (c.frm<c.upto)&&decide (c.upto<=2147483647)&&decide (1<=c.lines.length)&&decide (c.lines.length<=4)
def vK(c:CueR):Bool:=Kz c&&c.lines.all jZ
theorem cPCue(c:CueR)(h:c.fit):aL Tryz.prog 113 [vcue c] (aR (vK c)):=by
 obtain⟨⟨f1,f2⟩,⟨t1,t2⟩⟩:=h;refine aF Tryz.X113 Tryz.func113 rfl Tryz.ntmps113 (by rw[Tryz.results113]) (aB _ ?_);simp only[go_sem,seval];refine brW (b:=!Kz c) ?_ ⟨λhb=>?_,λhb=>?_⟩
 .unfold Kz;rw[Bool.eq_iff_iff];simp only[decide_eq_true_eq,decide_eq_false_iff_not,Bool.or_eq_true,Bool.and_eq_false_iff,Bool.not_eq_eq_eq_not,Bool.not_true];omega
 .unfold awS;simp only[go_sem,seval];unfold vK;rw[nt hb];rfl
 .have hk:=nf hb;unfold Kz at hk;simp only[decide_eq_true_eq,Bool.and_eq_true]at hk;unfold awS;simp only[go_sem,seval];refine aE (λ(k:Nat) σ=>bP 35 (aA k) σ) (λk=>k<=c.lines.length /\∀i,i<k->jZ (c.lines.getD i default)=true) (λk=>c.lines.length-k) 0 (aC ?_) ⟨Nat.zero_le _,by omega⟩ ?_
  .simp only[go_sem,seval]<;>simp
  .rintro k ⟨hk1,hi⟩;refine aB _ ?_;simp only[go_sem,seval];refine⟨λhlt=>?_,λhge=>?_⟩
   .simp only[decide_eq_true_eq]at hlt;unfold awS;simp only[go_sem,seval];refine⟨⟨by omega,by omega⟩,_,aT7 _,?_⟩;simp only[go_sem];refine brW (b:=!jZ (c.lines.getD k default)) ?_ ⟨λhc=>?_,λhc=>?_⟩
    .rfl
    .unfold awS;simp only[go_sem,seval];unfold vK;rw[cK (d:=default) (p:=jZ) (k:=k) (by omega) (nt hc),Bool.and_false]
    .unfold awS;simp only[go_sem,seval];refine⟨k+1,aC ?_,⟨by omega,upto hi (nf hc)⟩,by omega⟩;simp only[go_sem,seval]<;>simp[bJ (show k<9223372036854775807 by omega)]
   .simp only[decide_eq_false_iff_not]at hge;unfold awS;simp only[go_sem,seval];unfold vK;rw[nf hb,cQ (d:=default) (p:=jZ) (λi h2=>hi i (by omega))];rfl
theorem cRCue(c:CueR)(h:c.fit):aL Tryz.prog 130 [vcue c] (aR (vK c)):=by
 obtain⟨⟨f1,f2⟩,⟨t1,t2⟩⟩:=h;refine aF Tryz.X130 Tryz.func130 rfl Tryz.ntmps130 (by rw[Tryz.results130]) (eK λhf=>aB _ ?_);simp only[go_sem,seval,gW]at hf;have hla:c.lines.length<=maxLen:=by exact hf.2.2.1
 simp only[go_sem,seval];refine aE (λ(k:Nat) σ=>bP 3 (aA k) σ) (λk=>k<=c.lines.length /\∀i,i<k->jZ (c.lines.getD i default)=true) (λk=>c.lines.length-k) 0 (aC ?_) ⟨Nat.zero_le _,by omega⟩ ?_
 .simp only[go_sem,seval]<;>simp
 .rintro k ⟨hk1,hi⟩;refine aB _ ?_;simp only[go_sem,seval];refine⟨λhlt=>?_,λhge=>?_⟩
  .simp only[decide_eq_true_eq]at hlt;unfold awS;simp only[go_sem,seval];refine⟨⟨by omega,by omega⟩,_,aSt _,?_⟩;simp only[go_sem];refine brW (b:=!jZ (c.lines.getD k default)) ?_ ⟨λhc=>?_,λhc=>?_⟩
   .rfl
   .unfold awS;simp only[go_sem,seval];unfold vK;rw[cK (d:=default) (p:=jZ) (k:=k) (by omega) (nt hc),Bool.and_false]
   .unfold awS;simp only[go_sem,seval];refine⟨k+1,aC ?_,⟨by omega,upto hi (nf hc)⟩,by omega⟩;simp only[go_sem,seval]<;>simp[gR (show k<c.lines.length by omega) hla]
  .simp only[decide_eq_false_iff_not]at hge;unfold awS;simp only[go_sem,seval];unfold vK;rw[cQ (d:=default) (p:=jZ) (λi h2=>hi i (by omega)),Bool.and_true];have:(decide (c.frm>=0)&&decide (c.frm<c.upto)&&decide (c.upto<=2147483647)&&decide ((c.lines.length:Int)>=1)&&decide ((c.lines.length:Int)<=4))=Kz c:=by
    unfold Kz;rw[Bool.eq_iff_iff];simp only[decide_eq_true_eq,Bool.and_eq_true];omega
   rw[this]
def pG(l:List CueR):Bool:=l.all vK
theorem aT8(l:List CueR)(h:∀c∈l,c.fit):aL Tryz.prog 73 [.t (Cg l)] (aR (pG l)):=by
 refine aF Tryz.X73 Tryz.func73 rfl Tryz.ntmps73 (by rw[Tryz.results73]) (eK λhf=>aB _ ?_);simp only[go_sem,seval,gW]at hf;have hla:l.length<=maxLen:=hf.1;simp only[go_sem,seval];refine aE (λ(k:Nat) σ=>bP 7 (aA k) σ) (λk=>k<=l.length /\∀i,i<k->vK (l.getD i default)=true) (λk=>l.length-k) 0 (aC ?_) ⟨Nat.zero_le _,by omega⟩ ?_
 .simp only[go_sem,seval]<;>simp
 .rintro k ⟨hk1,hi⟩;refine aB _ ?_;simp only[go_sem,seval];refine⟨λhlt=>?_,λhge=>?_⟩
  .simp only[decide_eq_true_eq]at hlt;unfold awS;simp only[go_sem,seval];refine⟨⟨by omega,by omega⟩,_,cPCue _ (h _ (aW (by omega))),?_⟩;simp only[go_sem];refine brW (b:=!vK (l.getD k default)) ?_ ⟨λhc=>?_,λhc=>?_⟩
   .rfl
   .unfold awS;simp only[go_sem,seval];unfold pG;rw[cK (d:=default) (p:=vK) (k:=k) (by omega) (nt hc)]
   .unfold awS;simp only[go_sem,seval];refine⟨k+1,aC ?_,⟨by omega,upto hi (nf hc)⟩,by omega⟩;simp only[go_sem,seval]<;>simp[gR (show k<l.length by omega) hla]
  .simp only[decide_eq_false_iff_not]at hge;unfold awS;simp only[go_sem,seval];unfold pG;rw[cQ (d:=default) (p:=vK) (λi h2=>hi i (by omega))]
def tH(r:RatR):Bool:=dA r&&decide (0<r.num)
theorem aT6(r:RatR)(h:r.fit):aL Tryz.prog 70 [bV r] (aR (tH r)):=by
 refine aF Tryz.X70 Tryz.func70 rfl Tryz.ntmps70 (by rw[Tryz.results70]) (aB _ ?_);simp only[go_sem,seval];refine⟨_,yL r h,?_⟩;simp only[go_sem,seval]<;>rfl
def Gh(n:Int):Bool:=decide (0<=n)&&decide (n<=2147483647)
theorem aJy(n:Int):aL Tryz.prog 71 [aA n] (aR (Gh n)):=by
 refine aF Tryz.X71 Tryz.func71 rfl Tryz.ntmps71 (by rw[Tryz.results71]) (aB _ ?_);simp only[go_sem,seval]<;>rfl
def sJ(n:Int):Bool:=decide (0<=n)&&decide (n<=4)
theorem Lh(n:Int):aL Tryz.prog 72 [aA n] (aR (sJ n)):=by
 refine aF Tryz.X72 Tryz.func72 rfl Tryz.ntmps72 (by rw[Tryz.results72]) (aB _ ?_);simp only[go_sem,seval]<;>rfl
def nT(n:Int):Bool:=decide (16<=n)&&decide (n<=64)&&decide (n%16=0)
theorem aT4(n:Int):aL Tryz.prog 75 [aA n,aA 64] (aR (nT n)):=by
 refine aF Tryz.X75 Tryz.func75 rfl Tryz.ntmps75 (by rw[Tryz.results75]) (aB _ ?_);simp only[go_sem,↓reduceIte,Nat.reduceAdd,Nat.reduceSub];refine⟨λ_=>by decide,?_⟩;have:(decide (n>=16)&&decide (n<=64)&&n.tmod 16==0)=nT n:=by
  unfold nT
  by_cases h:16<=n
  .rw[Int.tmod_eq_emod_of_nonneg (by omega)];rfl
  .simp[h]
 rw[this]
def eV(m:MediumR):Bool:=fF m.name&&tH m.seq.rate&&Gh m.frames&&Gh m.samples&&sJ m.channels&&pG m.cues
theorem cPMed(m:MediumR)(h:m.fit):aL Tryz.prog 38 [.agg (mV m)] (aR (!eV m)):=by
 refine aF Tryz.X38 Tryz.func38 rfl Tryz.ntmps38 (by rw[Tryz.results38]) (aB _ ?_);simp only[go_sem,seval];refine⟨_,aG7 m.name,?_⟩;simp only[go_sem,seval];refine⟨_,λ_=>aT6 m.seq.rate h.seq.rate,?_⟩;simp only[go_sem,seval];refine⟨_,λ_=>aJy m.frames,?_⟩;simp only[go_sem,seval];refine⟨_,λ_=>aJy m.samples,?_⟩;simp only[go_sem,seval];refine⟨_,λ_=>Lh m.channels,?_⟩;simp only[go_sem,seval];refine⟨_,λ_=>aT8 m.cues h.cues,?_⟩;simp only[go_sem,seval];unfold eV;simp only[Bool.not_and]
def kV(c:ClipR):Bool:=c.gain==0&&(c.chan.length:Int)==0
theorem aT5(c:ClipR):aL Tryz.prog 78 [kJ c] (aR (kV c)):=by
 refine aF Tryz.X78 Tryz.func78 rfl Tryz.ntmps78 (by rw[Tryz.results78]) (aB _ ?_);simp only[go_sem,seval]<;>rfl
def uG(ch:Int)(c:ClipR):Bool:=c.kind==0||((c.kind==1||c.kind==2)&&(!c.a.smooth && !c.b.smooth&&(c.chan.length:Int)==ch))
theorem aMt(c:ClipR)(ch:Int):aL Tryz.prog 80 [kJ c,aA ch] (aR (uG ch c)):=by
 refine aF Tryz.X80 Tryz.func80 rfl Tryz.ntmps80 (by rw[Tryz.results80]) (aB _ ?_);simp only[go_sem,seval];refine⟨λh0=>?_,λh0=>?_⟩
 .unfold awS;simp only[go_sem,seval];unfold uG;rw[h0];rfl
 .unfold awS;simp only[go_sem,seval];refine⟨λh1=>?_,λh1=>?_⟩
  .unfold awS;simp only[go_sem,seval,h1];unfold uG;rw[h0,h1];simp
  .unfold awS;simp only[go_sem,seval];refine⟨λh2=>?_,λh2=>?_⟩
   .unfold awS;simp only[go_sem,seval];unfold uG;rw[h0,h1,h2];simp
   .unfold awS;simp only[go_sem,seval];unfold uG;rw[h0,h1,h2];rfl
abbrev Ent:=Value×Bool×List T
def jV(k:Value)(m:Bool×List T):List Ent->List Ent
 |[]=>[(k,m)]
 |e::es=>if pM k e.1=true then (k,m)::es else e::jV k m es
theorem tL(k:Value)(m:Bool×List T):∀es:List Ent,uE k (mkV m) (tEs es)=tEs (jV k m es)
 |[]=>rfl
 |e::es=>by
  have h:=tL k m es;unfold tEs at h⊢;simp only[List.map_cons,uE,jV];split
  .rfl
  .rw[h];rfl
theorem aHe:∀ts:List T,V.pures (ts.map .t)=true
 |[]=>rfl
 |t::ts=>by simp only[List.map_cons,V.pures,V.pure,aHe ts,Bool.and_self]
theorem aC7:∀m:Bool×List T,(mkV m).pure=true
 |(true,ts)=>by simp only[mkV,V.pure,aHe]
 |(false,[])=>rfl
 |(false,[t])=>rfl
 |(false,_::_::_)=>rfl
@[go_sem] theorem aF2:∀es:List Ent,vD (tEs es)=True
 |[]=>rfl
 |e::es=>by
  have h:=aF2 es;unfold tEs at h⊢;simp only[List.map_cons,vD,aC7,h,and_self]
@[go_sem] theorem tEs_nil:tEs []=[]:=rfl
def yT(es:List Ent):Prop:=∀e∈es,∃s:ByteArray,e.1=.string s
theorem aKp:yT []:=λe h=>by cases h
theorem Hf{n:ByteArray}{m:Bool×List T}:∀{es:List Ent},yT es->yT (jV (.string n) m es)
 |[],_=>λe h=>by simp only[jV,List.mem_singleton]at h;subst h;exact⟨n,rfl⟩
 |e0::es,h=>by
  unfold jV;split
  .intro e he;rcases List.mem_cons.1 he with rfl|he
   .exact⟨n,rfl⟩
   .exact h e (by simp[he])
  .intro e he;rcases List.mem_cons.1 he with rfl|he
   .exact h _ (by simp)
   .exact Hf (λe he=>h e (by simp[he])) e he
theorem kS{es:List Ent}(h:yT es):eJ .string es=true:=by
 induction es with
 |nil=>rfl
 |cons e es ih=>
  obtain⟨s,hs⟩:=h e (by simp);simp only[eJ,hs,gQ,ih λe he=>h e (by simp[he]),Bool.and_self]
theorem Hw{n n':ByteArray}{m:Bool×List T}:∀{es:List Ent},yT es->fV (.string n) (jV (.string n') m es)=if n=n' then some (mkV m)else fV (.string n) es
 |[],_=>by simp only[jV,fV,pM,decide_eq_true_eq]
 |e0::es,h=>by
  obtain⟨s,hs⟩:=h e0 (by simp);obtain⟨k0,m0⟩:=e0;simp only at hs;subst hs;have ih:=Hw (n:=n) (n':=n') (m:=m) (es:=es) λe he=>h e (by simp[he])
  simp only[jV,pM,decide_eq_true_eq];split
  .rename_i h1;subst h1;simp only[fV,pM,decide_eq_true_eq];split<;>rfl
  .rename_i h1;simp only[fV,pM,decide_eq_true_eq,ih];split
   .rename_i h2;subst h2;rw[if_neg (λh=>h1 h.symm)]
   .rfl
def kF{α:Type}(nm:α->ByteArray)(c:α->Bool×List T)(l:List α):List Ent:=l.foldl (λes x=>jV (.string (nm x)) (c x) es) []
theorem xN{α:Type}(nm:α->ByteArray)(c:α->Bool×List T)(l:List α)(x:α):kF nm c (l++[x])=jV (.string (nm x)) (c x) (kF nm c l):=by
 unfold kF;rw[List.foldl_append];rfl
theorem jT{α:Type}(nm:α->ByteArray)(c:α->Bool×List T)(l:List α):yT (kF nm c l):=by
 unfold kF;have:∀(l:List α) (es:List Ent),yT es->yT (l.foldl (λes x=>jV (.string (nm x)) (c x) es) es):=by
  intro l
  induction l with
  |nil=>intro es h;exact h
  |cons x l ih=>intro es h;exact ih _ (Hf h)
 exact this l [] aKp
theorem dN{α:Type}[Inhabited α]{l:List α}{k:Nat}(h:k<l.length):l.take (k+1)=l.take k++[l.getD k default]:=by
 rw[List.take_add_one,List.getElem?_eq_getElem h,bB h];rfl
theorem Dh{α:Type}[Inhabited α](nm:α->ByteArray)(c:α->Bool×List T){l:List α}{k:Nat}(h:k<l.length):kF nm c (l.take (k+1))=jV (.string (nm (l.getD k default))) (c (l.getD k default)) (kF nm c (l.take k)):=by
 rw[dN h,xN]
def mL{α:Type}(nm:α->ByteArray)(n:ByteArray):List α->Option α
 |[]=>none
 |x::l=>match mL nm n l with
  |some y=>some y
  |none=>if n=nm x then some x else none
theorem Kr{α:Type}(nm:α->ByteArray)(n:ByteArray)(x:α):∀l:List α,mL nm n (l++[x])=if n=nm x then some x else mL nm n l
 |[]=>by simp only[List.nil_append,mL]
 |y::l=>by
  simp only[List.cons_append,mL,Kr nm n x l]
  by_cases h:n=nm x
  .rw[if_pos h,if_pos h]
  .rw[if_neg h,if_neg h]
theorem qR{α:Type}{nm:α->ByteArray}{n:ByteArray}:∀{l:List α} {x:α},mL nm n l=some x->x∈l/\nm x=n
 |y::l,x,h=>by
  simp only[mL]at h;split at h
  .rename_i z hz;injection h with h;subst h;obtain⟨h1,h2⟩:=qR hz;exact⟨by simp[h1],h2⟩
  .split at h
   .injection h with h;subst h;rename_i hn;exact⟨by simp,hn.symm⟩
   .cases h
theorem kQ{α:Type}{nm:α->ByteArray}{n:ByteArray}:∀{l:List α},mL nm n l=none ↔ ∀x∈l,nm x≠n
 |[]=>by simp[mL]
 |y::l=>by
  have ih:=kQ (nm:=nm) (n:=n) (l:=l);simp only[mL,List.mem_cons,forall_eq_or_imp];split
  .rename_i z hz;obtain⟨h1,h2⟩:=qR hz;constructor
   .intro h;cases h
   .rintro⟨_,h⟩;exact(h z h1 h2).elim
  .rename_i hz;split
   .rename_i hn;constructor
    .intro h;cases h
    .rintro⟨h,_⟩;exact(h hn.symm).elim
   .rename_i hn;exact⟨λ_=>⟨λh=>hn h.symm,ih.1 hz⟩,λ_=>rfl⟩
theorem zT{α:Type}(nm:α->ByteArray)(c:α->Bool×List T)(n:ByteArray)(l:List α):fV (.string n) (kF nm c l)=(mL nm n l).map λx=>mkV (c x):=by
 have:∀(r:List α),fV (.string n) (kF nm c r.reverse)=(mL nm n r.reverse).map λx=>mkV (c x):=by
  intro r
  induction r with
  |nil=>rfl
  |cons x r ih=>
   rw[List.reverse_cons,xN,Hw (jT nm c _),Kr,ih];split<;>rfl
 have h:=this l.reverse;rwa[List.reverse_reverse]at h
def Zf(r:List ByteArray)(n:ByteArray):Bool:=r.any λm=>decide (m=n)
theorem zY{r:List ByteArray}{n:ByteArray}:Zf r n=true↔n∈r:=by
 unfold Zf;rw[List.any_eq_true];constructor
 .rintro⟨m,h1,h2⟩;rw[decide_eq_true_eq]at h2;subst h2;exact h1
 .intro h;exact⟨n,h,by simp⟩
def uF:List ByteArray->List ByteArray:=λl=>l.foldl (λr n=>if Zf r n=true then r else r++[n]) []
theorem wA(l:List ByteArray)(n:ByteArray):uF (l++[n])=if Zf (uF l) n=true then uF l else uF l++[n]:=by
 unfold uF;rw[List.foldl_append];rfl
def Ef(v:Value):ByteArray:=
 match v with
 | .string s=>s
 |_=>⟨#[]⟩
theorem aCr{n:ByteArray}{m:Bool×List T}:∀{es:List Ent},yT es->(jV (.string n) m es).map (λe=>Ef e.1)=if Zf (es.map λe=>Ef e.1) n=true then es.map (λe=>Ef e.1)else es.map (λe=>Ef e.1)++[n]
 |[],_=>rfl
 |e0::es,h=>by
  obtain⟨s,hs⟩:=h e0 (by simp);obtain⟨k0,m0⟩:=e0;simp only at hs;subst hs;have ih:=aCr (n:=n) (m:=m) (es:=es) λe he=>h e (by simp[he])
  simp only[jV,pM,decide_eq_true_eq]
  by_cases h1:n=s
  .subst h1;rw[if_pos rfl];have:Zf (List.map (λe:Ent=>Ef e.1) ((Value.string n,m0)::es)) n=true:=zY.2 (by simp[Ef]);rw[if_pos this];rfl
  .rw[if_neg h1];have h2:Zf (List.map (λe:Ent=>Ef e.1) ((Value.string s,m0)::es)) n=Zf (List.map (λe:Ent=>Ef e.1) es) n:=by
    simp only[List.map_cons,Zf,List.any_cons,Ef];rw[decide_eq_false (λh=>h1 h.symm),Bool.false_or]
   rw[h2,List.map_cons,ih];split<;>rfl
theorem Qq{α:Type}(nm:α->ByteArray)(c:α->Bool×List T)(l:List α):(kF nm c l).map (λe=>Ef e.1)=uF (l.map nm):=by
 have:∀(r:List α),(kF nm c r.reverse).map (λe=>Ef e.1)=uF (r.reverse.map nm):=by
  intro r
  induction r with
  |nil=>rfl
  |cons x r ih=>rw[List.reverse_cons,xN,aCr (jT nm c _),List.map_append,List.map_cons,List.map_nil,wA,ih]
 have h:=this l.reverse;rwa[List.reverse_reverse]at h
theorem Ff{l:List ByteArray}{n:ByteArray}:n∈uF l↔n∈l:=by
 have:∀(r:List ByteArray),n∈uF r.reverse↔n∈r.reverse:=by
  intro r
  induction r with
  |nil=>simp[uF]
  |cons x r ih=>
   rw[List.reverse_cons,wA];split
   .rename_i h;rw[zY]at h;rw[List.mem_append,ih,List.mem_singleton];constructor
    .exact .inl
    .rintro(h1|rfl)
     .exact h1
     .exact ih.1 h
   .rw[List.mem_append,List.mem_append,ih]
 have h:=this l.reverse;rwa[List.reverse_reverse]at h
theorem aF6(l:List ByteArray):(uF l).Nodup:=by
 have:∀(r:List ByteArray),(uF r.reverse).Nodup:=by
  intro r
  induction r with
  |nil=>exact List.nodup_nil
  |cons x r ih=>
   rw[List.reverse_cons,wA];split
   .exact ih
   .rename_i h;rw[zY]at h;exact List.nodup_append.2 ⟨ih,by simp,λa ha b hb=>by simp at hb;subst hb;exact λe=>h (e ▸ ha)⟩
 have h:=this l.reverse;rwa[List.reverse_reverse]at h
theorem tP(l:List ByteArray):(uF l).length<=l.length:=by
 have:∀(r:List ByteArray),(uF r.reverse).length<=r.reverse.length:=by
  intro r
  induction r with
  |nil=>exact Nat.le_refl _
  |cons x r ih=>
   rw[List.reverse_cons,wA];split<;>simp only[List.length_append,List.length_cons,List.length_nil]<;>omega
 have h:=this l.reverse;rwa[List.reverse_reverse]at h
theorem yH(l:List ByteArray):(uF l).length<l.length ↔ ¬l.Nodup:=by
 have:∀(r:List ByteArray),(uF r.reverse).length<r.reverse.length ↔ ¬r.reverse.Nodup:=by
  intro r
  induction r with
  |nil=>simp[uF]
  |cons x r ih=>
   rw[List.reverse_cons,wA];have hle:=tP r.reverse;have hnd:(r.reverse++[x]).Nodup↔r.reverse.Nodup/\x ∉ r.reverse:=by
    rw[List.nodup_append];constructor
    .rintro⟨h1,_,h2⟩;exact⟨h1,λhx=>h2 x hx x (by simp) rfl⟩
    .rintro⟨h1,h2⟩;exact⟨h1,by simp,λa ha b hb=>by simp at hb;subst hb;exact λe=>h2 (e ▸ ha)⟩
   split
   .rename_i h;rw[zY,Ff]at h;rw[hnd];simp only[List.length_append,List.length_cons,List.length_nil];exact⟨λ_ h2=>h2.2 h,λ_=>by omega⟩
   .rename_i h;rw[zY,Ff]at h;rw[hnd];simp only[List.length_append,List.length_cons,List.length_nil];constructor
    .intro h1 h2;exact(ih.1 (by omega)) h2.1
    .intro h1;have:=ih.2 (λh2=>h1 ⟨h2,h⟩);omega
 have h:=this l.reverse;rwa[List.reverse_reverse]at h
theorem Fj{α:Type}(nm:α->ByteArray)(c:α->Bool×List T)(l:List α):(kF nm c l).length=(uF (l.map nm)).length:=by
 have:=congrArg List.length (Qq nm c l);simpa using this
@[go_sem] theorem tEs_len(es:List Ent):(tEs es).length=es.length:=by unfold tEs;rw[List.length_map]
theorem Rk{k:Value}{m:Bool×List T}(hm:(m.1||m.2.length==1)=true):∀{es:List Ent},uA es=true->uA (jV k m es)=true
 |[],_=>by simp only[jV,uA,List.all_cons,hm,List.all_nil,Bool.and_self]
 |e::es,h=>by
  unfold uA at h;simp only[List.all_cons,Bool.and_eq_true]at h;unfold jV;split
  .unfold uA;simp only[List.all_cons,hm,Bool.true_and];exact h.2
  .have:=Rk (k:=k) hm (es:=es) h.2;unfold uA at this⊢;simp only[List.all_cons,h.1,this,Bool.and_self]
theorem mE{α:Type}(nm:α->ByteArray)(c:α->Bool×List T)(hc:∀x,((c x).1||(c x).2.length==1)=true)(l:List α):uA (kF nm c l)=true:=by
 unfold kF;have:∀(l:List α) (es:List Ent),uA es=true->uA (l.foldl (λes x=>jV (.string (nm x)) (c x) es) es)=true:=by
  intro l
  induction l with
  |nil=>intro es h;exact h
  |cons x l ih=>intro es h;exact ih _ (Rk (hc x) h)
 exact this l [] rfl
def medC(m:MediumR):Bool×List T:=(true,MediumR.c m)
def seqC(s:SequenceR):Bool×List T:=(true,SequenceR.c s)
def Tg(l:List MediumR):List Ent:=kF MediumR.name medC l
def Ry(l:List SequenceR):List Ent:=kF SequenceR.name seqC l
@[go_sem] theorem mkV_med(m:MediumR):mkV (medC m)=.agg (mV m):=rfl
@[go_sem] theorem mkV_seq(s:SequenceR):mkV (seqC s)=dE s:=rfl
abbrev Fg (l:List MediumR) (n:ByteArray):Option MediumR:=mL MediumR.name n l
abbrev kD (l:List SequenceR) (n:ByteArray):Option SequenceR:=mL SequenceR.name n l
abbrev vcat (p:ProjR):V:=.agg [.t (.map (Tg p.media)),.t (.map (Ry p.seqs))]
open Go.Lib
theorem aFj:(Tryz.prog.info? 68).map (λi=>(i.zero,i.size,i.bytes))=some (some (.slice none 0 0),1,24):=by kernel_rfl
set_option maxHeartbeats 2000000 in
theorem aEx(n:Nat)(h0:0<n)(hn:n<=1000000)(w:World):Calls Tryz.prog 144 #[.slice none 0 0,.int .i64 n] w λe w'=>
  e=.returned (.slice (some ⟨w.heap.size,0,none⟩) 0 (grownCap w n 0 68))/\w'=w.drew.alloc (.cells (Builtin.zeroCells #[.slice none 0 0] n++Builtin.zeroCells #[.slice none 0 0] (grownCap w n 0 68-n)) 68):=by
 obtain⟨i0,hi,hz0,hz1,hz2⟩:=info_parts aFj;have h1 : ¬((n:Int)<0):=by omega
 have h2:Go.RowKit.wrap64 ((0:Int)-0)=0:=by unfold Go.RowKit.wrap64;omega
 have h3:Go.RowKit.wrap64 ((n:Int)-0)=(n:Int):=by unfold Go.RowKit.wrap64;omega
 have h4:(n:Int)>0:=by omega
 have hrz:∀ty,(Builtin.append_ #[59,3] ty #[.slice none 0 0,.int .i64 n]).run Tryz.prog w=.ok (.slice (some ⟨w.heap.size,0,none⟩) n (grownCap w n 0 68)) (w.drew.alloc (.cells (Builtin.zeroCells #[.slice none 0 0] n++Builtin.zeroCells #[.slice none 0 0] (grownCap w n 0 68-n)) 68)):=λty=>
  run_append_nil_zeros w _ _ ty _ i0 _ .i64 .i64 Tryz.underlying59 Tryz.underlying3 hi hz0 n h0 (by omega) (by omega) (by rw[hz2];omega)
 have hGn:n<=grownCap w n 0 68:=grownCap_ge w _ _ _;obtain⟨G,hG⟩:∃G,G=grownCap w n 0 68:=⟨_,rfl⟩
 rw[<-hG]at hrz hGn ⊢
 go_enter Tryz.func144,Tryz.ntmps144
 go_wp2_with (at_builtin;refine Lib.wpList_append_run _ rfl _ _ _ _ rfl _ _ rfl rfl _ _ (hrz _) ?_)
 all_goals (go_ret;exact⟨rfl,rfl⟩)
set_option maxHeartbeats 2000000 in
theorem aB2(w:World):Calls Tryz.prog 144 #[.slice none 0 0,.int .i64 0] w λe w'=>e=.returned (.slice none 0 0)/\w'=w:=by
 have h2:Go.RowKit.wrap64 ((0:Int)-0)=0:=by unfold Go.RowKit.wrap64;omega
 go_enter Tryz.func144,Tryz.ntmps144
 go_wp2
 all_goals (go_ret;exact⟨rfl,rfl⟩)
theorem aFm{P:Program}{σ:St}{d:Option Tmp}{f:FuncId}{n e k:Nat}{dd:List T}{K:St->Prop}(he:P.enters f=true)(hrun : ∀w:World,Calls P f #[.slice none 0 0,.int .i64 n] w λen w'=>(n=0/\en=.returned (.slice none 0 0)/\w'=w) \/
      ∃cap cells,en=.returned (.slice (some ⟨w.heap.size,0,none⟩) 0 cap)/\w'=w.drew.alloc (.cells cells e)/\cells.size=cap*k/\cap<=maxLen)
    (hK:K ((σ.add (.row e k dd [])).put d (.own σ.nx))):ICall P σ d f [.t (.lit (.slice none 0 0)),aA n] K:=by
  refine rW he λE w vs hr hbd hvs=> ?_
  obtain⟨v1,v2,hv,h1,h2⟩:=aNx (vs:=vs.toArray) (by simpa using hvs);rw[hv,(aJ h1).1,(aJ h2).1];have hrF:RelF E { σ with fr:= [],df:=aL6 E } { tmps:=#[],defers:= [] } w:=⟨hr,hbd,by show RdVs w E [] []; simp only[RdVs],Lx⟩;refine(hrun w).mono ?_;rintro en w' (⟨rfl,rfl,rfl⟩|⟨cap,cells,rfl,rfl,hsz,hcap⟩)
  · obtain⟨k1,k2,k3⟩:=hrF.add (hv:=.slice none 0 0) (blk:=.row e k dd []) (S':=E.S) (Below.refl _ _) (λ_ h=>h) (λ_ h=> .inl h) hr.slt (λ_=>⟨[],World.ownsRow_nil _ 0 e k,by simp only[List.flatten_nil,RdVs],by simp,rfl⟩) (λb hb=>by cases hb) rfl rfl
    exact⟨_,_,_,_,_,rfl,k1.rel,k1.bound,k2,k3,hK⟩
  · have hb:Below w.heap.size w (w.drew.alloc (.cells cells e)):=(Below.refl _ _).drew.alloc (Nat.le_refl _) _
    have hnew:(w.drew.alloc (.cells cells e)).heap[w.heap.size]?=some (.cells cells e (0,0)):=World.alloc_heap_new w.drew _;obtain⟨k1,k2,k3⟩:=hrF.add (hv:=.slice (some ⟨w.heap.size,0,none⟩) 0 cap) (blk:=.row e k dd []) (S':=E.S) hb (λ_ h=>h) (λ_ h=> .inl h) (λb hb'=>Nat.lt_of_lt_of_le (hr.slt b hb') hb.size)
      (λ_=>⟨[],⟨by simp,.inr ⟨w.heap.size,cap,cells,rfl,Nat.zero_le _,hnew,Nat.zero_le _,hcap,hsz,by simp⟩⟩,by simp only[List.flatten_nil,RdVs],by simp,rfl⟩)
      (λb hb'=>by injection hb' with hb'; subst hb'; exact⟨Nat.le_refl _,(Array.getElem?_eq_some_iff.1 hnew).1,λhs=>absurd (hr.slt _ hs) (by simp)⟩) rfl rfl
    exact⟨_,_,_,_,_,rfl,k1.rel,k1.bound,k2,k3,hK⟩
theorem aEq(z:Array Value)(n:Nat):(Builtin.zeroCells z n).size=n*z.size:=by unfold Builtin.zeroCells;simp
theorem igrowTr{σ:St}{d:Option Tmp}{n:Nat}{K:St->Prop}(hn:n<=1000000)(dd:List T)(hK:K ((σ.add (.row 68 1 dd [])).put d (.own σ.nx))):ICall Tryz.prog σ d 144 [.t (.lit (.slice none 0 0)),aA n] K:=by
 refine aFm Tryz.X144 (λw=>?_) hK;rcases Nat.eq_zero_or_pos n with rfl|h0
 .exact(aB2 w).mono λe w' h=> .inl ⟨rfl,h⟩
 .refine(aEx n h0 hn w).mono ?_;rintro e w' ⟨rfl,rfl⟩;have h1:=grownCap_ge w n 0 68;refine .inr ⟨_,_,rfl,rfl,?_,grownCap_le_maxLen w n 0 _ (by unfold maxLen;omega)⟩;simp only[Array.size_append,aEq];simp;omega
end Go.Proofs.YtkjdkbmfaamhaaaGreat
namespace Go.Proofs.YtkjdkbmfaamhaaaGreat
open Go.Proofs Go.RowKit Go.Maps Go.Sort Go.Shelf
def Kt:Go.Shelf.Ren:=⟨λ|7=>118|10=>147|n=>n,λ|23=>187|26=>9|3=>4|28=>190|0=>0|27=>189|33=>147|4=>4|n=>n,λ|n=>n⟩
theorem keysLay:Go.Proofs.SlLaysZ.n7 Tryz.prog Kt where
 mixed:=by kernel_rfl
 f7:=⟨"maps.Keys[map[string]bool,string,bool]",by decide,Tryz.func118.trans (congrArg some (by kernel_rfl))⟩
 f10:=⟨"maps.Keys[map[string]bool,string,bool]$1",by decide,Tryz.func147.trans (congrArg some (by kernel_rfl))⟩
 t0:=Tryz.underlying0
 a0:=Tryz.isAgg0
 z0:=Tryz.sizeOf0
 v0:=Tryz.zeroValue0
 t4:=Tryz.underlying4
 a4:=Tryz.isAgg4
 z4:=Tryz.sizeOf4
 v4:=Tryz.zeroValue4
 t23:=Tryz.underlying187
 a23:=Tryz.isAgg187
 z23:=Tryz.sizeOf187
 v23:=Tryz.zeroValue187
 t26:=Tryz.underlying9
 a26:=Tryz.isAgg9
 z26:=Tryz.sizeOf9
 v26:=Tryz.zeroValue9
 t27:=Tryz.underlying189
 a27:=Tryz.isAgg189
 z27:=Tryz.sizeOf189
 v27:=Tryz.zeroValue189
 t28:=Tryz.underlying190
 a28:=Tryz.isAgg190
 z28:=Tryz.sizeOf190
 v28:=Tryz.zeroValue190
 t33:=Tryz.underlying147
 a33:=Tryz.isAgg147
 z33:=Tryz.sizeOf147
 v33:=Tryz.zeroValue147
def vC:Go.Shelf.Ren:=⟨λ|6=>117|8=>145|9=>146|11=>160|13=>162|12=>161|23=>175|24=>176|14=>166|15=>167|16=>168|17=>169|18=>170|19=>171|20=>172|21=>173|22=>174|25=>177|26=>178|27=>179|28=>180|29=>181|30=>182|31=>183|n=>n,λ|26=>9|28=>190|24=>38|0=>0|3=>3|37=>173|48=>240|50=>50|4=>4|40=>232|39=>231|45=>237|5=>5|9=>9|51=>241|55=>245|57=>247|58=>248|33=>147|n=>n,λ|n=>n⟩
theorem aKw:Go.Proofs.SlLaysZ.n6 Tryz.prog vC where
 mixed:=by kernel_rfl
 f6:=⟨"slices.Sorted[string]",by decide,Tryz.func117.trans (congrArg some (by kernel_rfl))⟩
 f8:=⟨"slices.Collect[string]",by decide,Tryz.func145.trans (congrArg some (by kernel_rfl))⟩
 f11:=⟨"slices.AppendSeq[[]string,string]",by decide,Tryz.func160.trans (congrArg some (by kernel_rfl))⟩
 t0:=Tryz.underlying0
 a0:=Tryz.isAgg0
 z0:=Tryz.sizeOf0
 v0:=Tryz.zeroValue0
 t24:=Tryz.underlying38
 a24:=Tryz.isAgg38
 z24:=Tryz.sizeOf38
 v24:=Tryz.zeroValue38
 t26:=Tryz.underlying9
 a26:=Tryz.isAgg9
 z26:=Tryz.sizeOf9
 v26:=Tryz.zeroValue9
 t28:=Tryz.underlying190
 a28:=Tryz.isAgg190
 z28:=Tryz.sizeOf190
 v28:=Tryz.zeroValue190
 i26:=by kernel_rfl
def aAr:Go.Shelf.Ren:=⟨λ|6=>146|8=>162|9=>161|19=>175|20=>176|21=>166|22=>167|23=>168|24=>169|25=>170|26=>171|27=>172|28=>173|29=>174|36=>177|31=>178|32=>179|37=>180|38=>181|39=>182|41=>183|n=>n,λ|27=>38|29=>9|3=>3|32=>173|26=>38|0=>0|44=>240|46=>50|4=>4|36=>232|35=>231|41=>237|5=>5|9=>9|53=>241|57=>245|63=>247|64=>248|n=>n,λ|n=>n⟩
theorem aGw:Go.Proofs.SlLaysM.n6 Tryz.prog aAr where
 mixed:=by kernel_rfl
 f6:=⟨"slices.Sort[[]string,string]",by decide,Tryz.func146.trans (congrArg some (by kernel_rfl))⟩
 f8:=Tryz.func162.trans (congrArg some (by kernel_rfl))
 f9:=⟨"slices.pdqsortOrdered[string]",by decide,Tryz.func161.trans (congrArg some (by kernel_rfl))⟩
 f19:=Tryz.func175.trans (congrArg some (by kernel_rfl))
 f20:=Tryz.func176.trans (congrArg some (by kernel_rfl))
 f21:=⟨"slices.insertionSortOrdered[string]",by decide,Tryz.func166.trans (congrArg some (by kernel_rfl))⟩
 f22:=⟨"slices.heapSortOrdered[string]",by decide,Tryz.func167.trans (congrArg some (by kernel_rfl))⟩
 f23:=⟨"slices.breakPatternsOrdered[string]",by decide,Tryz.func168.trans (congrArg some (by kernel_rfl))⟩
 f24:=⟨"slices.choosePivotOrdered[string]",by decide,Tryz.func169.trans (congrArg some (by kernel_rfl))⟩
 f25:=⟨"slices.reverseRangeOrdered[string]",by decide,Tryz.func170.trans (congrArg some (by kernel_rfl))⟩
 f26:=⟨"slices.partialInsertionSortOrdered[string]",by decide,Tryz.func171.trans (congrArg some (by kernel_rfl))⟩
 f27:=⟨"cmp.Less[string]",by decide,Tryz.func172.trans (congrArg some (by kernel_rfl))⟩
 f28:=⟨"slices.partitionEqualOrdered[string]",by decide,Tryz.func173.trans (congrArg some (by kernel_rfl))⟩
 f29:=⟨"slices.partitionOrdered[string]",by decide,Tryz.func174.trans (congrArg some (by kernel_rfl))⟩
 f31:=Tryz.func178.trans (congrArg some (by kernel_rfl))
 f32:=Tryz.func179.trans (congrArg some (by kernel_rfl))
 f36:=⟨"slices.siftDownOrdered[string]",by decide,Tryz.func177.trans (congrArg some (by kernel_rfl))⟩
 f37:=⟨"slices.medianAdjacentOrdered[string]",by decide,Tryz.func180.trans (congrArg some (by kernel_rfl))⟩
 f38:=⟨"slices.medianOrdered[string]",by decide,Tryz.func181.trans (congrArg some (by kernel_rfl))⟩
 f39:=⟨"cmp.isNaN[string]",by decide,Tryz.func182.trans (congrArg some (by kernel_rfl))⟩
 f41:=⟨"slices.order2Ordered[string]",by decide,Tryz.func183.trans (congrArg some (by kernel_rfl))⟩
 t0:=Tryz.underlying0
 a0:=Tryz.isAgg0
 z0:=Tryz.sizeOf0
 v0:=Tryz.zeroValue0
 t3:=Tryz.underlying3
 a3:=Tryz.isAgg3
 z3:=Tryz.sizeOf3
 v3:=Tryz.zeroValue3
 t4:=Tryz.underlying4
 a4:=Tryz.isAgg4
 z4:=Tryz.sizeOf4
 v4:=Tryz.zeroValue4
 t5:=Tryz.underlying5
 a5:=Tryz.isAgg5
 z5:=Tryz.sizeOf5
 v5:=Tryz.zeroValue5
 t9:=Tryz.underlying9
 a9:=Tryz.isAgg9
 z9:=Tryz.sizeOf9
 v9:=Tryz.zeroValue9
 t26:=Tryz.underlying38
 a26:=Tryz.isAgg38
 z26:=Tryz.sizeOf38
 v26:=Tryz.zeroValue38
 t27:=Tryz.underlying38
 a27:=Tryz.isAgg38
 z27:=Tryz.sizeOf38
 v27:=Tryz.zeroValue38
 t29:=Tryz.underlying9
 a29:=Tryz.isAgg9
 z29:=Tryz.sizeOf9
 v29:=Tryz.zeroValue9
 t32:=Tryz.underlying173
 a32:=Tryz.isAgg173
 z32:=Tryz.sizeOf173
 v32:=Tryz.zeroValue173
 t35:=Tryz.underlying231
 a35:=Tryz.isAgg231
 z35:=Tryz.sizeOf231
 v35:=Tryz.zeroValue231
 t36:=Tryz.underlying232
 a36:=Tryz.isAgg232
 z36:=Tryz.sizeOf232
 v36:=Tryz.zeroValue232
 t41:=Tryz.underlying237
 a41:=Tryz.isAgg237
 z41:=Tryz.sizeOf237
 v41:=Tryz.zeroValue237
 t44:=Tryz.underlying240
 a44:=Tryz.isAgg240
 z44:=Tryz.sizeOf240
 v44:=Tryz.zeroValue240
 t46:=Tryz.underlying50
 a46:=Tryz.isAgg50
 z46:=Tryz.sizeOf50
 v46:=Tryz.zeroValue50
 t53:=Tryz.underlying241
 a53:=Tryz.isAgg241
 z53:=Tryz.sizeOf241
 v53:=Tryz.zeroValue241
 t57:=Tryz.underlying245
 a57:=Tryz.isAgg245
 z57:=Tryz.sizeOf245
 v57:=Tryz.zeroValue245
 t63:=Tryz.underlying247
 a63:=Tryz.isAgg247
 z63:=Tryz.sizeOf247
 v63:=Tryz.zeroValue247
 t64:=Tryz.underlying248
 a64:=Tryz.isAgg248
 z64:=Tryz.sizeOf248
 v64:=Tryz.zeroValue248
set_option maxRecDepth 4000
open Go.WideShapes
def vU(l:List ByteArray):List ByteArray:=((l.map λs=>s.data.toList).mergeSort leB).map λb=>⟨b.toArray⟩
theorem aFb(l:List (List UInt8)):l.map encStr=(l.map λb=>(⟨b.toArray⟩:ByteArray)).map Value.string:=by
 rw[List.map_map];rfl
theorem xB(l:List ByteArray):(vU l).Perm l:=by
 unfold vU;refine((List.mergeSort_perm _ leB).map _).trans ?_;rw[List.map_map];have:((λb:List UInt8=>(⟨b.toArray⟩:ByteArray)) ∘ λs:ByteArray=>s.data.toList)=id:=by
  funext s;simp
 rw[this,List.map_id]
theorem sortsIn(m:Nat):AnyZ.SortsIn Tryz.prog vC Fence.wide m:=
  ⟨λblk off cap ss W hH hblk hsz=>callsIn_wide.2 (AnyM.slices_Sort_string aGw blk off cap ss W hH hblk hsz),
   λp cap W=>callsIn_wide.2 (AnyM.slices_Sort_string_none aGw p cap W)⟩
theorem Uv{w:World}{E:Env}:∀{es:List (Value×V)} {l:List MapEntry},RdEs w E es l->l.map (·.key)=es.map (·.1)
 |[],[],_=>rfl
 |(k,x)::es,e::l,h=>by
  unfold RdEs at h;rw[List.map_cons,List.map_cons,Uv h.2.2,h.1]
 |[],_::_,h=>h.elim
 |_::_,[],h=>h.elim
theorem aRg{k:TypeId}(hk:Tryz.prog.underlying k=some .string){s:ByteArray}(hs:s.size<=maxLen):keyOf Tryz.prog k (.string s)=some (.string s.data.toList):=by
 unfold keyOf;rw[hk];simp only[mapKey,hk,hs,if_true]
theorem Ut{w:World}{S:Nat->Prop}:∀{l:List ByteArray},(∀s∈l,s.size<=maxLen)->RdTs w S (l.map λs=>T.lit (.string s)) (l.map Value.string)
 |[],_=>trivial
 |s::l,h=>⟨.lit _ rfl (h s (by simp)),Ut λx hx=>h x (by simp[hx])⟩
set_option maxHeartbeats 2000000 in
theorem aKv{w:World}{b0 r:Nat}{ty:TypeId}{entries:Array MapEntry}{clock:Nat}{ks:List ByteArray}(hb0:w.heap[b0]?=some (.cells #[.map (some r)] ty (0,0)))(hr0:w.heap[r]?=some (.map entries clock))
  (hbn:(∀e∈entries.toList,e.born<clock)/\(entries.toList.map (·.born)).Nodup) (hks:entries.toList.map (·.key)=ks.map Value.string) (hnd:ks.Nodup) (hsz:∀k∈ks,k.size<=maxLen) (hlen:ks.length<=1000000) :
  Calls Tryz.prog 117 #[.func (.func 147) #[] #[.pointer (some ⟨b0,0,none⟩)]] w λe w'=>∃v,e=.returned v /\
   w'.ownsRow w.heap.size 9 1 v (vU ks).length ((vU ks).map Value.string)/\Below w.heap.size w w':=by
 have hesz:entries.size=ks.length:=by
  have:=congrArg List.length hks;simpa using this
 have hkind:Tryz.prog.underlying 9=some .string:=Tryz.underlying9;have hmem:∀x∈entries.toList,∃s∈ks,x.key=.string s:=λx hx=>by
  have h1:x.key∈entries.toList.map (·.key):=List.mem_map_of_mem hx;rw[hks,List.mem_map]at h1;obtain⟨s,h2,h3⟩:=h1;exact⟨s,h2,h3.symm⟩
 let R:Value->Option (DataW Unit×List MemPlace):=λ_=>some (.nil,[])
 have hstr:∀l:List ByteArray,l.Nodup->(l.map Value.string).Nodup:=λl h=>by
  refine List.pairwise_map.2 (h.imp λhne e=>hne ?_);injection e
 have hF:Go.WideElems.Fit Tryz.prog 9 R entries clock:=⟨by rw[hesz];unfold maxLen;omega,⟨hbn.1,hbn.2,by rw[hks];exact hstr _ hnd⟩,λx hx=>by
  obtain⟨s,h1,h2⟩:=hmem x hx;exact⟨_,Go.WideElems.rd_mk (key:=x.key) (val:=x.val) (born:=x.born) (by rw[h2];exact aRg hkind (hsz s h1)) rfl⟩⟩
 have hown:w.ownsMap Tryz.prog 9 R r ks.length (.map ((entries.toList.map (Go.WideElems.rg Tryz.prog 9 R)).foldr DataW.insert [])):=⟨entries,clock,hr0,hF,by omega,rfl⟩
 have hcell:w.cell? ⟨b0,0,none⟩=some (.map (some r)):=by simp[World.cell?,hb0]
 have hlt:b0<w.heap.size:=(Array.getElem?_eq_some_iff.1 hb0).1;have hsize:Maps.size (DataW.map ((entries.toList.map (Go.WideElems.rg Tryz.prog 9 R)).foldr DataW.insert []):DataW Unit)=ks.length:=by
  show List.length _=_
  rw[List.Perm.length_eq (sorted_perm _),List.length_map,Array.length_toList,hesz]
 have hseq:=AnyZ.keys_gives (ρ:=Kt) { keysLay with } Fence.wide 2 trivial rfl (by omega) b0 r ks.length _ w hlt hcell hown;rw[hsize]at hseq;have hperm:(strKeys (DataW.map ((entries.toList.map (Go.WideElems.rg Tryz.prog 9 R)).foldr DataW.insert []):DataW Unit)).Perm (ks.map λs=>s.data.toList):=by
  show(List.map _ _).Perm _
  refine(List.Perm.map _ (sorted_perm _)).trans ?_;rw[List.map_map];have:entries.toList.map ((λp:Lit×DataW Unit=>strOf p.1) ∘ Go.WideElems.rg Tryz.prog 9 R)=(entries.toList.map (·.key)).map λv=>(Ef v).data.toList:=by
   rw[List.map_map];refine List.map_congr_left λx hx=>?_
   obtain⟨s,h1,h2⟩:=hmem x hx;simp only[Function.comp_apply];have h3:Go.WideElems.rd Tryz.prog 9 R x=some (.string s.data.toList,DataW.nil):=Go.WideElems.rd_mk (key:=x.key) (val:=x.val) (born:=x.born) (kl:=.string s.data.toList) (yv:=(DataW.nil,[])) (by rw[h2];exact aRg hkind (hsz s h1)) rfl;rw[Go.WideElems.rg_of h3,h2];rfl
  rw[this,hks,List.map_map];exact .refl _
 have hS:=AnyZ.sorted_in (ρ:=vC) aKw Fence.wide 5 trivial trivial trivial trivial rfl (by omega) (sortsIn _) (enters_of Tryz.func146 (by kernel_rfl) rfl) 147 #[.pointer (some ⟨b0,0,none⟩)] trivial (enters_of Tryz.func147 (by kernel_rfl) rfl) _ ks.length (by unfold maxLen;omega) (by omega) w hseq;refine(callsIn_wide.1 hS).mono ?_;rintro e w' ⟨v,ss,rfl,hp,hrow,hnil,hb⟩;refine⟨v,rfl,?_,hb⟩;have e1:ss.mergeSort leB=(ks.map λs=>s.data.toList).mergeSort leB:=mergeSort_of_perm (hp.trans hperm);have e2:(ss.mergeSort leB).map encStr=(vU ks).map Value.string:=by
  rw[e1,aFb];rfl
 have e3:ss.length=(vU ks).length:=by
  rw[(hp.trans hperm).length_eq,(xB ks).length_eq,List.length_map]
 rw[<-e3,<-e2];exact hrow
theorem aMp(es:List (Value×V))(ks:List ByteArray)(d:List T)(hk:es.map (·.1)=ks.map Value.string)(hnd:ks.Nodup)(hsz:∀k∈ks,k.size<=maxLen)(hlen:ks.length<=1000000):
  CIO Tryz.prog 117 2 [(0,.box [.own 1]),(1,.map es)] [.clo 147 [.own 0]] (.t (.list 1 d ((vU ks).map λk=>[.lit (.string k)]))) [(0,.box [.own 1]),(1,.map es)] 2:=by
 refine⟨Tryz.X117,λE w vs hr hbd hargs=>?_⟩;obtain⟨hv0,hat0,b0,vs0,ty,rfl,hheap0,hrd0,hone0⟩:=hr.has 0 (.box [.own 1]) rfl;obtain⟨hv1,hat1,r,entries,clock,rfl,hheap1,hrd1,hborn⟩:=hr.has 1 (.map es) rfl;have h0:∃u,vs0=#[u]/\RdV w E (.own 1) u:=by
  obtain⟨vl⟩:=vs0
  match vl,hrd0 with
  |[u],h=>exact⟨u,rfl,by simpa only[RdVs,and_true]using h⟩
  |[],h=>simp only[RdVs]at h
  |_::_::_,h=>simp only[RdVs,and_false]at h
 obtain⟨u,rfl,hu⟩:=h0;simp only[RdV]at hu;have hu':=hu.2.2 _ (.inl hat1);subst hu';obtain⟨v,rfl,hv⟩:∃v,vs=[v]/\RdV w E (.clo 147 [.own 0]) v:=by
  match vs,hargs with
  |[v],h=>exact⟨v,rfl,by simpa only[RdVs,and_true]using h⟩
  |[],h=>simp only[RdVs]at h
  |_::_::_,h=>simp only[RdVs,and_false]at h
 simp only[RdV]at hv;obtain⟨cs,rfl,hcs⟩:=hv;obtain⟨p,rfl,hp⟩:∃p,cs=#[p]/\RdV w E (.own 0) p:=by
  obtain⟨cl⟩:=cs
  match cl,hcs with
  |[u],h=>exact⟨u,rfl,by simpa only[RdVs,and_true]using h⟩
  |[],h=>simp only[RdVs]at h
  |_::_::_,h=>simp only[RdVs,and_false]at h
 simp only[RdV]at hp;have hb2:=hp.2.2 _ (.inl hat0);subst hb2;refine(aKv hheap0 hheap1 hborn (by rw[Uv hrd1,hk]) hnd hsz hlen).mono ?_;rintro e w' ⟨v,rfl,hrow,hb⟩;have hnew:∀b,aV v=some b->w.heap.size<=b/\b<w'.heap.size:=λb hb'=>by
  rcases hrow.2 with ⟨rfl,_⟩|⟨g,cap,cur,rfl,h1,h2,_⟩
  .cases hb'
  .injection hb' with hb';subst hb';exact⟨h1,(Array.getElem?_eq_some_iff.1 h2).1⟩
 obtain⟨k1,k2⟩:=hr.later (S':=λb=>E.S b\/aV v=some b) hb (λ_ h=> .inl h) (λb h=>h.imp id λh=>(hnew b h).1) (λb h=>h.elim (λh=>Nat.lt_of_lt_of_le (hr.slt b h) hb.size) λh=>(hnew b h).2);refine⟨v,_,rfl,k1,hbd,k2,?_⟩;simp only[RdV];have hsz':∀s∈vU ks,s.size<=maxLen:=λs hs=>hsz s ((xB ks).mem_iff.1 hs)
 refine Lz (S:=λ_=>False) (e:=9) (cells:=(vU ks).map Value.string) ?_ ?_ ?_ (λ_ h=>h.elim) (λb hb'=> .inr hb')
 .rw[List.length_map];exact ownsRow_base_a hrow (Nat.zero_le _)
 .have:(List.map (λk=>[T.lit (.string k)]) (vU ks)).flatten=(vU ks).map λs=>T.lit (.string s):=by
   induction vU ks with
   |nil=>rfl
   |cons x l ih=>rw[List.map_cons,List.flatten_cons,ih];rfl
  rw[this];exact Ut hsz'
 .intro x hx;obtain⟨s,_,rfl⟩:=List.mem_map.1 hx;rfl
theorem put_med(k:Value)(m:MediumR)(es:List Ent):uE k (.agg (mV m)) (tEs es)=tEs (jV k (medC m) es):=tL k (medC m) es
theorem put_seq(k:Value)(s:SequenceR)(es:List Ent):uE k (dE s) (tEs es)=tEs (jV k (seqC s) es):=tL k (seqC s) es
theorem kinds_M(l:List MediumR):eJ .string (Tg l)=true:=kS (jT _ _ _)
theorem kinds_S(l:List SequenceR):eJ .string (Ry l)=true:=kS (jT _ _ _)
theorem lend_M(l:List MediumR)(h:Heap)(n:Nat):nL (aX h n) (tEs (Tg l))=some (Tg l):=uU _ (kG h n) _ (mE _ _ (λ_=>rfl) _)
theorem lend_S(l:List SequenceR)(h:Heap)(n:Nat):nL (aX h n) (tEs (Ry l))=some (Ry l):=uU _ (kG h n) _ (mE _ _ (λ_=>rfl) _)
attribute [go_sem] kinds_M kinds_S lend_M lend_S
theorem cCat(p:ProjR)(h1:p.media.length<=16)(h2:p.seqs.length<=16):aL Tryz.prog 41 [jY p] (vcat p):=by
 refine aF Tryz.X41 Tryz.func41 rfl Tryz.ntmps41 (by rw[Tryz.results41]) (aB _ ?_);simp only[go_sem,seval];refine aE (λ(k:Nat) σ=>{ σ with fr:= σ.fr.set 14 (aA k),h:= σ.h.set 2 (.map (tEs (Tg (p.media.take k)))) }) (λk=>k<=p.media.length) (λk=>p.media.length-k) 0 (aC ?_) (Nat.zero_le _) ?_
 .simp only[go_sem,seval]<;>simp[Tg,kF,tEs]
 .intro k hk;refine aB _ ?_;simp only[go_sem,seval];refine⟨λhlt=>?_,λhge=>?_⟩
  .simp only[bxx]at hlt;unfold awS;simp only[go_sem,seval];refine⟨⟨by omega,by omega⟩,k+1,aC ?_,by omega,by omega⟩;simp only[go_sem,seval];rw[put_med,bJ (show k<9223372036854775807 by omega)];unfold Tg;rw[Dh _ _ (show k<p.media.length by omega)];simp
  .simp only[bxx]at hge;unfold awS;simp only[go_sem,seval];rw[List.take_of_length_le (show p.media.length<=k by omega)];refine aE (λ(k:Nat) σ=>{ σ with fr:= σ.fr.set 27 (aA k),h:= σ.h.set 3 (.map (tEs (Ry (p.seqs.take k)))) }) (λk=>k<=p.seqs.length) (λk=>p.seqs.length-k) 0 (aC ?_) (Nat.zero_le _) ?_
   .simp only[go_sem,seval]<;>simp[Ry,kF,tEs]
   .intro j hj;refine aB _ ?_;simp only[go_sem,seval];refine⟨λhlt=>?_,λhge=>?_⟩
    .simp only[bxx]at hlt;unfold awS;simp only[go_sem,seval];refine⟨⟨by omega,by omega⟩,j+1,aC ?_,by omega,by omega⟩;simp only[go_sem,seval];have e1:=put_seq (.string (p.seqs.getD j default).name) (p.seqs.getD j default) (Ry (p.seqs.take j));unfold dE at e1;rw[e1,bJ (show j<9223372036854775807 by omega)];unfold Ry;rw[Dh _ _ (show j<p.seqs.length by omega)];simp
    .simp only[bxx]at hge;unfold awS;simp only[go_sem,seval];rw[List.take_of_length_le (show p.seqs.length<=j by omega)]
def dK(s:SequenceR):List ClipR:=(s.video++s.sound).flatten
theorem aTm(s:SequenceR):aL Tryz.prog 81 [dE s] (.clo 115 [.elem 9 (SequenceR.c s) [SequenceR.c s] 0 0]):=by
 refine aF Tryz.X81 Tryz.func81 rfl Tryz.ntmps81 (by rw[Tryz.results81]) (aB _ ?_);simp only[go_sem,seval]<;>rfl
theorem Wx(d:List T)(a b:List (List ClipR))(ha:a.length<=8)(hb:b.length<=8):aL Tryz.prog 116 [.t (.list 1 d [[gC a],[gC b]])] (.t (gC (a++b))):=by
 refine aF Tryz.X116 Tryz.func116 rfl Tryz.ntmps116 (by rw[Tryz.results116]) (aB _ ?_);simp only[go_sem,seval];have c2:((2:Nat):Int)=2:=rfl;have w1:IntKind.i64.wrap 1=1:=by decide
 have w2:IntKind.i64.wrap 2=2:=by decide
 have e0:IntKind.i64.wrap (0+(a.length:Int))=a.length:=by rw[wrap64 (by omega) (by omega)];omega
 have e0':IntKind.i64.wrap (a.length:Int)=a.length:=by rw[wrap64 (by omega) (by omega)]
 have e1:IntKind.i64.wrap ((a.length:Int)+(b.length:Int))=((a++b).length:Nat):=by rw[wrap64 (by omega) (by omega),List.length_append];omega
 have n0 : ¬((a.length:Int)<0):=by omega
 have n1 : ¬((((a++b).length:Nat):Int)<0):=by omega
 refine bC ?_;refine aK (aB _ ?_);simp only[go_sem,seval,dtf,nth,Option.getD_some,List.getElem?_cons_zero,w1,c2,e0,n0,forall_const];refine aK (aB _ ?_);simp only[go_sem,seval,dtf,nth,Option.getD_some,List.getElem?_cons_zero,List.getElem?_cons_succ,w2,c2,e1,n1,forall_const];refine aK (aB _ ?_);simp only[go_sem,dtf,seval,forall_const];refine igrowTr (n:=(a++b).length) (by rw[List.length_append];omega) (fJ []) ?_;simp only[go_sem,seval];refine bC ?_;refine aK (aB _ ?_);simp only[go_sem,dtf,seval,nth,Option.getD_some,List.getElem?_cons_zero,w1,c2,forall_const];refine⟨by unfold maxLen;omega,?_⟩;refine aK (aB _ ?_);simp only[go_sem,dtf,seval,nth,Option.getD_some,List.getElem?_cons_zero,List.getElem?_cons_succ,w2,c2,forall_const];refine⟨⟨by unfold maxLen;omega,by omega⟩,?_⟩;refine aK (aB _ ?_);simp only[go_sem,dtf,seval,forall_const];rw[List.map_append]
theorem tQ:aN6 Tryz.prog 35:=by
 refine⟨Tryz.X35,λcap w=>callsDIn_of_wpSIn Tryz.func35 rfl trivial λc₀ cs hu=>?_⟩;have k1:1<cap.size+(3-cap.size):=by omega
 have k2:2<cap.size+(3-cap.size):=by omega
 have k3:1<max 3 cap.size:=by omega
 have k4:2<max 3 cap.size:=by omega
 apply wpSIn_seq;apply wpSIn_region;simp[wpOpsSIn,Fence.wide,go_sem,recoverD,hu,Tryz.ntmps35,Exit.thenS,k1];refine wpSIn_cond (t:=false) (by simp[Act.eval,k2]) ?_;refine wpSIn_of_wpIn rfl (wpIn_skip ?_);refine⟨rfl,.returning,by rw[<-hu],.tuple #[],?_,⟨_,rfl⟩,rfl,rfl⟩;simp[results,Tryz.results35,go_sem]
def dP(p:ProjR)(x:SourceR):Bool:=!(x.kind==1&&(Fg p.media x.name).isNone||x.kind==2&&(kD p.seqs x.name).isNone)
def eW(p:ProjR)(c:ClipR):Bool:=dP p c.a&&dP p c.b
def jW(p:ProjR)(s:SequenceR):Bool:=(dK s).all (eW p)
theorem Mc(d a:List T):nth d [a] 0=a:=rfl
theorem wr1:IntKind.i64.wrap 1=1:=by decide
theorem wr2:IntKind.i64.wrap 2=2:=by decide
theorem aDn:((2:Nat):Int)=2:=rfl
theorem Hv(n:ByteArray)(l:List MediumR):fV (.string n) (Tg l)=(Fg l n).map λm=> .agg (mV m):=zT _ _ n l
theorem Dj(n:ByteArray)(l:List SequenceR):fV (.string n) (Ry l)=(kD l n).map λm=>dE m:=zT _ _ n l
theorem Ps{p:ProjR}{s:SequenceR}{tr:List (List ClipR)}{i k:Nat}{c:ClipR}(htr:tr=s.video++s.sound)(hi:i<tr.length)(hk:k<(tr.getD i []).length)(hc:c=(tr.getD i []).getD k default)(hn:eW p c=false):jW p s=false:=by
 unfold jW dK;rw[<-htr,List.all_eq_false];refine⟨c,?_,by rw[hn];exact Bool.false_ne_true⟩;rw[List.mem_flatten];refine⟨tr.getD i [],?_,?_⟩
 .rw[List.getD_eq_getElem?_getD,List.getElem?_eq_getElem hi];exact List.getElem_mem hi
 .rw[hc,bB hk];exact List.getElem_mem hk
set_option maxHeartbeats 20000000 in
theorem cCompl(p:ProjR)(s:SequenceR)(hv:s.video.length<=8)(hs:s.sound.length<=8)(hm:∀t∈s.video++s.sound,t.length<=maxLen):aL Tryz.prog 42 [vcat p,dE s] (aR (jW p s)):=by
 refine aF Tryz.X42 Tryz.func42 rfl Tryz.ntmps42 (by rw[Tryz.results42]) (aB _ ?_);simp only[go_sem,seval];refine Dq (aTm s) rfl ?_;simp only[go_sem,seval];refine⟨Tryz.X115,?_⟩;unfold Yg;refine⟨rfl,Fu Tryz.X115 Tryz.func115 rfl Tryz.ntmps115 (by rw[Tryz.results115]) (aB _ ?_)⟩;simp only[go_sem,seval,Mc,SequenceR.c];refine qQ ?_;simp only[go_sem,seval];refine⟨_,Wx _ s.video s.sound hv hs,?_⟩;simp only[go_sem,seval];obtain⟨tr,htr⟩:∃tr,tr=s.video++s.sound:=⟨_,rfl⟩
 rw[<-htr];have hlen:tr.length<=16:=by rw[htr,List.length_append];omega
 refine aE (λ(i:Nat) σ=>bP 14 (aA i) (aY [4,6,15,16,17,18,19,20,21,22,23,24,25,26,27,28,29] (bE σ))) (λi=>i<=tr.length/\(tr.take i).flatten.all (eW p)=true) (λi=>tr.length-i) 0 (aC ?_) ⟨Nat.zero_le _,rfl⟩ ?_
 .simp only[go_sem,seval]<;>simp
 .rintro i ⟨hi,hall⟩;refine aB _ ?_;simp only[go_sem,seval];refine⟨λhlt=>?_,λhge=>?_⟩
  .simp only[bxx]at hlt;have hi':i<tr.length:=by omega
   unfold awS;simp only[go_sem,seval,List.length_map];refine⟨⟨by omega,by omega⟩,?_⟩;refine aE (λ(k:Nat) σ=>bP 20 (aA k) (aY [6,21,22,23,24,25,26,27,28] (bE σ))) (λk=>k<=(tr.getD i []).length/\((tr.getD i []).take k).all (eW p)=true) (λk=>(tr.getD i []).length-k) 0 (aC ?_) ⟨Nat.zero_le _,rfl⟩ ?_
   .simp only[go_sem,seval]<;>simp
   .rintro k ⟨hk,hallk⟩;refine aB _ ?_;simp only[go_sem,seval];refine⟨λhlt=>?_,λhge=>?_⟩
    .simp only[bxx]at hlt;have hk':k<(tr.getD i []).length:=by omega
     have hmt:(tr.getD i []).length<=maxLen:=hm _ (by rw[<-htr,List.getD_eq_getElem?_getD,List.getElem?_eq_getElem hi'];exact List.getElem_mem hi');have hk9:k<9223372036854775807:=by unfold maxLen at hmt;omega
     unfold awS;simp only[go_sem,seval,List.length_map];refine⟨⟨by omega,by omega⟩,aB _ ?_⟩;simp only[go_sem,seval];refine aB _ ?_;simp only[go_sem,seval];refine bC ?_;refine aK (aB _ ?_);simp only[go_sem,dtf,seval,aDn];obtain⟨c,hc⟩:∃c,c=(tr.getD i []).getD k default:=⟨_,rfl⟩
     rw[<-hc];rcases h1:Fg p.media c.a.name with _|m1<;>rcases h2:kD p.seqs c.a.name with _|q1
     rotate_left 3
     .simp only[go_sem,seval,wr1,Hv,Dj,h1,h2,Option.map_some];have hb:(!dP p c.a)=false:=by unfold dP;rw[h1,h2];cases(c.a.kind==1)<;>cases(c.a.kind==2)<;>rfl
      refine aK (aB _ ?_);simp only[go_sem,dtf,seval,aDn];rcases h3:Fg p.media c.b.name with _|m2<;>rcases h4:kD p.seqs c.b.name with _|q2
      rotate_left 3
      .simp only[go_sem,seval,wr2,Hv,Dj,h3,h4,Option.map_some];have hb':(!dP p c.b)=false:=by unfold dP;rw[h3,h4];cases(c.b.kind==1)<;>cases(c.b.kind==2)<;>rfl
       refine aK (aB _ ?_);simp only[go_sem,dtf,seval];refine⟨λh=>absurd h (by decide),λ_=>?_⟩;unfold awS;simp only[go_sem,seval];refine⟨k+1,aC ?_,⟨by omega,?_⟩,by omega⟩
       .simp only[go_sem,seval]<;>simp[bJ hk9]
       .simp only[Bool.not_eq_false']at hb hb';rw[dN hk',List.all_append,hallk,<-hc];simp[eW,hb,hb']
      all_goals
       simp only[go_sem,seval,Hv,Dj,h3,h4,Option.map_some,Option.map_none];refine brW (b:=!dP p c.b) (by unfold dP;rw[h3,h4];cases(c.b.kind==1)<;>cases(c.b.kind==2)<;>rfl) ⟨λhb'=>?_,λhb'=>?_⟩
       .unfold awS;simp only[go_sem,seval];refine⟨λ_=>?_,λh=>absurd h (by decide)⟩;unfold awS;simp only[go_sem,seval];simp only[Bool.not_eq_true']at hb';rw[Ps htr hi' hk' hc (by unfold eW;rw[hb',Bool.and_false])]
       .unfold awS;simp only[go_sem,seval,wr2];refine aK (aB _ ?_);simp only[go_sem,dtf,seval];refine⟨λh=>absurd h (by decide),λ_=>?_⟩;unfold awS;simp only[go_sem,seval];refine⟨k+1,aC ?_,⟨by omega,?_⟩,by omega⟩
        .simp only[go_sem,seval]<;>simp[bJ hk9]
        .simp only[Bool.not_eq_false']at hb hb';rw[dN hk',List.all_append,hallk,<-hc];simp[eW,hb,hb']
     all_goals
      simp only[go_sem,seval,Hv,Dj,h1,h2,Option.map_some,Option.map_none];refine brW (b:=!dP p c.a) (by unfold dP;rw[h1,h2];cases(c.a.kind==1)<;>cases(c.a.kind==2)<;>rfl) ⟨λhb=>?_,λhb=>?_⟩
      .unfold awS;simp only[go_sem,seval];refine⟨λ_=>?_,λh=>absurd h (by decide)⟩;unfold awS;simp only[go_sem,seval];simp only[Bool.not_eq_true']at hb;rw[Ps htr hi' hk' hc (by unfold eW;rw[hb];rfl)]
      .unfold awS;simp only[go_sem,seval,wr1];refine aK (aB _ ?_);simp only[go_sem,dtf,seval,aDn];rcases h3:Fg p.media c.b.name with _|m2<;>rcases h4:kD p.seqs c.b.name with _|q2
       rotate_left 3
       .simp only[go_sem,seval,wr2,Hv,Dj,h3,h4,Option.map_some];have hb':(!dP p c.b)=false:=by unfold dP;rw[h3,h4];cases(c.b.kind==1)<;>cases(c.b.kind==2)<;>rfl
        refine aK (aB _ ?_);simp only[go_sem,dtf,seval];refine⟨λh=>absurd h (by decide),λ_=>?_⟩;unfold awS;simp only[go_sem,seval];refine⟨k+1,aC ?_,⟨by omega,?_⟩,by omega⟩
        .simp only[go_sem,seval]<;>simp[bJ hk9]
        .simp only[Bool.not_eq_false']at hb hb';rw[dN hk',List.all_append,hallk,<-hc];simp[eW,hb,hb']
       all_goals
        simp only[go_sem,seval,Hv,Dj,h3,h4,Option.map_some,Option.map_none];refine brW (b:=!dP p c.b) (by unfold dP;rw[h3,h4];cases(c.b.kind==1)<;>cases(c.b.kind==2)<;>rfl) ⟨λhb'=>?_,λhb'=>?_⟩
        .unfold awS;simp only[go_sem,seval];refine⟨λ_=>?_,λh=>absurd h (by decide)⟩;unfold awS;simp only[go_sem,seval];simp only[Bool.not_eq_true']at hb';rw[Ps htr hi' hk' hc (by unfold eW;rw[hb',Bool.and_false])]
        .unfold awS;simp only[go_sem,seval,wr2];refine aK (aB _ ?_);simp only[go_sem,dtf,seval];refine⟨λh=>absurd h (by decide),λ_=>?_⟩;unfold awS;simp only[go_sem,seval];refine⟨k+1,aC ?_,⟨by omega,?_⟩,by omega⟩
         .simp only[go_sem,seval]<;>simp[bJ hk9]
         .simp only[Bool.not_eq_false']at hb hb';rw[dN hk',List.all_append,hallk,<-hc];simp[eW,hb,hb']
    .simp only[bxx]at hge;unfold awS;simp only[go_sem,seval];refine⟨i+1,aC ?_,⟨by omega,?_⟩,by omega⟩
     .simp only[go_sem,seval]<;>simp[bJ (show i<9223372036854775807 by omega)]
     .rw[List.take_of_length_le (show(tr.getD i []).length<=k by omega)]at hallk;rw[dN hi',List.flatten_append,List.all_append,hall,show(default:List ClipR)=[] from rfl];simpa using hallk
  .simp only[bxx]at hge;unfold awS;simp only[go_sem,seval];rw[List.take_of_length_le (show tr.length<=i by omega)]at hall;unfold jW dK;rw[<-htr,hall]
def eG(kind:Int)(l:List ClipR):List ByteArray:=((l.flatMap λc=>[c.a,c.b]).filter λx=>x.kind==kind).map λx=>x.name
theorem Cn(kind:Int)(l r:List ClipR):eG kind (l++r)=eG kind l++eG kind r:=by
 unfold eG;rw[List.flatMap_append,List.filter_append,List.map_append]
def addK(kind:Int)(x:SourceR)(l:List ByteArray):List ByteArray:=if x.kind==kind then l++[x.name]else l
theorem aC5(kind:Int)(l:List ClipR)(c:ClipR):eG kind (l++[c])=addK kind c.b (addK kind c.a (eG kind l)):=by
 rw[Cn];unfold addK;simp only[eG,List.flatMap_cons,List.flatMap_nil,List.append_nil,List.filter_cons,List.filter_nil];cases h1:(c.a.kind==kind)<;>cases h2:(c.b.kind==kind)<;>simp
def yesC:Bool×List T:=(false,[.lit (.bool true)])
def Hj(l:List ByteArray):List Ent:=kF (λn:ByteArray=>n) (λ_=>yesC) l
theorem aL2(l:List ByteArray)(n:ByteArray):Hj (l++[n])=jV (.string n) yesC (Hj l):=xN _ _ l n
theorem aHd(n:ByteArray)(l:List ByteArray):uE (.string n) (aR true) (tEs (Hj l))=tEs (Hj (l++[n])):=by
 rw[aL2];exact tL (.string n) yesC (Hj l)
theorem kinds_N(l:List ByteArray):eJ .string (Hj l)=true:=kS (jT _ _ _)
attribute [go_sem] kinds_N
theorem aM0(l:List ByteArray):(tEs (Hj l)).map (·.1)=(uF l).map Value.string:=by
 have h1:(Hj l).map (λe=>Ef e.1)=uF l:=by
  have:=Qq (λn:ByteArray=>n) (λ_=>yesC) l;rw[List.map_id']at this;exact this
 have h2:yT (Hj l):=jT _ _ _;unfold tEs;rw[List.map_map,<-h1,List.map_map];refine List.map_congr_left λe he=>?_
 obtain⟨s,hs⟩:=h2 e he;simp only[Function.comp_apply,hs,Ef]
theorem Yc(g:Nat->Nat):∀es:List Ent,V.renE g (tEs es)=tEs es/\Fe (tEs es)=[]
 |[]=>⟨rfl,rfl⟩
 |e::es=>by
  have h:=Yc g es;have h1:=Pe g (mkV e.2) (aC7 e.2);unfold tEs at h⊢;simp only[List.map_cons,V.renE,Fe,h1.1,h1.2,h.1,h.2,List.nil_append,and_self]
def zM(s:SequenceR)(kind:Int):List ByteArray:=vU (uF (eG kind (dK s)))
abbrev tnames (l:List ByteArray):T:=aGr l
@[go_sem] def mY(i:Nat)(b:Blk)(σ:St):St:={ σ with h:= σ.h.set i b }
set_option maxHeartbeats 20000000 in
theorem aT9(p:ProjR)(n:ByteArray)(kind:Int)(s:SequenceR)(hs:kD p.seqs n=some s)(hv:s.video.length<=8)(hs':s.sound.length<=8)(hm:∀t∈s.video++s.sound,t.length<=maxLen)
  (hz:∀x∈eG kind (dK s),x.size<=maxLen) (hn:(eG kind (dK s)).length<=1000000) :
  aL Tryz.prog 82 [vcat p,cF n,aA kind] (.t (tnames (zM s kind))):=by
 refine aF Tryz.X82 Tryz.func82 rfl Tryz.ntmps82 (by rw[Tryz.results82]) (aB _ ?_);simp only[go_sem,seval,Dj,hs,Option.map_some];refine Dq (aTm s) rfl ?_;simp only[go_sem,seval];refine⟨Tryz.X115,?_⟩;unfold Yg;refine⟨rfl,Fu Tryz.X115 Tryz.func115 rfl Tryz.ntmps115 (by rw[Tryz.results115]) (aB _ ?_)⟩;simp only[go_sem,seval,Mc,SequenceR.c];refine qQ ?_;simp only[go_sem,seval];refine⟨_,Wx _ s.video s.sound hv hs',?_⟩;simp only[go_sem,seval];obtain⟨tr,htr⟩:∃tr,tr=s.video++s.sound:=⟨_,rfl⟩
 rw[<-htr];have hlen:tr.length<=16:=by rw[htr,List.length_append];omega
 refine aE (λ(i:Nat) σ=>mY 2 (.map (tEs (Hj (eG kind (tr.take i).flatten)))) (bP 14 (aA i) (aY [4,6,15,16,17,18,19,20,21,22,23,24,25,26,27,28,29] (bE σ)))) (λi=>i<=tr.length) (λi=>tr.length-i) 0 (aC ?_) (Nat.zero_le _) ?_
 .simp only[go_sem,seval]<;>simp[Hj,eG,kF,tEs]
 .intro i hi;refine aB _ ?_;simp only[go_sem,seval];refine⟨λhlt=>?_,λhge=>?_⟩
  .simp only[bxx]at hlt;have hi':i<tr.length:=by omega
   have hmt:(tr.getD i []).length<=maxLen:=hm _ (by rw[<-htr,List.getD_eq_getElem?_getD,List.getElem?_eq_getElem hi'];exact List.getElem_mem hi');unfold awS;simp only[go_sem,seval,List.length_map];refine⟨⟨by omega,by omega⟩,?_⟩;refine aE (λ(k:Nat) σ=>mY 2 (.map (tEs (Hj (eG kind ((tr.take i).flatten++(tr.getD i []).take k))))) (bP 20 (aA k) (aY [6,21,22,23,24,25,26,27,28] (bE σ)))) (λk=>k<=(tr.getD i []).length) (λk=>(tr.getD i []).length-k) 0 (aC ?_) (Nat.zero_le _) ?_
   .simp only[go_sem,seval]<;>simp
   .intro k hk;refine aB _ ?_;simp only[go_sem,seval];refine⟨λhlt=>?_,λhge=>?_⟩
    .simp only[bxx]at hlt;have hk':k<(tr.getD i []).length:=by omega
     have hk9:k<9223372036854775807:=by unfold maxLen at hmt;omega
     unfold awS;simp only[go_sem,seval,List.length_map];refine⟨⟨by omega,by omega⟩,aB _ ?_⟩;simp only[go_sem,seval];refine aB _ ?_;simp only[go_sem,seval];obtain⟨c,hc⟩:∃c,c=(tr.getD i []).getD k default:=⟨_,rfl⟩
     rw[<-hc];obtain⟨l,hl⟩:∃l,l=eG kind ((tr.take i).flatten++(tr.getD i []).take k):=⟨_,rfl⟩
     rw[<-hl];refine bC ?_;rcases ha:(c.a.kind==kind)with _|_<;>rcases hb:(c.b.kind==kind)with _|_
     all_goals
      refine aK (aB _ ?_);simp only[go_sem,dtf,seval,wr1,aDn,ha,aHd];refine aK (aB _ ?_);simp only[go_sem,dtf,seval,wr2,aDn,hb,aHd];refine aK (aB _ ?_);simp only[go_sem,dtf,seval];refine⟨λh=>absurd h (by decide),λ_=>?_⟩;unfold awS;simp only[go_sem,seval];refine⟨k+1,aC ?_,by omega,by omega⟩;simp only[go_sem,seval];rw[dN hk',<-hc,<-List.append_assoc,aC5,<-hl];simp[bJ hk9,addK,ha,hb]
    .simp only[bxx]at hge;unfold awS;simp only[go_sem,seval];refine⟨i+1,aC ?_,by omega,by omega⟩;simp only[go_sem,seval];rw[dN hi',List.flatten_append,show(default:List ClipR)=[] from rfl,List.take_of_length_le (show(tr.getD i []).length<=k by omega)];simp[bJ (show i<9223372036854775807 by omega)]
  .simp only[bxx]at hge;unfold awS;simp only[go_sem,seval];rw[List.take_of_length_le (show tr.length<=i by omega)];refine Fu Tryz.X118 Tryz.func118 rfl Tryz.ntmps118 (by rw[Tryz.results118]) (aB _ ?_);simp only[go_sem,seval];have hcl:tr.flatten=dK s:=by rw[htr];rfl
   rw[hcl];refine Fs Tryz.X117 (Fv (aMp (tEs (Hj (eG kind (dK s)))) (uF (eG kind (dK s))) (aP6 ⟨#[]⟩) (aM0 _) (aF6 _) (λx hx=>hz x (Ff.1 hx)) (Nat.le_trans (tP _) hn)) [7,2] rfl (by omega) (by decide) ?_ rfl rfl rfl rfl ?_)
   .simp only[go_sem,seval,(Yc id _).2,(Yc _ _).1];exact decide_eq_true trivial
   .simp only[go_sem,seval]<;>rfl
abbrev KM:=List (ByteArray×Int)
def kE(K:KM):List (Value×V):=K.map λe=>(Value.string e.1,aA e.2)
def Ls(n:ByteArray):KM->Option Int
 |[]=>none
 |e::K=>if n=e.1 then some e.2 else Ls n K
def qE(n:ByteArray)(v:Int):KM->KM
 |[]=>[(n,v)]
 |e::K=>if n=e.1 then (n,v)::K else e::qE n v K
theorem Qa(n:ByteArray):∀K:KM,fX (.string n) (kE K)=(Ls n K).map λv=>aA v
 |[]=>rfl
 |e::K=>by
  have h:=Qa n K;unfold kE at h⊢;simp only[List.map_cons,fX,Ls,pM,decide_eq_true_eq,h];split<;>rfl
theorem aBj(n:ByteArray)(v:Int):∀K:KM,uE (.string n) (aA v) (kE K)=kE (qE n v K)
 |[]=>rfl
 |e::K=>by
  have h:=aBj n v K;unfold kE at h⊢;simp only[List.map_cons,uE,qE,pM,decide_eq_true_eq,h];split<;>rfl
theorem aJ4:∀K:KM,fP .string (kE K)=true
 |[]=>rfl
 |e::K=>by
  have h:=aJ4 K;unfold kE at h⊢;simp only[List.map_cons,fP,gQ,h,Bool.and_self]
attribute [go_sem] aJ4
theorem aCy(n m:ByteArray)(v:Int):∀K:KM,Ls n (qE m v K)=if n=m then some v else Ls n K
 |[]=>rfl
 |e::K=>by
  have ih:=aCy n m v K;unfold qE;split
  .rename_i h;subst h;simp only[Ls];split<;>rfl
  .rename_i h;simp only[Ls,ih];split
   .rename_i h2;subst h2;rw[if_neg (λh3=>h h3.symm)]
   .rfl
def dS(n:ByteArray)(K:KM):Int:=(Ls n K).getD 0
def jJ(p:ProjR)(n:ByteArray):List ByteArray:=zM ((kD p.seqs n).getD default) 2
def bN(go:ByteArray->KM->Int×KM):List ByteArray->KM->Int->Bool×Int×KM
 |[],K,l=>(true,l,K)
 |x::xs,K,l=>if(go x K).1=0 then (false,l,(go x K).2)else bN go xs (go x K).2 (max l (IntKind.i64.wrap ((go x K).1+1)))
theorem Ah(go:ByteArray->KM->Int×KM)(x:ByteArray):∀(xs:List ByteArray) (K:KM) (l:Int),bN go (xs++[x]) K l =
  if(bN go xs K l).1=true then (if(go x (bN go xs K l).2.2).1=0 then (false,(bN go xs K l).2.1,(go x (bN go xs K l).2.2).2)else (true,max (bN go xs K l).2.1 (IntKind.i64.wrap ((go x (bN go xs K l).2.2).1+1)),(go x (bN go xs K l).2.2).2))else bN go xs K l
 |[],K,l=>by by_cases h:(go x K).1=0<;>simp[bN,h]
 |y::xs,K,l=>by
  simp only[List.cons_append,bN];split
  .rfl
  .exact Ah go x xs _ _
theorem Ag{go:ByteArray->KM->Int×KM}:∀{xs:List ByteArray} {K:KM} {l:Int} (ys:List ByteArray),(bN go xs K l).1=false->bN go (xs++ys) K l=bN go xs K l
 |[],K,l,ys,h=>by unfold bN at h;cases h
 |x::xs,K,l,ys,h=>by
  by_cases h0:(go x K).1=0
  .simp[bN,h0]
  .simp only[List.cons_append,bN,if_neg h0]at h⊢;exact Ag ys h
@[go_sem] theorem aLs:∀K:KM,xM (kE K)=false
 |[]=>rfl
 |e::K=>by
  have h:=aLs K;unfold kE at h⊢;simp only[List.map_cons,xM,Qt,h,Bool.false_or]
theorem Ux:∀K:KM,vD (kE K)=True
 |[]=>rfl
 |e::K=>by
  have h:=Ux K;unfold kE at h⊢;simp only[List.map_cons,vD,h,and_true];exact eq_true rfl
attribute [go_sem] Ux
theorem sH(g:Nat->Nat):∀K:KM,V.renE g (kE K)=kE K/\Fe (kE K)=[]
 |[]=>⟨rfl,rfl⟩
 |e::K=>by
  have h:=sH g K;unfold kE at h⊢;simp only[List.map_cons,V.renE,Fe,h.1,h.2,V.ren,V.ment,List.nil_append,and_self]
def bH(p:ProjR):Nat->ByteArray->KM->Int×KM
 |0,_,K=>(0,K)
 |f+1,n,K=>if dS n K≠0 then (max (dS n K) 0,K)else
   if(bN (bH p f) (jJ p n) (qE n (-1) K) 1).1=true
   then ((bN (bH p f) (jJ p n) (qE n (-1) K) 1).2.1,qE n (bN (bH p f) (jJ p n) (qE n (-1) K) 1).2.1 (bN (bH p f) (jJ p n) (qE n (-1) K) 1).2.2)
   else (0,(bN (bH p f) (jJ p n) (qE n (-1) K) 1).2.2)
theorem yQ(n m:ByteArray)(v:Int)(K:KM):dS n (qE m v K)=if n=m then v else dS n K:=by
 unfold dS;rw[aCy];split<;>rfl
def unk(l:List SequenceR)(K:KM):Nat:=(l.filter λs=>decide (dS s.name K=0)).length
def grows(K K':KM):Prop:=∀n,dS n K≠0->dS n K'≠0
theorem grows.refl(K:KM):grows K K:=λ_ h=>h
theorem grows.trans{a b c:KM}(h:grows a b)(h':grows b c):grows a c:=λn hn=>h' n (h n hn)
theorem Hz(n:ByteArray){v:Int}(hv:v≠0)(K:KM):grows K (qE n v K):=λm h=>by
 rw[yQ];split
 .exact hv
 .exact h
theorem Mx{K K':KM}(h:grows K K'):∀l:List SequenceR,unk l K'<=unk l K
 |[]=>Nat.le_refl _
 |s::l=>by
  have ih:=Mx h l;unfold unk at ih⊢;simp only[List.filter_cons];have h1:=h s.name
  by_cases h2:dS s.name K=0
  .rw[decide_eq_true h2];split<;>simp<;>omega
  .rw[decide_eq_false h2,decide_eq_false (h1 h2)];simpa using ih
theorem Xr{K:KM}{n:ByteArray}{v:Int}(hv:v≠0)(hn:dS n K=0):∀{l:List SequenceR},(∃s∈l,s.name=n)->unk l (qE n v K)<unk l K
 |[],h=>by obtain⟨s,hs,_⟩:=h;cases hs
 |s::l,h=>by
  have hle:=Mx (Hz n hv K) l;have ih:=λh'=>Xr (K:=K) (n:=n) hv hn (l:=l) h'
  unfold unk at ih hle⊢;simp only[List.filter_cons]
  by_cases hs:s.name=n
  .rw[hs,decide_eq_true hn,yQ,if_pos rfl,decide_eq_false hv];simp;omega
  .have h':∃s∈l,s.name=n:=by
    obtain⟨s',h1,h2⟩:=h;rcases List.mem_cons.1 h1 with rfl|h1
    .exact absurd h2 hs
    .exact⟨s',h1,h2⟩
   have ih:=ih h';rw[yQ,if_neg hs];split<;>simp<;>omega
theorem Wr{go:ByteArray->KM->Int×KM}:∀(xs:List ByteArray) (K:KM) (l:Int),l<=(bN go xs K l).2.1
 |[],K,l=>Int.le_refl _
 |x::xs,K,l=>by
  unfold bN;split
  .exact Int.le_refl _
  .exact Int.le_trans (Int.le_max_left _ _) (Wr xs _ _)
theorem sR{go:ByteArray->KM->Int×KM}(hg:∀x K,grows K (go x K).2):∀(xs:List ByteArray) (K:KM) (l:Int),grows K (bN go xs K l).2.2
 |[],K,l=>grows.refl K
 |x::xs,K,l=>by
  unfold bN;split
  .exact hg x K
  .exact(hg x K).trans (sR hg xs _ _)
theorem sS(p:ProjR):∀(f:Nat) (n:ByteArray) (K:KM),grows K (bH p f n K).2
 |0,n,K=>grows.refl K
 |f+1,n,K=>by
  unfold bH;split
  .exact grows.refl K
  .have h:=(Hz n (v:= -1) (by decide) K).trans (sR (sS p f) (jJ p n) (qE n (-1) K) 1);split
   .refine h.trans (Hz _ ?_ _);have:=Wr (go:=bH p f) (jJ p n) (qE n (-1) K) 1;omega
   .exact h
structure SeqOk (s:SequenceR):Prop where
 hv:s.video.length<=8
 hs:s.sound.length<=8
 hm:∀t∈s.video++s.sound,t.length<=maxLen
 hz:∀kind,∀x∈eG kind (dK s),x.size<=maxLen
 hn:∀kind,(eG kind (dK s)).length<=1000000
structure ShownOk (p:ProjR):Prop where
 ok:∀s∈p.seqs,SeqOk s
 there:∀s∈p.seqs,∀x∈eG 2 (dK s),(kD p.seqs x).isSome=true
theorem Dg{s:SequenceR}{kind:Int}{x:ByteArray}:x∈zM s kind↔x∈eG kind (dK s):=by
 unfold zM;rw[(xB _).mem_iff,Ff]
set_option maxHeartbeats 4000000 in
theorem aTn(p:ProjR)(hp:ShownOk p):∀(f:Nat) (n:ByteArray) (K:KM),(kD p.seqs n).isSome=true->unk p.seqs K<f ->
  CIO Tryz.prog 43 1 [(0,.map (kE K))] [vcat p,cF n,.own 0] (aA (bH p f n K).1) [(0,.map (kE (bH p f n K).2))] 1
 |0,n,K,_,h=>absurd h (Nat.not_lt_zero _)
 |f+1,n,K,hs,hk=>by
  obtain⟨s,hsn⟩:=Option.isSome_iff_exists.1 hs;obtain⟨hsm,hsname⟩:=qR hsn;have hso:=hp.ok s hsm;have ih:=aTn p hp f;refine cio_of Tryz.X43 Tryz.func43 rfl Tryz.ntmps43 (by rw[Tryz.results43]) (aB _ ?_)
  by_cases hv:dS n K=0
  .have e0:bH p (f+1) n K=if(bN (bH p f) (jJ p n) (qE n (-1) K) 1).1=true
   then ((bN (bH p f) (jJ p n) (qE n (-1) K) 1).2.1,qE n (bN (bH p f) (jJ p n) (qE n (-1) K) 1).2.1 (bN (bH p f) (jJ p n) (qE n (-1) K) 1).2.2)
   else (0,(bN (bH p f) (jJ p n) (qE n (-1) K) 1).2.2):=by
    conv=>lhs;unfold bH
    rw[if_neg (λh=>h hv)]
   have hin:jJ p n=zM s 2:=by unfold jJ;rw[hsn];rfl
   obtain⟨ns,hns⟩:∃ns,ns=zM s 2:=⟨_,rfl⟩
   rw[hin,<-hns]at e0;have hu:unk p.seqs (qE n (-1) K)<f:=Nat.lt_of_lt_of_le (Xr (by decide) hv ⟨s,hsm,hsname⟩) (Nat.le_of_lt_succ hk);have hthere:∀x∈ns,(kD p.seqs x).isSome=true:=λx hx=>hp.there s hsm x (Dg.1 (hns ▸ hx))
   obtain⟨K1,hK1⟩:∃K1,K1=qE n (-1) K:=⟨_,rfl⟩
   have hnl:ns.length<=1000000:=by
    rw[hns];unfold zM;rw[(xB _).length_eq];exact Nat.le_trans (tP _) (hso.hn 2)
   rw[<-hK1]at e0 hu;rw[e0];clear e0;rcases hg:Ls n K with _|v
   .simp only[go_sem,seval,Qa,hg,Option.map_none];refine⟨_,aT9 p n 2 s hsn hso.hv hso.hs hso.hm (hso.hz 2) (hso.hn 2),?_⟩;simp only[go_sem,seval,aBj];rw[<-hns,<-hK1];refine aE (λ(k:Nat) σ=>mY 0 (.map (kE (bN (bH p f) (ns.take k) K1 1).2.2)) (bP 8 (aA (bN (bH p f) (ns.take k) K1 1).2.1) (bP 25 (aA k) (aY [10,11,26,27,28,29,30,31,32,33,34,35,36,37,38,39] (bE σ))))) (λk=>k<=ns.length/\(bN (bH p f) (ns.take k) K1 1).1=true) (λk=>ns.length-k) 0 (aC ?_) ⟨Nat.zero_le _,rfl⟩ ?_
    .simp only[go_sem,seval]<;>simp[bN]
    .rintro k ⟨hk,hok⟩;refine aB _ ?_;simp only[go_sem,seval];refine⟨λhlt=>?_,λhge=>?_⟩
     .simp only[bxx]at hlt;have hk':k<ns.length:=by omega
      obtain⟨x,hx⟩:∃x,x=ns.getD k default:=⟨_,rfl⟩
      have hxm:x∈ns:=by rw[hx,bB hk'];exact List.getElem_mem hk'
      obtain⟨r,hr⟩:∃r,r=bN (bH p f) (ns.take k) K1 1:=⟨_,rfl⟩
      have hur:unk p.seqs r.2.2<f:=Nat.lt_of_le_of_lt (Mx (hr ▸ sR (sS p f) (ns.take k) K1 1) p.seqs) hu;have hsn':=Ah (bH p f) x (ns.take k) K1 1;rw[<-hr,if_pos (hr ▸ hok),hx,<-dN hk',<-hx]at hsn';rw[<-hr];unfold awS;simp only[go_sem,seval,List.length_map];have hxd:ns.getD k { data:=#[] }=x:=by rw[hx];rfl
      rw[hxd];refine⟨⟨by omega,by omega⟩,Fs Tryz.X43 (Fv (ih x r.2.2 (hthere x hxm) hur) [0] rfl (by omega) (by decide) ?_ rfl rfl rfl rfl ?_)⟩
      .simp only[go_sem,seval,(sH id _).2,(sH _ _).1]
      .simp only[go_sem,seval];refine brW (b:=decide ((bH p f x r.2.2).1=0)) rfl ⟨λh0=>?_,λh0=>?_⟩
       .rw[decide_eq_true_eq]at h0;rw[if_pos h0]at hsn';unfold awS;simp only[go_sem,seval];have hst:=Ag (go:=bH p f) (xs:=ns.take (k+1)) (K:=K1) (l:=1) (ns.drop (k+1)) (by rw[hsn']);rw[List.take_append_drop,hsn']at hst;rw[hst];refine aC ?_;simp only[go_sem,seval]<;>simp[sH]
       .rw[decide_eq_false_iff_not]at h0;rw[if_neg h0]at hsn';unfold awS;simp only[go_sem,seval];refine⟨k+1,aC ?_,⟨by omega,by rw[hsn']⟩,by omega⟩;simp only[go_sem,seval];rw[hsn'];simp[bJ (show k<9223372036854775807 by omega),sH]
     .simp only[bxx]at hge;unfold awS;simp only[go_sem,seval];rw[List.take_of_length_le (show ns.length<=k by omega)]at hok;rw[List.take_of_length_le (show ns.length<=k by omega)];rw[hok,if_pos rfl];refine aC ?_;simp only[go_sem,seval,aBj]<;>simp
   .have hv0:v=0:=by simpa[dS,hg]using hv
    subst hv0;simp only[go_sem,seval,Qa,hg,Option.map_some];refine⟨_,aT9 p n 2 s hsn hso.hv hso.hs hso.hm (hso.hz 2) (hso.hn 2),?_⟩;simp only[go_sem,seval,aBj];rw[<-hns,<-hK1];refine aE (λ(k:Nat) σ=>mY 0 (.map (kE (bN (bH p f) (ns.take k) K1 1).2.2)) (bP 8 (aA (bN (bH p f) (ns.take k) K1 1).2.1) (bP 25 (aA k) (aY [10,11,26,27,28,29,30,31,32,33,34,35,36,37,38,39] (bE σ))))) (λk=>k<=ns.length/\(bN (bH p f) (ns.take k) K1 1).1=true) (λk=>ns.length-k) 0 (aC ?_) ⟨Nat.zero_le _,rfl⟩ ?_
    .simp only[go_sem,seval]<;>simp[bN]
    .rintro k ⟨hk,hok⟩;refine aB _ ?_;simp only[go_sem,seval];refine⟨λhlt=>?_,λhge=>?_⟩
     .simp only[bxx]at hlt;have hk':k<ns.length:=by omega
      obtain⟨x,hx⟩:∃x,x=ns.getD k default:=⟨_,rfl⟩
      have hxm:x∈ns:=by rw[hx,bB hk'];exact List.getElem_mem hk'
      obtain⟨r,hr⟩:∃r,r=bN (bH p f) (ns.take k) K1 1:=⟨_,rfl⟩
      have hur:unk p.seqs r.2.2<f:=Nat.lt_of_le_of_lt (Mx (hr ▸ sR (sS p f) (ns.take k) K1 1) p.seqs) hu;have hsn':=Ah (bH p f) x (ns.take k) K1 1;rw[<-hr,if_pos (hr ▸ hok),hx,<-dN hk',<-hx]at hsn';rw[<-hr];unfold awS;simp only[go_sem,seval,List.length_map];have hxd:ns.getD k { data:=#[] }=x:=by rw[hx];rfl
      rw[hxd];refine⟨⟨by omega,by omega⟩,Fs Tryz.X43 (Fv (ih x r.2.2 (hthere x hxm) hur) [0] rfl (by omega) (by decide) ?_ rfl rfl rfl rfl ?_)⟩
      .simp only[go_sem,seval,(sH id _).2,(sH _ _).1]
      .simp only[go_sem,seval];refine brW (b:=decide ((bH p f x r.2.2).1=0)) rfl ⟨λh0=>?_,λh0=>?_⟩
       .rw[decide_eq_true_eq]at h0;rw[if_pos h0]at hsn';unfold awS;simp only[go_sem,seval];have hst:=Ag (go:=bH p f) (xs:=ns.take (k+1)) (K:=K1) (l:=1) (ns.drop (k+1)) (by rw[hsn']);rw[List.take_append_drop,hsn']at hst;rw[hst];refine aC ?_;simp only[go_sem,seval]<;>simp[sH]
       .rw[decide_eq_false_iff_not]at h0;rw[if_neg h0]at hsn';unfold awS;simp only[go_sem,seval];refine⟨k+1,aC ?_,⟨by omega,by rw[hsn']⟩,by omega⟩;simp only[go_sem,seval];rw[hsn'];simp[bJ (show k<9223372036854775807 by omega),sH]
     .simp only[bxx]at hge;unfold awS;simp only[go_sem,seval];rw[List.take_of_length_le (show ns.length<=k by omega)]at hok;rw[List.take_of_length_le (show ns.length<=k by omega)];rw[hok,if_pos rfl];refine aC ?_;simp only[go_sem,seval,aBj]<;>simp
  .obtain⟨v,hg⟩:∃v,Ls n K=some v:=by
    cases h:Ls n K with
    |none=>exact absurd (by unfold dS;rw[h];rfl) hv
    |some v=>exact⟨v,rfl⟩
   have hvv:dS n K=v:=by unfold dS;rw[hg];rfl
   have e0:bH p (f+1) n K=(max v 0,K):=by
    conv=>lhs;unfold bH
    rw[if_pos hv,hvv]
   rw[e0];simp only[go_sem,seval,Qa,hg,Option.map_some];refine brW (b:=true) (by rw[hvv]at hv;simpa using hv) ⟨λ_=>?_,λh=>absurd h (by decide)⟩;unfold awS;simp only[go_sem,seval];refine aC ?_;simp only[go_sem,seval]<;>simp
theorem aU0(f:FuncId):∀(w:World) (E:Env) v,RdV w E (.t (.lit (.func (.func f) #[] #[]))) v->RdV w E (.clo f []) v:=by
 intro w E v h;obtain⟨rfl,_⟩:=aJ h;simp only[RdV];exact⟨#[],rfl,by simp only[RdVs]⟩
theorem Aa{α:Type}[Inhabited α]{l:List α}{p:α->Bool}{k:Nat}(hk:k<l.length)(hi:∀i,i<k->p (l.getD i default)=true)(h:p (l.getD k default)=false):l.findIdx (λm=> !p m)=k:=by
 rw[List.findIdx_eq hk];refine⟨?_,λj hj=>?_⟩
 .rw[bB hk]at h;rw[h];rfl
 .have:=hi j hj;rw[bB (by omega)]at this;rw[this];rfl
theorem cEveryS(t:List ClipR)(hm:t.length<=maxLen):aL Tryz.prog 77 [.t (jC t),.clo 78 []] (aR (t.all kV)):=by
 refine aF Tryz.X77 Tryz.func77 rfl Tryz.ntmps77 (by rw[Tryz.results77]) (aB _ ?_);simp only[go_sem,seval];refine aE (λ(k:Nat) σ=>bP 9 (aA k) (aY [6,10,11,12,13,14,15,16,17] (bE σ))) (λk=>k<=t.length /\∀i,i<k->kV (t.getD i default)=true) (λk=>t.length-k) 0 (aC ?_) ⟨Nat.zero_le _,by omega⟩ ?_
 .simp only[go_sem,seval]<;>simp
 .rintro k ⟨hk,hi⟩;refine aB _ ?_;simp only[go_sem,seval];refine⟨λhlt=>?_,λhge=>?_⟩
  .simp only[bxx]at hlt;unfold awS;simp only[go_sem,seval];refine⟨⟨by omega,by omega⟩,?_⟩;refine qP (aT5 _) rfl ?_;simp only[go_sem,seval];refine⟨λh2=>?_,λh2=>?_⟩
   .unfold awS;simp only[go_sem,seval];rw[cK (d:=default) (p:=kV) (k:=k) (by omega) (nt h2)]
   .unfold awS;simp only[go_sem,seval];refine⟨k+1,aC ?_,⟨by omega,upto hi (nf h2)⟩,by omega⟩;simp only[go_sem,seval]<;>simp[gR (show k<t.length by omega) hm]
  .simp only[bxx]at hge;unfold awS;simp only[go_sem,seval];rw[cQ (d:=default) (p:=kV) (λi h2=>hi i (by omega))]
theorem aTf(t:List ClipR)(hm:t.length<=maxLen):aL Tryz.prog 77 [.t (jC t),.t (.lit (.func (.func 78) #[] #[]))] (aR (t.all kV)):=
 wR (.cons sT (.cons (aU0 _) .nil)) (cEveryS t hm)
theorem cAud(s:SequenceR)(c:ClipR):aL Tryz.prog 79 [kJ c,.elem 9 (SequenceR.c s) [SequenceR.c s] 0 0] (aR (uG s.channels c)):=by
 refine aF Tryz.X79 Tryz.func79 rfl Tryz.ntmps79 (by rw[Tryz.results79]) (aB _ ?_);simp only[go_sem,seval,Mc,SequenceR.c];refine⟨_,aMt c s.channels,?_⟩;simp only[go_sem,seval]
theorem cEveryA(s:SequenceR)(t:List ClipR)(hm:t.length<=maxLen):aL Tryz.prog 77 [.t (jC t),.clo 79 [.elem 9 (SequenceR.c s) [SequenceR.c s] 0 0]] (aR (t.all (uG s.channels))):=by
 refine aF Tryz.X77 Tryz.func77 rfl Tryz.ntmps77 (by rw[Tryz.results77]) (aB _ ?_);simp only[go_sem,seval];refine aE (λ(k:Nat) σ=>bP 9 (aA k) (aY [6,10,11,12,13,14,15,16,17] (bE σ))) (λk=>k<=t.length /\∀i,i<k->(uG s.channels) (t.getD i default)=true) (λk=>t.length-k) 0 (aC ?_) ⟨Nat.zero_le _,by omega⟩ ?_
 .simp only[go_sem,seval]<;>simp
 .rintro k ⟨hk,hi⟩;refine aB _ ?_;simp only[go_sem,seval];refine⟨λhlt=>?_,λhge=>?_⟩
  .simp only[bxx]at hlt;unfold awS;simp only[go_sem,seval];refine⟨⟨by omega,by omega⟩,?_⟩;refine qP (cAud s _) rfl ?_;simp only[go_sem,seval];refine⟨λh2=>?_,λh2=>?_⟩
   .unfold awS;simp only[go_sem,seval];rw[cK (d:=default) (p:=(uG s.channels)) (k:=k) (by omega) (nt h2)]
   .unfold awS;simp only[go_sem,seval];refine⟨k+1,aC ?_,⟨by omega,upto hi (nf h2)⟩,by omega⟩;simp only[go_sem,seval]<;>simp[gR (show k<t.length by omega) hm]
  .simp only[bxx]at hge;unfold awS;simp only[go_sem,seval];rw[cQ (d:=default) (p:=(uG s.channels)) (λi h2=>hi i (by omega))]
theorem cIdxM(l:List MediumR)(h:∀m∈l,m.fit)(hm:l.length<=1000000):aL Tryz.prog 68 [.t (hZ l),.clo 38 []] (aA (if l.all eV then -1 else (l.findIdx λm=> !eV m:Nat))):=by
 refine aF Tryz.X68 Tryz.func68 rfl Tryz.ntmps68 (by rw[Tryz.results68]) (aB _ ?_);simp only[go_sem,seval];refine aE (λ(k:Nat) σ=>bP 8 (aA k) (aY [5,9,10,11,12,13,14,15,16,17,18] (bE σ))) (λk=>k<=l.length /\∀i,i<k->eV (l.getD i default)=true) (λk=>l.length-k) 0 (aC ?_) ⟨Nat.zero_le _,by omega⟩ ?_
 .simp only[go_sem,seval]<;>simp
 .rintro k ⟨hk,hi⟩;refine aB _ ?_;simp only[go_sem,seval];refine⟨λhlt=>?_,λhge=>?_⟩
  .simp only[bxx]at hlt;unfold awS;simp only[go_sem,seval];refine⟨⟨by omega,by omega⟩,?_⟩;refine qP (cPMed _ (h _ (aW (by omega)))) rfl ?_;simp only[go_sem,seval];refine⟨λh2=>?_,λh2=>?_⟩
   .unfold awS;simp only[go_sem,seval];rw[cK (d:=default) (p:=eV) (k:=k) (by omega) (nt h2),if_neg Bool.false_ne_true,Aa (by omega) hi (nt h2)]
   .unfold awS;simp only[go_sem,seval];refine⟨k+1,aC ?_,⟨by omega,upto hi (nf h2)⟩,by omega⟩;simp only[go_sem,seval]<;>simp[bJ (show k<9223372036854775807 by omega)]
  .simp only[bxx]at hge;unfold awS;simp only[go_sem,seval];rw[cQ (d:=default) (p:=eV) (λi h2=>hi i (by omega)),if_pos rfl]
theorem cHasM(l:List MediumR)(h:∀m∈l,m.fit)(hm:l.length<=1000000):aL Tryz.prog 37 [.t (hZ l),.t (.lit (.func (.func 38) #[] #[]))] (aR (!l.all eV)):=by
 refine wR (.cons sT (.cons (aU0 _) .nil)) (args:=[.t (hZ l),.clo 38 []]) ?_;refine aF Tryz.X37 Tryz.func37 rfl Tryz.ntmps37 (by rw[Tryz.results37]) (aB _ ?_);simp only[go_sem,seval];refine⟨_,cIdxM l h hm,?_⟩;simp only[go_sem,seval];cases l.all eV<;>simp<;>omega
def uM(s:SequenceR):Bool:=fF s.name&&tH s.rate&&nT s.w&&nT s.h&&sJ s.channels&&pG s.cues
def pQ(t:List ClipR):Bool:=cL t&&t.all kV
def rM(ch:Int)(t:List ClipR):Bool:=cL t&&t.all (uG ch)
def cY(s:SequenceR):Bool:=uM s&&s.video.all pQ&&s.sound.all (rM s.channels)
theorem Av{t:List ClipR}(h:cL t=true):t.length<=64:=by
 unfold cL at h;simp only[Bool.and_eq_true,decide_eq_true_eq]at h;exact h.1.1
theorem cMalS(s:SequenceR)(h:s.fit)(hv:s.video.length<=1000000)(hs:s.sound.length<=1000000):aL Tryz.prog 40 [dE s] (aR (!cY s)):=by
 refine aF Tryz.X40 Tryz.func40 rfl Tryz.ntmps40 (by rw[Tryz.results40]) (aB _ ?_);simp only[go_sem,seval];refine⟨_,aG7 s.name,?_⟩;simp only[go_sem,seval];refine⟨_,λ_=>aT6 s.rate h.rate,?_⟩;simp only[go_sem,seval];refine⟨_,λ_=>aT4 s.w,?_⟩;simp only[go_sem,seval];refine⟨_,λ_=>aT4 s.h,?_⟩;simp only[go_sem,seval];refine⟨_,λ_=>Lh s.channels,?_⟩;simp only[go_sem,seval];refine⟨_,λ_=>aT8 s.cues h.cues,?_⟩;simp only[go_sem,seval];refine brW (b:=!uM s) ?_ ⟨λhh=>?_,λhh=>?_⟩
 .unfold uM;simp only[Bool.not_and]
 .unfold awS;simp only[go_sem,seval];unfold cY;rw[nt hh];rfl
 .unfold awS;simp only[go_sem,seval];refine aE (λ(k:Nat) σ=>bP 44 (aA k) (aY [4,45,46,47,48,49,50,51,52,53,54,55,56] (bE σ))) (λk=>k<=s.video.length /\∀i,i<k->pQ (s.video.getD i default)=true) (λk=>s.video.length-k) 0 (aC ?_) ⟨Nat.zero_le _,by omega⟩ ?_
  .simp only[go_sem,seval]<;>simp
  .rintro k ⟨hk,hi⟩;refine aB _ ?_;simp only[go_sem,seval];refine⟨λhlt=>?_,λhge=>?_⟩
   .simp only[bxx]at hlt;have hd:s.video.getD k []=s.video.getD k default:=rfl;have hmem:s.video.getD k default∈s.video:=aW (by omega);unfold awS;simp only[go_sem,seval,hd];refine⟨⟨by omega,by omega⟩,_,aJx _ (h.video _ hmem),?_⟩;simp only[go_sem,seval];refine⟨_,λhg=>aTf _ (Nat.le_trans (Av (by simpa using hg)) (by decide)),?_⟩;simp only[go_sem,seval];refine brW (b:=!pQ (s.video.getD k default)) ?_ ⟨λhc=>?_,λhc=>?_⟩
    .unfold pQ
     (try simp only[bne]);cases(cL (s.video.getD k default))<;>cases((s.video.getD k default).all kV)<;>rfl
    .unfold awS;simp only[go_sem,seval];unfold cY;rw[cK (d:=default) (p:=pQ) (k:=k) (by omega) (nt hc),Bool.and_false];rfl
    .unfold awS;simp only[go_sem,seval];refine⟨k+1,aC ?_,⟨by omega,upto hi (nf hc)⟩,by omega⟩;simp only[go_sem,seval]<;>simp[bJ (show k<9223372036854775807 by omega)]
   .simp only[bxx]at hge;have hva:s.video.all pQ=true:=cQ (d:=default) (p:=pQ) (λi h2=>hi i (by omega));unfold awS;simp only[go_sem,seval];refine aE (λ(k:Nat) σ=>bP 60 (aA k) (aY [6,61,62,63,64,65,66,67,68,69,70,71,72,73] (bE σ))) (λk=>k<=s.sound.length /\∀i,i<k->rM s.channels (s.sound.getD i default)=true) (λk=>s.sound.length-k) 0 (aC ?_) ⟨Nat.zero_le _,by omega⟩ ?_
    .simp only[go_sem,seval]<;>simp
    .rintro k ⟨hk,hi⟩;refine aB _ ?_;simp only[go_sem,seval];refine⟨λhlt=>?_,λhge=>?_⟩
     .simp only[bxx]at hlt;have hd:s.sound.getD k []=s.sound.getD k default:=rfl;have hmem:s.sound.getD k default∈s.sound:=aW (by omega);unfold awS;simp only[go_sem,seval,hd];refine⟨⟨by omega,by omega⟩,_,aJx _ (h.sound _ hmem),?_⟩;simp only[go_sem,seval];refine⟨_,λhg=>cEveryA s _ (Nat.le_trans (Av (by simpa using hg)) (by decide)),?_⟩;simp only[go_sem,seval];refine brW (b:=!rM s.channels (s.sound.getD k default)) ?_ ⟨λhc=>?_,λhc=>?_⟩
      .unfold rM
       (try simp only[bne]);cases(cL (s.sound.getD k default))<;>cases((s.sound.getD k default).all (uG s.channels))<;>rfl
      .unfold awS;simp only[go_sem,seval];unfold cY;rw[cK (d:=default) (p:=rM s.channels) (k:=k) (by omega) (nt hc),Bool.and_false];rfl
      .unfold awS;simp only[go_sem,seval];refine⟨k+1,aC ?_,⟨by omega,upto hi (nf hc)⟩,by omega⟩;simp only[go_sem,seval]<;>simp[bJ (show k<9223372036854775807 by omega)]
     .simp only[bxx]at hge;unfold awS;simp only[go_sem,seval];unfold cY;rw[nf hh,hva,cQ (d:=default) (p:=rM s.channels) (λi h2=>hi i (by omega))];rfl
theorem cIdxS(l:List SequenceR)(h:∀m∈l,m.fit)(hm:l.length<=1000000)(hl:∀s∈l,s.video.length<=1000000/\s.sound.length<=1000000):aL Tryz.prog 74 [.t (nP l),.clo 40 []] (aA (if l.all cY then -1 else (l.findIdx λm=> !cY m:Nat))):=by
 refine aF Tryz.X74 Tryz.func74 rfl Tryz.ntmps74 (by rw[Tryz.results74]) (aB _ ?_);simp only[go_sem,seval];refine aE (λ(k:Nat) σ=>bP 8 (aA k) (aY [5,9,10,11,12,13,14,15,16,17,18] (bE σ))) (λk=>k<=l.length /\∀i,i<k->cY (l.getD i default)=true) (λk=>l.length-k) 0 (aC ?_) ⟨Nat.zero_le _,by omega⟩ ?_
 .simp only[go_sem,seval]<;>simp
 .rintro k ⟨hk,hi⟩;refine aB _ ?_;simp only[go_sem,seval];refine⟨λhlt=>?_,λhge=>?_⟩
  .simp only[bxx]at hlt;unfold awS;simp only[go_sem,seval];refine⟨⟨by omega,by omega⟩,?_⟩;refine qP (cMalS _ (h _ (aW (by omega))) (hl _ (aW (by omega))).1 (hl _ (aW (by omega))).2) rfl ?_;simp only[go_sem,seval];refine⟨λh2=>?_,λh2=>?_⟩
   .unfold awS;simp only[go_sem,seval];rw[cK (d:=default) (p:=cY) (k:=k) (by omega) (nt h2),if_neg Bool.false_ne_true,Aa (by omega) hi (nt h2)]
   .unfold awS;simp only[go_sem,seval];refine⟨k+1,aC ?_,⟨by omega,upto hi (nf h2)⟩,by omega⟩;simp only[go_sem,seval]<;>simp[bJ (show k<9223372036854775807 by omega)]
  .simp only[bxx]at hge;unfold awS;simp only[go_sem,seval];rw[cQ (d:=default) (p:=cY) (λi h2=>hi i (by omega)),if_pos rfl]
theorem cHasS(l:List SequenceR)(h:∀m∈l,m.fit)(hm:l.length<=1000000)(hl:∀s∈l,s.video.length<=1000000/\s.sound.length<=1000000):aL Tryz.prog 39 [.t (nP l),.t (.lit (.func (.func 40) #[] #[]))] (aR (!l.all cY)):=by
 refine wR (.cons sT (.cons (aU0 _) .nil)) (args:=[.t (nP l),.clo 40 []]) ?_;refine aF Tryz.X39 Tryz.func39 rfl Tryz.ntmps39 (by rw[Tryz.results39]) (aB _ ?_);simp only[go_sem,seval];refine⟨_,cIdxS l h hm hl,?_⟩;simp only[go_sem,seval];cases l.all cY<;>simp<;>omega
def fN(m:MediumR):Bool:=decide ((m.cues.length:Int)<=64)
def dX(s:SequenceR):Bool:=decide ((s.video.length:Int)<=8)&&decide ((s.sound.length:Int)<=8)&&decide ((s.cues.length:Int)<=64)
def dL(p:ProjR):Bool:=decide ((p.media.length:Int)<=16)&&decide ((p.seqs.length:Int)<=16)&&p.media.all fN&&p.seqs.all dX
theorem qS(a b:Int):decide (a>b)=!decide (a<=b):=by
 by_cases h:a<=b
 .rw[decide_eq_true h,decide_eq_false (by omega)];rfl
 .rw[decide_eq_false h,decide_eq_true (by omega)];rfl
theorem cLarge(p:ProjR):aL Tryz.prog 36 [jY p] (aR (!dL p)):=by
 refine aF Tryz.X36 Tryz.func36 rfl Tryz.ntmps36 (by rw[Tryz.results36]) (aB _ ?_);simp only[go_sem,seval];refine brW (b:=!(decide ((p.media.length:Int)<=16)&&decide ((p.seqs.length:Int)<=16))) ?_ ⟨λhh=>?_,λhh=>?_⟩
 .rw[qS,qS,Bool.not_and]
 .unfold awS;simp only[go_sem,seval];unfold dL;rw[nt hh];rfl
 .have hh2:=nf hh;simp only[Bool.and_eq_true,decide_eq_true_eq]at hh2;unfold awS;simp only[go_sem,seval];refine aE (λ(k:Nat) σ=>bP 20 (aA k) (aY [4,21,22,23,24,25,26,27,28] (bE σ))) (λk=>k<=p.media.length /\∀i,i<k->fN (p.media.getD i default)=true) (λk=>p.media.length-k) 0 (aC ?_) ⟨Nat.zero_le _,by omega⟩ ?_
  .simp only[go_sem,seval]<;>simp
  .rintro k ⟨hk,hi⟩;refine aB _ ?_;simp only[go_sem,seval];refine⟨λhlt=>?_,λhge=>?_⟩
   .simp only[bxx]at hlt;unfold awS;simp only[go_sem,seval];refine⟨⟨by omega,by omega⟩,?_⟩;refine brW (b:=!fN (p.media.getD k default)) ?_ ⟨λhc=>?_,λhc=>?_⟩
    .unfold fN;exact qS _ _
    .unfold awS;simp only[go_sem,seval];unfold dL;rw[nf hh,cK (d:=default) (p:=fN) (k:=k) (by omega) (nt hc)];rfl
    .unfold awS;simp only[go_sem,seval];refine⟨k+1,aC ?_,⟨by omega,upto hi (nf hc)⟩,by omega⟩;simp only[go_sem,seval]<;>simp[bJ (show k<9223372036854775807 by omega)]
   .simp only[bxx]at hge;have hva:p.media.all fN=true:=cQ (d:=default) (p:=fN) (λi h2=>hi i (by omega));unfold awS;simp only[go_sem,seval];refine aE (λ(k:Nat) σ=>bP 32 (aA k) (aY [6,33,34,35,36,37,38,39,40,41,42,43,44,45,46,47,48,49,50,51,52] (bE σ))) (λk=>k<=p.seqs.length /\∀i,i<k->dX (p.seqs.getD i default)=true) (λk=>p.seqs.length-k) 0 (aC ?_) ⟨Nat.zero_le _,by omega⟩ ?_
    .simp only[go_sem,seval]<;>simp
    .rintro k ⟨hk,hi⟩;refine aB _ ?_;simp only[go_sem,seval];refine⟨λhlt=>?_,λhge=>?_⟩
     .simp only[bxx]at hlt;unfold awS;simp only[go_sem,seval];refine⟨⟨by omega,by omega⟩,?_⟩;refine brW (b:=!dX (p.seqs.getD k default)) ?_ ⟨λhc=>?_,λhc=>?_⟩
      .unfold dX;rw[qS,qS,qS,Bool.not_and,Bool.not_and]
      .unfold awS;simp only[go_sem,seval];unfold dL;rw[nf hh,hva,cK (d:=default) (p:=dX) (k:=k) (by omega) (nt hc)];rfl
      .unfold awS;simp only[go_sem,seval];refine⟨k+1,aC ?_,⟨by omega,upto hi (nf hc)⟩,by omega⟩;simp only[go_sem,seval]<;>simp[bJ (show k<9223372036854775807 by omega)]
     .simp only[bxx]at hge;unfold awS;simp only[go_sem,seval];unfold dL;rw[nf hh,hva,cQ (d:=default) (p:=dX) (λi h2=>hi i (by omega))];rfl
def cT(p:ProjR):List SequenceR->KM->Bool×KM
 |[],K=>(true,K)
 |s::l,K=>if(bH p (p.seqs.length+1) s.name K).1=0 then (false,(bH p (p.seqs.length+1) s.name K).2)else cT p l (bH p (p.seqs.length+1) s.name K).2
theorem Lg(p:ProjR)(x:SequenceR):∀(xs:List SequenceR) (K:KM),cT p (xs++[x]) K =
  if(cT p xs K).1=true then (if(bH p (p.seqs.length+1) x.name (cT p xs K).2).1=0 then (false,(bH p (p.seqs.length+1) x.name (cT p xs K).2).2)else (true,(bH p (p.seqs.length+1) x.name (cT p xs K).2).2))else cT p xs K
 |[],K=>by by_cases h:(bH p (p.seqs.length+1) x.name K).1=0<;>simp[cT,h]
 |y::xs,K=>by
  simp only[List.cons_append,cT];split
  .rfl
  .exact Lg p x xs _
theorem Le{p:ProjR}:∀{xs:List SequenceR} {K:KM} (ys:List SequenceR),(cT p xs K).1=false->cT p (xs++ys) K=cT p xs K
 |[],K,ys,h=>by unfold cT at h;cases h
 |x::xs,K,ys,h=>by
  by_cases h0:(bH p (p.seqs.length+1) x.name K).1=0
  .simp[cT,h0]
  .simp only[List.cons_append,cT,if_neg h0]at h⊢;exact Le ys h
def Cu(K:KM)(s:SequenceR):Bool:=decide (dS s.name K<=5)
def yF(p:ProjR):Bool:=!(decide (((Tg p.media).length:Int)<p.media.length)||decide (((Ry p.seqs).length:Int)<p.seqs.length))
def eN(p:ProjR):Int:=
 if dL p=false then 5 else
 if(p.media.all eV&&p.seqs.all cY)=false then 1 else
 if yF p=false then 8 else
 if p.seqs.all (jW p)=false then 7 else
 if(cT p p.seqs []).1=false then 16 else
 if p.seqs.all (Cu (cT p p.seqs []).2)=false then 18 else 0
theorem wN{l:List (List ClipR)}(h:∀t∈l,t.length<=64):l.flatten.length<=64*l.length:=by
 induction l with
 |nil=>simp
 |cons t l ih=>
  have h1:=h t (by simp);have h2:=ih λu hu=>h u (by simp[hu])
  simp only[List.flatten_cons,List.length_append,List.length_cons];omega
theorem Pu(kind:Int):∀l:List ClipR,(eG kind l).length<=2*l.length
 |[]=>by simp[eG]
 |c::l=>by
  have ih:=Pu kind l;rw[show c::l=[c]++l from rfl,Cn];simp only[List.length_append,List.length_cons,List.length_nil];have:(eG kind [c]).length<=2:=by
   unfold eG;rw[List.length_map];refine Nat.le_trans (List.length_filter_le _ _) ?_;simp
  omega
theorem Py{kind:Int}{l:List ClipR}{x:ByteArray}(h:x∈eG kind l):∃c∈l,∃s:SourceR,(s=c.a\/s=c.b)/\s.kind=kind/\s.name=x:=by
 unfold eG at h;obtain⟨s,h1,rfl⟩:=List.mem_map.1 h;rw[List.mem_filter,List.mem_flatMap]at h1;obtain⟨⟨c,hc,h2⟩,h3⟩:=h1;simp only[List.mem_cons,List.not_mem_nil,or_false]at h2;exact⟨c,hc,s,h2,by simpa using h3,rfl⟩
theorem Ts{s:SequenceR}(h:cY s=true):∀t∈s.video++s.sound,cL t=true:=by
 unfold cY at h;simp only[Bool.and_eq_true,List.all_eq_true]at h;intro t ht;rcases List.mem_append.1 ht with ht|ht
 .have:=h.1.2 t ht;unfold pQ at this;simp only[Bool.and_eq_true]at this;exact this.1
 .have:=h.2 t ht;unfold rM at this;simp only[Bool.and_eq_true]at this;exact this.1
theorem aAm{s:SourceR}(h:aT s=true):s.name.size<=maxLen:=by
 unfold aT at h;rw[Bool.or_eq_true]at h;rcases h with h|h
 .unfold SourceR.isZ SourceR.eqb zSource at h;simp only[Bool.and_eq_true,beq_iff_eq]at h;rw[Bz h.1.1.1.1.1.2];decide
 .simp only[Bool.and_eq_true,fF,decide_eq_true_eq]at h;have:=h.1.1.1.1.1.2.1.2;unfold maxLen;omega
theorem aMj{c:ClipR}(h:cG c=true):aT c.a=true/\aT c.b=true:=
 ⟨(rJ h).2.2.2.2.2.1,(rJ h).2.2.2.2.2.2.1⟩
theorem aPp{s:SequenceR}(hS:dX s=true)(h:cY s=true):SeqOk s:=by
 have ht:=Ts h;have hl:∀t∈s.video++s.sound,t.length<=64:=λt h'=>Av (ht t h')
 unfold dX at hS;simp only[Bool.and_eq_true,decide_eq_true_eq]at hS;have hcl:(dK s).length<=1024:=by
  have:=wN hl;rw[List.length_append]at this;unfold dK;omega
 refine⟨by omega,by omega,λt h'=>Nat.le_trans (hl t h') (by decide),λkind x hx=>?_,λkind=>?_⟩
 .obtain⟨c,hc,src,h1,_,rfl⟩:=Py hx;unfold dK at hc;obtain⟨t,h2,h3⟩:=List.mem_flatten.1 hc;have h4:=ht t h2;unfold cL at h4;simp only[Bool.and_eq_true,List.all_eq_true]at h4;have h5:=aMj (h4.1.2 c h3);rcases h1 with rfl|rfl
  .exact aAm h5.1
  .exact aAm h5.2
 .have:=Pu kind (dK s);omega
theorem aB0{p:ProjR}(hS:dL p=true)(h:(p.media.all eV&&p.seqs.all cY)=true)(hc:p.seqs.all (jW p)=true):ShownOk p:=by
 unfold dL at hS;simp only[Bool.and_eq_true,List.all_eq_true,decide_eq_true_eq]at hS h hc;refine⟨λs hs=>aPp (hS.2 s hs) (h.2 s hs),λs hs x hx=>?_⟩;obtain⟨c,hcm,src,h1,h2,rfl⟩:=Py hx;have h3:=hc s hs;unfold jW at h3;rw[List.all_eq_true]at h3;have h4:=h3 c hcm;unfold eW at h4;rw[Bool.and_eq_true]at h4;have key:∀src:SourceR,dP p src=true->src.kind=2->(kD p.seqs src.name).isSome=true:=λsrc h5 h6=>by
  unfold dP at h5;rw[h6]at h5;cases h7:kD p.seqs src.name with
  |none=>rw[h7]at h5;simp at h5
  |some s=>rfl
 rcases h1 with rfl|rfl
 .exact key _ h4.1 h2
 .exact key _ h4.2 h2
set_option maxHeartbeats 4000000 in
theorem cValid(p:ProjR)(h:p.fit):aL Tryz.prog 20 [jY p] (aA (eN p)):=by
 refine aF Tryz.X20 Tryz.func20 rfl Tryz.ntmps20 (by rw[Tryz.results20]) (eK λhf=>aB _ ?_);simp only[go_sem,↓reduceIte,Nat.reduceAdd,Nat.reduceSub,Nat.reduceLeDiff,reduceCtorEq];refine⟨_,cLarge p,?_⟩;simp only[go_sem];refine⟨λh1=>?_,λh1=>?_⟩
 .unfold awS;simp only[go_sem,↓reduceIte,Nat.reduceLeDiff];exact⟨tQ,by unfold eN;rw[nt h1];rfl⟩
 .have hS:=nf h1;have hS2:=hS;unfold dL at hS2;simp only[Bool.and_eq_true,decide_eq_true_eq,List.all_eq_true]at hS2;have hsl:∀s∈p.seqs,s.video.length<=1000000/\s.sound.length<=1000000:=λs hs=>by
   have h2:=hS2.2 s hs;unfold dX at h2;simp only[Bool.and_eq_true,decide_eq_true_eq]at h2;omega
  unfold awS;simp only[go_sem,↓reduceIte,reduceCtorEq];refine⟨_,cHasM p.media h.media (by omega),?_⟩;simp only[go_sem,↓reduceIte,reduceCtorEq];refine⟨_,λ_=>cHasS p.seqs h.seqs (by omega) hsl,?_⟩;simp only[go_sem,↓reduceIte];refine brW (b:=!(p.media.all eV&&p.seqs.all cY)) ?_ ⟨λh2=>?_,λh2=>?_⟩
  .rw[Bool.not_and]
  .unfold awS;simp only[go_sem,↓reduceIte,Nat.reduceLeDiff];exact⟨tQ,by unfold eN;rw[hS,nt h2];rfl⟩
  .have hO:=nf h2;unfold awS;simp only[go_sem,↓reduceIte,Nat.reduceAdd,Nat.reduceLeDiff,reduceCtorEq];refine Dq (cCat p (by omega) (by omega)) rfl ?_;simp only[go_sem,↓reduceIte,Nat.reduceAdd,Nat.reduceLeDiff,reduceCtorEq];refine brW (b:=!yF p) ?_ ⟨λh3=>?_,λh3=>?_⟩
   .unfold yF;simp only[Bool.not_not]
   .unfold awS;simp only[go_sem,↓reduceIte,Nat.reduceLeDiff,Nat.reduceEqDiff];exact⟨tQ,by unfold eN;rw[hS,hO,nt h3];rfl⟩
   .have hU:=nf h3;unfold awS;simp only[go_sem,↓reduceIte,reduceCtorEq];refine aE (λ(k:Nat) σ=>bP 43 (aA k) (aY [5,44,45,46,47,48,49,50,51] (bE σ))) (λk=>k<=p.seqs.length /\∀i,i<k->jW p (p.seqs.getD i default)=true) (λk=>p.seqs.length-k) 0 (aC ?_) ⟨Nat.zero_le _,by omega⟩ ?_
    .simp only[go_sem,Nat.reduceLT,↓reduceIte,Nat.reduceLeDiff,Nat.reduceEqDiff,reduceCtorEq]<;>simp
    .rintro k ⟨hk,hi⟩;refine aB _ ?_;simp only[go_sem,↓reduceIte,Nat.reduceEqDiff,reduceCtorEq];refine⟨λhlt=>?_,λhge=>?_⟩
     .simp only[decide_eq_true_eq]at hlt;have hmem:p.seqs.getD k default∈p.seqs:=aW (by omega);have hok:=aPp (hS2.2 _ hmem) (by rw[Bool.and_eq_true,List.all_eq_true,List.all_eq_true]at hO;exact hO.2 _ hmem);unfold awS;simp only[go_sem,↓reduceIte,Nat.reduceAdd,Nat.reduceLeDiff,Nat.reduceEqDiff];refine⟨⟨by omega,by omega⟩,_,cCompl p _ hok.hv hok.hs hok.hm,?_⟩;simp only[go_sem];refine brW (b:=!jW p (p.seqs.getD k default)) ?_ ⟨λhc=>?_,λhc=>?_⟩
      .rfl
      .unfold awS;simp only[go_sem,↓reduceIte,Nat.reduceLeDiff,Nat.reduceEqDiff];exact⟨tQ,by unfold eN;rw[hS,hO,hU,cK (d:=default) (p:=jW p) (k:=k) (by omega) (nt hc)];rfl⟩
      .unfold awS;simp only[go_sem,↓reduceIte];refine⟨k+1,aC ?_,⟨by omega,upto hi (nf hc)⟩,by omega⟩;simp only[go_sem,Nat.reduceLT,↓reduceIte,Nat.reduceLeDiff,Nat.reduceEqDiff,reduceCtorEq]<;>simp[bJ (show k<9223372036854775807 by omega)]
     .simp only[decide_eq_false_iff_not]at hge;have hC:p.seqs.all (jW p)=true:=cQ (d:=default) (p:=jW p) (λi h2=>hi i (by omega));have hSh:=aB0 hS hO hC;unfold awS;simp only[go_sem,↓reduceIte,Nat.reduceAdd,reduceCtorEq];refine aE (λ(k:Nat) σ=>mY 3 (.map (kE (cT p (p.seqs.take k) []).2)) (bP 56 (aA k) (aY [8,57,58,59,60,61,62,63,64,65,66] (bE σ)))) (λk=>k<=p.seqs.length/\(cT p (p.seqs.take k) []).1=true) (λk=>p.seqs.length-k) 0 (aC ?_) ⟨Nat.zero_le _,rfl⟩ ?_
      .simp only[go_sem,Nat.reduceLT,↓reduceIte,Nat.reduceLeDiff,Nat.reduceEqDiff,reduceCtorEq]<;>simp[cT,kE]
      .rintro k ⟨hk,hok⟩;refine aB _ ?_;simp only[go_sem,↓reduceIte,Nat.reduceEqDiff,reduceCtorEq];refine⟨λhlt=>?_,λhge=>?_⟩
       .simp only[decide_eq_true_eq]at hlt;have hk':k<p.seqs.length:=by omega
        obtain⟨s,hs⟩:∃s,s=p.seqs.getD k default:=⟨_,rfl⟩
        have hmem:s∈p.seqs:=by rw[hs];exact aW hk'
        obtain⟨r,hr⟩:∃r,r=cT p (p.seqs.take k) []:=⟨_,rfl⟩
        have hsn:=Lg p s (p.seqs.take k) [];rw[<-hr,if_pos (hr ▸ hok),hs,<-dN hk',<-hs]at hsn;rw[<-hr];have hseq:(kD p.seqs s.name).isSome=true:=by
         cases h9:kD p.seqs s.name with
         |none=>exact absurd rfl (kQ.1 h9 s hmem)
         |some _=>rfl
        have hun:unk p.seqs r.2<p.seqs.length+1:=Nat.lt_succ_of_le (List.length_filter_le _ _);unfold awS;simp only[go_sem,↓reduceIte,Nat.reduceAdd,Nat.reduceLeDiff,Nat.reduceEqDiff];rw[<-hs];refine⟨⟨by omega,by omega⟩,Fs Tryz.X43 (Fv (aTn p hSh (p.seqs.length+1) s.name r.2 hseq hun) [3] rfl (by omega) (by decide) ?_ rfl rfl rfl rfl ?_)⟩
        .simp only[go_sem,Nat.reduceLT,↓reduceIte,Nat.reduceEqDiff,(sH id _).2,(sH _ _).1]
        .simp only[go_sem,Nat.reduceLT,↓reduceIte,Nat.reduceAdd,Nat.reduceSub,Nat.reduceEqDiff,reduceCtorEq];refine brW (b:=decide ((bH p (p.seqs.length+1) s.name r.2).1=0)) ?_ ⟨λh0=>?_,λh0=>?_⟩
         .rfl
         .rw[decide_eq_true_eq]at h0;rw[if_pos h0]at hsn;have hst:=Le (p:=p) (xs:=p.seqs.take (k+1)) (K:=[]) (p.seqs.drop (k+1)) (by rw[hsn]);rw[List.take_append_drop,hsn]at hst;unfold awS;simp only[go_sem,↓reduceIte,Nat.reduceLeDiff,Nat.reduceEqDiff];exact⟨tQ,by unfold eN;rw[hS,hO,hU,hC,hst];rfl⟩
         .rw[decide_eq_false_iff_not]at h0;rw[if_neg h0]at hsn;unfold awS;simp only[go_sem,↓reduceIte];refine⟨k+1,aC ?_,⟨by omega,by rw[hsn]⟩,by omega⟩;simp only[go_sem,Nat.reduceLT,↓reduceIte,Nat.reduceLeDiff,Nat.reduceEqDiff,reduceCtorEq];rw[hsn];simp[bJ (show k<9223372036854775807 by omega),sH]
       .simp only[decide_eq_false_iff_not]at hge;rw[List.take_of_length_le (show p.seqs.length<=k by omega)]at hok;unfold awS;simp only[go_sem,↓reduceIte,reduceCtorEq];rw[List.take_of_length_le (show p.seqs.length<=k by omega)];obtain⟨KK,hKK⟩:∃KK,KK=(cT p p.seqs []).2:=⟨_,rfl⟩
        rw[<-hKK];refine aE (λ(k:Nat) σ=>bP 70 (aA k) (aY [10,71,72,73,74,75,76,77,78,79] (bE σ))) (λk=>k<=p.seqs.length /\∀i,i<k->Cu KK (p.seqs.getD i default)=true) (λk=>p.seqs.length-k) 0 (aC ?_) ⟨Nat.zero_le _,by omega⟩ ?_
        .simp only[go_sem,Nat.reduceLT,↓reduceIte,Nat.reduceLeDiff,Nat.reduceEqDiff,reduceCtorEq]<;>simp
        .rintro k ⟨hk,hi⟩;refine aB _ ?_;simp only[go_sem,↓reduceIte,Nat.reduceEqDiff,reduceCtorEq];refine⟨λhlt=>?_,λhge=>?_⟩
         .simp only[decide_eq_true_eq]at hlt;obtain⟨s,hs⟩:∃s,s=p.seqs.getD k default:=⟨_,rfl⟩
          unfold awS;rcases hg:Ls s.name KK with _|v
          all_goals
           simp only[go_sem,↓reduceIte,Nat.reduceAdd,Nat.reduceLeDiff,Nat.reduceEqDiff,<-hs,Qa,hg,Option.map_none,Option.map_some];refine⟨⟨by omega,by omega⟩,?_⟩;refine brW (b:=!Cu KK (p.seqs.getD k default)) ?_ ⟨λhc=>?_,λhc=>?_⟩
           .rw[qS];unfold Cu dS;rw[<-hs,hg];rfl
           .unfold awS;simp only[go_sem,↓reduceIte,Nat.reduceLeDiff,Nat.reduceEqDiff];exact⟨tQ,by unfold eN;rw[hS,hO,hU,hC,hok,<-hKK,cK (d:=default) (p:=Cu KK) (k:=k) (by omega) (nt hc)];rfl⟩
           .unfold awS;simp only[go_sem,↓reduceIte];refine⟨k+1,aC ?_,⟨by omega,upto hi (nf hc)⟩,by omega⟩;simp only[go_sem,Nat.reduceLT,↓reduceIte,Nat.reduceLeDiff,Nat.reduceEqDiff,reduceCtorEq]<;>simp[bJ (show k<9223372036854775807 by omega)]
         .simp only[decide_eq_false_iff_not]at hge;unfold awS;simp only[go_sem,↓reduceIte,Nat.reduceLeDiff,Nat.reduceEqDiff];exact⟨tQ,by unfold eN;rw[hS,hO,hU,hC,hok,<-hKK,cQ (d:=default) (p:=Cu KK) (λi h2=>hi i (by omega))];rfl⟩
abbrev nilV:V:=.t (.lit (.slice none 0 0))
