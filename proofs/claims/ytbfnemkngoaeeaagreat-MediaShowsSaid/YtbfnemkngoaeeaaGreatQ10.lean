/- Proved here: Arguments whose nil slices are read as empty lists; conditions stand in each theorem. -/
import Derived.Test.YtbfnemkngoaeeaaGreatQ07
import Derived.Test.YtbfnemkngoaeeaaGreatQ06
import Derived.Test.YtbfnemkngoaeeaaGreatQ08
import Derived.Test.YtbfnemkngoaeeaaGreatQ09
set_option linter.unusedSimpArgs false
set_option linter.unusedVariables false
set_option linter.unusedSectionVars false
set_option linter.unnecessarySimpa false
namespace Go.Proofs.YtbfnemkngoaeeaaGreat
open Go.RowKit
set_option maxRecDepth 4000
def aU0:List V→List V→Prop
 | [],[]=>True
 | x::xs,y::ys=>(x=y∨(x = .t (.lit (.slice none 0 0)) ∧ ∃ k d,y = .t (.list k d [])))∧aU0 xs ys
 | _,_=>False
theorem aEx {w:World} {E:Env}:∀ {xs ys:List V} {vs:List Value},aU0 xs ys→RdVs w E xs vs→RdVs w E ys vs
 | [],[],_,_,h=>h
 | x::xs,y::ys,[],_,h=>by simp only [RdVs] at h
 | x::xs,y::ys,v::vs,hn,h=>by
  simp only [RdVs] at h ⊢;refine ⟨?_,aEx hn.2 h.2⟩;rcases hn.1 with rfl | ⟨rfl,k,d,rfl⟩
  ·exact h.1
  ·have h1:=h.1;simp only [RdV] at h1 ⊢;cases h1;exact .list _ _ _ none 0 (Nat.zero_le _) (Nat.zero_le _) (fun _=>rfl) (by simp) (by simp) (by simp)
 | [],_::_,_,hn,_=>hn.elim
 | _::_,[],_,hn,_=>hn.elim
def asTs:List T→List T→Prop
 | [],[]=>True
 | x::xs,y::ys=>(x=y∨(x = .lit (.slice none 0 0) ∧ ∃ k d,y = .list k d []))∧asTs xs ys
 | _,_=>False
def asRows:List (List T)→List (List T)→Prop
 | [],[]=>True
 | x::xs,y::ys=>asTs x y∧asRows xs ys
 | _,_=>False
def AsVs (xs ys:List V):Prop := ∀ (w:World) (E:Env) (vs:List Value),RdVs w E xs vs→RdVs w E ys vs
theorem sA {P:Program} {f:FuncId} {args args':List V} {r:V} (ha:AsVs args' args) (h:aM P f args r):aM P f args' r :=
 ⟨h.1,fun w S vs hS hv=>h.2 w S vs hS (ha _ _ _ hv)⟩
theorem AsVs.cons {x y:V} {xs ys:List V} (h1:∀ (w:World) (E:Env) v,RdV w E x v→RdV w E y v) (h2:AsVs xs ys):AsVs (x::xs) (y::ys):=by
 intro w E vs h;cases vs with
 | nil=>simp only [RdVs] at h
 | cons v vs =>
  simp only [RdVs] at h ⊢;exact ⟨h1 _ _ _ h.1,h2 _ _ _ h.2⟩
theorem AsVs.nil:AsVs [] []:=fun _ _ _ h=>h
theorem cC {x:V}:∀ (w:World) (E:Env) v,RdV w E x v→RdV w E x v:=fun _ _ _ h=>h
theorem aL3 {xs ys:List V} (ha:aU0 xs ys):∀ (w:World) (E:Env) v,RdV w E (.agg xs) v→RdV w E (.agg ys) v:=by
 intro w E v h;simp only [RdV] at h ⊢;obtain ⟨vs,rfl,q1,q2⟩:=h;exact ⟨vs,rfl,aEx ha q1,q2⟩
theorem aU {r x:V} {h:Heap} (e:x.lend h=r) (hp:r.pure=true):vW r x h:=⟨by rw [e];exact hp,fun w E v hv=>by rw [e] at hv;exact hv⟩
theorem Js {k:Nat} {d:List T} {h:Heap}:vW (.t (.list k d [])) (.t (.lit (.slice none 0 0))) h:=by
 refine ⟨rfl,fun w E v hv=>?_⟩;have e:V.lend h (.t (.lit (.slice none 0 0))) = .t (.lit (.slice none 0 0)):=rfl;rw [e] at hv;simp only [RdV] at hv ⊢;cases hv;exact .list _ _ _ none 0 (Nat.zero_le _) (Nat.zero_le _) (fun _=>rfl) (by simp) (by simp) (by simp)
theorem Nn {P:Program} {f:FuncId} {cs args cs':List V} {r r':V} (ha:∀ (w:World) (E:Env) v,RdV w E r v→RdV w E r' v) (h:wM P f cs args r cs'):wM P f cs args r' cs' :=
 ⟨h.1,fun w S b ty cells vs h1 h2 h3 h4 h5 h6=>(h.2 w S b ty cells vs h1 h2 h3 h4 h5 h6).mono fun e w' ⟨v,S',ty',cells',k0,k1,k2,k3,k4,k5⟩=>⟨v,S',ty',cells',k0,k1,k2,k3,ha _ _ _ k4,k5⟩⟩
open Go.RowKit
set_option maxRecDepth 4000
structure CueR where
 frm:Int
 upto:Int
 lines:List ByteArray
 deriving Inhabited
structure CueR.fit (c:CueR):Prop where
 frm:I64 c.frm
 upto:I64 c.upto
abbrev vcue (c:CueR):V := .agg [aC c.frm,aC c.upto, .t (yV c.lines)]
def CueR.c (c:CueR):List T:=[ti c.frm,ti c.upto,yV c.lines]
@[go_sem] theorem CueR.ct (c:CueR):(CueR.c c).map V.t = [aC c.frm,aC c.upto, .t (yV c.lines)]:=rfl
@[go_sem] theorem CueR.cl (c:CueR):(CueR.c c).length=3:=rfl
@[go_sem] abbrev vQ (l:List CueR):T := .list 3 (CueR.c default) (l.map CueR.c)
structure SeqR where
 w:Int
 h:Int
 rate:RatR
 inter:Bool
 bits:Int
 buf:Int
 q:Nat→Int
 deriving Inhabited
structure SeqR.fit (s:SeqR):Prop where
 w:I64 s.w
 h:I64 s.h
 rate:s.rate.fit
 bits:I64 s.bits
 buf:I64 s.buf
def quantC (q:Nat→Int):List T:=(List.range 128).map fun i => .lit (.int .u8 (q i))
def SeqR.c (s:SeqR):List T:=[ti s.w,ti s.h,ti s.rate.num,ti s.rate.den,tbl s.inter,ti s.bits,ti s.buf]++quantC s.q
structure MediumR where
 name:ByteArray
 sum:Int
 seq:SeqR
 frames:Int
 channels:Int
 samples:Int
 cues:List CueR
 deriving Inhabited
structure MediumR.fit (m:MediumR):Prop where
 seq:m.seq.fit
 frames:I64 m.frames
 channels:I64 m.channels
 samples:I64 m.samples
 cues:∀ c∈m.cues,c.fit
def MediumR.c (m:MediumR):List T:=[gJ m.name,tu m.sum]++m.seq.c ++ [ti m.frames,ti m.channels,ti m.samples,vQ m.cues]
def dZ (m:MediumR):List V:=(MediumR.c m).map .t
@[go_sem] theorem MediumR.ct (m:MediumR):(MediumR.c m).map V.t=dZ m:=rfl
@[go_sem] theorem MediumR.cl (m:MediumR):(MediumR.c m).length=141:=rfl
@[go_sem] theorem vmed_len (m:MediumR):(dZ m).length=141:=rfl
theorem aP3 (m:MediumR):(dZ m).all V.isCell=true:=by
 rw [List.all_eq_true];intro x hx;unfold dZ at hx;obtain ⟨t,_,rfl⟩:=List.mem_map.1 hx;rfl
attribute [go_sem] aP3
@[go_sem] theorem vmed_0 (m:MediumR):(dZ m)[0]? = some (bM m.name):=rfl
@[go_sem] theorem vmed_1 (m:MediumR):(dZ m)[1]? = some (dS m.sum):=rfl
@[go_sem] theorem aCj (m:MediumR):(dZ m)[137]? = some (aC m.frames):=rfl
@[go_sem] theorem aCh (m:MediumR):(dZ m)[138]? = some (aC m.channels):=rfl
@[go_sem] theorem aCg (m:MediumR):(dZ m)[139]? = some (aC m.samples):=rfl
@[go_sem] theorem vmed_140 (m:MediumR):(dZ m)[140]? = some (.t (vQ m.cues)):=rfl
def vseq (s:SeqR):List V:=(SeqR.c s).map .t
@[go_sem] theorem vseq_len (s:SeqR):(vseq s).length=135:=rfl
theorem aS4 (m:MediumR):List.take 135 (List.drop 2 (dZ m))=vseq m.seq:=rfl
theorem aP2 (m:MediumR):List.take 2 (List.drop 4 (dZ m)) = [aC m.seq.rate.num,aC m.seq.rate.den]:=rfl
theorem aS6 (m:MediumR):List.take 141 (List.drop 0 (dZ m))=dZ m:=rfl
theorem aP4 (m:MediumR):List.take 141 (dZ m)=dZ m:=rfl
attribute [go_sem] aS4 aP2 aS6 aP4
@[go_sem] theorem drop_zmed (f:Value→V):List.drop 141 (List.map f Tryz.z82) = []:=List.drop_of_length_le (by rw [List.length_map,Tryz.zlen82];exact Nat.le_refl _)
structure SequenceR where
 name:ByteArray
 rate:RatR
 w:Int
 h:Int
 video:List (List ClipR)
 sound:List (List ClipR)
 cues:List CueR
 channels:Int
 deriving Inhabited
def dA (t:List ClipR):List T:=[eD t]
@[go_sem] theorem trackC_t (t:List ClipR):(dA t).map V.t = [.t (eD t)]:=rfl
@[go_sem] theorem trackC_l (t:List ClipR):(dA t).length=1:=rfl
@[go_sem] abbrev gF (l:List (List ClipR)):T := .list 1 (dA []) (l.map dA)
def SequenceR.c (s:SequenceR):List T:=[gJ s.name,ti s.rate.num,ti s.rate.den,ti s.w,ti s.h,gF s.video,gF s.sound,vQ s.cues,ti s.channels]
abbrev nP (s:SequenceR):V := .agg [bM s.name,aC s.rate.num,aC s.rate.den,aC s.w,aC s.h, .t (gF s.video), .t (gF s.sound), .t (vQ s.cues),aC s.channels]
@[go_sem] theorem SequenceR.ct (s:SequenceR):(SequenceR.c s).map V.t = [bM s.name,aC s.rate.num,aC s.rate.den,aC s.w,aC s.h, .t (gF s.video), .t (gF s.sound), .t (vQ s.cues),aC s.channels]:=rfl
@[go_sem] theorem SequenceR.cl (s:SequenceR):(SequenceR.c s).length=9:=rfl
structure SequenceR.fit (s:SequenceR):Prop where
 rate:s.rate.fit
 w:I64 s.w
 h:I64 s.h
 video:∀ t∈s.video, ∀ c∈t,c.fit
 sound:∀ t∈s.sound, ∀ c∈t,c.fit
 cues:∀ c∈s.cues,c.fit
 channels:I64 s.channels
structure ProjR where
 media:List MediumR
 seqs:List SequenceR
 deriving Inhabited
structure ProjR.fit (p:ProjR):Prop where
 media:∀ m∈p.media,m.fit
 seqs:∀ s∈p.seqs,s.fit
@[go_sem] abbrev Dn (l:List MediumR):T := .list 141 (MediumR.c default) (l.map MediumR.c)
@[go_sem] abbrev Kv (l:List SequenceR):T := .list 9 (SequenceR.c default) (l.map SequenceR.c)
abbrev rN (p:ProjR):V := .agg [.t (Dn p.media), .t (Kv p.seqs)]
def ProjR.c (p:ProjR):List T:=[Dn p.media,Kv p.seqs]
open Go.RowKit
set_option maxRecDepth 4000
def Tp (c:CueR):Bool:=decide (0≤c.frm)&&decide (c.frm<c.upto)&&decide (c.upto≤2147483647)&&decide (1≤c.lines.length)&&decide (c.lines.length≤4)
def Ez (c:CueR):Bool:=Tp c&&c.lines.all kL
theorem cPCue (c:CueR) (h:c.fit):aM Tryz.prog 242 [vcue c] (aS (Ez c)):=by
 obtain ⟨⟨f1,f2⟩,⟨t1,t2⟩⟩:=h;refine aH Tryz.X242 Tryz.func242 rfl Tryz.ntmps242 (by rw [Tryz.results242]) (aD _ ?_);simp only [go_sem,simprocAttr];refine brW (b := !Tp c) ?_ ⟨fun hb=>?_,fun hb=>?_⟩
 ·unfold Tp;rw [Bool.eq_iff_iff];simp only [decide_eq_true_eq,decide_eq_false_iff_not,Bool.or_eq_true,Bool.and_eq_false_iff,Bool.not_eq_eq_eq_not,Bool.not_true];omega
 ·unfold awS;simp only [go_sem,simprocAttr];unfold Ez;rw [nt hb];rfl
 ·have hk:=nf hb;unfold Tp at hk;simp only [decide_eq_true_eq,Bool.and_eq_true] at hk;unfold awS;simp only [go_sem,simprocAttr];refine aF (fun (k:Nat) σ => cJ 35 (aC k) σ) (fun k=>k≤c.lines.length ∧ ∀ i,i<k→kL (c.lines.getD i default)=true) (fun k=>c.lines.length - k) 0 (aB ?_) ⟨Nat.zero_le _,by omega⟩ ?_
  ·simp only [go_sem,simprocAttr]<;>simp
  ·rintro k ⟨hk1,hi⟩;refine aD _ ?_;simp only [go_sem,simprocAttr];refine ⟨fun hlt=>?_,fun hge=>?_⟩
   ·simp only [decide_eq_true_eq] at hlt;unfold awS;simp only [go_sem,simprocAttr];refine ⟨⟨by omega,by omega⟩,_,aWd _,?_⟩;simp only [go_sem];refine brW (b := !kL (c.lines.getD k default)) ?_ ⟨fun hc=>?_,fun hc=>?_⟩
    ·rfl
    ·unfold awS;simp only [go_sem,simprocAttr];unfold Ez;rw [gG (d:=default) (p:=kL) (k:=k) (by omega) (nt hc),Bool.and_false]
    ·unfold awS;simp only [go_sem,simprocAttr];refine ⟨k+1,aB ?_,⟨by omega,upto hi (nf hc)⟩,by omega⟩;simp only [go_sem,simprocAttr]<;>simp [bX (show k<9223372036854775807 by omega)]
   ·simp only [decide_eq_false_iff_not] at hge;unfold awS;simp only [go_sem,simprocAttr];unfold Ez;rw [nf hb,dE (d:=default) (p:=kL) (fun i h2=>hi i (by omega))];rfl
def Au (l:List CueR):Bool:=l.all Ez
theorem aWf (l:List CueR) (h:∀ c∈l,c.fit):aM Tryz.prog 199 [.t (vQ l)] (aS (Au l)):=by
 refine aH Tryz.X199 Tryz.func199 rfl Tryz.ntmps199 (by rw [Tryz.results199]) (fD fun hf=>aD _ ?_);simp only [go_sem,simprocAttr,kW] at hf;have hla:l.length≤maxLen:=hf.1;simp only [go_sem,simprocAttr];refine aF (fun (k:Nat) σ => cJ 7 (aC k) σ) (fun k=>k≤l.length ∧ ∀ i,i<k→Ez (l.getD i default)=true) (fun k=>l.length - k) 0 (aB ?_) ⟨Nat.zero_le _,by omega⟩ ?_
 ·simp only [go_sem,simprocAttr]<;>simp
 ·rintro k ⟨hk1,hi⟩;refine aD _ ?_;simp only [go_sem,simprocAttr];refine ⟨fun hlt=>?_,fun hge=>?_⟩
  ·simp only [decide_eq_true_eq] at hlt;unfold awS;simp only [go_sem,simprocAttr];refine ⟨⟨by omega,by omega⟩,_,cPCue _ (h _ (aW (by omega))),?_⟩;simp only [go_sem];refine brW (b := !Ez (l.getD k default)) ?_ ⟨fun hc=>?_,fun hc=>?_⟩
   ·rfl
   ·unfold awS;simp only [go_sem,simprocAttr];unfold Au;rw [gG (d:=default) (p:=Ez) (k:=k) (by omega) (nt hc)]
   ·unfold awS;simp only [go_sem,simprocAttr];refine ⟨k+1,aB ?_,⟨by omega,upto hi (nf hc)⟩,by omega⟩;simp only [go_sem,simprocAttr]<;>simp [dV (show k<l.length by omega) hla]
  ·simp only [decide_eq_false_iff_not] at hge;unfold awS;simp only [go_sem,simprocAttr];unfold Au;rw [dE (d:=default) (p:=Ez) (fun i h2=>hi i (by omega))]
def aAu (r:RatR):Bool:=gD r&&decide (0<r.num)
theorem aWc (r:RatR) (h:r.fit):aM Tryz.prog 196 [Cr r] (aS (aAu r)):=by
 refine aH Tryz.X196 Tryz.func196 rfl Tryz.ntmps196 (by rw [Tryz.results196]) (aD _ ?_);simp only [go_sem,simprocAttr];refine ⟨_,Ug r h,?_⟩;simp only [go_sem,simprocAttr]<;>rfl
def Hn (n:Int):Bool:=decide (0≤n)&&decide (n≤2147483647)
theorem aNf (n:Int):aM Tryz.prog 197 [aC n] (aS (Hn n)):=by
 refine aH Tryz.X197 Tryz.func197 rfl Tryz.ntmps197 (by rw [Tryz.results197]) (aD _ ?_);simp only [go_sem,simprocAttr]<;>rfl
def Kp (n:Int):Bool:=decide (0≤n)&&decide (n≤4)
theorem Mq (n:Int):aM Tryz.prog 198 [aC n] (aS (Kp n)):=by
 refine aH Tryz.X198 Tryz.func198 rfl Tryz.ntmps198 (by rw [Tryz.results198]) (aD _ ?_);simp only [go_sem,simprocAttr]<;>rfl
def Jg (n:Int):Bool:=decide (16≤n)&&decide (n≤64)&&decide (n % 16=0)
theorem aWa (n:Int):aM Tryz.prog 201 [aC n,aC 64] (aS (Jg n)):=by
 refine aH Tryz.X201 Tryz.func201 rfl Tryz.ntmps201 (by rw [Tryz.results201]) (aD _ ?_);simp only [go_sem,↓reduceIte,Nat.reduceAdd,Nat.reduceSub];refine ⟨fun _=>by decide,?_⟩;have:(decide (n ≥ 16)&&decide (n≤64)&&n.tmod 16==0)=Jg n:=by
  unfold Jg
  by_cases h : 16≤n
  ·rw [Int.tmod_eq_emod_of_nonneg (by omega)];rfl
  ·simp [h]
 rw [this]
def fC (m:MediumR):Bool:=aT m.name&&aAu m.seq.rate&&Hn m.frames&&Hn m.samples&&Kp m.channels&&Au m.cues
theorem cPMed (m:MediumR) (h:m.fit):aM Tryz.prog 141 [.agg (dZ m)] (aS (!fC m)):=by
 refine aH Tryz.X141 Tryz.func141 rfl Tryz.ntmps141 (by rw [Tryz.results141]) (aD _ ?_);simp only [go_sem,simprocAttr];refine ⟨_,vM m.name,?_⟩;simp only [go_sem,simprocAttr];refine ⟨_,fun _=>aWc m.seq.rate h.seq.rate,?_⟩;simp only [go_sem,simprocAttr];refine ⟨_,fun _=>aNf m.frames,?_⟩;simp only [go_sem,simprocAttr];refine ⟨_,fun _=>aNf m.samples,?_⟩;simp only [go_sem,simprocAttr];refine ⟨_,fun _=>Mq m.channels,?_⟩;simp only [go_sem,simprocAttr];refine ⟨_,fun _=>aWf m.cues h.cues,?_⟩;simp only [go_sem,simprocAttr];unfold fC;simp only [Bool.not_and]
def pJ (c:ClipR):Bool:=c.gain==0&&(c.chan.length:Int)==0
theorem aWb (c:ClipR):aM Tryz.prog 203 [qG c] (aS (pJ c)):=by
 refine aH Tryz.X203 Tryz.func203 rfl Tryz.ntmps203 (by rw [Tryz.results203]) (aD _ ?_);simp only [go_sem,simprocAttr]<;>rfl
def yF (ch:Int) (c:ClipR):Bool:=c.kind==0||((c.kind==1||c.kind==2)&&(!c.a.smooth && !c.b.smooth&&(c.chan.length:Int)==ch))
theorem aRg (c:ClipR) (ch:Int):aM Tryz.prog 205 [qG c,aC ch] (aS (yF ch c)):=by
 refine aH Tryz.X205 Tryz.func205 rfl Tryz.ntmps205 (by rw [Tryz.results205]) (aD _ ?_);simp only [go_sem,simprocAttr];refine ⟨fun h0=>?_,fun h0=>?_⟩
 ·unfold awS;simp only [go_sem,simprocAttr];unfold yF;rw [h0];rfl
 ·unfold awS;simp only [go_sem,simprocAttr];refine ⟨fun h1=>?_,fun h1=>?_⟩
  ·unfold awS;simp only [go_sem,simprocAttr,h1];unfold yF;rw [h0,h1];simp
  ·unfold awS;simp only [go_sem,simprocAttr];refine ⟨fun h2=>?_,fun h2=>?_⟩
   ·unfold awS;simp only [go_sem,simprocAttr];unfold yF;rw [h0,h1,h2];simp
   ·unfold awS;simp only [go_sem,simprocAttr];unfold yF;rw [h0,h1,h2];rfl
open Go.RowKit
set_option maxRecDepth 4000
abbrev Ent:=Value×Bool×List T
def sR (k:Value) (m:Bool×List T):List Ent→List Ent
 | []=>[(k,m)]
 | e::es=>if nD k e.1=true then (k,m)::es else e::sR k m es
theorem vV (k:Value) (m:Bool×List T):∀ es:List Ent,Cs k (mkV m) (tEs es)=tEs (sR k m es)
 | []=>rfl
 | e::es=>by
  have h:=vV k m es;unfold tEs at h ⊢;simp only [List.map_cons,Cs,sR];split
  ·rfl
  ·rw [h];rfl
theorem aLz:∀ ts:List T,V.pures (ts.map .t)=true
 | []=>rfl
 | t::ts=>by simp only [List.map_cons,V.pures,V.pure,aLz ts,Bool.and_self]
theorem aF0:∀ m:Bool×List T,(mkV m).pure=true
 | (true,ts)=>by simp only [mkV,V.pure,aLz]
 | (false,[])=>rfl
 | (false,[t])=>rfl
 | (false,_::_::_)=>rfl
@[go_sem] theorem aJn:∀ es:List Ent,vG (tEs es)=True
 | []=>rfl
 | e::es=>by
  have h:=aJn es;unfold tEs at h ⊢;simp only [List.map_cons,vG,aF0,h,and_self]
@[go_sem] theorem tEs_nil:tEs [] = []:=rfl
def Cv (es:List Ent):Prop := ∀ e∈es, ∃ s:ByteArray,e.1 = .string s
theorem aPd:Cv []:=fun e h=>by cases h
theorem Wg {n:ByteArray} {m:Bool×List T}:∀ {es:List Ent},Cv es→Cv (sR (.string n) m es)
 | [],_=>fun e h=>by simp only [sR,List.mem_singleton] at h;subst h;exact ⟨n,rfl⟩
 | e0::es,h=>by
  unfold sR;split
  ·intro e he;rcases List.mem_cons.1 he with rfl | he
   ·exact ⟨n,rfl⟩
   ·exact h e (by simp [he])
  ·intro e he;rcases List.mem_cons.1 he with rfl | he
   ·exact h _ (by simp)
   ·exact Wg (fun e he=>h e (by simp [he])) e he
theorem tZ {es:List Ent} (h:Cv es):rD .string es=true:=by
 induction es with
 | nil=>rfl
 | cons e es ih =>
  obtain ⟨s,hs⟩:=h e (by simp);simp only [rD,hs,gX,ih fun e he=>h e (by simp [he]),Bool.and_self]
theorem Xz {n n':ByteArray} {m:Bool×List T}:∀ {es:List Ent},Cv es→qJ (.string n) (sR (.string n') m es)=if n=n' then some (mkV m) else qJ (.string n) es
 | [],_=>by simp only [sR,qJ,nD,decide_eq_true_eq]
 | e0::es,h=>by
  obtain ⟨s,hs⟩:=h e0 (by simp);obtain ⟨k0,m0⟩:=e0;simp only at hs;subst hs;have ih:=Xz (n:=n) (n':=n') (m:=m) (es:=es) fun e he=>h e (by simp [he])
  simp only [sR,nD,decide_eq_true_eq];split
  ·rename_i h1;subst h1;simp only [qJ,nD,decide_eq_true_eq];split<;>rfl
  ·rename_i h1;simp only [qJ,nD,decide_eq_true_eq,ih];split
   ·rename_i h2;subst h2;rw [if_neg (fun h=>h1 h.symm)]
   ·rfl
def kG {α : Type} (nm : α → ByteArray) (c : α → Bool×List T) (l:List α):List Ent:=l.foldl (fun es x=>sR (.string (nm x)) (c x) es) []
theorem xJ {α : Type} (nm : α → ByteArray) (c : α → Bool×List T) (l:List α) (x : α):kG nm c (l ++ [x])=sR (.string (nm x)) (c x) (kG nm c l):=by
 unfold kG;rw [List.foldl_append];rfl
theorem nW {α : Type} (nm : α → ByteArray) (c : α → Bool×List T) (l:List α):Cv (kG nm c l):=by
 unfold kG;have:∀ (l:List α) (es:List Ent),Cv es→Cv (l.foldl (fun es x=>sR (.string (nm x)) (c x) es) es):=by
  intro l
  induction l with
  | nil=>intro es h;exact h
  | cons x l ih=>intro es h;exact ih _ (Wg h)
 exact this l [] aPd
theorem cA {α : Type} [Inhabited α] {l:List α} {k:Nat} (h:k<l.length):l.take (k+1)=l.take k ++ [l.getD k default]:=by
 rw [List.take_add_one,List.getElem?_eq_getElem h,aJ h];rfl
theorem xH {α : Type} [Inhabited α] (nm : α → ByteArray) (c : α → Bool×List T) {l:List α} {k:Nat} (h:k<l.length):kG nm c (l.take (k+1))=sR (.string (nm (l.getD k default))) (c (l.getD k default)) (kG nm c (l.take k)):=by
 rw [cA h,xJ]
def eU {α : Type} (nm : α → ByteArray) (n:ByteArray):List α → Option α
 | []=>none
 | x::l=>match eU nm n l with
  | some y=>some y
  | none=>if n=nm x then some x else none
theorem Ly {α : Type} (nm : α → ByteArray) (n:ByteArray) (x : α):∀ l:List α,eU nm n (l ++ [x])=if n=nm x then some x else eU nm n l
 | []=>by simp only [List.nil_append,eU]
 | y::l=>by
  simp only [List.cons_append,eU,Ly nm n x l]
  by_cases h:n=nm x
  ·rw [if_pos h,if_pos h]
  ·rw [if_neg h,if_neg h]
theorem cV {α : Type} {nm : α → ByteArray} {n:ByteArray}:∀ {l:List α} {x : α},eU nm n l=some x→x∈l∧nm x=n
 | y::l,x,h=>by
  simp only [eU] at h;split at h
  ·rename_i z hz;injection h with h;subst h;obtain ⟨h1,h2⟩:=cV hz;exact ⟨by simp [h1],h2⟩
  ·split at h
   ·injection h with h;subst h;rename_i hn;exact ⟨by simp,hn.symm⟩
   ·cases h
theorem gW {α : Type} {nm : α → ByteArray} {n:ByteArray}:∀ {l:List α},eU nm n l=none ↔ ∀ x∈l,nm x≠n
 | []=>by simp [eU]
 | y::l=>by
  have ih:=gW (nm:=nm) (n:=n) (l:=l);simp only [eU,List.mem_cons,forall_eq_or_imp];split
  ·rename_i z hz;obtain ⟨h1,h2⟩:=cV hz;constructor
   ·intro h;cases h
   ·rintro ⟨_,h⟩;exact (h z h1 h2).elim
  ·rename_i hz;split
   ·rename_i hn;constructor
    ·intro h;cases h
    ·rintro ⟨h,_⟩;exact (h hn.symm).elim
   ·rename_i hn;exact ⟨fun _=>⟨fun h=>hn h.symm,ih.1 hz⟩,fun _=>rfl⟩
theorem rU {α : Type} (nm : α → ByteArray) (c : α → Bool×List T) (n:ByteArray) (l:List α):qJ (.string n) (kG nm c l)=(eU nm n l).map fun x=>mkV (c x):=by
 have:∀ (r:List α),qJ (.string n) (kG nm c r.reverse)=(eU nm n r.reverse).map fun x=>mkV (c x):=by
  intro r
  induction r with
  | nil=>rfl
  | cons x r ih =>
   rw [List.reverse_cons,xJ,Xz (nW nm c _),Ly,ih];split<;>rfl
 have h:=this l.reverse;rwa [List.reverse_reverse] at h
def aBs (r:List ByteArray) (n:ByteArray):Bool:=r.any fun m=>decide (m=n)
theorem Ak {r:List ByteArray} {n:ByteArray}:aBs r n=true ↔ n∈r:=by
 unfold aBs;rw [List.any_eq_true];constructor
 ·rintro ⟨m,h1,h2⟩;rw [decide_eq_true_eq] at h2;subst h2;exact h1
 ·intro h;exact ⟨n,h,by simp⟩
def qY:List ByteArray→List ByteArray:=fun l=>l.foldl (fun r n=>if aBs r n=true then r else r ++ [n]) []
theorem vX (l:List ByteArray) (n:ByteArray):qY (l ++ [n])=if aBs (qY l) n=true then qY l else qY l ++ [n]:=by
 unfold qY;rw [List.foldl_append];rfl
def Ds (v:Value):ByteArray :=
 match v with
 | .string s=>s
 | _=>⟨#[]⟩
theorem aFg {n:ByteArray} {m:Bool×List T}:∀ {es:List Ent},Cv es→(sR (.string n) m es).map (fun e=>Ds e.1)=if aBs (es.map fun e=>Ds e.1) n=true then es.map (fun e=>Ds e.1) else es.map (fun e=>Ds e.1) ++ [n]
 | [],_=>rfl
 | e0::es,h=>by
  obtain ⟨s,hs⟩:=h e0 (by simp);obtain ⟨k0,m0⟩:=e0;simp only at hs;subst hs;have ih:=aFg (n:=n) (m:=m) (es:=es) fun e he=>h e (by simp [he])
  simp only [sR,nD,decide_eq_true_eq]
  by_cases h1:n=s
  ·subst h1;rw [if_pos rfl];have:aBs (List.map (fun e:Ent=>Ds e.1) ((Value.string n,m0)::es)) n=true:=Ak.2 (by simp [Ds]);rw [if_pos this];rfl
  ·rw [if_neg h1];have h2:aBs (List.map (fun e:Ent=>Ds e.1) ((Value.string s,m0)::es)) n=aBs (List.map (fun e:Ent=>Ds e.1) es) n:=by
    simp only [List.map_cons,aBs,List.any_cons,Ds];rw [decide_eq_false (fun h=>h1 h.symm),Bool.false_or]
   rw [h2,List.map_cons,ih];split<;>rfl
theorem Se {α : Type} (nm : α → ByteArray) (c : α → Bool×List T) (l:List α):(kG nm c l).map (fun e=>Ds e.1)=qY (l.map nm):=by
 have:∀ (r:List α),(kG nm c r.reverse).map (fun e=>Ds e.1)=qY (r.reverse.map nm):=by
  intro r
  induction r with
  | nil=>rfl
  | cons x r ih=>rw [List.reverse_cons,xJ,aFg (nW nm c _),List.map_append,List.map_cons,List.map_nil,vX,ih]
 have h:=this l.reverse;rwa [List.reverse_reverse] at h
theorem rT {l:List ByteArray} {n:ByteArray}:n∈qY l ↔ n∈l:=by
 have:∀ (r:List ByteArray),n∈qY r.reverse ↔ n∈r.reverse:=by
  intro r
  induction r with
  | nil=>simp [qY]
  | cons x r ih =>
   rw [List.reverse_cons,vX];split
   ·rename_i h;rw [Ak] at h;rw [List.mem_append,ih,List.mem_singleton];constructor
    ·exact .inl
    ·rintro (h1 | rfl)
     ·exact h1
     ·exact ih.1 h
   ·rw [List.mem_append,List.mem_append,ih]
 have h:=this l.reverse;rwa [List.reverse_reverse] at h
theorem tR (l:List ByteArray):(qY l).Nodup:=by
 have:∀ (r:List ByteArray),(qY r.reverse).Nodup:=by
  intro r
  induction r with
  | nil=>exact List.nodup_nil
  | cons x r ih =>
   rw [List.reverse_cons,vX];split
   ·exact ih
   ·rename_i h;rw [Ak] at h;exact List.nodup_append.2 ⟨ih,by simp,fun a ha b hb=>by simp at hb;subst hb;exact fun e=>h (e ▸ ha)⟩
 have h:=this l.reverse;rwa [List.reverse_reverse] at h
theorem pQ (l:List ByteArray):(qY l).length≤l.length:=by
 have:∀ (r:List ByteArray),(qY r.reverse).length≤r.reverse.length:=by
  intro r
  induction r with
  | nil=>exact Nat.le_refl _
  | cons x r ih =>
   rw [List.reverse_cons,vX];split<;>simp only [List.length_append,List.length_cons,List.length_nil]<;>omega
 have h:=this l.reverse;rwa [List.reverse_reverse] at h
theorem yK (l:List ByteArray):(qY l).length<l.length ↔ ¬ l.Nodup:=by
 have:∀ (r:List ByteArray),(qY r.reverse).length<r.reverse.length ↔ ¬ r.reverse.Nodup:=by
  intro r
  induction r with
  | nil=>simp [qY]
  | cons x r ih =>
   rw [List.reverse_cons,vX];have hle:=pQ r.reverse;have hnd:(r.reverse ++ [x]).Nodup ↔ r.reverse.Nodup∧x ∉ r.reverse:=by
    rw [List.nodup_append];constructor
    ·rintro ⟨h1,_,h2⟩;exact ⟨h1,fun hx=>h2 x hx x (by simp) rfl⟩
    ·rintro ⟨h1,h2⟩;exact ⟨h1,by simp,fun a ha b hb=>by simp at hb;subst hb;exact fun e=>h2 (e ▸ ha)⟩
   split
   ·rename_i h;rw [Ak,rT] at h;rw [hnd];simp only [List.length_append,List.length_cons,List.length_nil];exact ⟨fun _ h2=>h2.2 h,fun _=>by omega⟩
   ·rename_i h;rw [Ak,rT] at h;rw [hnd];simp only [List.length_append,List.length_cons,List.length_nil];constructor
    ·intro h1 h2;exact (ih.1 (by omega)) h2.1
    ·intro h1;have:=ih.2 (fun h2=>h1 ⟨h2,h⟩);omega
 have h:=this l.reverse;rwa [List.reverse_reverse] at h
theorem Gr {α : Type} (nm : α → ByteArray) (c : α → Bool×List T) (l:List α):(kG nm c l).length=(qY (l.map nm)).length:=by
 have:=congrArg List.length (Se nm c l);simpa using this
theorem Tj {k:Value} {m:Bool×List T} (hm:(m.1||m.2.length==1)=true):∀ {es:List Ent},uD es=true→uD (sR k m es)=true
 | [],_=>by simp only [sR,uD,List.all_cons,hm,List.all_nil,Bool.and_self]
 | e::es,h=>by
  unfold uD at h;simp only [List.all_cons,Bool.and_eq_true] at h;unfold sR;split
  ·unfold uD;simp only [List.all_cons,hm,Bool.true_and];exact h.2
  ·have:=Tj (k:=k) hm (es:=es) h.2;unfold uD at this ⊢;simp only [List.all_cons,h.1,this,Bool.and_self]
theorem sU {α : Type} (nm : α → ByteArray) (c : α → Bool×List T) (hc:∀ x,((c x).1||(c x).2.length==1)=true) (l:List α):uD (kG nm c l)=true:=by
 unfold kG;have:∀ (l:List α) (es:List Ent),uD es=true→uD (l.foldl (fun es x=>sR (.string (nm x)) (c x) es) es)=true:=by
  intro l
  induction l with
  | nil=>intro es h;exact h
  | cons x l ih=>intro es h;exact ih _ (Tj (hc x) h)
 exact this l [] rfl
def medC (m:MediumR):Bool×List T:=(true,MediumR.c m)
def seqC (s:SequenceR):Bool×List T:=(true,SequenceR.c s)
def Vr (l:List MediumR):List Ent:=kG MediumR.name medC l
def Uc (l:List SequenceR):List Ent:=kG SequenceR.name seqC l
@[go_sem] theorem mkV_med (m:MediumR):mkV (medC m) = .agg (dZ m):=rfl
@[go_sem] theorem mkV_seq (s:SequenceR):mkV (seqC s)=nP s:=rfl
abbrev nC (l:List MediumR) (n:ByteArray):Option MediumR:=eU MediumR.name n l
abbrev bL (l:List SequenceR) (n:ByteArray):Option SequenceR:=eU SequenceR.name n l
abbrev aS8 (p:ProjR):V := .agg [.t (.map (Vr p.media)), .t (.map (Uc p.seqs))]
end Go.Proofs.YtbfnemkngoaeeaaGreat
