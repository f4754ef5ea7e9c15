/- Proved here: Arguments whose nil slices are read as empty lists; conditions stand in each theorem. -/
import Derived.Test.YtbfnemkngoaeeaaGreatQ07
import Derived.Test.YtbfnemkngoaeeaaGreatQ06
import Derived.Test.YtbfnemkngoaeeaaGreatQ08
import Derived.Test.YtbfnemkngoaeeaaGreatQ10
set_option linter.unusedSimpArgs false
set_option linter.unusedVariables false
set_option linter.unusedSectionVars false
set_option linter.unnecessarySimpa false
namespace Go.Proofs.YtbfnemkngoaeeaaGreat
open Go.RowKit
set_option maxRecDepth 4000
def aDv:List V→List V→Prop
 | [],[]=>True
 | x::xs,y::ys=>(x=y∨(x = .t (.lit (.slice none 0 0)) ∧ ∃ k d,y = .t (.list k d [])))∧aDv xs ys
 | _,_=>False
theorem Jv {w:World} {E:Env}:∀ {xs ys:List V} {vs:List Value},aDv xs ys→RdVs w E xs vs→RdVs w E ys vs
 | [],[],_,_,h=>h
 | x::xs,y::ys,[],_,h=>by simp only [RdVs] at h
 | x::xs,y::ys,v::vs,hn,h=>by
  simp only [RdVs] at h ⊢;refine ⟨?_,Jv hn.2 h.2⟩;rcases hn.1 with rfl | ⟨rfl,k,d,rfl⟩
  ·exact h.1
  ·have h1:=h.1;simp only [RdV] at h1 ⊢;cases h1;exact .list _ _ _ none 0 (Nat.zero_le _) (Nat.zero_le _) (fun _=>rfl) (by simp) (by simp) (by simp)
 | [],_::_,_,hn,_=>hn.elim
 | _::_,[],_,hn,_=>hn.elim
def asTs:List T→List T→Prop
 | [],[]=>True
 | x::xs,y::ys=>(x=y∨(x = .lit (.slice none 0 0) ∧ ∃ k d,y = .list k d []))∧asTs xs ys
 | _,_=>False
def Ux:List (List T)→List (List T)→Prop
 | [],[]=>True
 | x::xs,y::ys=>asTs x y∧Ux xs ys
 | _,_=>False
theorem Gh:∀ {xs ys:List T},asTs xs ys→xs.length=ys.length ∧ ∀ (j:Nat) y,ys[j]? = some y → ∃ x,xs[j]? = some x ∧ ∀ (w:World) (S:Nat→Prop) (v:Value),RdT w S x v→RdT w S y v
 | [],[],_=>by simp
 | x::xs,y::ys,h=>by
  obtain ⟨h1,h2⟩:=Gh h.2;refine ⟨by simp [h1],fun j z hz=>?_⟩;cases j with
  | zero =>
   simp at hz;subst hz;refine ⟨x,by simp,fun w S v hv=>?_⟩;rcases h.1 with rfl | ⟨rfl,k,d,rfl⟩
   ·exact hv
   ·cases hv;exact .list _ _ _ none 0 (Nat.zero_le _) (Nat.zero_le _) (fun _=>rfl) (by simp) (by simp) (by simp)
  | succ j =>
   obtain ⟨u,q1,q2⟩:=h2 j z (by simpa using hz);exact ⟨u,by simpa using q1,q2⟩
 | [],_::_,h=>h.elim
 | _::_,[],h=>h.elim
theorem Rw:∀ {xs ys:List (List T)},Ux xs ys→xs.length=ys.length ∧ ∀ (j:Nat) y,ys[j]? = some y → ∃ x,xs[j]? = some x∧asTs x y
 | [],[],_=>by simp
 | x::xs,y::ys,h=>by
  obtain ⟨h1,h2⟩:=Rw h.2;refine ⟨by simp [h1],fun j z hz=>?_⟩;cases j with
  | zero=>simp at hz;subst hz;exact ⟨x,by simp,h.1⟩
  | succ j =>
   obtain ⟨u,q1,q2⟩:=h2 j z (by simpa using hz);exact ⟨u,by simpa using q1,q2⟩
 | [],_::_,h=>h.elim
 | _::_,[],h=>h.elim
theorem aKc {w:World} {S:Nat→Prop} {k:Nat} {d d':List T} {xs ys:List (List T)} {v:Value} (ha:Ux xs ys) (h:RdT w S (.list k d xs) v):RdT w S (.list k d' ys) v:=by
 obtain ⟨hl,hat⟩:=Rw ha;cases h with
 | list _ _ _ A c hm hc hn hk hb hr =>
  rw [hl];refine .list _ _ _ A c (by omega) (by omega) hn ?_ ?_ ?_
  ·intro e he;obtain ⟨i,hi,rfl⟩:=List.mem_iff_getElem.1 he;obtain ⟨x,q1,q2⟩:=hat i _ (List.getElem?_eq_getElem hi);rw [← (Gh q2).1];exact hk x (List.mem_of_getElem? q1)
  ·intro i e he;obtain ⟨x,q1,q2⟩:=hat i e he;obtain ⟨b,off,q3,q4,q5⟩:=hb i x q1;refine ⟨b,off,q3,q4,fun j y hy=>?_⟩;obtain ⟨u,q6,_⟩:=(Gh q2).2 j y hy;exact q5 j u q6
  ·intro i e j y b off u he hy hA hu;obtain ⟨x,q1,q2⟩:=hat i e he;obtain ⟨z,q6,q7⟩:=(Gh q2).2 j y hy;exact q7 _ _ _ (hr i x j z b off u q1 q6 hA hu)
def AsVs (xs ys:List V):Prop := ∀ (w:World) (E:Env) (vs:List Value),RdVs w E xs vs→RdVs w E ys vs
theorem nL {P:Program} {f:FuncId} {args args':List V} {r:V} (ha:AsVs args' args) (h:aN P f args r):aN P f args' r :=
 ⟨h.1,fun w S vs hS hv=>h.2 w S vs hS (ha _ _ _ hv)⟩
theorem AsVs.cons {x y:V} {xs ys:List V} (h1:∀ (w:World) (E:Env) v,RdV w E x v→RdV w E y v) (h2:AsVs xs ys):AsVs (x::xs) (y::ys):=by
 intro w E vs h;cases vs with
 | nil=>simp only [RdVs] at h
 | cons v vs =>
  simp only [RdVs] at h ⊢;exact ⟨h1 _ _ _ h.1,h2 _ _ _ h.2⟩
theorem AsVs.nil:AsVs [] []:=fun _ _ _ h=>h
theorem yA {x:V}:∀ (w:World) (E:Env) v,RdV w E x v→RdV w E x v:=fun _ _ _ h=>h
theorem Uw {k:Nat} {d d':List T} {xs ys:List (List T)} (ha:Ux xs ys):∀ (w:World) (E:Env) v,RdV w E (.t (.list k d xs)) v→RdV w E (.t (.list k d' ys)) v:=by
 intro w E v h;simp only [RdV] at h ⊢;exact aKc ha h
theorem aCr {xs ys:List V} (ha:aDv xs ys):∀ (w:World) (E:Env) v,RdV w E (.agg xs) v→RdV w E (.agg ys) v:=by
 intro w E v h;simp only [RdV] at h ⊢;obtain ⟨vs,rfl,q1,q2⟩:=h;exact ⟨vs,rfl,Jv ha q1,q2⟩
theorem dW {r x:V} {h:Heap} (e:x.lend h=r) (hp:r.pure=true):Jk r x h:=⟨by rw [e];exact hp,fun w E v hv=>by rw [e] at hv;exact hv⟩
theorem Cm {k:Nat} {d:List T} {h:Heap}:Jk (.t (.list k d [])) (.t (.lit (.slice none 0 0))) h:=by
 refine ⟨rfl,fun w E v hv=>?_⟩;have e:V.lend h (.t (.lit (.slice none 0 0))) = .t (.lit (.slice none 0 0)):=rfl;rw [e] at hv;simp only [RdV] at hv ⊢;cases hv;exact .list _ _ _ none 0 (Nat.zero_le _) (Nat.zero_le _) (fun _=>rfl) (by simp) (by simp) (by simp)
theorem Gf {P:Program} {f:FuncId} {cs args cs':List V} {r r':V} (ha:∀ (w:World) (E:Env) v,RdV w E r v→RdV w E r' v) (h:uA P f cs args r cs'):uA P f cs args r' cs' :=
 ⟨h.1,fun w S b ty cells vs h1 h2 h3 h4 h5 h6=>(h.2 w S b ty cells vs h1 h2 h3 h4 h5 h6).mono fun e w' ⟨v,S',ty',cells',k0,k1,k2,k3,k4,k5⟩=>⟨v,S',ty',cells',k0,k1,k2,k3,ha _ _ _ k4,k5⟩⟩
open Go.RowKit
set_option maxRecDepth 4000
structure CueR where
 frm:Int
 upto:Int
 lines:List ByteArray
 deriving Inhabited
structure CueR.fit (c:CueR):Prop where
 frm:I64 c.frm
 upto:I64 c.upto
abbrev vcue (c:CueR):V := .agg [aC c.frm,aC c.upto, .t (uU c.lines)]
def CueR.c (c:CueR):List T:=[ti c.frm,ti c.upto,uU c.lines]
@[go_sem] theorem CueR.ct (c:CueR):(CueR.c c).map V.t = [aC c.frm,aC c.upto, .t (uU c.lines)]:=rfl
@[go_sem] theorem CueR.cl (c:CueR):(CueR.c c).length=3:=rfl
@[go_sem] abbrev fA (l:List CueR):T := .list 3 (CueR.c default) (l.map CueR.c)
structure SeqR where
 w:Int
 h:Int
 rate:RatR
 inter:Bool
 bits:Int
 buf:Int
 q:Nat→Int
 deriving Inhabited
structure SeqR.fit (s:SeqR):Prop where
 w:I64 s.w
 h:I64 s.h
 rate:s.rate.fit
 bits:I64 s.bits
 buf:I64 s.buf
def aBe (q:Nat→Int):List T:=(List.range 128).map fun i => .lit (.int .u8 (q i))
def SeqR.c (s:SeqR):List T:=[ti s.w,ti s.h,ti s.rate.num,ti s.rate.den,tbl s.inter,ti s.bits,ti s.buf]++aBe s.q
structure MediumR where
 name:ByteArray
 sum:Int
 seq:SeqR
 frames:Int
 channels:Int
 samples:Int
 cues:List CueR
 deriving Inhabited
structure MediumR.fit (m:MediumR):Prop where
 seq:m.seq.fit
 frames:I64 m.frames
 channels:I64 m.channels
 samples:I64 m.samples
 cues:∀ c∈m.cues,c.fit
def MediumR.c (m:MediumR):List T:=[eX m.name,tu m.sum]++m.seq.c ++ [ti m.frames,ti m.channels,ti m.samples,fA m.cues]
def dA (m:MediumR):List V:=(MediumR.c m).map .t
@[go_sem] theorem MediumR.ct (m:MediumR):(MediumR.c m).map V.t=dA m:=rfl
@[go_sem] theorem MediumR.cl (m:MediumR):(MediumR.c m).length=141:=rfl
@[go_sem] theorem vmed_len (m:MediumR):(dA m).length=141:=rfl
theorem aFb (m:MediumR):(dA m).all V.isCell=true:=by
 rw [List.all_eq_true];intro x hx;unfold dA at hx;obtain ⟨t,_,rfl⟩:=List.mem_map.1 hx;rfl
attribute [go_sem] aFb
@[go_sem] theorem vmed_0 (m:MediumR):(dA m)[0]? = some (bP m.name):=rfl
@[go_sem] theorem vmed_1 (m:MediumR):(dA m)[1]? = some (dB m.sum):=rfl
@[go_sem] theorem aJ6 (m:MediumR):(dA m)[137]? = some (aC m.frames):=rfl
@[go_sem] theorem aJ5 (m:MediumR):(dA m)[138]? = some (aC m.channels):=rfl
@[go_sem] theorem aJ4 (m:MediumR):(dA m)[139]? = some (aC m.samples):=rfl
@[go_sem] theorem vmed_140 (m:MediumR):(dA m)[140]? = some (.t (fA m.cues)):=rfl
def aAp (s:SeqR):List V:=(SeqR.c s).map .t
@[go_sem] theorem vseq_len (s:SeqR):(aAp s).length=135:=rfl
theorem aJ2 (m:MediumR):List.take 135 (List.drop 2 (dA m))=aAp m.seq:=rfl
theorem aFa (m:MediumR):List.take 2 (List.drop 4 (dA m)) = [aC m.seq.rate.num,aC m.seq.rate.den]:=rfl
theorem aJ3 (m:MediumR):List.take 141 (List.drop 0 (dA m))=dA m:=rfl
theorem aFc (m:MediumR):List.take 141 (dA m)=dA m:=rfl
attribute [go_sem] aJ2 aFa aJ3 aFc
@[go_sem] theorem drop_zmed (f:Value→V):List.drop 141 (List.map f Tryz.z82) = []:=List.drop_of_length_le (by rw [List.length_map,Tryz.zlen82];exact Nat.le_refl _)
structure SequenceR where
 name:ByteArray
 rate:RatR
 w:Int
 h:Int
 video:List (List ClipR)
 sound:List (List ClipR)
 cues:List CueR
 channels:Int
 deriving Inhabited
def bS (t:List ClipR):List T:=[dD t]
@[go_sem] theorem trackC_t (t:List ClipR):(bS t).map V.t = [.t (dD t)]:=rfl
@[go_sem] theorem trackC_l (t:List ClipR):(bS t).length=1:=rfl
@[go_sem] abbrev cH (l:List (List ClipR)):T := .list 1 (bS []) (l.map bS)
def SequenceR.c (s:SequenceR):List T:=[eX s.name,ti s.rate.num,ti s.rate.den,ti s.w,ti s.h,cH s.video,cH s.sound,fA s.cues,ti s.channels]
abbrev fN (s:SequenceR):V := .agg [bP s.name,aC s.rate.num,aC s.rate.den,aC s.w,aC s.h, .t (cH s.video), .t (cH s.sound), .t (fA s.cues),aC s.channels]
@[go_sem] theorem SequenceR.ct (s:SequenceR):(SequenceR.c s).map V.t = [bP s.name,aC s.rate.num,aC s.rate.den,aC s.w,aC s.h, .t (cH s.video), .t (cH s.sound), .t (fA s.cues),aC s.channels]:=rfl
@[go_sem] theorem SequenceR.cl (s:SequenceR):(SequenceR.c s).length=9:=rfl
structure SequenceR.fit (s:SequenceR):Prop where
 rate:s.rate.fit
 w:I64 s.w
 h:I64 s.h
 video:∀ t∈s.video, ∀ c∈t,c.fit
 sound:∀ t∈s.sound, ∀ c∈t,c.fit
 cues:∀ c∈s.cues,c.fit
 channels:I64 s.channels
structure ProjR where
 media:List MediumR
 seqs:List SequenceR
 deriving Inhabited
structure ProjR.fit (p:ProjR):Prop where
 media:∀ m∈p.media,m.fit
 seqs:∀ s∈p.seqs,s.fit
@[go_sem] abbrev fC (l:List MediumR):T := .list 141 (MediumR.c default) (l.map MediumR.c)
@[go_sem] abbrev gV (l:List SequenceR):T := .list 9 (SequenceR.c default) (l.map SequenceR.c)
abbrev eD (p:ProjR):V := .agg [.t (fC p.media), .t (gV p.seqs)]
def ProjR.c (p:ProjR):List T:=[fC p.media,gV p.seqs]
open Go.RowKit
set_option maxRecDepth 4000
def Bn (c:CueR):Bool:=decide (0≤c.frm)&&decide (c.frm<c.upto)&&decide (c.upto≤2147483647)&&decide (1≤c.lines.length)&&decide (c.lines.length≤4)
def rG (c:CueR):Bool:=Bn c&&c.lines.all fS
theorem cPCue (c:CueR) (h:c.fit):aN Tryz.prog 242 [vcue c] (aP (rG c)):=by
 obtain ⟨⟨f1,f2⟩,⟨t1,t2⟩⟩:=h;refine aH Tryz.X242 Tryz.func242 rfl Tryz.ntmps242 (by rw [Tryz.results242]) (aD _ ?_);simp only [go_sem,↓reduceIte,Nat.reduceSub];refine brW (b := !Bn c) ?_ ⟨fun hb=>?_,fun hb=>?_⟩
 ·unfold Bn;rw [Bool.eq_iff_iff];simp only [decide_eq_true_eq,decide_eq_false_iff_not,Bool.or_eq_true,Bool.and_eq_false_iff,Bool.not_eq_eq_eq_not,Bool.not_true];omega
 ·unfold awS;simp only [go_sem,↓reduceIte];unfold rG;rw [nt hb];rfl
 ·have hk:=nf hb;unfold Bn at hk;simp only [decide_eq_true_eq,Bool.and_eq_true] at hk;unfold awS;simp only [go_sem,↓reduceIte];refine aF (fun (k:Nat) σ => bL 35 (aC k) σ) (fun k=>k≤c.lines.length ∧ ∀ i,i<k→fS (c.lines.getD i default)=true) (fun k=>c.lines.length - k) 0 (aA ?_) ⟨Nat.zero_le _,by omega⟩ ?_
  ·simp only [go_sem,Nat.reduceLT,↓reduceIte,Nat.reduceLeDiff]<;>simp
  ·rintro k ⟨hk1,hi⟩;refine aD _ ?_;simp only [go_sem,↓reduceIte];refine ⟨fun hlt=>?_,fun hge=>?_⟩
   ·simp only [decide_eq_true_eq] at hlt;unfold awS;simp only [go_sem,↓reduceIte];refine ⟨⟨by omega,by omega⟩,_,aN2 _,?_⟩;simp only [go_sem];refine brW (b := !fS (c.lines.getD k default)) ?_ ⟨fun hc=>?_,fun hc=>?_⟩
    ·rfl
    ·unfold awS;simp only [go_sem,↓reduceIte];unfold rG;rw [cA (d:=default) (p:=fS) (k:=k) (by omega) (nt hc),Bool.and_false]
    ·unfold awS;simp only [go_sem,↓reduceIte];refine ⟨k+1,aA ?_,⟨by omega,upto hi (nf hc)⟩,by omega⟩;simp only [go_sem,Nat.reduceLT,↓reduceIte,Nat.reduceLeDiff]<;>simp [bJ (show k<9223372036854775807 by omega)]
   ·simp only [decide_eq_false_iff_not] at hge;unfold awS;simp only [go_sem,↓reduceIte];unfold rG;rw [nf hb,bT (d:=default) (p:=fS) (fun i h2=>hi i (by omega))];rfl
theorem cRCue (c:CueR) (h:c.fit):aN Tryz.prog 247 [vcue c] (aP (rG c)):=by
 obtain ⟨⟨f1,f2⟩,⟨t1,t2⟩⟩:=h;refine aH Tryz.X247 Tryz.func247 rfl Tryz.ntmps247 (by rw [Tryz.results247]) (cE fun hf=>aD _ ?_);simp only [go_sem,Nat.reduceSub,dF] at hf;have hla:c.lines.length≤maxLen:=by exact hf.2.2.1
 simp only [go_sem,↓reduceIte,Nat.reduceSub];refine aF (fun (k:Nat) σ => bL 3 (aC k) σ) (fun k=>k≤c.lines.length ∧ ∀ i,i<k→fS (c.lines.getD i default)=true) (fun k=>c.lines.length - k) 0 (aA ?_) ⟨Nat.zero_le _,by omega⟩ ?_
 ·simp only [go_sem,Nat.reduceLT,↓reduceIte,Nat.reduceLeDiff]<;>simp
 ·rintro k ⟨hk1,hi⟩;refine aD _ ?_;simp only [go_sem,↓reduceIte];refine ⟨fun hlt=>?_,fun hge=>?_⟩
  ·simp only [decide_eq_true_eq] at hlt;unfold awS;simp only [go_sem,↓reduceIte];refine ⟨⟨by omega,by omega⟩,_,aMu _,?_⟩;simp only [go_sem];refine brW (b := !fS (c.lines.getD k default)) ?_ ⟨fun hc=>?_,fun hc=>?_⟩
   ·rfl
   ·unfold awS;simp only [go_sem,↓reduceIte];unfold rG;rw [cA (d:=default) (p:=fS) (k:=k) (by omega) (nt hc),Bool.and_false]
   ·unfold awS;simp only [go_sem,↓reduceIte];refine ⟨k+1,aA ?_,⟨by omega,upto hi (nf hc)⟩,by omega⟩;simp only [go_sem,Nat.reduceLT,↓reduceIte,Nat.reduceLeDiff]<;>simp [cY (show k<c.lines.length by omega) hla]
  ·simp only [decide_eq_false_iff_not] at hge;unfold awS;simp only [go_sem,↓reduceIte];unfold rG;rw [bT (d:=default) (p:=fS) (fun i h2=>hi i (by omega)),Bool.and_true];have:(decide (c.frm ≥ 0)&&decide (c.frm<c.upto)&&decide (c.upto≤2147483647)&&decide ((c.lines.length:Int) ≥ 1)&&decide ((c.lines.length:Int)≤4))=Bn c:=by
    unfold Bn;rw [Bool.eq_iff_iff];simp only [decide_eq_true_eq,Bool.and_eq_true];omega
   rw [this]
def jB (l:List CueR):Bool:=l.all rG
theorem aN4 (l:List CueR) (h:∀ c∈l,c.fit):aN Tryz.prog 199 [.t (fA l)] (aP (jB l)):=by
 refine aH Tryz.X199 Tryz.func199 rfl Tryz.ntmps199 (by rw [Tryz.results199]) (cE fun hf=>aD _ ?_);simp only [go_sem,Nat.reduceSub,dF] at hf;have hla:l.length≤maxLen:=hf.1;simp only [go_sem,↓reduceIte,Nat.reduceSub];refine aF (fun (k:Nat) σ => bL 7 (aC k) σ) (fun k=>k≤l.length ∧ ∀ i,i<k→rG (l.getD i default)=true) (fun k=>l.length - k) 0 (aA ?_) ⟨Nat.zero_le _,by omega⟩ ?_
 ·simp only [go_sem,Nat.reduceLeDiff]<;>simp
 ·rintro k ⟨hk1,hi⟩;refine aD _ ?_;simp only [go_sem,↓reduceIte];refine ⟨fun hlt=>?_,fun hge=>?_⟩
  ·simp only [decide_eq_true_eq] at hlt;unfold awS;simp only [go_sem,↓reduceIte,Nat.reduceAdd,Nat.reduceLeDiff];refine ⟨⟨by omega,by omega⟩,_,cPCue _ (h _ (aQ (by omega))),?_⟩;simp only [go_sem];refine brW (b := !rG (l.getD k default)) ?_ ⟨fun hc=>?_,fun hc=>?_⟩
   ·rfl
   ·unfold awS;simp only [go_sem,↓reduceIte];unfold jB;rw [cA (d:=default) (p:=rG) (k:=k) (by omega) (nt hc)]
   ·unfold awS;simp only [go_sem,↓reduceIte];refine ⟨k+1,aA ?_,⟨by omega,upto hi (nf hc)⟩,by omega⟩;simp only [go_sem,Nat.reduceLeDiff]<;>simp [cY (show k<l.length by omega) hla]
  ·simp only [decide_eq_false_iff_not] at hge;unfold awS;simp only [go_sem,↓reduceIte];unfold jB;rw [bT (d:=default) (p:=rG) (fun i h2=>hi i (by omega))]
def tD (r:RatR):Bool:=dL r&&decide (0<r.num)
theorem aN1 (r:RatR) (h:r.fit):aN Tryz.prog 196 [uK r] (aP (tD r)):=by
 refine aH Tryz.X196 Tryz.func196 rfl Tryz.ntmps196 (by rw [Tryz.results196]) (aD _ ?_);simp only [go_sem,↓reduceIte,Nat.reduceAdd,Nat.reduceSub,Nat.reduceLeDiff];refine ⟨_,Rn r h,?_⟩;simp only [go_sem,↓reduceIte]<;>rfl
def Bp (n:Int):Bool:=decide (0≤n)&&decide (n≤2147483647)
theorem aEv (n:Int):aN Tryz.prog 197 [aC n] (aP (Bp n)):=by
 refine aH Tryz.X197 Tryz.func197 rfl Tryz.ntmps197 (by rw [Tryz.results197]) (aD _ ?_);simp only [go_sem,↓reduceIte,Nat.reduceSub]<;>rfl
def qM (n:Int):Bool:=decide (0≤n)&&decide (n≤4)
theorem Fb (n:Int):aN Tryz.prog 198 [aC n] (aP (qM n)):=by
 refine aH Tryz.X198 Tryz.func198 rfl Tryz.ntmps198 (by rw [Tryz.results198]) (aD _ ?_);simp only [go_sem,↓reduceIte,Nat.reduceSub]<;>rfl
def jP (n:Int):Bool:=decide (16≤n)&&decide (n≤64)&&decide (n % 16=0)
theorem aMz (n:Int):aN Tryz.prog 201 [aC n,aC 64] (aP (jP n)):=by
 refine aH Tryz.X201 Tryz.func201 rfl Tryz.ntmps201 (by rw [Tryz.results201]) (aD _ ?_);simp only [go_sem,↓reduceIte,Nat.reduceAdd,Nat.reduceSub];refine ⟨fun _=>by decide,?_⟩;have:(decide (n ≥ 16)&&decide (n≤64)&&n.tmod 16==0)=jP n:=by
  unfold jP
  by_cases h : 16≤n
  ·rw [Int.tmod_eq_emod_of_nonneg (by omega)];rfl
  ·simp [h]
 rw [this]
def dH (m:MediumR):Bool:=cG m.name&&tD m.seq.rate&&Bp m.frames&&Bp m.samples&&qM m.channels&&jB m.cues
theorem cPMed (m:MediumR) (h:m.fit):aN Tryz.prog 141 [.agg (dA m)] (aP (!dH m)):=by
 refine aH Tryz.X141 Tryz.func141 rfl Tryz.ntmps141 (by rw [Tryz.results141]) (aD _ ?_);simp only [go_sem,↓reduceIte,Nat.reduceSub];refine ⟨_,aCk m.name,?_⟩;simp only [go_sem,↓reduceIte,Nat.reduceAdd,Nat.reduceLeDiff];refine ⟨_,fun _=>aN1 m.seq.rate h.seq.rate,?_⟩;simp only [go_sem,↓reduceIte];refine ⟨_,fun _=>aEv m.frames,?_⟩;simp only [go_sem,↓reduceIte];refine ⟨_,fun _=>aEv m.samples,?_⟩;simp only [go_sem,↓reduceIte];refine ⟨_,fun _=>Fb m.channels,?_⟩;simp only [go_sem,↓reduceIte];refine ⟨_,fun _=>aN4 m.cues h.cues,?_⟩;simp only [go_sem,↓reduceIte];unfold dH;simp only [Bool.not_and]
def gH (c:ClipR):Bool:=c.gain==0&&(c.chan.length:Int)==0
theorem aN0 (c:ClipR):aN Tryz.prog 203 [fH c] (aP (gH c)):=by
 refine aH Tryz.X203 Tryz.func203 rfl Tryz.ntmps203 (by rw [Tryz.results203]) (aD _ ?_);simp only [go_sem,↓reduceIte,Nat.reduceSub]<;>rfl
def rU (ch:Int) (c:ClipR):Bool:=c.kind==0||((c.kind==1||c.kind==2)&&(!c.a.smooth && !c.b.smooth&&(c.chan.length:Int)==ch))
theorem aHd (c:ClipR) (ch:Int):aN Tryz.prog 205 [fH c,aC ch] (aP (rU ch c)):=by
 refine aH Tryz.X205 Tryz.func205 rfl Tryz.ntmps205 (by rw [Tryz.results205]) (aD _ ?_);simp only [go_sem,↓reduceIte,Nat.reduceAdd,Nat.reduceSub];refine ⟨fun h0=>?_,fun h0=>?_⟩
 ·unfold awS;simp only [go_sem,↓reduceIte];unfold rU;rw [h0];rfl
 ·unfold awS;simp only [go_sem,↓reduceIte];refine ⟨fun h1=>?_,fun h1=>?_⟩
  ·unfold awS;simp only [go_sem,↓reduceIte,Nat.reduceAdd,h1];unfold rU;rw [h0,h1];simp
  ·unfold awS;simp only [go_sem,↓reduceIte];refine ⟨fun h2=>?_,fun h2=>?_⟩
   ·unfold awS;simp only [go_sem,↓reduceIte,Nat.reduceAdd];unfold rU;rw [h0,h1,h2];simp
   ·unfold awS;simp only [go_sem,↓reduceIte];unfold rU;rw [h0,h1,h2];rfl
open Go.RowKit
set_option maxRecDepth 4000
abbrev Ent:=Value×Bool×List T
def qQ (k:Value) (m:Bool×List T):List Ent→List Ent
 | []=>[(k,m)]
 | e::es=>if qC k e.1=true then (k,m)::es else e::qQ k m es
theorem Am (k:Value) (m:Bool×List T):∀ es:List Ent,yZ k (mkV m) (tEs es)=tEs (qQ k m es)
 | []=>rfl
 | e::es=>by
  have h:=Am k m es;unfold tEs at h ⊢;simp only [List.map_cons,yZ,qQ];split
  ·rfl
  ·rw [h];rfl
theorem aDg:∀ ts:List T,V.pures (ts.map .t)=true
 | []=>rfl
 | t::ts=>by simp only [List.map_cons,V.pures,V.pure,aDg ts,Bool.and_self]
theorem Yc:∀ m:Bool×List T,(mkV m).pure=true
 | (true,ts)=>by simp only [mkV,V.pure,aDg]
 | (false,[])=>rfl
 | (false,[t])=>rfl
 | (false,_::_::_)=>rfl
@[go_sem] theorem aBf:∀ es:List Ent,rL (tEs es)=True
 | []=>rfl
 | e::es=>by
  have h:=aBf es;unfold tEs at h ⊢;simp only [List.map_cons,rL,Yc,h,and_self]
@[go_sem] theorem tEs_nil:tEs [] = []:=rfl
def yF (es:List Ent):Prop := ∀ e∈es, ∃ s:ByteArray,e.1 = .string s
theorem aFg:yF []:=fun e h=>by cases h
theorem Pa {n:ByteArray} {m:Bool×List T}:∀ {es:List Ent},yF es→yF (qQ (.string n) m es)
 | [],_=>fun e h=>by simp only [qQ,List.mem_singleton] at h;subst h;exact ⟨n,rfl⟩
 | e0::es,h=>by
  unfold qQ;split
  ·intro e he;rcases List.mem_cons.1 he with rfl | he
   ·exact ⟨n,rfl⟩
   ·exact h e (by simp [he])
  ·intro e he;rcases List.mem_cons.1 he with rfl | he
   ·exact h _ (by simp)
   ·exact Pa (fun e he=>h e (by simp [he])) e he
theorem qB {es:List Ent} (h:yF es):mF .string es=true:=by
 induction es with
 | nil=>rfl
 | cons e es ih =>
  obtain ⟨s,hs⟩:=h e (by simp);simp only [mF,hs,fK,ih fun e he=>h e (by simp [he]),Bool.and_self]
theorem Qm {n n':ByteArray} {m:Bool×List T}:∀ {es:List Ent},yF es→pW (.string n) (qQ (.string n') m es)=if n=n' then some (mkV m) else pW (.string n) es
 | [],_=>by simp only [qQ,pW,qC,decide_eq_true_eq]
 | e0::es,h=>by
  obtain ⟨s,hs⟩:=h e0 (by simp);obtain ⟨k0,m0⟩:=e0;simp only at hs;subst hs;have ih:=Qm (n:=n) (n':=n') (m:=m) (es:=es) fun e he=>h e (by simp [he])
  simp only [qQ,qC,decide_eq_true_eq];split
  ·rename_i h1;subst h1;simp only [pW,qC,decide_eq_true_eq];split<;>rfl
  ·rename_i h1;simp only [pW,qC,decide_eq_true_eq,ih];split
   ·rename_i h2;subst h2;rw [if_neg (fun h=>h1 h.symm)]
   ·rfl
def gR {α : Type} (nm : α → ByteArray) (c : α → Bool×List T) (l:List α):List Ent:=l.foldl (fun es x=>qQ (.string (nm x)) (c x) es) []
theorem tP {α : Type} (nm : α → ByteArray) (c : α → Bool×List T) (l:List α) (x : α):gR nm c (l ++ [x])=qQ (.string (nm x)) (c x) (gR nm c l):=by
 unfold gR;rw [List.foldl_append];rfl
theorem jG {α : Type} (nm : α → ByteArray) (c : α → Bool×List T) (l:List α):yF (gR nm c l):=by
 unfold gR;have:∀ (l:List α) (es:List Ent),yF es→yF (l.foldl (fun es x=>qQ (.string (nm x)) (c x) es) es):=by
  intro l
  induction l with
  | nil=>intro es h;exact h
  | cons x l ih=>intro es h;exact ih _ (Pa h)
 exact this l [] aFg
theorem bY {α : Type} [Inhabited α] {l:List α} {k:Nat} (h:k<l.length):l.take (k+1)=l.take k ++ [l.getD k default]:=by
 rw [List.take_add_one,List.getElem?_eq_getElem h,aU h];rfl
theorem Kc {α : Type} [Inhabited α] (nm : α → ByteArray) (c : α → Bool×List T) {l:List α} {k:Nat} (h:k<l.length):gR nm c (l.take (k+1))=qQ (.string (nm (l.getD k default))) (c (l.getD k default)) (gR nm c (l.take k)):=by
 rw [bY h,tP]
def gD {α : Type} (nm : α → ByteArray) (n:ByteArray):List α → Option α
 | []=>none
 | x::l=>match gD nm n l with
  | some y=>some y
  | none=>if n=nm x then some x else none
theorem Em {α : Type} (nm : α → ByteArray) (n:ByteArray) (x : α):∀ l:List α,gD nm n (l ++ [x])=if n=nm x then some x else gD nm n l
 | []=>by simp only [List.nil_append,gD]
 | y::l=>by
  simp only [List.cons_append,gD,Em nm n x l]
  by_cases h:n=nm x
  ·rw [if_pos h,if_pos h]
  ·rw [if_neg h,if_neg h]
theorem mE {α : Type} {nm : α → ByteArray} {n:ByteArray}:∀ {l:List α} {x : α},gD nm n l=some x→x∈l∧nm x=n
 | y::l,x,h=>by
  simp only [gD] at h;split at h
  ·rename_i z hz;injection h with h;subst h;obtain ⟨h1,h2⟩:=mE hz;exact ⟨by simp [h1],h2⟩
  ·split at h
   ·injection h with h;subst h;rename_i hn;exact ⟨by simp,hn.symm⟩
   ·cases h
theorem nE {α : Type} {nm : α → ByteArray} {n:ByteArray}:∀ {l:List α},gD nm n l=none ↔ ∀ x∈l,nm x≠n
 | []=>by simp [gD]
 | y::l=>by
  have ih:=nE (nm:=nm) (n:=n) (l:=l);simp only [gD,List.mem_cons,forall_eq_or_imp];split
  ·rename_i z hz;obtain ⟨h1,h2⟩:=mE hz;constructor
   ·intro h;cases h
   ·rintro ⟨_,h⟩;exact (h z h1 h2).elim
  ·rename_i hz;split
   ·rename_i hn;constructor
    ·intro h;cases h
    ·rintro ⟨h,_⟩;exact (h hn.symm).elim
   ·rename_i hn;exact ⟨fun _=>⟨fun h=>hn h.symm,ih.1 hz⟩,fun _=>rfl⟩
theorem Eh {α : Type} (nm : α → ByteArray) (c : α → Bool×List T) (n:ByteArray) (l:List α):pW (.string n) (gR nm c l)=(gD nm n l).map fun x=>mkV (c x):=by
 have:∀ (r:List α),pW (.string n) (gR nm c r.reverse)=(gD nm n r.reverse).map fun x=>mkV (c x):=by
  intro r
  induction r with
  | nil=>rfl
  | cons x r ih =>
   rw [List.reverse_cons,tP,Qm (jG nm c _),Em,ih];split<;>rfl
 have h:=this l.reverse;rwa [List.reverse_reverse] at h
def Ug (r:List ByteArray) (n:ByteArray):Bool:=r.any fun m=>decide (m=n)
theorem vX {r:List ByteArray} {n:ByteArray}:Ug r n=true ↔ n∈r:=by
 unfold Ug;rw [List.any_eq_true];constructor
 ·rintro ⟨m,h1,h2⟩;rw [decide_eq_true_eq] at h2;subst h2;exact h1
 ·intro h;exact ⟨n,h,by simp⟩
def pS:List ByteArray→List ByteArray:=fun l=>l.foldl (fun r n=>if Ug r n=true then r else r ++ [n]) []
theorem sC (l:List ByteArray) (n:ByteArray):pS (l ++ [n])=if Ug (pS l) n=true then pS l else pS l ++ [n]:=by
 unfold pS;rw [List.foldl_append];rfl
def Ab (v:Value):ByteArray :=
 match v with
 | .string s=>s
 | _=>⟨#[]⟩
theorem Za {n:ByteArray} {m:Bool×List T}:∀ {es:List Ent},yF es→(qQ (.string n) m es).map (fun e=>Ab e.1)=if Ug (es.map fun e=>Ab e.1) n=true then es.map (fun e=>Ab e.1) else es.map (fun e=>Ab e.1) ++ [n]
 | [],_=>rfl
 | e0::es,h=>by
  obtain ⟨s,hs⟩:=h e0 (by simp);obtain ⟨k0,m0⟩:=e0;simp only at hs;subst hs;have ih:=Za (n:=n) (m:=m) (es:=es) fun e he=>h e (by simp [he])
  simp only [qQ,qC,decide_eq_true_eq]
  by_cases h1:n=s
  ·subst h1;rw [if_pos rfl];have:Ug (List.map (fun e:Ent=>Ab e.1) ((Value.string n,m0)::es)) n=true:=vX.2 (by simp [Ab]);rw [if_pos this];rfl
  ·rw [if_neg h1];have h2:Ug (List.map (fun e:Ent=>Ab e.1) ((Value.string s,m0)::es)) n=Ug (List.map (fun e:Ent=>Ab e.1) es) n:=by
    simp only [List.map_cons,Ug,List.any_cons,Ab];rw [decide_eq_false (fun h=>h1 h.symm),Bool.false_or]
   rw [h2,List.map_cons,ih];split<;>rfl
theorem Kp {α : Type} (nm : α → ByteArray) (c : α → Bool×List T) (l:List α):(gR nm c l).map (fun e=>Ab e.1)=pS (l.map nm):=by
 have:∀ (r:List α),(gR nm c r.reverse).map (fun e=>Ab e.1)=pS (r.reverse.map nm):=by
  intro r
  induction r with
  | nil=>rfl
  | cons x r ih=>rw [List.reverse_cons,tP,Za (jG nm c _),List.map_append,List.map_cons,List.map_nil,sC,ih]
 have h:=this l.reverse;rwa [List.reverse_reverse] at h
theorem Av {l:List ByteArray} {n:ByteArray}:n∈pS l ↔ n∈l:=by
 have:∀ (r:List ByteArray),n∈pS r.reverse ↔ n∈r.reverse:=by
  intro r
  induction r with
  | nil=>simp [pS]
  | cons x r ih =>
   rw [List.reverse_cons,sC];split
   ·rename_i h;rw [vX] at h;rw [List.mem_append,ih,List.mem_singleton];constructor
    ·exact .inl
    ·rintro (h1 | rfl)
     ·exact h1
     ·exact ih.1 h
   ·rw [List.mem_append,List.mem_append,ih]
 have h:=this l.reverse;rwa [List.reverse_reverse] at h
theorem aBk (l:List ByteArray):(pS l).Nodup:=by
 have:∀ (r:List ByteArray),(pS r.reverse).Nodup:=by
  intro r
  induction r with
  | nil=>exact List.nodup_nil
  | cons x r ih =>
   rw [List.reverse_cons,sC];split
   ·exact ih
   ·rename_i h;rw [vX] at h;exact List.nodup_append.2 ⟨ih,by simp,fun a ha b hb=>by simp at hb;subst hb;exact fun e=>h (e ▸ ha)⟩
 have h:=this l.reverse;rwa [List.reverse_reverse] at h
theorem pR (l:List ByteArray):(pS l).length≤l.length:=by
 have:∀ (r:List ByteArray),(pS r.reverse).length≤r.reverse.length:=by
  intro r
  induction r with
  | nil=>exact Nat.le_refl _
  | cons x r ih =>
   rw [List.reverse_cons,sC];split<;>simp only [List.length_append,List.length_cons,List.length_nil]<;>omega
 have h:=this l.reverse;rwa [List.reverse_reverse] at h
theorem uC (l:List ByteArray):(pS l).length<l.length ↔ ¬ l.Nodup:=by
 have:∀ (r:List ByteArray),(pS r.reverse).length<r.reverse.length ↔ ¬ r.reverse.Nodup:=by
  intro r
  induction r with
  | nil=>simp [pS]
  | cons x r ih =>
   rw [List.reverse_cons,sC];have hle:=pR r.reverse;have hnd:(r.reverse ++ [x]).Nodup ↔ r.reverse.Nodup∧x ∉ r.reverse:=by
    rw [List.nodup_append];constructor
    ·rintro ⟨h1,_,h2⟩;exact ⟨h1,fun hx=>h2 x hx x (by simp) rfl⟩
    ·rintro ⟨h1,h2⟩;exact ⟨h1,by simp,fun a ha b hb=>by simp at hb;subst hb;exact fun e=>h2 (e ▸ ha)⟩
   split
   ·rename_i h;rw [vX,Av] at h;rw [hnd];simp only [List.length_append,List.length_cons,List.length_nil];exact ⟨fun _ h2=>h2.2 h,fun _=>by omega⟩
   ·rename_i h;rw [vX,Av] at h;rw [hnd];simp only [List.length_append,List.length_cons,List.length_nil];constructor
    ·intro h1 h2;exact (ih.1 (by omega)) h2.1
    ·intro h1;have:=ih.2 (fun h2=>h1 ⟨h2,h⟩);omega
 have h:=this l.reverse;rwa [List.reverse_reverse] at h
theorem Ax {α : Type} (nm : α → ByteArray) (c : α → Bool×List T) (l:List α):(gR nm c l).length=(pS (l.map nm)).length:=by
 have:=congrArg List.length (Kp nm c l);simpa using this
theorem Lm {k:Value} {m:Bool×List T} (hm:(m.1||m.2.length==1)=true):∀ {es:List Ent},qK es=true→qK (qQ k m es)=true
 | [],_=>by simp only [qQ,qK,List.all_cons,hm,List.all_nil,Bool.and_self]
 | e::es,h=>by
  unfold qK at h;simp only [List.all_cons,Bool.and_eq_true] at h;unfold qQ;split
  ·unfold qK;simp only [List.all_cons,hm,Bool.true_and];exact h.2
  ·have:=Lm (k:=k) hm (es:=es) h.2;unfold qK at this ⊢;simp only [List.all_cons,h.1,this,Bool.and_self]
theorem nX {α : Type} (nm : α → ByteArray) (c : α → Bool×List T) (hc:∀ x,((c x).1||(c x).2.length==1)=true) (l:List α):qK (gR nm c l)=true:=by
 unfold gR;have:∀ (l:List α) (es:List Ent),qK es=true→qK (l.foldl (fun es x=>qQ (.string (nm x)) (c x) es) es)=true:=by
  intro l
  induction l with
  | nil=>intro es h;exact h
  | cons x l ih=>intro es h;exact ih _ (Lm (hc x) h)
 exact this l [] rfl
def medC (m:MediumR):Bool×List T:=(true,MediumR.c m)
def seqC (s:SequenceR):Bool×List T:=(true,SequenceR.c s)
def Nj (l:List MediumR):List Ent:=gR MediumR.name medC l
def Mb (l:List SequenceR):List Ent:=gR SequenceR.name seqC l
@[go_sem] theorem mkV_med (m:MediumR):mkV (medC m) = .agg (dA m):=rfl
@[go_sem] theorem mkV_seq (s:SequenceR):mkV (seqC s)=fN s:=rfl
abbrev jY (l:List MediumR) (n:ByteArray):Option MediumR:=gD MediumR.name n l
abbrev eR (l:List SequenceR) (n:ByteArray):Option SequenceR:=gD SequenceR.name n l
abbrev vcat (p:ProjR):V := .agg [.t (.map (Nj p.media)), .t (.map (Mb p.seqs))]
end Go.Proofs.YtbfnemkngoaeeaaGreat
