/- Proved here: Arguments whose nil slices are read as empty lists, for use in the proofs of the given statements; conditions stand in each theorem. -/
import Derived.Test.YtkjdkbmfaamhaaaGreatZH
import Derived.Test.YtkjdkbmfaamhaaaGreatZG
import Derived.Test.YtkjdkbmfaamhaaaGreatZI
import Derived.Test.YtkjdkbmfaamhaaaGreatZJ
set_option linter.unusedSimpArgs false
set_option linter.unusedVariables false
set_option linter.unusedSectionVars false
set_option linter.unnecessarySimpa false
namespace Go.Proofs.YtkjdkbmfaamhaaaGreat
open Go.RowKit
set_option maxRecDepth 4000
def nilAs:List V→List V→Prop
 | [],[]=>True
 | x::xs,y::ys=>(x=y∨(x = .t (.lit (.slice none 0 0)) ∧ ∃ k d,y = .t (.list k d [])))∧nilAs xs ys
 | _,_=>False
theorem nilAs_rd {w:World} {E:Env}:∀ {xs ys:List V} {vs:List Value},nilAs xs ys→RdVs w E xs vs→RdVs w E ys vs
 | [],[],_,_,h=>h
 | x::xs,y::ys,[],_,h=>by simp only [RdVs] at h
 | x::xs,y::ys,v::vs,hn,h=>by
  simp only [RdVs] at h ⊢
  refine ⟨?_,nilAs_rd hn.2 h.2⟩
  rcases hn.1 with rfl | ⟨rfl,k,d,rfl⟩
  ·exact h.1
  ·have h1:=h.1
   simp only [RdV] at h1 ⊢
   cases h1
   exact .list _ _ _ none 0 (Nat.zero_le _) (Nat.zero_le _) (fun _=>rfl) (by simp) (by simp) (by simp)
 | [],_::_,_,hn,_=>hn.elim
 | _::_,[],_,hn,_=>hn.elim
def asTs:List T→List T→Prop
 | [],[]=>True
 | x::xs,y::ys=>(x=y∨(x = .lit (.slice none 0 0) ∧ ∃ k d,y = .list k d []))∧asTs xs ys
 | _,_=>False
def asRows:List (List T)→List (List T)→Prop
 | [],[]=>True
 | x::xs,y::ys=>asTs x y∧asRows xs ys
 | _,_=>False
def AsVs (xs ys:List V):Prop := ∀ (w:World) (E:Env) (vs:List Value),RdVs w E xs vs→RdVs w E ys vs
theorem cpure_as {P:Program} {f:FuncId} {args args':List V} {r:V} (ha:AsVs args' args) (h:CPure P f args r):CPure P f args' r :=
 ⟨h.1,fun w S vs hS hv=>h.2 w S vs hS (ha _ _ _ hv)⟩
theorem AsVs.cons {x y:V} {xs ys:List V} (h1:∀ (w:World) (E:Env) v,RdV w E x v→RdV w E y v) (h2:AsVs xs ys):AsVs (x::xs) (y::ys):=by
 intro w E vs h
 cases vs with
 | nil=>simp only [RdVs] at h
 | cons v vs =>
  simp only [RdVs] at h ⊢
  exact ⟨h1 _ _ _ h.1,h2 _ _ _ h.2⟩
theorem AsVs.nil:AsVs [] []:=fun _ _ _ h=>h
theorem as_refl {x:V}:∀ (w:World) (E:Env) v,RdV w E x v→RdV w E x v:=fun _ _ _ h=>h
theorem as_agg {xs ys:List V} (ha:nilAs xs ys):∀ (w:World) (E:Env) v,RdV w E (.agg xs) v→RdV w E (.agg ys) v:=by
 intro w E v h
 simp only [RdV] at h ⊢
 obtain ⟨vs,rfl,q1,q2⟩:=h
 exact ⟨vs,rfl,nilAs_rd ha q1,q2⟩
theorem cbox_as {P:Program} {f:FuncId} {cs args cs':List V} {r r':V} (ha:∀ (w:World) (E:Env) v,RdV w E r v→RdV w E r' v) (h:CBox P f cs args r cs'):CBox P f cs args r' cs' :=
 ⟨h.1,fun w S b ty cells vs h1 h2 h3 h4 h5 h6=>(h.2 w S b ty cells vs h1 h2 h3 h4 h5 h6).mono fun e w' ⟨v,S',ty',cells',k0,k1,k2,k3,k4,k5⟩=>⟨v,S',ty',cells',k0,k1,k2,k3,ha _ _ _ k4,k5⟩⟩
open Go.RowKit
set_option maxRecDepth 4000
structure CueR where
 frm:Int
 upto:Int
 lines:List ByteArray
 deriving Inhabited
structure CueR.fit (c:CueR):Prop where
 frm:I64 c.frm
 upto:I64 c.upto
abbrev vcue (c:CueR):V := .agg [vint c.frm,vint c.upto, .t (tstrs c.lines)]
def CueR.c (c:CueR):List T:=[ti c.frm,ti c.upto,tstrs c.lines]
@[go_sem] theorem CueR.ct (c:CueR):(CueR.c c).map V.t = [vint c.frm,vint c.upto, .t (tstrs c.lines)]:=rfl
@[go_sem] theorem CueR.cl (c:CueR):(CueR.c c).length=3:=rfl
@[go_sem] abbrev tcues (l:List CueR):T := .list 3 (CueR.c default) (l.map CueR.c)
structure SeqR where
 w:Int
 h:Int
 rate:RatR
 inter:Bool
 bits:Int
 buf:Int
 q:Nat→Int
 deriving Inhabited
structure SeqR.fit (s:SeqR):Prop where
 w:I64 s.w
 h:I64 s.h
 rate:s.rate.fit
 bits:I64 s.bits
 buf:I64 s.buf
def quantC (q:Nat→Int):List T:=(List.range 128).map fun i => .lit (.int .u8 (q i))
def SeqR.c (s:SeqR):List T:=[ti s.w,ti s.h,ti s.rate.num,ti s.rate.den,tbl s.inter,ti s.bits,ti s.buf]++quantC s.q
structure MediumR where
 name:ByteArray
 sum:Int
 seq:SeqR
 frames:Int
 channels:Int
 samples:Int
 cues:List CueR
 deriving Inhabited
structure MediumR.fit (m:MediumR):Prop where
 seq:m.seq.fit
 frames:I64 m.frames
 channels:I64 m.channels
 samples:I64 m.samples
 cues:∀ c∈m.cues,c.fit
def MediumR.c (m:MediumR):List T:=[tstr m.name,tu m.sum]++m.seq.c ++ [ti m.frames,ti m.channels,ti m.samples,tcues m.cues]
def vmed (m:MediumR):List V:=(MediumR.c m).map .t
@[go_sem] theorem MediumR.ct (m:MediumR):(MediumR.c m).map V.t=vmed m:=rfl
@[go_sem] theorem MediumR.cl (m:MediumR):(MediumR.c m).length=141:=rfl
@[go_sem] theorem vmed_len (m:MediumR):(vmed m).length=141:=rfl
theorem vmed_cell (m:MediumR):(vmed m).all V.isCell=true:=by
 rw [List.all_eq_true]
 intro x hx
 unfold vmed at hx
 obtain ⟨t,_,rfl⟩:=List.mem_map.1 hx
 rfl
attribute [go_sem] vmed_cell
@[go_sem] theorem vmed_0 (m:MediumR):(vmed m)[0]? = some (vstr m.name):=rfl
@[go_sem] theorem vmed_1 (m:MediumR):(vmed m)[1]? = some (vu64 m.sum):=rfl
@[go_sem] theorem vmed_137 (m:MediumR):(vmed m)[137]? = some (vint m.frames):=rfl
@[go_sem] theorem vmed_138 (m:MediumR):(vmed m)[138]? = some (vint m.channels):=rfl
@[go_sem] theorem vmed_139 (m:MediumR):(vmed m)[139]? = some (vint m.samples):=rfl
@[go_sem] theorem vmed_140 (m:MediumR):(vmed m)[140]? = some (.t (tcues m.cues)):=rfl
def vseq (s:SeqR):List V:=(SeqR.c s).map .t
@[go_sem] theorem vseq_len (s:SeqR):(vseq s).length=135:=rfl
theorem vmed_seq (m:MediumR):List.take 135 (List.drop 2 (vmed m))=vseq m.seq:=rfl
theorem vmed_rate (m:MediumR):List.take 2 (List.drop 4 (vmed m)) = [vint m.seq.rate.num,vint m.seq.rate.den]:=rfl
theorem vmed_all (m:MediumR):List.take 141 (List.drop 0 (vmed m))=vmed m:=rfl
theorem vmed_all' (m:MediumR):List.take 141 (vmed m)=vmed m:=rfl
attribute [go_sem] vmed_seq vmed_rate vmed_all vmed_all'
@[go_sem] theorem drop_zmed (f:Value→V):List.drop 141 (List.map f Tryz.z58) = []:=List.drop_of_length_le (by rw [List.length_map,Tryz.zlen58];exact Nat.le_refl _)
structure SequenceR where
 name:ByteArray
 rate:RatR
 w:Int
 h:Int
 video:List (List ClipR)
 sound:List (List ClipR)
 cues:List CueR
 channels:Int
 deriving Inhabited
def trackC (t:List ClipR):List T:=[tclips t]
@[go_sem] theorem trackC_t (t:List ClipR):(trackC t).map V.t = [.t (tclips t)]:=rfl
@[go_sem] theorem trackC_l (t:List ClipR):(trackC t).length=1:=rfl
@[go_sem] abbrev ttracks (l:List (List ClipR)):T := .list 1 (trackC []) (l.map trackC)
def SequenceR.c (s:SequenceR):List T:=[tstr s.name,ti s.rate.num,ti s.rate.den,ti s.w,ti s.h,ttracks s.video,ttracks s.sound,tcues s.cues,ti s.channels]
abbrev vsequence (s:SequenceR):V := .agg [vstr s.name,vint s.rate.num,vint s.rate.den,vint s.w,vint s.h, .t (ttracks s.video), .t (ttracks s.sound), .t (tcues s.cues),vint s.channels]
@[go_sem] theorem SequenceR.ct (s:SequenceR):(SequenceR.c s).map V.t = [vstr s.name,vint s.rate.num,vint s.rate.den,vint s.w,vint s.h, .t (ttracks s.video), .t (ttracks s.sound), .t (tcues s.cues),vint s.channels]:=rfl
@[go_sem] theorem SequenceR.cl (s:SequenceR):(SequenceR.c s).length=9:=rfl
structure SequenceR.fit (s:SequenceR):Prop where
 rate:s.rate.fit
 w:I64 s.w
 h:I64 s.h
 video:∀ t∈s.video, ∀ c∈t,c.fit
 sound:∀ t∈s.sound, ∀ c∈t,c.fit
 cues:∀ c∈s.cues,c.fit
 channels:I64 s.channels
structure ProjR where
 media:List MediumR
 seqs:List SequenceR
 deriving Inhabited
structure ProjR.fit (p:ProjR):Prop where
 media:∀ m∈p.media,m.fit
 seqs:∀ s∈p.seqs,s.fit
@[go_sem] abbrev tmedia (l:List MediumR):T := .list 141 (MediumR.c default) (l.map MediumR.c)
@[go_sem] abbrev tseqs (l:List SequenceR):T := .list 9 (SequenceR.c default) (l.map SequenceR.c)
abbrev vproj (p:ProjR):V := .agg [.t (tmedia p.media), .t (tseqs p.seqs)]
def ProjR.c (p:ProjR):List T:=[tmedia p.media,tseqs p.seqs]
open Go.RowKit
set_option maxRecDepth 4000
def cueOk (c:CueR):Bool:=decide (0≤c.frm)&&decide (c.frm<c.upto)&&decide (c.upto≤2147483647)&&decide (1≤c.lines.length)&&decide (c.lines.length≤4)
def vCue (c:CueR):Bool:=cueOk c&&c.lines.all vLine
theorem cPCue (c:CueR) (h:c.fit):CPure Tryz.prog 113 [vcue c] (vbool (vCue c)):=by
 obtain ⟨⟨f1,f2⟩,⟨t1,t2⟩⟩:=h
 refine cpure_of Tryz.xen113 Tryz.func113 rfl Tryz.ntmps113 (by rw [Tryz.results113]) (aw_ok _ ?_)
 simp only [go_sem,Nat.reduceGT,Nat.reducePow,Nat.reduceLT,↓reduceIte,Nat.reduceAdd,Nat.reduceMul,Nat.reduceSub,Nat.reduceMod,Nat.reduceLeDiff,Nat.reduceEqDiff,Nat.reduceBEq,reduceCtorEq]
 refine brW (b := !cueOk c) ?_ ⟨fun hb=>?_,fun hb=>?_⟩
 ·unfold cueOk
  rw [Bool.eq_iff_iff];simp only [decide_eq_true_eq,decide_eq_false_iff_not,beq_iff_eq,bne_iff_ne,ne_eq,beq_eq_false_iff_ne,Bool.not_eq_true',Bool.not_eq_true,Bool.not_eq_false',Bool.or_eq_true,Bool.and_eq_true,Bool.or_eq_false_iff,Bool.and_eq_false_iff,Bool.false_eq_true,Bool.not_eq_eq_eq_not,Bool.not_true,Bool.not_false];omega
 ·unfold awS
  simp only [go_sem,Nat.reduceGT,Nat.reducePow,Nat.reduceLT,↓reduceIte,Nat.reduceAdd,Nat.reduceMul,Nat.reduceSub,Nat.reduceMod,Nat.reduceLeDiff,Nat.reduceEqDiff,Nat.reduceBEq,reduceCtorEq]
  unfold vCue
  rw [nt hb]
  rfl
 ·have hk:=nf hb
  unfold cueOk at hk
  simp only [decide_eq_true_eq,decide_eq_false_iff_not,beq_iff_eq,bne_iff_ne,ne_eq,beq_eq_false_iff_ne,Bool.not_eq_true',Bool.not_eq_true,Bool.not_eq_false',Bool.or_eq_true,Bool.and_eq_true,Bool.or_eq_false_iff,Bool.and_eq_false_iff,Bool.false_eq_true,Bool.not_eq_eq_eq_not,Bool.not_true,Bool.not_false] at hk
  unfold awS
  simp only [go_sem,Nat.reduceGT,Nat.reducePow,Nat.reduceLT,↓reduceIte,Nat.reduceAdd,Nat.reduceMul,Nat.reduceSub,Nat.reduceMod,Nat.reduceLeDiff,Nat.reduceEqDiff,Nat.reduceBEq,reduceCtorEq]
  refine awp_loop_f (fun (k:Nat) σ => setS 35 (vint k) σ) (fun k=>k≤c.lines.length ∧ ∀ i,i<k→vLine (c.lines.getD i default)=true) (fun k=>c.lines.length - k) 0 (weak_self ?_) ⟨Nat.zero_le _,by omega⟩ ?_
  ·simp only [go_sem,Nat.reduceGT,Nat.reducePow,Nat.reduceLT,↓reduceIte,Nat.reduceAdd,Nat.reduceMul,Nat.reduceSub,Nat.reduceMod,Nat.reduceLeDiff,Nat.reduceEqDiff,Nat.reduceBEq,reduceCtorEq]<;>simp
  ·rintro k ⟨hk1,hi⟩
   refine aw_ok _ ?_
   simp only [go_sem,Nat.reduceGT,Nat.reducePow,Nat.reduceLT,↓reduceIte,Nat.reduceAdd,Nat.reduceMul,Nat.reduceSub,Nat.reduceMod,Nat.reduceLeDiff,Nat.reduceEqDiff,Nat.reduceBEq,reduceCtorEq]
   refine ⟨fun hlt=>?_,fun hge=>?_⟩
   ·simp only [decide_eq_true_eq,decide_eq_false_iff_not,beq_iff_eq,bne_iff_ne,ne_eq,beq_eq_false_iff_ne,Bool.not_eq_true',Bool.not_eq_true,Bool.not_eq_false',Bool.or_eq_true,Bool.and_eq_true,Bool.or_eq_false_iff,Bool.and_eq_false_iff,Bool.false_eq_true,Bool.not_eq_eq_eq_not,Bool.not_true,Bool.not_false] at hlt
    unfold awS
    simp only [go_sem,Nat.reduceGT,Nat.reducePow,Nat.reduceLT,↓reduceIte,Nat.reduceAdd,Nat.reduceMul,Nat.reduceSub,Nat.reduceMod,Nat.reduceLeDiff,Nat.reduceEqDiff,Nat.reduceBEq,reduceCtorEq]
    refine ⟨⟨by omega,by omega⟩,_,cPLine _,?_⟩
    simp only [go_sem,Nat.reduceGT,Nat.reducePow,Nat.reduceLT,↓reduceIte,Nat.reduceAdd,Nat.reduceMul,Nat.reduceSub,Nat.reduceMod,Nat.reduceLeDiff,Nat.reduceEqDiff,Nat.reduceBEq,reduceCtorEq]
    refine brW (b := !vLine (c.lines.getD k default)) ?_ ⟨fun hc=>?_,fun hc=>?_⟩
    ·rfl
    ·unfold awS
     simp only [go_sem,Nat.reduceGT,Nat.reducePow,Nat.reduceLT,↓reduceIte,Nat.reduceAdd,Nat.reduceMul,Nat.reduceSub,Nat.reduceMod,Nat.reduceLeDiff,Nat.reduceEqDiff,Nat.reduceBEq,reduceCtorEq]
     unfold vCue
     rw [all_hit (d:=default) (p:=vLine) (k:=k) (by omega) (nt hc),Bool.and_false]
    ·unfold awS
     simp only [go_sem,Nat.reduceGT,Nat.reducePow,Nat.reduceLT,↓reduceIte,Nat.reduceAdd,Nat.reduceMul,Nat.reduceSub,Nat.reduceMod,Nat.reduceLeDiff,Nat.reduceEqDiff,Nat.reduceBEq,reduceCtorEq]
     refine ⟨k+1,weak_self ?_,⟨by omega,upto hi (nf hc)⟩,by omega⟩
     simp only [go_sem,Nat.reduceGT,Nat.reducePow,Nat.reduceLT,↓reduceIte,Nat.reduceAdd,Nat.reduceMul,Nat.reduceSub,Nat.reduceMod,Nat.reduceLeDiff,Nat.reduceEqDiff,Nat.reduceBEq,reduceCtorEq]<;>simp [wrap1 (show k<9223372036854775807 by omega)]
   ·simp only [decide_eq_true_eq,decide_eq_false_iff_not,beq_iff_eq,bne_iff_ne,ne_eq,beq_eq_false_iff_ne,Bool.not_eq_true',Bool.not_eq_true,Bool.not_eq_false',Bool.or_eq_true,Bool.and_eq_true,Bool.or_eq_false_iff,Bool.and_eq_false_iff,Bool.false_eq_true,Bool.not_eq_eq_eq_not,Bool.not_true,Bool.not_false] at hge
    unfold awS
    simp only [go_sem,Nat.reduceGT,Nat.reducePow,Nat.reduceLT,↓reduceIte,Nat.reduceAdd,Nat.reduceMul,Nat.reduceSub,Nat.reduceMod,Nat.reduceLeDiff,Nat.reduceEqDiff,Nat.reduceBEq,reduceCtorEq]
    unfold vCue
    rw [nf hb,all_done (d:=default) (p:=vLine) (fun i h2=>hi i (by omega))]
    rfl
def cuesOk (l:List CueR):Bool:=l.all vCue
theorem cPCues (l:List CueR) (h:∀ c∈l,c.fit):CPure Tryz.prog 73 [.t (tcues l)] (vbool (cuesOk l)):=by
 refine cpure_of Tryz.xen73 Tryz.func73 rfl Tryz.ntmps73 (by rw [Tryz.results73]) (awp_facts fun hf=>aw_ok _ ?_)
 simp only [go_sem,Nat.reduceGT,Nat.reducePow,Nat.reduceLT,↓reduceIte,Nat.reduceAdd,Nat.reduceMul,Nat.reduceSub,Nat.reduceMod,Nat.reduceLeDiff,Nat.reduceEqDiff,Nat.reduceBEq,reduceCtorEq,factsT] at hf
 have hla:l.length≤maxLen:=hf.1
 simp only [go_sem,Nat.reduceGT,Nat.reducePow,Nat.reduceLT,↓reduceIte,Nat.reduceAdd,Nat.reduceMul,Nat.reduceSub,Nat.reduceMod,Nat.reduceLeDiff,Nat.reduceEqDiff,Nat.reduceBEq,reduceCtorEq]
 refine awp_loop_f (fun (k:Nat) σ => setS 7 (vint k) σ) (fun k=>k≤l.length ∧ ∀ i,i<k→vCue (l.getD i default)=true) (fun k=>l.length - k) 0 (weak_self ?_) ⟨Nat.zero_le _,by omega⟩ ?_
 ·simp only [go_sem,Nat.reduceGT,Nat.reducePow,Nat.reduceLT,↓reduceIte,Nat.reduceAdd,Nat.reduceMul,Nat.reduceSub,Nat.reduceMod,Nat.reduceLeDiff,Nat.reduceEqDiff,Nat.reduceBEq,reduceCtorEq]<;>simp
 ·rintro k ⟨hk1,hi⟩
  refine aw_ok _ ?_
  simp only [go_sem,Nat.reduceGT,Nat.reducePow,Nat.reduceLT,↓reduceIte,Nat.reduceAdd,Nat.reduceMul,Nat.reduceSub,Nat.reduceMod,Nat.reduceLeDiff,Nat.reduceEqDiff,Nat.reduceBEq,reduceCtorEq]
  refine ⟨fun hlt=>?_,fun hge=>?_⟩
  ·simp only [decide_eq_true_eq,decide_eq_false_iff_not,beq_iff_eq,bne_iff_ne,ne_eq,beq_eq_false_iff_ne,Bool.not_eq_true',Bool.not_eq_true,Bool.not_eq_false',Bool.or_eq_true,Bool.and_eq_true,Bool.or_eq_false_iff,Bool.and_eq_false_iff,Bool.false_eq_true,Bool.not_eq_eq_eq_not,Bool.not_true,Bool.not_false] at hlt
   unfold awS
   simp only [go_sem,Nat.reduceGT,Nat.reducePow,Nat.reduceLT,↓reduceIte,Nat.reduceAdd,Nat.reduceMul,Nat.reduceSub,Nat.reduceMod,Nat.reduceLeDiff,Nat.reduceEqDiff,Nat.reduceBEq,reduceCtorEq]
   refine ⟨⟨by omega,by omega⟩,_,cPCue _ (h _ (mem_getD (by omega))),?_⟩
   simp only [go_sem,Nat.reduceGT,Nat.reducePow,Nat.reduceLT,↓reduceIte,Nat.reduceAdd,Nat.reduceMul,Nat.reduceSub,Nat.reduceMod,Nat.reduceLeDiff,Nat.reduceEqDiff,Nat.reduceBEq,reduceCtorEq]
   refine brW (b := !vCue (l.getD k default)) ?_ ⟨fun hc=>?_,fun hc=>?_⟩
   ·rfl
   ·unfold awS
    simp only [go_sem,Nat.reduceGT,Nat.reducePow,Nat.reduceLT,↓reduceIte,Nat.reduceAdd,Nat.reduceMul,Nat.reduceSub,Nat.reduceMod,Nat.reduceLeDiff,Nat.reduceEqDiff,Nat.reduceBEq,reduceCtorEq]
    unfold cuesOk
    rw [all_hit (d:=default) (p:=vCue) (k:=k) (by omega) (nt hc)]
   ·unfold awS
    simp only [go_sem,Nat.reduceGT,Nat.reducePow,Nat.reduceLT,↓reduceIte,Nat.reduceAdd,Nat.reduceMul,Nat.reduceSub,Nat.reduceMod,Nat.reduceLeDiff,Nat.reduceEqDiff,Nat.reduceBEq,reduceCtorEq]
    refine ⟨k+1,weak_self ?_,⟨by omega,upto hi (nf hc)⟩,by omega⟩
    simp only [go_sem,Nat.reduceGT,Nat.reducePow,Nat.reduceLT,↓reduceIte,Nat.reduceAdd,Nat.reduceMul,Nat.reduceSub,Nat.reduceMod,Nat.reduceLeDiff,Nat.reduceEqDiff,Nat.reduceBEq,reduceCtorEq]<;>simp [wrap_of (show k<l.length by omega) hla]
  ·simp only [decide_eq_true_eq,decide_eq_false_iff_not,beq_iff_eq,bne_iff_ne,ne_eq,beq_eq_false_iff_ne,Bool.not_eq_true',Bool.not_eq_true,Bool.not_eq_false',Bool.or_eq_true,Bool.and_eq_true,Bool.or_eq_false_iff,Bool.and_eq_false_iff,Bool.false_eq_true,Bool.not_eq_eq_eq_not,Bool.not_true,Bool.not_false] at hge
   unfold awS
   simp only [go_sem,Nat.reduceGT,Nat.reducePow,Nat.reduceLT,↓reduceIte,Nat.reduceAdd,Nat.reduceMul,Nat.reduceSub,Nat.reduceMod,Nat.reduceLeDiff,Nat.reduceEqDiff,Nat.reduceBEq,reduceCtorEq]
   unfold cuesOk
   rw [all_done (d:=default) (p:=vCue) (fun i h2=>hi i (by omega))]
def rateOk (r:RatR):Bool:=vRat r&&decide (0<r.num)
theorem cPRate (r:RatR) (h:r.fit):CPure Tryz.prog 70 [vrat r] (vbool (rateOk r)):=by
 refine cpure_of Tryz.xen70 Tryz.func70 rfl Tryz.ntmps70 (by rw [Tryz.results70]) (aw_ok _ ?_)
 simp only [go_sem,Nat.reduceGT,Nat.reducePow,Nat.reduceLT,↓reduceIte,Nat.reduceAdd,Nat.reduceMul,Nat.reduceSub,Nat.reduceMod,Nat.reduceLeDiff,Nat.reduceEqDiff,Nat.reduceBEq,reduceCtorEq]
 refine ⟨_,cPRat r h,?_⟩
 simp only [go_sem,Nat.reduceGT,Nat.reducePow,Nat.reduceLT,↓reduceIte,Nat.reduceAdd,Nat.reduceMul,Nat.reduceSub,Nat.reduceMod,Nat.reduceLeDiff,Nat.reduceEqDiff,Nat.reduceBEq,reduceCtorEq]<;>rfl
def countOk (n:Int):Bool:=decide (0≤n)&&decide (n≤2147483647)
theorem cPCount (n:Int):CPure Tryz.prog 71 [vint n] (vbool (countOk n)):=by
 refine cpure_of Tryz.xen71 Tryz.func71 rfl Tryz.ntmps71 (by rw [Tryz.results71]) (aw_ok _ ?_)
 simp only [go_sem,Nat.reduceGT,Nat.reducePow,Nat.reduceLT,↓reduceIte,Nat.reduceAdd,Nat.reduceMul,Nat.reduceSub,Nat.reduceMod,Nat.reduceLeDiff,Nat.reduceEqDiff,Nat.reduceBEq,reduceCtorEq]<;>rfl
def chanOk (n:Int):Bool:=decide (0≤n)&&decide (n≤4)
theorem cPChanCount (n:Int):CPure Tryz.prog 72 [vint n] (vbool (chanOk n)):=by
 refine cpure_of Tryz.xen72 Tryz.func72 rfl Tryz.ntmps72 (by rw [Tryz.results72]) (aw_ok _ ?_)
 simp only [go_sem,Nat.reduceGT,Nat.reducePow,Nat.reduceLT,↓reduceIte,Nat.reduceAdd,Nat.reduceMul,Nat.reduceSub,Nat.reduceMod,Nat.reduceLeDiff,Nat.reduceEqDiff,Nat.reduceBEq,reduceCtorEq]<;>rfl
def sizeOk (n:Int):Bool:=decide (16≤n)&&decide (n≤64)&&decide (n % 16=0)
theorem cPSize (n:Int):CPure Tryz.prog 75 [vint n,vint 64] (vbool (sizeOk n)):=by
 refine cpure_of Tryz.xen75 Tryz.func75 rfl Tryz.ntmps75 (by rw [Tryz.results75]) (aw_ok _ ?_)
 simp only [go_sem,Nat.reduceGT,Nat.reducePow,Nat.reduceLT,↓reduceIte,Nat.reduceAdd,Nat.reduceMul,Nat.reduceSub,Nat.reduceMod,Nat.reduceLeDiff,Nat.reduceEqDiff,Nat.reduceBEq,reduceCtorEq]
 refine ⟨fun _=>by decide,?_⟩
 have:(decide (n ≥ 16)&&decide (n≤64)&&n.tmod 16==0)=sizeOk n:=by
  unfold sizeOk
  by_cases h : 16≤n
  ·rw [Int.tmod_eq_emod_of_nonneg (by omega)]
   rfl
  ·simp [h]
 rw [this]
def medOk (m:MediumR):Bool:=vName m.name&&rateOk m.seq.rate&&countOk m.frames&&countOk m.samples&&chanOk m.channels&&cuesOk m.cues
theorem cPMed (m:MediumR) (h:m.fit):CPure Tryz.prog 38 [.agg (vmed m)] (vbool (!medOk m)):=by
 refine cpure_of Tryz.xen38 Tryz.func38 rfl Tryz.ntmps38 (by rw [Tryz.results38]) (aw_ok _ ?_)
 simp only [go_sem,Nat.reduceGT,Nat.reducePow,Nat.reduceLT,↓reduceIte,Nat.reduceAdd,Nat.reduceMul,Nat.reduceSub,Nat.reduceMod,Nat.reduceLeDiff,Nat.reduceEqDiff,Nat.reduceBEq,reduceCtorEq]
 refine ⟨_,cPName m.name,?_⟩
 simp only [go_sem,Nat.reduceGT,Nat.reducePow,Nat.reduceLT,↓reduceIte,Nat.reduceAdd,Nat.reduceMul,Nat.reduceSub,Nat.reduceMod,Nat.reduceLeDiff,Nat.reduceEqDiff,Nat.reduceBEq,reduceCtorEq]
 refine ⟨_,fun _=>cPRate m.seq.rate h.seq.rate,?_⟩
 simp only [go_sem,Nat.reduceGT,Nat.reducePow,Nat.reduceLT,↓reduceIte,Nat.reduceAdd,Nat.reduceMul,Nat.reduceSub,Nat.reduceMod,Nat.reduceLeDiff,Nat.reduceEqDiff,Nat.reduceBEq,reduceCtorEq]
 refine ⟨_,fun _=>cPCount m.frames,?_⟩
 simp only [go_sem,Nat.reduceGT,Nat.reducePow,Nat.reduceLT,↓reduceIte,Nat.reduceAdd,Nat.reduceMul,Nat.reduceSub,Nat.reduceMod,Nat.reduceLeDiff,Nat.reduceEqDiff,Nat.reduceBEq,reduceCtorEq]
 refine ⟨_,fun _=>cPCount m.samples,?_⟩
 simp only [go_sem,Nat.reduceGT,Nat.reducePow,Nat.reduceLT,↓reduceIte,Nat.reduceAdd,Nat.reduceMul,Nat.reduceSub,Nat.reduceMod,Nat.reduceLeDiff,Nat.reduceEqDiff,Nat.reduceBEq,reduceCtorEq]
 refine ⟨_,fun _=>cPChanCount m.channels,?_⟩
 simp only [go_sem,Nat.reduceGT,Nat.reducePow,Nat.reduceLT,↓reduceIte,Nat.reduceAdd,Nat.reduceMul,Nat.reduceSub,Nat.reduceMod,Nat.reduceLeDiff,Nat.reduceEqDiff,Nat.reduceBEq,reduceCtorEq]
 refine ⟨_,fun _=>cPCues m.cues h.cues,?_⟩
 simp only [go_sem,Nat.reduceGT,Nat.reducePow,Nat.reduceLT,↓reduceIte,Nat.reduceAdd,Nat.reduceMul,Nat.reduceSub,Nat.reduceMod,Nat.reduceLeDiff,Nat.reduceEqDiff,Nat.reduceBEq,reduceCtorEq]
 unfold medOk
 simp only [Bool.not_and]
def silentB (c:ClipR):Bool:=c.gain==0&&(c.chan.length:Int)==0
theorem cPSilent (c:ClipR):CPure Tryz.prog 78 [vclip c] (vbool (silentB c)):=by
 refine cpure_of Tryz.xen78 Tryz.func78 rfl Tryz.ntmps78 (by rw [Tryz.results78]) (aw_ok _ ?_)
 simp only [go_sem,Nat.reduceGT,Nat.reducePow,Nat.reduceLT,↓reduceIte,Nat.reduceAdd,Nat.reduceMul,Nat.reduceSub,Nat.reduceMod,Nat.reduceLeDiff,Nat.reduceEqDiff,Nat.reduceBEq,reduceCtorEq]<;>rfl
def audB (ch:Int) (c:ClipR):Bool:=c.kind==0||((c.kind==1||c.kind==2)&&(!c.a.smooth && !c.b.smooth&&(c.chan.length:Int)==ch))
theorem cPAudible (c:ClipR) (ch:Int):CPure Tryz.prog 80 [vclip c,vint ch] (vbool (audB ch c)):=by
 refine cpure_of Tryz.xen80 Tryz.func80 rfl Tryz.ntmps80 (by rw [Tryz.results80]) (aw_ok _ ?_)
 simp only [go_sem,Nat.reduceGT,Nat.reducePow,Nat.reduceLT,↓reduceIte,Nat.reduceAdd,Nat.reduceMul,Nat.reduceSub,Nat.reduceMod,Nat.reduceLeDiff,Nat.reduceEqDiff,Nat.reduceBEq,reduceCtorEq]
 refine ⟨fun h0=>?_,fun h0=>?_⟩
 ·unfold awS
  simp only [go_sem,Nat.reduceGT,Nat.reducePow,Nat.reduceLT,↓reduceIte,Nat.reduceAdd,Nat.reduceMul,Nat.reduceSub,Nat.reduceMod,Nat.reduceLeDiff,Nat.reduceEqDiff,Nat.reduceBEq,reduceCtorEq]
  unfold audB
  rw [h0]
  rfl
 ·unfold awS
  simp only [go_sem,Nat.reduceGT,Nat.reducePow,Nat.reduceLT,↓reduceIte,Nat.reduceAdd,Nat.reduceMul,Nat.reduceSub,Nat.reduceMod,Nat.reduceLeDiff,Nat.reduceEqDiff,Nat.reduceBEq,reduceCtorEq]
  refine ⟨fun h1=>?_,fun h1=>?_⟩
  ·unfold awS
   simp only [go_sem,Nat.reduceGT,Nat.reducePow,Nat.reduceLT,↓reduceIte,Nat.reduceAdd,Nat.reduceMul,Nat.reduceSub,Nat.reduceMod,Nat.reduceLeDiff,Nat.reduceEqDiff,Nat.reduceBEq,reduceCtorEq,h1]
   unfold audB
   rw [h0,h1]
   simp
  ·unfold awS
   simp only [go_sem,Nat.reduceGT,Nat.reducePow,Nat.reduceLT,↓reduceIte,Nat.reduceAdd,Nat.reduceMul,Nat.reduceSub,Nat.reduceMod,Nat.reduceLeDiff,Nat.reduceEqDiff,Nat.reduceBEq,reduceCtorEq]
   refine ⟨fun h2=>?_,fun h2=>?_⟩
   ·unfold awS
    simp only [go_sem,Nat.reduceGT,Nat.reducePow,Nat.reduceLT,↓reduceIte,Nat.reduceAdd,Nat.reduceMul,Nat.reduceSub,Nat.reduceMod,Nat.reduceLeDiff,Nat.reduceEqDiff,Nat.reduceBEq,reduceCtorEq]
    unfold audB
    rw [h0,h1,h2]
    simp
   ·unfold awS
    simp only [go_sem,Nat.reduceGT,Nat.reducePow,Nat.reduceLT,↓reduceIte,Nat.reduceAdd,Nat.reduceMul,Nat.reduceSub,Nat.reduceMod,Nat.reduceLeDiff,Nat.reduceEqDiff,Nat.reduceBEq,reduceCtorEq]
    unfold audB
    rw [h0,h1,h2]
    rfl
open Go.RowKit
set_option maxRecDepth 4000
abbrev Ent:=Value×Bool×List T
def putT (k:Value) (m:Bool×List T):List Ent→List Ent
 | []=>[(k,m)]
 | e::es=>if keyB k e.1=true then (k,m)::es else e::putT k m es
theorem putE_tEs (k:Value) (m:Bool×List T):∀ es:List Ent,putE k (mkV m) (tEs es)=tEs (putT k m es)
 | []=>rfl
 | e::es=>by
  have h:=putE_tEs k m es
  unfold tEs at h ⊢
  simp only [List.map_cons,putE,putT]
  split
  ·rfl
  ·rw [h];rfl
theorem pure_ts:∀ ts:List T,V.pures (ts.map .t)=true
 | []=>rfl
 | t::ts=>by simp only [List.map_cons,V.pures,V.pure,pure_ts ts,Bool.and_self]
theorem mkV_pure:∀ m:Bool×List T,(mkV m).pure=true
 | (true,ts)=>by simp only [mkV,V.pure,pure_ts]
 | (false,[])=>rfl
 | (false,[t])=>rfl
 | (false,_::_::_)=>rfl
@[go_sem] theorem pureEs_tEs:∀ es:List Ent,pureEs (tEs es)=True
 | []=>rfl
 | e::es=>by
  have h:=pureEs_tEs es
  unfold tEs at h ⊢
  simp only [List.map_cons,pureEs,mkV_pure,h,and_self]
@[go_sem] theorem tEs_nil:tEs [] = []:=rfl
def strKs (es:List Ent):Prop := ∀ e∈es, ∃ s:ByteArray,e.1 = .string s
theorem strKs_nil:strKs []:=fun e h=>by cases h
theorem strKs_put {n:ByteArray} {m:Bool×List T}:∀ {es:List Ent},strKs es→strKs (putT (.string n) m es)
 | [],_=>fun e h=>by simp only [putT,List.mem_singleton] at h;subst h;exact ⟨n,rfl⟩
 | e0::es,h=>by
  unfold putT
  split
  ·intro e he
   rcases List.mem_cons.1 he with rfl | he
   ·exact ⟨n,rfl⟩
   ·exact h e (by simp [he])
  ·intro e he
   rcases List.mem_cons.1 he with rfl | he
   ·exact h _ (by simp)
   ·exact strKs_put (fun e he=>h e (by simp [he])) e he
theorem kindsT_str {es:List Ent} (h:strKs es):kindsT .string es=true:=by
 induction es with
 | nil=>rfl
 | cons e es ih =>
  obtain ⟨s,hs⟩:=h e (by simp)
  simp only [kindsT,hs,kindB,ih fun e he=>h e (by simp [he]),Bool.and_self]
theorem lookT_put {n n':ByteArray} {m:Bool×List T}:∀ {es:List Ent},strKs es→lookT (.string n) (putT (.string n') m es)=if n=n' then some (mkV m) else lookT (.string n) es
 | [],_=>by simp only [putT,lookT,keyB,decide_eq_true_eq]
 | e0::es,h=>by
  obtain ⟨s,hs⟩:=h e0 (by simp)
  obtain ⟨k0,m0⟩:=e0
  simp only at hs
  subst hs
  have ih:=lookT_put (n:=n) (n':=n') (m:=m) (es:=es) fun e he=>h e (by simp [he])
  simp only [putT,keyB,decide_eq_true_eq]
  split
  ·rename_i h1
   subst h1
   simp only [lookT,keyB,decide_eq_true_eq]
   split<;>rfl
  ·rename_i h1
   simp only [lookT,keyB,decide_eq_true_eq,ih]
   split
   ·rename_i h2
    subst h2
    rw [if_neg (fun h=>h1 h.symm)]
   ·rfl
def mapOf {α : Type} (nm : α → ByteArray) (c : α → Bool×List T) (l:List α):List Ent:=l.foldl (fun es x=>putT (.string (nm x)) (c x) es) []
theorem mapOf_snoc {α : Type} (nm : α → ByteArray) (c : α → Bool×List T) (l:List α) (x : α):mapOf nm c (l ++ [x])=putT (.string (nm x)) (c x) (mapOf nm c l):=by
 unfold mapOf
 rw [List.foldl_append]
 rfl
theorem mapOf_str {α : Type} (nm : α → ByteArray) (c : α → Bool×List T) (l:List α):strKs (mapOf nm c l):=by
 unfold mapOf
 have:∀ (l:List α) (es:List Ent),strKs es→strKs (l.foldl (fun es x=>putT (.string (nm x)) (c x) es) es):=by
  intro l
  induction l with
  | nil=>intro es h;exact h
  | cons x l ih=>intro es h;exact ih _ (strKs_put h)
 exact this l [] strKs_nil
theorem take_snoc {α : Type} [Inhabited α] {l:List α} {k:Nat} (h:k<l.length):l.take (k+1)=l.take k ++ [l.getD k default]:=by
 rw [List.take_add_one,List.getElem?_eq_getElem h,getD_of_lt h]
 rfl
theorem mapOf_take {α : Type} [Inhabited α] (nm : α → ByteArray) (c : α → Bool×List T) {l:List α} {k:Nat} (h:k<l.length):mapOf nm c (l.take (k+1))=putT (.string (nm (l.getD k default))) (c (l.getD k default)) (mapOf nm c (l.take k)):=by
 rw [take_snoc h,mapOf_snoc]
def lastOf {α : Type} (nm : α → ByteArray) (n:ByteArray):List α → Option α
 | []=>none
 | x::l=>match lastOf nm n l with
  | some y=>some y
  | none=>if n=nm x then some x else none
theorem lastOf_snoc {α : Type} (nm : α → ByteArray) (n:ByteArray) (x : α):∀ l:List α,lastOf nm n (l ++ [x])=if n=nm x then some x else lastOf nm n l
 | []=>by simp only [List.nil_append,lastOf]
 | y::l=>by
  simp only [List.cons_append,lastOf,lastOf_snoc nm n x l]
  by_cases h:n=nm x
  ·rw [if_pos h,if_pos h]
  ·rw [if_neg h,if_neg h]
theorem lastOf_mem {α : Type} {nm : α → ByteArray} {n:ByteArray}:∀ {l:List α} {x : α},lastOf nm n l=some x→x∈l∧nm x=n
 | y::l,x,h=>by
  simp only [lastOf] at h
  split at h
  ·rename_i z hz
   injection h with h;subst h
   obtain ⟨h1,h2⟩:=lastOf_mem hz
   exact ⟨by simp [h1],h2⟩
  ·split at h
   ·injection h with h;subst h
    rename_i hn
    exact ⟨by simp,hn.symm⟩
   ·cases h
theorem lastOf_none {α : Type} {nm : α → ByteArray} {n:ByteArray}:∀ {l:List α},lastOf nm n l=none ↔ ∀ x∈l,nm x≠n
 | []=>by simp [lastOf]
 | y::l=>by
  have ih:=lastOf_none (nm:=nm) (n:=n) (l:=l)
  simp only [lastOf,List.mem_cons,forall_eq_or_imp]
  split
  ·rename_i z hz
   obtain ⟨h1,h2⟩:=lastOf_mem hz
   constructor
   ·intro h;cases h
   ·rintro ⟨_,h⟩;exact (h z h1 h2).elim
  ·rename_i hz
   split
   ·rename_i hn
    constructor
    ·intro h;cases h
    ·rintro ⟨h,_⟩;exact (h hn.symm).elim
   ·rename_i hn
    exact ⟨fun _=>⟨fun h=>hn h.symm,ih.1 hz⟩,fun _=>rfl⟩
theorem lookT_mapOf {α : Type} (nm : α → ByteArray) (c : α → Bool×List T) (n:ByteArray) (l:List α):lookT (.string n) (mapOf nm c l)=(lastOf nm n l).map fun x=>mkV (c x):=by
 have:∀ (r:List α),lookT (.string n) (mapOf nm c r.reverse)=(lastOf nm n r.reverse).map fun x=>mkV (c x):=by
  intro r
  induction r with
  | nil=>rfl
  | cons x r ih =>
   rw [List.reverse_cons,mapOf_snoc,lookT_put (mapOf_str nm c _),lastOf_snoc,ih]
   split<;>rfl
 have h:=this l.reverse
 rwa [List.reverse_reverse] at h
def hasN (r:List ByteArray) (n:ByteArray):Bool:=r.any fun m=>decide (m=n)
theorem hasN_iff {r:List ByteArray} {n:ByteArray}:hasN r n=true ↔ n∈r:=by
 unfold hasN
 rw [List.any_eq_true]
 constructor
 ·rintro ⟨m,h1,h2⟩;rw [decide_eq_true_eq] at h2;subst h2;exact h1
 ·intro h;exact ⟨n,h,by simp⟩
def once:List ByteArray→List ByteArray:=fun l=>l.foldl (fun r n=>if hasN r n=true then r else r ++ [n]) []
theorem once_snoc (l:List ByteArray) (n:ByteArray):once (l ++ [n])=if hasN (once l) n=true then once l else once l ++ [n]:=by
 unfold once
 rw [List.foldl_append]
 rfl
def strK (v:Value):ByteArray :=
 match v with
 | .string s=>s
 | _=>⟨#[]⟩
theorem keys_put {n:ByteArray} {m:Bool×List T}:∀ {es:List Ent},strKs es→(putT (.string n) m es).map (fun e=>strK e.1)=if hasN (es.map fun e=>strK e.1) n=true then es.map (fun e=>strK e.1) else es.map (fun e=>strK e.1) ++ [n]
 | [],_=>rfl
 | e0::es,h=>by
  obtain ⟨s,hs⟩:=h e0 (by simp)
  obtain ⟨k0,m0⟩:=e0
  simp only at hs
  subst hs
  have ih:=keys_put (n:=n) (m:=m) (es:=es) fun e he=>h e (by simp [he])
  simp only [putT,keyB,decide_eq_true_eq]
  by_cases h1:n=s
  ·subst h1
   rw [if_pos rfl]
   have:hasN (List.map (fun e:Ent=>strK e.1) ((Value.string n,m0)::es)) n=true:=hasN_iff.2 (by simp [strK])
   rw [if_pos this]
   rfl
  ·rw [if_neg h1]
   have h2:hasN (List.map (fun e:Ent=>strK e.1) ((Value.string s,m0)::es)) n=hasN (List.map (fun e:Ent=>strK e.1) es) n:=by
    simp only [List.map_cons,hasN,List.any_cons,strK]
    rw [decide_eq_false (fun h=>h1 h.symm),Bool.false_or]
   rw [h2,List.map_cons,ih]
   split<;>rfl
theorem keys_mapOf {α : Type} (nm : α → ByteArray) (c : α → Bool×List T) (l:List α):(mapOf nm c l).map (fun e=>strK e.1)=once (l.map nm):=by
 have:∀ (r:List α),(mapOf nm c r.reverse).map (fun e=>strK e.1)=once (r.reverse.map nm):=by
  intro r
  induction r with
  | nil=>rfl
  | cons x r ih=>rw [List.reverse_cons,mapOf_snoc,keys_put (mapOf_str nm c _),List.map_append,List.map_cons,List.map_nil,once_snoc,ih]
 have h:=this l.reverse
 rwa [List.reverse_reverse] at h
theorem mem_once {l:List ByteArray} {n:ByteArray}:n∈once l ↔ n∈l:=by
 have:∀ (r:List ByteArray),n∈once r.reverse ↔ n∈r.reverse:=by
  intro r
  induction r with
  | nil=>simp [once]
  | cons x r ih =>
   rw [List.reverse_cons,once_snoc]
   split
   ·rename_i h
    rw [hasN_iff] at h
    rw [List.mem_append,ih,List.mem_singleton]
    constructor
    ·exact .inl
    ·rintro (h1 | rfl)
     ·exact h1
     ·exact ih.1 h
   ·rw [List.mem_append,List.mem_append,ih]
 have h:=this l.reverse
 rwa [List.reverse_reverse] at h
theorem once_nodup (l:List ByteArray):(once l).Nodup:=by
 have:∀ (r:List ByteArray),(once r.reverse).Nodup:=by
  intro r
  induction r with
  | nil=>exact List.nodup_nil
  | cons x r ih =>
   rw [List.reverse_cons,once_snoc]
   split
   ·exact ih
   ·rename_i h
    rw [hasN_iff] at h
    exact List.nodup_append.2 ⟨ih,by simp,fun a ha b hb=>by simp at hb;subst hb;exact fun e=>h (e ▸ ha)⟩
 have h:=this l.reverse
 rwa [List.reverse_reverse] at h
theorem once_length_le (l:List ByteArray):(once l).length≤l.length:=by
 have:∀ (r:List ByteArray),(once r.reverse).length≤r.reverse.length:=by
  intro r
  induction r with
  | nil=>exact Nat.le_refl _
  | cons x r ih =>
   rw [List.reverse_cons,once_snoc]
   split<;>simp only [List.length_append,List.length_cons,List.length_nil]<;>omega
 have h:=this l.reverse
 rwa [List.reverse_reverse] at h
theorem once_length_iff (l:List ByteArray):(once l).length<l.length ↔ ¬ l.Nodup:=by
 have:∀ (r:List ByteArray),(once r.reverse).length<r.reverse.length ↔ ¬ r.reverse.Nodup:=by
  intro r
  induction r with
  | nil=>simp [once]
  | cons x r ih =>
   rw [List.reverse_cons,once_snoc]
   have hle:=once_length_le r.reverse
   have hnd:(r.reverse ++ [x]).Nodup ↔ r.reverse.Nodup∧x ∉ r.reverse:=by
    rw [List.nodup_append]
    constructor
    ·rintro ⟨h1,_,h2⟩;exact ⟨h1,fun hx=>h2 x hx x (by simp) rfl⟩
    ·rintro ⟨h1,h2⟩;exact ⟨h1,by simp,fun a ha b hb=>by simp at hb;subst hb;exact fun e=>h2 (e ▸ ha)⟩
   split
   ·rename_i h
    rw [hasN_iff,mem_once] at h
    rw [hnd]
    simp only [List.length_append,List.length_cons,List.length_nil]
    exact ⟨fun _ h2=>h2.2 h,fun _=>by omega⟩
   ·rename_i h
    rw [hasN_iff,mem_once] at h
    rw [hnd]
    simp only [List.length_append,List.length_cons,List.length_nil]
    constructor
    ·intro h1 h2
     exact (ih.1 (by omega)) h2.1
    ·intro h1
     have:=ih.2 (fun h2=>h1 ⟨h2,h⟩)
     omega
 have h:=this l.reverse
 rwa [List.reverse_reverse] at h
theorem mapOf_length {α : Type} (nm : α → ByteArray) (c : α → Bool×List T) (l:List α):(mapOf nm c l).length=(once (l.map nm)).length:=by
 have:=congrArg List.length (keys_mapOf nm c l)
 simpa using this
theorem entsOk_put {k:Value} {m:Bool×List T} (hm:(m.1||m.2.length==1)=true):∀ {es:List Ent},entsOk es=true→entsOk (putT k m es)=true
 | [],_=>by simp only [putT,entsOk,List.all_cons,hm,List.all_nil,Bool.and_self]
 | e::es,h=>by
  unfold entsOk at h
  simp only [List.all_cons,Bool.and_eq_true] at h
  unfold putT
  split
  ·unfold entsOk
   simp only [List.all_cons,hm,Bool.true_and]
   exact h.2
  ·have:=entsOk_put (k:=k) hm (es:=es) h.2
   unfold entsOk at this ⊢
   simp only [List.all_cons,h.1,this,Bool.and_self]
theorem entsOk_mapOf {α : Type} (nm : α → ByteArray) (c : α → Bool×List T) (hc:∀ x,((c x).1||(c x).2.length==1)=true) (l:List α):entsOk (mapOf nm c l)=true:=by
 unfold mapOf
 have:∀ (l:List α) (es:List Ent),entsOk es=true→entsOk (l.foldl (fun es x=>putT (.string (nm x)) (c x) es) es)=true:=by
  intro l
  induction l with
  | nil=>intro es h;exact h
  | cons x l ih=>intro es h;exact ih _ (entsOk_put (hc x) h)
 exact this l [] rfl
def medC (m:MediumR):Bool×List T:=(true,MediumR.c m)
def seqC (s:SequenceR):Bool×List T:=(true,SequenceR.c s)
def catM (l:List MediumR):List Ent:=mapOf MediumR.name medC l
def catS (l:List SequenceR):List Ent:=mapOf SequenceR.name seqC l
@[go_sem] theorem mkV_med (m:MediumR):mkV (medC m) = .agg (vmed m):=rfl
@[go_sem] theorem mkV_seq (s:SequenceR):mkV (seqC s)=vsequence s:=rfl
abbrev medOf (l:List MediumR) (n:ByteArray):Option MediumR:=lastOf MediumR.name n l
abbrev seqOf (l:List SequenceR) (n:ByteArray):Option SequenceR:=lastOf SequenceR.name n l
abbrev vcat (p:ProjR):V := .agg [.t (.map (catM p.media)), .t (.map (catS p.seqs))]
end Go.Proofs.YtkjdkbmfaamhaaaGreat
