/- Proved here: A contract that yields blocks of one's own, read as one that yields values, for use in the proofs of the given statements; conditions stand in each theorem. -/
import Derived.Test.YtjmoncjecpckhaaGreatZQ
import Derived.Test.YtjmoncjecpckhaaGreatZG
import Derived.Test.YtjmoncjecpckhaaGreatZY
import Derived.Test.YtjmoncjecpckhaaGreatZI
import Derived.Test.YtjmoncjecpckhaaGreatZS
import Derived.Test.YtjmoncjecpckhaaGreatZR
set_option linter.unusedSimpArgs false
set_option linter.unusedVariables false
set_option linter.unusedSectionVars false
set_option linter.unnecessarySimpa false
namespace Go.Proofs.YtjmoncjecpckhaaGreat
open Go.RowKit
set_option maxRecDepth 4000
theorem lcall_of_icall {P:Program} {σ : St} {d:Option Tmp} {f:FuncId} {xs:List V} {K:St→Prop} (he:P.enters f=true) (h:ICall P σ d f xs K):LCall P σ d f xs K:=by
 refine ⟨he,fun E a w vs hr hvs=>?_⟩
 rcases h E w vs hr.rel hr.bound hvs with ⟨_,h2⟩ | ⟨u,h2,_⟩
 ·refine h2.mono ?_
  rintro e w' ⟨v,x,h',nx',E',rfl,q2,q3,q4,q5,q6⟩
  have hr':RelF E' { σ with h:=h',nx:=nx' } a w':=⟨q2,q3,q4.rdVs _ hr.fr,q4.defs hr.defers⟩
  exact ⟨v,_,E',rfl,hr'.put d q5,q4,q6⟩
 ·rw [run_callEnter he] at h2
  cases h2
def giveI (P:Program) (σ : St) (d:Option Tmp) (f:FuncId) (xs:List V) (K:St→Prop) (h:Option Heap):Prop :=
 match h with
 | some h=>ICall P { σ with h:=h } d f (V.ress h xs) K
 | none=>False
theorem lcall_gi {P:Program} {σ : St} {d:Option Tmp} {f:FuncId} {xs:List V} {K:St→Prop} (he:P.enters f=true) (h:giveI P σ d f xs K (giveL (reachL (reach σ.h 8) xs) σ.h)):LCall P σ d f xs K:=by
 unfold giveI at h
 split at h
 ·rename_i h' hg
  refine ⟨he,fun E a w vs hr hvs=>?_⟩
  obtain ⟨E1,r1,r2,r3⟩:=RelF.giveL (σ := σ) _ (h := σ.h) hr hg
  have hvs1:=RdVs.res r1.rel _ (r2.rdVs _ hvs)
  refine ((lcall_of_icall he h).2 E1 a w vs r1 hvs1).mono ?_
  rintro e w' ⟨v, σ',E',q1,q2,q3,q4⟩
  exact ⟨v, σ',E',q1,q2,r2.trans q3,q4⟩
 ·exact h.elim
attribute [go_sem] giveI
theorem cio_args {P:Program} {f:FuncId} {m n':Nat} {h h':Heap} {args args':List V} {r:V} (ha:AsVs args' args) (hc:CIO P f m h args r h' n'):CIO P f m h args' r h' n' :=
 ⟨hc.1,fun E w vs h1 h2 h3=>hc.2 E w vs h1 h2 (ha _ _ _ h3)⟩
open Go.RowKit
set_option maxRecDepth 4000
open Go.Lib
def zClipV:Value := .agg #[.int .i64 0, .int .i64 0, .int .i64 0, .string ⟨#[]⟩, .int .i64 0, .int .i64 0, .int .i64 0, .int .i64 0, .bool false, .int .i64 0, .string ⟨#[]⟩, .int .i64 0, .int .i64 0, .int .i64 0, .int .i64 0, .bool false, .int .i64 0, .int .i64 0, .int .i64 0, .string ⟨#[]⟩, .int .i64 0, .slice none 0 0]
open Go.RowKit
set_option maxRecDepth 4000
structure Trk (t:List ClipR):Prop where
 len:t.length≤200
 ok:∀ i,i<t.length→vClip (t.getD i default)=true
 tot:totL t≤2147483647
theorem trk_parts {t:List ClipR} (h:Trk t):t.length≤200∧(∀ i,i<t.length→vClip (t.getD i default)=true)∧totL t≤2147483647:=⟨h.len,h.ok,h.tot⟩
theorem trk_range {t:List ClipR} (h:Trk t) {k:Nat} (hk:k≤t.length) : 0≤totL (t.take k)∧totL (t.take k)≤2147483647:=by
 have h1:=tot_take h.ok k
 have h2:=totL_nonneg (t.take k) fun c hc=>(take_all hk (fun i hi=>h.ok i (by omega)) c hc).1
 have h3:=h.tot
 omega
theorem trk_mk {t:List ClipR} (h1:t.length≤200) (h2:∀ c∈t,vClip c=true) (h3:totL t≤2147483647):Trk t:=⟨h1,fun i hi=>h2 _ (mem_getD hi),h3⟩
theorem cPackIO (t:List ClipR) (hfit:∀ c∈t,c.fit) (hv:Trk t):CIO Tryz.prog 45 0 [] [.t (tclips t)] (.own 0) [(0,RowC (packP t))] 1:=by
 obtain ⟨h64,hi,htot⟩:=trk_parts hv
 have hM:∀ i,i<t.length→Mild (t.getD i default):=fun i h=>mild_of (hfit _ (mem_getD h)) (hi i h)
 refine cio_of Tryz.xen45 Tryz.func45 rfl Tryz.ntmps45 (by rw [Tryz.results45]) (aw_ok _ ?_)
 simp only [go_sem,simprocAttr]
 refine awp_loop_f (fun (k:Nat) σ => { fr:=(σ.fr.set 3 (.own 0)).set 8 (vint k),h:=[(0,RowC (packGo t k))],nx:=1 }) (fun k=>k≤t.length) (fun k=>t.length - k) 0 (weak_of [(0,none)] ?_) (Nat.zero_le _) ?_
 ·simp only [go_sem,simprocAttr]
  first | exact rfl | exact ⟨rfl,rfl⟩
 ·intro k hk
  obtain ⟨f1,f2,f3,f4⟩:=packGo_facts hi k hk
  refine aw_ok _ ?_
  simp only [go_sem,simprocAttr]
  refine ⟨fun hlt=>?_,fun hge=>?_⟩
  ·simp only [bxx] at hlt
   have hkl:k<t.length:=by omega
   have w1:IntKind.i64.wrap ((k:Int) - 1)=(k:Int) - 1:=wrap64 (by omega) (by omega)
   have w2:((k:Int) - 1).toNat=k - 1:=by omega
   have hlk:=vClip_len (hi k hkl)
   have htk:=totL_take t k hkl
   have htr:=trk_range hv (k:=k+1) (by omega)
   have hn1:=totL_nonneg _ f4
   unfold awS
   simp only [go_sem,simprocAttr]
   refine ⟨⟨by omega,by omega⟩,?_⟩
   refine drawR_of [0,1,2,3,4,5,6,7,8,9,10] .done rfl (by kernel_rfl) (by kernel_rfl) (by decide) ?_
   simp only [go_sem,simprocAttr,w1,w2]
   refine ⟨fun h=>?_,_,fun _=>cContinues (t.getD (k - 1) default) (t.getD k default) (hM (k - 1) (by omega)),?_⟩
   ·simp only [bxx] at h
    omega
   simp only [go_sem,simprocAttr]
   refine brW (b:=packB t k) ?_ ⟨fun hb=>?_,fun hb=>?_⟩
   ·unfold packB
    have:decide ((k:Int) > 0)=decide (0<k):=by rw [Bool.eq_iff_iff];simp only [bxx];omega
    rw [this]
   ·have hk0 : 0<k:=by unfold packB at hb;simp only [Bool.and_eq_true,decide_eq_true_eq] at hb;exact hb.1
    obtain ⟨i,c,e⟩:=snoc_of (f2 hk0)
    have f3':=f3
    have f4':=f4
    rw [e] at f1 f3 f4
    rw [totL_app,totL_one] at f3
    have hl1:=f4 c (by simp)
    have hin:=totL_nonneg i fun d hd=>f4 d (by simp [hd])
    have hil:i.length+1≤k:=by simpa using f1
    unfold awS
    rw [e]
    have hlen:(List.map ClipR.c (i ++ [c])).length=i.length+1:=by simp
    simp only [go_sem,simprocAttr]
    have hL:(i ++ [c]).length=i.length+1:=by simp
    have w3:IntKind.i64.wrap (((i.length+1:Nat):Int) - 1)=(i.length:Int):=by rw [wrap64 (by omega) (by omega)];omega
    have w4:IntKind.i64.wrap ((i.length:Int)+1 - 1)=(i.length:Int):=by rw [wrap64 (by omega) (by omega)];omega
    refine drawC_of 13 .done rfl (by kernel_rfl) (by kernel_rfl) (by decide) ?_
    have w5:IntKind.i64.wrap (c.len+(t.getD k default).len)=c.len+(t.getD k default).len:=wrap64 (by omega) (by omega)
    simp only [go_sem,simprocAttr,hL,w3,w4,wrap1 (show k<9223372036854775807 by omega),getD_snoc,w5,tset_len]
    refine ⟨⟨by omega,by omega⟩,by omega,⟨by omega,by omega⟩,by omega,by kernel_rfl,k+1,weak_of [(0,some 0)] ?_,by omega,by omega⟩
    simp only [go_sem,simprocAttr]
    refine ⟨⟨by simp,?_⟩,rfl⟩
    unfold packGo
    rw [if_pos hb,e,addLast_snoc]
   ·unfold awS
    simp only [go_sem,simprocAttr]
    refine ⟨_,cCopied (t.getD k default) (hM k hkl).chan,?_⟩
    simp only [go_sem,simprocAttr,wrap1 (show k<9223372036854775807 by omega)]
    refine ⟨⟨by unfold maxLen;omega,by omega⟩,k+1,weak_of [(0,some 3)] ?_,by omega,by omega⟩
    simp only [go_sem,simprocAttr]
    refine ⟨⟨by simp,?_⟩,rfl⟩
    have e:packGo t (k+1)=packGo t k ++ [t.getD k default]:=by rw [packGo,if_neg (by rw [hb];simp)]
    rw [e,List.map_append]
    rfl
  ·simp only [bxx] at hge
   have:k=t.length:=by omega
   subst this
   unfold awS
   simp only [go_sem,simprocAttr]
   refine weak_self ?_
   simp only [go_sem,simprocAttr]
   exact ⟨by simp,rfl⟩
theorem cPackNil:CPure Tryz.prog 45 [.t (.lit (.slice none 0 0))] (.t (.lit (.slice none 0 0))):=by
 refine cpure_of Tryz.xen45 Tryz.func45 rfl Tryz.ntmps45 (by rw [Tryz.results45]) (aw_ok _ ?_)
 simp only [go_sem,simprocAttr]
 refine awp_loopL ?_
 refine awpL_step (aw_ok _ ?_)
 simp only [go_sem,simprocAttr,decide_true,decide_false]
open Go.RowKit
set_option maxRecDepth 4000
def joinT (a b:List ClipR):List ClipR×Int :=
 if (!vTrack a || !vTrack b)=true then ([],1)
 else if decide (totL a+totL b > 2147483647)=true then ([],2)
 else if decide ((packP (a++b)).length > 64)=true then ([],5) else (packP (a++b),0)
abbrev vte (r:List ClipR×Int):V := .tup [.t (tclips r.1),vint r.2]
end Go.Proofs.YtjmoncjecpckhaaGreat
