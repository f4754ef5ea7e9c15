/- Proved here: A contract that yields blocks of one's own, read as one that yields values, for use in the proofs of the given statements; conditions stand in each theorem. -/
import Derived.Test.YtinobebofhbnnaaGreatZQ
import Derived.Test.YtinobebofhbnnaaGreatZG
import Derived.Test.YtinobebofhbnnaaGreatZY
import Derived.Test.YtinobebofhbnnaaGreatZI
import Derived.Test.YtinobebofhbnnaaGreatZS
import Derived.Test.YtinobebofhbnnaaGreatZR
set_option linter.unusedSimpArgs false
set_option linter.unusedVariables false
set_option linter.unusedSectionVars false
set_option linter.unnecessarySimpa false
namespace Go.Proofs.YtinobebofhbnnaaGreat
open Go.RowKit
set_option maxRecDepth 4000
theorem cpure_of_cio {P:Program} {f:FuncId} {args:List V} {r r':V} {h':Heap} {n':Nat} (hc:CIO P f 0 [] args r' h' n') (hp:pureW r r' h'):CPure P f args r:=by
 refine ⟨hc.1,fun w S vs hS hargs=>(hc.2 ⟨S,fun _=>none,fun _=>False,fun b=>b<w.heap.size,fun _=>none,none⟩ w vs (rel_bare hS) (fun i hi=>hi.elim) (RdVs.unbare (E:=⟨S,fun _=>none,fun _=>False,fun b=>b<w.heap.size,fun _=>none,none⟩) args hargs)).mono ?_⟩
 rintro e w' ⟨v,E',rfl,h1,hbd,h2,hrv⟩
 refine ⟨v,lentS E' h',rfl,fun b hb' => .inl (h2.S b hb'),fun b hb'=>?_,fun b hb'=>?_,hp.2 _ _ _ (RdV.lend h1 r' hp.1 hrv),⟨h2.os,h2.tape,h2.output,h2.size,fun b hb'=>h2.keep b (.inr hb')⟩⟩
 ·rcases hb' with hb' | ⟨i,hv',_,hB,_,_,hbk⟩
  ·rcases h2.S' b hb' with q | q
   ·exact .inl q
   ·exact .inr (Nat.le_of_not_lt q)
  ·have q:=(h1.own i hv' b hB hbk).2.2
   exact .inr (Nat.le_of_not_lt fun hlt=>q ((h2.D b).2 hlt))
 ·rcases hb' with hb' | ⟨i,hv',_,hB,_,_,hbk⟩
  ·exact h1.slt b hb'
  ·exact (h1.own i hv' b hB hbk).1
theorem lcall_of_icall {P:Program} {σ : St} {d:Option Tmp} {f:FuncId} {xs:List V} {K:St→Prop} (he:P.enters f=true) (h:ICall P σ d f xs K):LCall P σ d f xs K:=by
 refine ⟨he,fun E a w vs hr hvs=>?_⟩
 rcases h E w vs hr.rel hr.bound hvs with ⟨_,h2⟩ | ⟨u,h2,_⟩
 ·refine h2.mono ?_
  rintro e w' ⟨v,x,h',nx',E',rfl,q2,q3,q4,q5,q6⟩
  have hr':RelF E' { σ with h:=h',nx:=nx' } a w':=⟨q2,q3,q4.rdVs _ hr.fr,q4.defs hr.defers⟩
  exact ⟨v,_,E',rfl,hr'.put d q5,q4,q6⟩
 ·rw [run_callEnter he] at h2
  cases h2
def giveI (P:Program) (σ : St) (d:Option Tmp) (f:FuncId) (xs:List V) (K:St→Prop) (h:Option Heap):Prop :=
 match h with
 | some h=>ICall P { σ with h:=h } d f (V.ress h xs) K
 | none=>False
theorem lcall_gi {P:Program} {σ : St} {d:Option Tmp} {f:FuncId} {xs:List V} {K:St→Prop} (he:P.enters f=true) (h:giveI P σ d f xs K (giveL (reachL (reach σ.h 8) xs) σ.h)):LCall P σ d f xs K:=by
 unfold giveI at h
 split at h
 ·rename_i h' hg
  refine ⟨he,fun E a w vs hr hvs=>?_⟩
  obtain ⟨E1,r1,r2,r3⟩:=RelF.giveL (σ := σ) _ (h := σ.h) hr hg
  have hvs1:=RdVs.res r1.rel _ (r2.rdVs _ hvs)
  refine ((lcall_of_icall he h).2 E1 a w vs r1 hvs1).mono ?_
  rintro e w' ⟨v, σ',E',q1,q2,q3,q4⟩
  exact ⟨v, σ',E',q1,q2,r2.trans q3,q4⟩
 ·exact h.elim
attribute [go_sem] giveI
theorem cio_args {P:Program} {f:FuncId} {m n':Nat} {h h':Heap} {args args':List V} {r:V} (ha:AsVs args' args) (hc:CIO P f m h args r h' n'):CIO P f m h args' r h' n' :=
 ⟨hc.1,fun E w vs h1 h2 h3=>hc.2 E w vs h1 h2 (ha _ _ _ h3)⟩
open Go.RowKit
set_option maxRecDepth 4000
open Go.Lib
def zClipV:Value := .agg #[.int .i64 0, .int .i64 0, .int .i64 0, .string ⟨#[]⟩, .int .i64 0, .int .i64 0, .int .i64 0, .int .i64 0, .bool false, .int .i64 0, .string ⟨#[]⟩, .int .i64 0, .int .i64 0, .int .i64 0, .int .i64 0, .bool false, .int .i64 0, .int .i64 0, .int .i64 0, .string ⟨#[]⟩, .int .i64 0, .slice none 0 0]
theorem info_clip:(Tryz.prog.info? 101).map (fun i=>(i.zero,i.size,i.bytes))=some (some zClipV,22,216):=by kernel_rfl
set_option maxHeartbeats 2000000 in
theorem run_growC (n:Nat) (h0 : 0<n) (hn:n≤1000000) (w:World):Calls Tryz.prog 195 #[.slice none 0 0, .int .i64 n] w fun e w' =>
  e = .returned (.slice (some ⟨w.heap.size,0,none⟩) 0 (grownCap w n 0 101))∧w'=w.drew.alloc (.cells (Builtin.zeroCells zClipV.cells n++Builtin.zeroCells zClipV.cells (grownCap w n 0 101 - n)) 101):=by
 obtain ⟨i0,hi,hz0,hz1,hz2⟩:=info_parts info_clip
 have h1 : ¬ ((n:Int)<0):=by omega
 have h2:Go.RowKit.wrap64 ((0:Int) - 0)=0:=by unfold Go.RowKit.wrap64;omega
 have h3:Go.RowKit.wrap64 ((n:Int) - 0)=(n:Int):=by unfold Go.RowKit.wrap64;omega
 have h4:(n:Int) > 0:=by omega
 have hrz:∀ ty,(Builtin.append_ #[27,3] ty #[.slice none 0 0, .int .i64 n]).run Tryz.prog w = .ok (.slice (some ⟨w.heap.size,0,none⟩) n (grownCap w n 0 101)) (w.drew.alloc (.cells (Builtin.zeroCells zClipV.cells n++Builtin.zeroCells zClipV.cells (grownCap w n 0 101 - n)) 101)):=fun ty =>
  run_append_nil_zeros w _ _ ty _ i0 _ .i64 .i64 Tryz.underlying27 Tryz.underlying3 hi hz0 n h0 (by omega) (by omega) (by rw [hz2];omega)
 have hGn:n≤grownCap w n 0 101:=grownCap_ge w _ _ _
 obtain ⟨G,hG⟩:∃ G,G=grownCap w n 0 101:=⟨_,rfl⟩
 rw [← hG] at hrz hGn ⊢
 generalize Builtin.zeroCells zClipV.cells n=ZA at *
 generalize Builtin.zeroCells zClipV.cells (G - n)=ZB at *
 go_enter Tryz.func195,Tryz.ntmps195
 go_wp2_with (at_builtin;refine Lib.wpList_append_run _ rfl _ _ _ _ rfl _ _ rfl rfl _ _ (hrz _) ?_)
 all_goals (go_ret;exact ⟨rfl,rfl⟩)
set_option maxHeartbeats 2000000 in
theorem run_growC0 (w:World):Calls Tryz.prog 195 #[.slice none 0 0, .int .i64 0] w fun e w'=>e = .returned (.slice none 0 0)∧w'=w:=by
 have h2:Go.RowKit.wrap64 ((0:Int) - 0)=0:=by unfold Go.RowKit.wrap64;omega
 go_enter Tryz.func195,Tryz.ntmps195
 go_wp2
 all_goals (go_ret;exact ⟨rfl,rfl⟩)
theorem igrowC {σ : St} {d:Option Tmp} {n:Nat} {K:St→Prop} (hn:n≤1000000) (dd:List T) (hK:K ((σ.add (.row 101 22 dd [])).put d (.own σ.nx))):ICall Tryz.prog σ d 195 [.t (.lit (.slice none 0 0)),vint n] K:=by
 refine icall_grow Tryz.xen195 (fun w=>?_) hK
 rcases Nat.eq_zero_or_pos n with rfl | h0
 ·exact (run_growC0 w).mono fun e w' h => .inl ⟨rfl,h⟩
 ·refine (run_growC n h0 hn w).mono ?_
  rintro e w' ⟨rfl,rfl⟩
  have h1:=grownCap_ge w n 0 101
  refine .inr ⟨_,_,rfl,rfl,?_,grownCap_le_maxLen w n 0 _ (by unfold maxLen;omega)⟩
  simp only [Array.size_append,size_zeros]
  have:zClipV.cells.size=22:=rfl
  rw [this]
  omega
theorem cConcatIO (d:List T) (a b:List ClipR) (ha:a.length≤64) (hb:b.length≤64):CIO Tryz.prog 122 0 [] [.t (.list 1 d [[tclips a],[tclips b]])] (.own 0) [(0,RowC (a++b))] 1:=by
 refine cio_of Tryz.xen122 Tryz.func122 rfl Tryz.ntmps122 (by rw [Tryz.results122]) (aw_ok _ ?_)
 simp only [go_sem,simprocAttr]
 have c2:((2:Nat):Int)=2:=rfl
 have w1:IntKind.i64.wrap 1=1:=by decide
 have w2:IntKind.i64.wrap 2=2:=by decide
 have e0:IntKind.i64.wrap (0+(a.length:Int))=a.length:=by rw [Go.Proofs.YtinobebofhbnnaaGreat.wrap64 (by omega) (by omega)];omega
 have e0':IntKind.i64.wrap (a.length:Int)=a.length:=by rw [Go.Proofs.YtinobebofhbnnaaGreat.wrap64 (by omega) (by omega)]
 have e1:IntKind.i64.wrap ((a.length:Int)+(b.length:Int))=((a++b).length:Nat):=by rw [Go.Proofs.YtinobebofhbnnaaGreat.wrap64 (by omega) (by omega),List.length_append];omega
 have n0 : ¬ ((a.length:Int)<0):=by omega
 have n1 : ¬ ((((a++b).length:Nat):Int)<0):=by omega
 refine awp_loopL ?_
 refine awpL_step (aw_ok _ ?_)
 simp only [go_sem,simprocAttr,decide_true,decide_false,nth,Option.getD_some,List.getElem?_cons_zero,List.getElem?_cons_succ,w1,w2,c2,e0,e0',e1,n0,forall_const,false_implies,true_implies]
 refine awpL_step (aw_ok _ ?_)
 simp only [go_sem,simprocAttr,decide_true,decide_false,nth,Option.getD_some,List.getElem?_cons_zero,List.getElem?_cons_succ,w1,w2,c2,e0,e0',e1,n1,forall_const,false_implies,true_implies]
 refine awpL_step (aw_ok _ ?_)
 simp only [go_sem,simprocAttr,decide_true,decide_false,nth,Option.getD_some,List.getElem?_cons_zero,List.getElem?_cons_succ,w1,w2,c2,e0,e0',e1,n1,forall_const,false_implies,true_implies]
 refine igrowC (n:=(a++b).length) (by rw [List.length_append];omega) (ClipR.c default) ?_
 simp only [go_sem,simprocAttr]
 refine awp_loopL ?_
 refine awpL_step (aw_ok _ ?_)
 simp only [go_sem,simprocAttr,decide_true,decide_false,nth,Option.getD_some,List.getElem?_cons_zero,List.getElem?_cons_succ,w1,w2,c2,forall_const,false_implies,true_implies]
 refine ⟨⟨by unfold maxLen;omega,by omega⟩,?_⟩
 refine awpL_step (aw_ok _ ?_)
 simp only [go_sem,simprocAttr,decide_true,decide_false,nth,Option.getD_some,List.getElem?_cons_zero,List.getElem?_cons_succ,w1,w2,c2,forall_const,false_implies,true_implies]
 refine ⟨⟨by unfold maxLen;omega,by omega⟩,?_⟩
 refine awpL_step (aw_ok _ ?_)
 simp only [go_sem,simprocAttr,decide_true,decide_false,nth,Option.getD_some,List.getElem?_cons_zero,List.getElem?_cons_succ,w1,w2,c2,forall_const,false_implies,true_implies]
 refine weak_of [(0,some 2)] ?_
 simp only [go_sem,simprocAttr]
 simp
open Go.RowKit
set_option maxRecDepth 4000
structure Trk (t:List ClipR):Prop where
 len:t.length≤200
 ok:∀ i,i<t.length→vClip (t.getD i default)=true
 tot:totL t≤2147483647
theorem trk_parts {t:List ClipR} (h:Trk t):t.length≤200∧(∀ i,i<t.length→vClip (t.getD i default)=true)∧totL t≤2147483647:=⟨h.len,h.ok,h.tot⟩
theorem trk_range {t:List ClipR} (h:Trk t) {k:Nat} (hk:k≤t.length) : 0≤totL (t.take k)∧totL (t.take k)≤2147483647:=by
 have h1:=tot_take h.ok k
 have h2:=totL_nonneg (t.take k) fun c hc=>(take_all hk (fun i hi=>h.ok i (by omega)) c hc).1
 have h3:=h.tot
 omega
theorem trk_mk {t:List ClipR} (h1:t.length≤200) (h2:∀ c∈t,vClip c=true) (h3:totL t≤2147483647):Trk t:=⟨h1,fun i hi=>h2 _ (mem_getD hi),h3⟩
theorem cPackIO (t:List ClipR) (hfit:∀ c∈t,c.fit) (hv:Trk t):CIO Tryz.prog 103 0 [] [.t (tclips t)] (.own 0) [(0,RowC (packP t))] 1:=by
 obtain ⟨h64,hi,htot⟩:=trk_parts hv
 have hM:∀ i,i<t.length→Mild (t.getD i default):=fun i h=>mild_of (hfit _ (mem_getD h)) (hi i h)
 refine cio_of Tryz.xen103 Tryz.func103 rfl Tryz.ntmps103 (by rw [Tryz.results103]) (aw_ok _ ?_)
 simp only [go_sem,simprocAttr]
 refine awp_loop_f (fun (k:Nat) σ => { fr:=(σ.fr.set 3 (.own 0)).set 8 (vint k),h:=[(0,RowC (packGo t k))],nx:=1 }) (fun k=>k≤t.length) (fun k=>t.length - k) 0 (weak_of [(0,none)] ?_) (Nat.zero_le _) ?_
 ·simp only [go_sem,simprocAttr]
  first | exact rfl | exact ⟨rfl,rfl⟩
 ·intro k hk
  obtain ⟨f1,f2,f3,f4⟩:=packGo_facts hi k hk
  refine aw_ok _ ?_
  simp only [go_sem,simprocAttr]
  refine ⟨fun hlt=>?_,fun hge=>?_⟩
  ·simp only [bxx] at hlt
   have hkl:k<t.length:=by omega
   have w1:IntKind.i64.wrap ((k:Int) - 1)=(k:Int) - 1:=wrap64 (by omega) (by omega)
   have w2:((k:Int) - 1).toNat=k - 1:=by omega
   have hlk:=vClip_len (hi k hkl)
   have htk:=totL_take t k hkl
   have htr:=trk_range hv (k:=k+1) (by omega)
   have hn1:=totL_nonneg _ f4
   unfold awS
   simp only [go_sem,simprocAttr]
   refine ⟨⟨by omega,by omega⟩,?_⟩
   refine drawR_of [0,1,2,3,4,5,6,7,8,9,10] .done rfl (by kernel_rfl) (by kernel_rfl) (by decide) ?_
   simp only [go_sem,simprocAttr,w1,w2]
   refine ⟨fun h=>?_,_,fun _=>cContinues (t.getD (k - 1) default) (t.getD k default) (hM (k - 1) (by omega)),?_⟩
   ·simp only [bxx] at h
    omega
   simp only [go_sem,simprocAttr]
   refine brW (b:=packB t k) ?_ ⟨fun hb=>?_,fun hb=>?_⟩
   ·unfold packB
    have:decide ((k:Int) > 0)=decide (0<k):=by rw [Bool.eq_iff_iff];simp only [bxx];omega
    rw [this]
   ·have hk0 : 0<k:=by unfold packB at hb;simp only [Bool.and_eq_true,decide_eq_true_eq] at hb;exact hb.1
    obtain ⟨i,c,e⟩:=snoc_of (f2 hk0)
    have f3':=f3
    have f4':=f4
    rw [e] at f1 f3 f4
    rw [totL_app,totL_one] at f3
    have hl1:=f4 c (by simp)
    have hin:=totL_nonneg i fun d hd=>f4 d (by simp [hd])
    have hil:i.length+1≤k:=by simpa using f1
    unfold awS
    rw [e]
    have hlen:(List.map ClipR.c (i ++ [c])).length=i.length+1:=by simp
    simp only [go_sem,simprocAttr]
    have hL:(i ++ [c]).length=i.length+1:=by simp
    have w3:IntKind.i64.wrap (((i.length+1:Nat):Int) - 1)=(i.length:Int):=by rw [wrap64 (by omega) (by omega)];omega
    have w4:IntKind.i64.wrap ((i.length:Int)+1 - 1)=(i.length:Int):=by rw [wrap64 (by omega) (by omega)];omega
    refine drawC_of 13 .done rfl (by kernel_rfl) (by kernel_rfl) (by decide) ?_
    have w5:IntKind.i64.wrap (c.len+(t.getD k default).len)=c.len+(t.getD k default).len:=wrap64 (by omega) (by omega)
    simp only [go_sem,simprocAttr,hL,w3,w4,wrap1 (show k<9223372036854775807 by omega),getD_snoc,w5,tset_len]
    refine ⟨⟨by omega,by omega⟩,by omega,⟨by omega,by omega⟩,by omega,by kernel_rfl,k+1,weak_of [(0,some 0)] ?_,by omega,by omega⟩
    simp only [go_sem,simprocAttr]
    refine ⟨⟨by simp,?_⟩,rfl⟩
    unfold packGo
    rw [if_pos hb,e,addLast_snoc]
   ·unfold awS
    simp only [go_sem,simprocAttr]
    refine ⟨_,cCopied (t.getD k default) (hM k hkl).chan,?_⟩
    simp only [go_sem,simprocAttr,wrap1 (show k<9223372036854775807 by omega)]
    refine ⟨⟨by unfold maxLen;omega,by omega⟩,k+1,weak_of [(0,some 3)] ?_,by omega,by omega⟩
    simp only [go_sem,simprocAttr]
    refine ⟨⟨by simp,?_⟩,rfl⟩
    have e:packGo t (k+1)=packGo t k ++ [t.getD k default]:=by rw [packGo,if_neg (by rw [hb];simp)]
    rw [e,List.map_append]
    rfl
  ·simp only [bxx] at hge
   have:k=t.length:=by omega
   subst this
   unfold awS
   simp only [go_sem,simprocAttr]
   refine weak_self ?_
   simp only [go_sem,simprocAttr]
   exact ⟨by simp,rfl⟩
theorem cPackNil:CPure Tryz.prog 103 [.t (.lit (.slice none 0 0))] (.t (.lit (.slice none 0 0))):=by
 refine cpure_of Tryz.xen103 Tryz.func103 rfl Tryz.ntmps103 (by rw [Tryz.results103]) (aw_ok _ ?_)
 simp only [go_sem,simprocAttr]
 refine awp_loopL ?_
 refine awpL_step (aw_ok _ ?_)
 simp only [go_sem,simprocAttr,decide_true,decide_false]
open Go.RowKit
set_option maxRecDepth 4000
def joinT (a b:List ClipR):List ClipR×Int :=
 if (!vTrack a || !vTrack b)=true then ([],1)
 else if decide (totL a+totL b > 2147483647)=true then ([],2)
 else if decide ((packP (a++b)).length > 64)=true then ([],5) else (packP (a++b),0)
abbrev vte (r:List ClipR×Int):V := .tup [.t (tclips r.1),vint r.2]
end Go.Proofs.YtinobebofhbnnaaGreat
