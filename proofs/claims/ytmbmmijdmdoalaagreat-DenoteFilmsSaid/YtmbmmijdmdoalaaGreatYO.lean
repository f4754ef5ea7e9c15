/- Proved here: Films and frames of any project, the reference, for use in the proofs of the given statements; conditions stand in each theorem. -/
import Derived.Test.YtmbmmijdmdoalaaGreatYN
import Derived.Test.YtmbmmijdmdoalaaGreatZQ
set_option linter.unusedSimpArgs false
set_option linter.unusedVariables false
set_option linter.unusedSectionVars false
set_option linter.unnecessarySimpa false
namespace Go.Proofs.YtmbmmijdmdoalaaGreat
open Go.RowKit
set_option maxRecDepth 4000
def late (frm:Int) (k:Nat):Bool:=decide (frm > 9223372036854775807 - (k:Int))
def filmL (p:ProjR) (name:ByteArray) (frm:Int) (n:Nat):List ExprR:=(List.range n).map fun k=>if late frm k=true then zeroE else filmE redX p 5 name (frm+(k:Int))
def rowF (p:ProjR) (name:ByteArray) (frm:Int) (n:Nat):List (List T):=(List.range n).map fun k=>if late frm k=true then zE else ExprR.c (filmE redX p 5 name (frm+(k:Int)))
def filmR (p:ProjR) (name:ByteArray) (frm n:Int):List ExprR×Int :=
 if validP p≠0 then ([],validP p) else
 match seqOf p.seqs name with
 | none=>([],7)
 | some _=>if n<0 then ([],1) else if n > 65536 then ([],5) else (filmL p name frm n.toNat,0)
abbrev vfilm (r:List ExprR×Int):V := .tup [.t (texprs r.1),vint r.2]
theorem iL_refl:∀ l:List T,ImpL l l
 | []=>trivial
 | x::l=>⟨imp_refl,iL_refl l⟩
theorem zE_imp:ImpL zE (ExprR.c zeroE):=by
 unfold zeroE
 simp only [ExprR.c,cs_eq,List.map_nil]
 exact ⟨imp_refl,imp_refl,imp_refl,imp_refl,imp_refl,imp_refl,imp_refl,imp_nil,trivial⟩
theorem rowF_imp (p:ProjR) (name:ByteArray) (frm:Int) (n:Nat):ImpR (rowF p name frm n) ((filmL p name frm n).map ExprR.c):=by
 unfold rowF filmL
 rw [List.map_map]
 generalize List.range n=r
 induction r with
 | nil=>trivial
 | cons k r ih =>
  refine ⟨?_,ih⟩
  simp only [Function.comp]
  by_cases h:late frm k=true
  ·rw [if_pos h,if_pos h];exact zE_imp
  ·rw [if_neg h,if_neg h];exact iL_refl _
theorem rowF_succ (p:ProjR) (name:ByteArray) (frm:Int) (k:Nat):rowF p name frm (k+1)=rowF p name frm k ++ [if late frm k=true then zE else ExprR.c (filmE redX p 5 name (frm+(k:Int)))]:=by
 unfold rowF
 rw [List.range_succ,List.map_append]
 rfl
theorem rowF_len (p:ProjR) (name:ByteArray) (frm:Int) (k:Nat):(rowF p name frm k).length=k:=by unfold rowF;simp
theorem pureW_fnil (k:Int) {h:Heap}:pureW (vfilm ([],k)) (.tup [.t (.lit (.slice none 0 0)),vint k]) h :=
 pureW_as (r' := .tup [.t (.lit (.slice none 0 0)),vint k]) rfl rfl (as_impTup (by exact ⟨as_nilL,as_refl,trivial⟩))
theorem pureW_film {l:List ExprR} {k:Int} {d:List T} {R:List (List T)} {x:V} {h:Heap} (e:x.lend h = .tup [.t (.list 8 d R),vint k]) (hi:ImpR R (l.map ExprR.c)):pureW (vfilm (l,k)) x h :=
 pureW_as e rfl (as_impTup (by exact ⟨as_imp (imp_list hi),as_refl,trivial⟩))
theorem cRFilm (p:ProjR) (h:p.fit) (name:ByteArray) (frm n:Int) (hf:I64 frm):CPure Tryz.prog 20 [vproj p,vstr name,vint frm,vint n] (vfilm (filmR p name frm n)):=by
 obtain ⟨f1,f2⟩:=hf
 refine cpure_ofW Tryz.xen20 Tryz.func20 rfl Tryz.ntmps20 (by rw [Tryz.results20]) (aw_ok _ ?_)
 simp only [go_sem,↓reduceIte,Nat.reduceAdd,Nat.reduceSub,Nat.reduceLeDiff,Bool.and_true]
 refine ⟨_,cRValidP p h,?_⟩
 simp only [go_sem,↓reduceIte]
 refine brW (b:=decide (validP p≠0)) ?_ ⟨fun hv=>?_,fun hv=>?_⟩
 ·rw [Bool.eq_iff_iff,decide_eq_true_eq,bne_iff_ne]
 ·have hv':=of_decide_eq_true hv
  have e:filmR p name frm n=([],validP p):=by unfold filmR;rw [if_pos hv']
  rw [e]
  unfold awS
  simp only [go_sem,↓reduceIte]
  exact pureW_fnil _
 ·have hv':validP p=0:=by simpa using hv
  have hok:=filmOk_of h hv'
  have hsq:=cRSequence p name
  unfold awS
  simp only [go_sem,↓reduceIte,Nat.reduceAdd,Nat.reduceLeDiff,Bool.and_true]
  refine ⟨_,hsq,?_⟩
  cases hs:seqOf p.seqs name with
  | none =>
   have hneg:fIdx (fun m:SequenceR=>m.name.toList==name.toList) p.seqs<0:=fIdx_neg.2 hs
   have e:filmR p name frm n=([],7):=by unfold filmR;rw [hv',hs];rfl
   rw [e]
   simp only [go_sem,↓reduceIte]
   refine ⟨fun h2=>?_,fun h2=>?_⟩
   ·unfold awS
    simp only [go_sem,↓reduceIte]
    exact pureW_fnil _
   ·simp only [decide_eq_false_iff_not] at h2
    omega
  | some s =>
   obtain ⟨i,i1,i2,i3⟩:=idx_of hok.uniq.2 hs
   rw [i2]
   have hw:=hok.wk s (seqOf_mem hs).1
   rw [(seqOf_mem hs).2] at hw
   have e:filmR p name frm n=if n<0 then ([],1) else if n > 65536 then ([],5) else (filmL p name frm n.toNat,0):=by unfold filmR;rw [hv',hs];rfl
   rw [e]
   simp only [go_sem,↓reduceIte]
   refine ⟨fun h2=>?_,fun h2=>?_⟩
   ·simp only [decide_eq_true_eq] at h2
    omega
   ·unfold awS
    simp only [go_sem,↓reduceIte]
    refine ⟨fun h3=>?_,fun h3=>?_⟩
    ·simp only [decide_eq_true_eq] at h3
     rw [if_pos h3]
     unfold awS
     simp only [go_sem,↓reduceIte]
     exact pureW_fnil _
    ·simp only [decide_eq_false_iff_not] at h3
     rw [if_neg h3]
     unfold awS
     simp only [go_sem,↓reduceIte]
     refine ⟨fun h4=>?_,fun h4=>?_⟩
     ·simp only [decide_eq_true_eq] at h4
      rw [if_pos h4]
      unfold awS
      simp only [go_sem,↓reduceIte]
      exact pureW_fnil _
     ·simp only [decide_eq_false_iff_not] at h4
      rw [if_neg h4]
      obtain ⟨nn,rfl⟩:∃ nn:Nat,n=nn:=⟨n.toNat,by omega⟩
      rw [Int.toNat_natCast]
      unfold awS
      simp only [go_sem,↓reduceIte]
      refine awp_loop_f (fun (k:Nat) σ => { fr:=(setS 12 (.own 1) (setS 13 (vint k) (deadS [28,29,30,31,32,33,34,35,36,37,38,39,40,41,42,43,44,45,46,47,48,49,50,51,52,53,54] (cleanS σ)))).fr,h:=[(1, .row 97 8 zE (tRows (rowF p name frm k))),(0, .box [.t (tmedia p.media), .t (tseqs p.seqs)])],nx:=2 })
       (fun k=>k≤nn) (fun k=>nn - k) 0 (weak_of [(1,none),(0,some 0)] ?_) (Nat.zero_le _) ?_
      ·simp only [go_sem,Nat.reduceLT,↓reduceIte,Nat.reduceLeDiff,reduceCtorEq]<;>simp [rowF,tRows]
      ·intro k hk
       have hrl:=rowF_len p name frm k
       refine aw_ok _ ?_
       simp only [go_sem,↓reduceIte]
       refine ⟨fun hlt=>?_,fun hge=>?_⟩
       ·simp only [decide_eq_true_eq] at hlt
        have hkn:k<nn:=by omega
        have hwk:IntKind.i64.wrap ((k:Int)+1)=((k+1:Nat):Int):=by rw [wrap1 (by omega)];omega
        have hws:IntKind.i64.wrap (9223372036854775807 - (k:Int))=9223372036854775807 - (k:Int):=wrap64 (by omega) (by omega)
        have hsucc:=rowF_succ p name frm k
        unfold awS
        simp only [go_sem,↓reduceIte,hws]
        refine brW (b:=late frm k) rfl ⟨fun hl=>?_,fun hl=>?_⟩
        ·rw [hl,if_pos rfl] at hsucc
         unfold awS
         simp only [go_sem,Nat.reducePow,Nat.reduceLT,↓reduceIte,Nat.reduceAdd,Nat.reduceMul,Nat.reduceLeDiff,Nat.reduceEqDiff,reduceCtorEq,hrl]
         refine ⟨⟨by unfold maxLen;omega,by omega⟩,k+1,weak_of [(1,some 3),(0,some 0)] ?_,by omega,by omega⟩
         simp only [go_sem,Nat.reduceLT,↓reduceIte,Nat.reduceLeDiff,Nat.reduceEqDiff,reduceCtorEq,hwk]
         rw [hsucc]
         exact ⟨by simp,rfl,by simp⟩
        ·rw [hl,if_neg (by decide)] at hsucc
         have hl' : ¬ (frm > 9223372036854775807 - (k:Int)):=by unfold late at hl;simpa using hl
         have hwf:IntKind.i64.wrap (frm+(k:Int))=frm+(k:Int):=wrap64 (by omega) (by omega)
         have hfr:=cRFrameF p hok 5 name s (frm+(k:Int)) hw hs ⟨by omega,by omega⟩
         obtain ⟨g1,g2⟩:=good_frame hok 5 name (frm+(k:Int))
         have hsi:=cRSimple1 _ _ (Nat.lt_succ_self _) g2 g1
         rw [sim_frame] at hsi
         unfold awS
         simp only [go_sem]
         refine drawC_of 15 .done rfl (by kernel_rfl) (by kernel_rfl) (by decide) ?_
         simp only [go_sem,↓reduceIte,Nat.reduceAdd,Nat.reduceLeDiff,reduceCtorEq,i3,hwf]
         refine ⟨⟨by omega,by omega⟩,_,hfr,?_⟩
         generalize filmE id p 5 name (frm+(k:Int))=x at hsi ⊢
         rcases x with ⟨op,media,frame,num,den,param,text,args⟩
         simp only [go_sem,↓reduceIte,Nat.reduceAdd]
         refine ⟨_,hsi,?_⟩
         generalize filmE redX p 5 name (frm+(k:Int))=y at hsucc ⊢
         rcases y with ⟨op',media',frame',num',den',param',text',args'⟩
         simp only [go_sem,Nat.reducePow,Nat.reduceLT,↓reduceIte,Nat.reduceAdd,Nat.reduceMul,Nat.reduceLeDiff,Nat.reduceEqDiff,reduceCtorEq,hrl]
         simp only [ExprR.c,cs_eq] at hsucc
         refine ⟨⟨by unfold maxLen;omega,by omega⟩,by kernel_rfl,k+1,weak_of [(1,some 15),(0,some 0)] ?_,by omega,by omega⟩
         simp only [go_sem,Nat.reduceLT,↓reduceIte,Nat.reduceLeDiff,Nat.reduceEqDiff,reduceCtorEq,hwk]
         rw [hsucc]
         exact ⟨by simp,rfl,by simp⟩
       ·simp only [decide_eq_false_iff_not] at hge
        have:k=nn:=by omega
        subst this
        unfold awS
        simp only [go_sem,↓reduceIte]
        exact pureW_film (by simp only [go_sem,↓reduceIte];exact rfl) (rowF_imp _ _ _ _)
open Go.RowKit
set_option maxRecDepth 4000
def maxL:List (List ClipR)→Int→Int
 | [],m=>m
 | t::l,m=>maxL l (max m (lenT (normT t)))
def seqLenR (p:ProjR) (name:ByteArray):Int×Int :=
 if validP p≠0 then (0,validP p) else
 match seqOf p.seqs name with
 | none=>(0,7)
 | some s=>(maxL s.sound (maxL s.video 0),0)
end Go.Proofs.YtmbmmijdmdoalaaGreat
