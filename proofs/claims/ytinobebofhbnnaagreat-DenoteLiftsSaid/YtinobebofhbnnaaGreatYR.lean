/- Proved here: Films of any project, the program, for use in the proofs of the given statements; conditions stand in each theorem. -/
import Derived.Test.YtinobebofhbnnaaGreatYM
import Derived.Test.YtinobebofhbnnaaGreatYO
import Derived.Test.YtinobebofhbnnaaGreatZTPj
import Derived.Test.YtinobebofhbnnaaGreatYP
import Derived.Test.YtinobebofhbnnaaGreatZFQ5
set_option linter.unusedSimpArgs false
set_option linter.unusedVariables false
set_option linter.unusedSectionVars false
set_option linter.unnecessarySimpa false
namespace Go.Proofs.YtinobebofhbnnaaGreat
open Go.RowKit
set_option maxRecDepth 4000
theorem nopFilm:NopD Tryz.prog 134:=by
 refine ⟨Tryz.xen134,fun cap w=>callsDIn_of_wpSIn Tryz.func134 rfl trivial fun c₀ cs hu=>?_⟩
 have k1 : 2<cap.size+(4 - cap.size):=by omega
 have k2 : 3<cap.size+(4 - cap.size):=by omega
 have k3 : 2<max 4 cap.size:=by omega
 have k4 : 3<max 4 cap.size:=by omega
 apply wpSIn_seq
 apply wpSIn_region
 simp [wpOpsSIn,Fence.wide,go_sem,recoverD,hu,Tryz.ntmps134,Exit.thenS,k1,k2,k3,k4]
 refine wpSIn_cond (t:=false) (by simp [Act.eval,k2,k4]) ?_
 refine wpSIn_of_wpIn rfl (wpIn_skip ?_)
 refine ⟨rfl, .returning,by rw [← hu], .tuple #[],?_,⟨_,rfl⟩,rfl,rfl⟩
 simp [results,Tryz.results134,go_sem]
def deadL (is:List Nat) (n:Nat) (σ : St):St :=
 match σ.h.look n with
 | some (.loop st pd fr ps a b) => { σ with h := σ.h.set n (.loop st pd (deadS is { σ with fr:=fr }).fr ps a b) }
 | _ => σ
attribute [go_sem] deadL
theorem nth_last (d z:List T) {l:List (List T)} {k:Nat} (h:l.length=k):nth d (l ++ [z]) k=z:=by
 subst h
 unfold nth
 rw [List.getElem?_append_right (Nat.le_refl _),Nat.sub_self]
 rfl
theorem tRows_set (l:List (List T)) (a b:List T) {k:Nat} (h:l.length=k):(tRows (l ++ [a])).set k (b.map V.t)=tRows (l ++ [b]):=by
 subst h
 unfold tRows
 rw [List.map_append,List.map_append,List.set_append_right _ _ (by rw [List.length_map];exact Nat.le_refl _),List.length_map,Nat.sub_self]
 rfl
theorem cDFilm (p:ProjR) (h:p.fit) (name:ByteArray) (frm n:Int) (hfr:I64 frm):CPure Tryz.prog 61 [vproj p,vstr name,vint frm,vint n] (vfilm (filmR p name frm n)):=by
 have hf:=cFindS p name h
 rw [findR_eq p h name] at hf
 refine cpure_ofW Tryz.xen61 Tryz.func61 rfl Tryz.ntmps61 (by rw [Tryz.results61]) (aw_ok _ ?_)
 simp only [go_sem,simprocAttr,decide_true,decide_false]
 refine ⟨_,hf,?_⟩
 by_cases hv:validP p=0
 ·have hok:=filmOk_of h hv
  cases hs:seqOf p.seqs name with
  | none =>
   have e:filmR p name frm n=([],7):=by unfold filmR;rw [hv,hs];rfl
   rw [if_neg (by rw [hv];decide)]
   simp only [hs]
   simp only [go_sem,simprocAttr,decide_true,decide_false]
   rw [e]
   exact ⟨nopFilm,pureW_fnil 7⟩
  | some s =>
   have hw:=hok.wk s (seqOf_mem hs).1
   rw [(seqOf_mem hs).2] at hw
   have e:filmR p name frm n=if n<0 then ([],1) else if n > 65536 then ([],5) else (filmL p name frm n.toNat,0):=by unfold filmR;rw [hv,hs];rfl
   rw [if_neg (by rw [hv];decide)]
   simp only [hs]
   simp only [go_sem,simprocAttr,decide_true,decide_false]
   rw [e]
   refine ⟨fun h3=>?_,fun h3=>?_⟩
   ·simp only [bxx] at h3
    rw [if_pos h3]
    unfold awS
    simp only [go_sem,simprocAttr,decide_true,decide_false]
    exact ⟨nopFilm,pureW_fnil _⟩
   ·simp only [bxx] at h3
    rw [if_neg h3]
    unfold awS
    simp only [go_sem,simprocAttr,decide_true,decide_false]
    refine ⟨fun h4=>?_,fun h4=>?_⟩
    ·simp only [bxx] at h4
     rw [if_pos h4]
     unfold awS
     simp only [go_sem,simprocAttr,decide_true,decide_false]
     exact ⟨nopFilm,pureW_fnil _⟩
    ·simp only [bxx] at h4
     rw [if_neg h4]
     obtain ⟨nn,rfl⟩:∃ nn:Nat,n=nn:=⟨n.toNat,by omega⟩
     rw [Int.toNat_natCast]
     unfold awS
     simp only [go_sem,simprocAttr,decide_true,decide_false]
     refine ⟨fun h5=>?_,fun h5=>?_⟩
     ·simp only [bxx] at h5
      unfold awS
      simp only [go_sem,simprocAttr,decide_true,decide_false]
      have:nn=0:=by omega
      subst this
      exact ⟨nopFilm,pureW_fnil _⟩
     ·simp only [bxx] at h5
      unfold awS
      simp only [go_sem,simprocAttr,decide_true,decide_false]
      refine icall_pure (cNewIndex p hok) rfl ?_
      simp only [go_sem,simprocAttr,decide_true,decide_false]
      refine icall_of Tryz.xen135 Tryz.func135 rfl Tryz.ntmps135 (by rw [Tryz.results135]) (aw_ok _ ?_)
      simp only [go_sem,simprocAttr,decide_true,decide_false]
      unfold aw
      refine show rangeA _ _ _ _ _ _ (some (199,[.own 7, .own 5, .own 6])) from ?_
      refine ⟨Tryz.xen199,rfl,?_⟩
      generalize hQ:rangeEnd _ _=QE
      refine icall_of Tryz.xen199 Tryz.func199 rfl Tryz.ntmps199 (by rw [Tryz.results199]) (aw_ok _ ?_)
      simp only [go_sem,simprocAttr,decide_true,decide_false]
      refine awp_loop_f (fun (k:Nat) σ => { fr:=(setS 5 (vint (frm+(k:Int))) (deadS [7,8,9,10,11,12,13,14,15,16,17,18,19,20] σ)).fr,h:=(10, .row 105 8 zE (tRows (rowF p name frm k))) :: σ.h.set 2 (.box [.own 10]),nx:=11 })
       (fun k=>k<nn∧frm+(k:Int)≤9223372036854775807) (fun k=>nn - k) 0 (weak_of [(10,none),(9,some 9),(8,some 8),(7,some 7),(6,some 6),(5,some 5),(4,some 4),(3,some 3),(2,some 2),(1,some 1),(0,some 0)] ?_) ⟨by omega,by have:=hfr.2;omega⟩ ?_
      ·simp only [go_sem,simprocAttr]<;>simp [rowF,tRows]
      ·rintro k ⟨hk,hk2⟩
       have hrl:=rowF_len p name frm k
       refine aw_ok _ ?_
       simp only [go_sem,simprocAttr]
       have hfrm:=cFrameF p hok 5 name (frm+(k:Int)) hw (by rw [hs];rfl) ⟨by have:=hfr.1;omega,hk2⟩
       have hl:late frm k=false:=by unfold late;rw [decide_eq_false_iff_not];omega
       have hsucc:=rowF_succ p name frm k
       rw [hl] at hsucc
       refine ⟨_,hfrm,?_⟩
       generalize filmE redX p 5 name (frm+(k:Int))=x at hsucc ⊢
       rcases x with ⟨op,media,frame,num,den,param,text,args⟩
       simp only [go_sem,simprocAttr]
       refine aw_ok _ ?_
       simp only [go_sem,simprocAttr]
       refine aw_ok _ ?_
       simp only [go_sem,simprocAttr]
       refine drawC_of 8 .done rfl (by kernel_rfl) (by kernel_rfl) (by decide) ?_
       have hse:∀ z:List T,(tRows (rowF p name frm k ++ [z])).set k [vint op,vstr media,vint frame,vint num,vint den,vint param,vstr text, .t (texprs args)]=tRows (rowF p name frm (k+1)):=fun z=>by
        refine (tRows_set _ z [ti op,tstr media,ti frame,ti num,ti den,ti param,tstr text,texprs args] hrl).trans ?_
        rw [hsucc,if_neg (by decide)]
        simp only [ExprR.c,cs_eq]
       have hl2:(tRows (rowF p name frm (k+1))).length=k+1:=by unfold tRows;rw [List.length_map,rowF_len]
       have hl1:∀ z:List T,(rowF p name frm k ++ [z]).length=k+1:=fun z=>by rw [List.length_append,hrl];rfl
       simp only [go_sem,simprocAttr,hrl,hl1,fun d z=>nth_last d z hrl,hse,hl2]
       refine ⟨⟨by unfold maxLen;omega,by omega⟩,⟨by omega,by omega⟩,by omega,by kernel_rfl,fun hd=>?_,fun hd=>?_⟩
       ·simp only [bxx] at hd
        unfold awS
        simp only [go_sem,simprocAttr]
        refine ⟨fun _=>?_,fun h=>absurd h (by decide)⟩
        unfold awS
        simp only [go_sem,simprocAttr]
        rw [← hQ]
        unfold rangeEnd
        simp only [go_sem,simprocAttr,decide_true,decide_false]
        have hkn:k+1=nn:=by omega
        rw [hkn]
        exact ⟨nopFilm,pureW_film (by simp only [go_sem,simprocAttr];exact rfl) (rowF_imp _ _ _ _)⟩
       ·simp only [bxx] at hd
        unfold awS
        simp only [go_sem,simprocAttr]
        refine ⟨fun h=>absurd h (by decide),fun _=>?_⟩
        unfold awS
        simp only [go_sem,simprocAttr]
        refine ⟨fun hm=>?_,fun hm=>?_⟩
        ·simp only [bxx] at hm
         unfold awS
         simp only [go_sem,simprocAttr]
         refine awp_loop_f (fun (j:Nat) σ => { fr:=(deadS [4,5,6,7,8,9,10,11,12,13,14,15,16,17,18,19,20] σ).fr,h:=(10, .row 105 8 zE (tRows (rowF p name frm j)))::Heap.set ((deadL [12,34,35,36,37,38,39,40,41,42,43,44] 9 σ).h.drop 3) 2 (.box [.own 10]),nx:=11 })
          (fun j=>j<nn∧late frm j=true) (fun j=>nn - j) (k+1) (weak_of [(10,some 16),(9,some 9),(8,some 8),(7,some 7),(6,some 6),(5,some 5),(4,some 4),(3,some 3),(2,some 2),(1,some 1),(0,some 0)] ?_) ⟨by omega,by unfold late;rw [decide_eq_true_eq];omega⟩ ?_
         ·simp only [go_sem,simprocAttr]<;>simp
         ·rintro j ⟨hj,hj2⟩
          have hrj:=rowF_len p name frm j
          have hsj:=rowF_succ p name frm j
          rw [hj2,if_pos rfl] at hsj
          refine aw_ok _ ?_
          simp only [go_sem,simprocAttr]
          refine aw_ok _ ?_
          simp only [go_sem,simprocAttr]
          refine aw_ok _ ?_
          simp only [go_sem,simprocAttr]
          have hsf:∀ z:List T,(tRows (rowF p name frm j ++ [z])).set j [vint 0,vstr ⟨#[]⟩,vint 0,vint 0,vint 0,vint 0,vstr ⟨#[]⟩, .t (.lit (.slice none 0 0))]=tRows (rowF p name frm (j+1)):=fun z=>by
           refine (tRows_set _ z zE hrj).trans ?_
           rw [hsj]
          have hl3:(tRows (rowF p name frm (j+1))).length=j+1:=by unfold tRows;rw [List.length_map,rowF_len]
          have hl4:∀ z:List T,(rowF p name frm j ++ [z]).length=j+1:=fun z=>by rw [List.length_append,hrj];rfl
          refine drawC_of 8 .done rfl (by kernel_rfl) (by kernel_rfl) (by decide) ?_
          simp only [go_sem,simprocAttr,hrj,hl4,fun d z=>nth_last d z hrj,hsf,hl3]
          refine ⟨⟨by unfold maxLen;omega,by omega⟩,⟨by omega,by omega⟩,by omega,by kernel_rfl,fun hd=>?_,fun hd=>?_⟩
          ·simp only [bxx] at hd
           unfold awS
           simp only [go_sem,simprocAttr]
           refine ⟨fun h=>absurd h (by decide),fun _=>?_⟩
           unfold awS
           simp only [go_sem,simprocAttr]
           rw [← hQ]
           unfold rangeEnd
           simp only [go_sem,simprocAttr,decide_true,decide_false]
           have hkn:j+1=nn:=by omega
           rw [hkn]
           exact ⟨nopFilm,pureW_film (by simp only [go_sem,simprocAttr];exact rfl) (rowF_imp _ _ _ _)⟩
          ·simp only [bxx] at hd
           unfold awS
           simp only [go_sem,simprocAttr]
           refine ⟨fun _=>?_,fun h=>absurd h (by decide)⟩
           unfold awS
           simp only [go_sem,simprocAttr]
           refine ⟨j+1,weak_of [(10,some 16),(9,some 9),(8,some 8),(7,some 7),(6,some 6),(5,some 5),(4,some 4),(3,some 3),(2,some 2),(1,some 1),(0,some 0)] ?_,⟨by omega,?_⟩,by omega⟩
           ·simp only [go_sem,simprocAttr]<;>simp
           ·unfold late at hj2 ⊢
            rw [decide_eq_true_eq] at hj2 ⊢
            omega
        ·simp only [bxx] at hm
         unfold awS
         simp only [go_sem,simprocAttr]
         have hwf:IntKind.i64.wrap (frm+(k:Int)+1)=frm+((k+1:Nat):Int):=by rw [wrap64 (by have:=hfr.1;omega) (by omega)];omega
         refine ⟨k+1,weak_of [(10,some 16),(9,some 9),(8,some 8),(7,some 7),(6,some 6),(5,some 5),(4,some 4),(3,some 3),(2,some 2),(1,some 1),(0,some 0)] ?_,⟨by omega,by omega⟩,by omega⟩
         simp only [go_sem,simprocAttr,hwf]<;>simp
 ·have e:filmR p name frm n=([],validP p):=by unfold filmR;rw [if_pos hv]
  rw [if_pos hv]
  simp only [go_sem,simprocAttr,decide_true,decide_false]
  refine ⟨fun h1=>?_,fun h1=>?_⟩
  ·unfold awS
   simp only [go_sem,simprocAttr,decide_true,decide_false]
   rw [e]
   exact ⟨nopFilm,pureW_fnil _⟩
  ·exact absurd h1 (by simpa using hv)
open Go.RowKit
set_option maxRecDepth 4000
theorem cAllSelf (l:List ExprR) (hl:l.length≤1000000):CPure Tryz.prog 38 [.t (texprs l), .t (texprs l)] (vbool true):=by
 refine cpure_of Tryz.xen38 Tryz.func38 rfl Tryz.ntmps38 (by rw [Tryz.results38]) (aw_ok _ ?_)
 simp only [go_sem,simprocAttr]
 refine awp_loop_f (fun (k:Nat) σ => setS 5 (vint k) (deadS [11,12,13,14,15,16,17,18,19,20,21,22,23,24,25,26] (cleanS σ))) (fun k=>k≤l.length) (fun k=>l.length - k) 0 (weak_self ?_) (Nat.zero_le _) ?_
 ·simp only [go_sem,simprocAttr]<;>simp
 ·intro k hk
  refine aw_ok _ ?_
  simp only [go_sem,simprocAttr]
  refine ⟨fun hlt=>?_,fun hge=>?_⟩
  ·simp only [bxx] at hlt
   have hkl:k<l.length:=by omega
   have hs:=cRSameE (l.getD k default) (l.getD k default)
   rw [eqE_iff.2 rfl] at hs
   have hwk:IntKind.i64.wrap ((k:Int)+1)=((k+1:Nat):Int):=by rw [wrap1 (by omega)];omega
   have hnx:∀ d,nth d (l.map ExprR.c) k=ExprR.c (l.getD k default):=fun d=>nth_expr d hkl
   generalize l.getD k default=x at hs hnx
   rcases x with ⟨op,media,frame,num,den,param,text,args⟩
   simp only [ExprR.c,cs_eq] at hnx
   unfold awS
   simp only [go_sem,simprocAttr]
   refine drawC_of 10 .done rfl (by kernel_rfl) (by kernel_rfl) (by decide) ?_
   simp only [go_sem,simprocAttr,hnx]
   refine ⟨⟨by omega,by omega⟩,⟨by omega,by omega⟩,_,hs,?_⟩
   simp only [go_sem,simprocAttr]
   refine ⟨by kernel_rfl,k+1,weak_self ?_,by omega,by omega⟩
   simp only [go_sem,simprocAttr,hwk]
  ·simp only [bxx] at hge
   unfold awS
   simp only [go_sem,simprocAttr]
end Go.Proofs.YtinobebofhbnnaaGreat
