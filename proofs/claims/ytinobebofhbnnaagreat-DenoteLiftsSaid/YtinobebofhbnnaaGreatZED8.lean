/- Proved here: Films as rows of one's own, for use in the proofs of the given statements; conditions stand in each theorem. -/
import Derived.Test.YtinobebofhbnnaaGreatYR
import Derived.Test.YtinobebofhbnnaaGreatYS
import Derived.Test.YtinobebofhbnnaaGreatZG
import Derived.Test.YtinobebofhbnnaaGreatYT
import Derived.Test.YtinobebofhbnnaaGreatWC
set_option linter.unusedSimpArgs false
set_option linter.unusedVariables false
set_option linter.unusedSectionVars false
set_option linter.unnecessarySimpa false
namespace Go.Proofs.YtinobebofhbnnaaGreat
open Go.RowKit
set_option maxRecDepth 4000
theorem cDFilmIO (p:ProjR) (h:p.fit) (name:ByteArray) (hv:validP p=0) {s:SequenceR} (hs:seqOf p.seqs name=some s) (nn:Nat) (h1 : 1≤nn) (h2:nn≤65536) :
  CIO Tryz.prog 61 0 [] [vproj p,vstr name,vint 0,vint nn] (.tup [.own 0,vint 0]) [(0, .row 105 8 zE (tRows (rowF p name 0 nn)))] 1:=by
 have hf:=cFindS p name h
 rw [findR_eq p h name] at hf
 obtain ⟨frm,hfrm0⟩:∃ frm:Int,frm=0:=⟨_,rfl⟩
 have hI:I64 frm:=by rw [hfrm0];exact ⟨by decide,by decide⟩
 rw [← hfrm0]
 have hok:=filmOk_of h hv
 have hw:=hok.wk s (seqOf_mem hs).1
 rw [(seqOf_mem hs).2] at hw
 refine cio_of Tryz.xen61 Tryz.func61 rfl Tryz.ntmps61 (by rw [Tryz.results61]) (aw_ok _ ?_)
 simp only [go_sem,simprocAttr,decide_true,decide_false]
 refine ⟨_,hf,?_⟩
 rw [if_neg (by rw [hv];decide)]
 simp only [hs]
 simp only [go_sem,simprocAttr,decide_true,decide_false]
 refine ⟨fun h3=>?_,fun h3=>?_⟩
 ·simp only [bxx] at h3
  omega
 unfold awS
 simp only [go_sem,simprocAttr,decide_true,decide_false]
 refine ⟨fun h4=>?_,fun h4=>?_⟩
 ·simp only [bxx] at h4
  omega
 unfold awS
 simp only [go_sem,simprocAttr,decide_true,decide_false]
 refine ⟨fun h5=>?_,fun h5=>?_⟩
 ·simp only [bxx] at h5
  omega
 unfold awS
 simp only [go_sem,simprocAttr,decide_true,decide_false]
 refine icall_pure (cNewIndex p hok) rfl ?_
 simp only [go_sem,simprocAttr,decide_true,decide_false]
 refine icall_of Tryz.xen135 Tryz.func135 rfl Tryz.ntmps135 (by rw [Tryz.results135]) (aw_ok _ ?_)
 simp only [go_sem,simprocAttr,decide_true,decide_false]
 unfold aw
 refine show rangeA _ _ _ _ _ _ (some (199,[.own 7, .own 5, .own 6])) from ?_
 refine ⟨Tryz.xen199,rfl,?_⟩
 generalize hQ:rangeEnd _ _=QE
 refine icall_of Tryz.xen199 Tryz.func199 rfl Tryz.ntmps199 (by rw [Tryz.results199]) (aw_ok _ ?_)
 simp only [go_sem,simprocAttr,decide_true,decide_false]
 refine awp_loop_f (fun (k:Nat) σ => { fr:=(setS 5 (vint (frm+(k:Int))) (deadS [7,8,9,10,11,12,13,14,15,16,17,18,19,20] σ)).fr,h:=(10, .row 105 8 zE (tRows (rowF p name frm k))) :: σ.h.set 2 (.box [.own 10]),nx:=11 })
  (fun k=>k<nn∧frm+(k:Int)≤9223372036854775807) (fun k=>nn - k) 0 (weak_of [(10,none),(9,some 9),(8,some 8),(7,some 7),(6,some 6),(5,some 5),(4,some 4),(3,some 3),(2,some 2),(1,some 1),(0,some 0)] ?_) ⟨by omega,by have:=hI.2;omega⟩ ?_
 ·simp only [go_sem,simprocAttr]<;>simp [rowF,tRows]
 ·rintro k ⟨hk,hk2⟩
  have hrl:=rowF_len p name frm k
  refine aw_ok _ ?_
  simp only [go_sem,simprocAttr]
  have hfrm:=cFrameF p hok 5 name (frm+(k:Int)) hw (by rw [hs];rfl) ⟨by have:=hI.1;omega,hk2⟩
  have hl:late frm k=false:=by unfold late;rw [decide_eq_false_iff_not];omega
  have hsucc:=rowF_succ p name frm k
  rw [hl] at hsucc
  refine ⟨_,hfrm,?_⟩
  generalize filmE redX p 5 name (frm+(k:Int))=x at hsucc ⊢
  rcases x with ⟨op,media,frame,num,den,param,text,args⟩
  simp only [go_sem,simprocAttr]
  refine aw_ok _ ?_
  simp only [go_sem,simprocAttr]
  refine aw_ok _ ?_
  simp only [go_sem,simprocAttr]
  refine drawC_of 8 .done rfl (by kernel_rfl) (by kernel_rfl) (by decide) ?_
  have hse:∀ z:List T,(tRows (rowF p name frm k ++ [z])).set k [vint op,vstr media,vint frame,vint num,vint den,vint param,vstr text, .t (texprs args)]=tRows (rowF p name frm (k+1)):=fun z=>by
   refine (tRows_set _ z [ti op,tstr media,ti frame,ti num,ti den,ti param,tstr text,texprs args] hrl).trans ?_
   rw [hsucc,if_neg (by decide)]
   simp only [ExprR.c,cs_eq]
  have hl2:(tRows (rowF p name frm (k+1))).length=k+1:=by unfold tRows;rw [List.length_map,rowF_len]
  have hl1:∀ z:List T,(rowF p name frm k ++ [z]).length=k+1:=fun z=>by rw [List.length_append,hrl];rfl
  simp only [go_sem,simprocAttr,hrl,hl1,fun d z=>nth_last d z hrl,hse,hl2]
  refine ⟨⟨by unfold maxLen;omega,by omega⟩,⟨by omega,by omega⟩,by omega,by kernel_rfl,fun hd=>?_,fun hd=>?_⟩
  ·simp only [bxx] at hd
   unfold awS
   simp only [go_sem,simprocAttr]
   refine ⟨fun _=>?_,fun h=>absurd h (by decide)⟩
   unfold awS
   simp only [go_sem,simprocAttr]
   rw [← hQ]
   unfold rangeEnd
   simp only [go_sem,simprocAttr,decide_true,decide_false]
   have hkn:k+1=nn:=by omega
   rw [hkn]
   refine ⟨nopFilm,weak_of [(0,some 16)] ?_⟩
   simp only [go_sem,simprocAttr]
   exact ⟨by simp,by rw [hfrm0]⟩
  ·simp only [bxx] at hd
   unfold awS
   simp only [go_sem,simprocAttr]
   refine ⟨fun h=>absurd h (by decide),fun _=>?_⟩
   unfold awS
   simp only [go_sem,simprocAttr]
   refine ⟨fun hm=>?_,fun hm=>?_⟩
   ·simp only [bxx] at hm
    omega
   ·simp only [bxx] at hm
    unfold awS
    simp only [go_sem,simprocAttr]
    have hwf:IntKind.i64.wrap (frm+(k:Int)+1)=frm+((k+1:Nat):Int):=by rw [wrap64 (by have:=hI.1;omega) (by omega)];omega
    refine ⟨k+1,weak_of [(10,some 16),(9,some 9),(8,some 8),(7,some 7),(6,some 6),(5,some 5),(4,some 4),(3,some 3),(2,some 2),(1,some 1),(0,some 0)] ?_,⟨by omega,by omega⟩,by omega⟩
    simp only [go_sem,simprocAttr,hwf]<;>simp
theorem rowF_zero (p:ProjR) (name:ByteArray) {n:Nat} (hn:n≤65536):rowF p name 0 n=(filmL p name 0 n).map ExprR.c:=by
 unfold rowF filmL
 rw [List.map_map]
 refine List.map_congr_left fun k hk=>?_
 have hk:=List.mem_range.1 hk
 have hl:late 0 k=false:=by unfold late;rw [decide_eq_false_iff_not];omega
 simp only [Function.comp_apply,hl,Bool.false_eq_true,if_false]
abbrev RowE (l:List ExprR):Blk := .row 105 8 zE (tRows (l.map ExprR.c))
theorem cFilmIO (L:List Int) {ts:List (List ClipR)} (hl:ts.length≤8) (h:∀ t∈ts,TrkP (madeP L) t) (n:Nat) (h1 : 1≤n) (hn:n≤65536) :
  CIO Tryz.prog 39 0 [] [vproj (addP (madeP L) (tSeq ⟨#[116]⟩ ts)),vint n] (.own 0) [(0,RowE (trkL (madeP L) ts n))] 1:=by
 have hin:=t_in hl h
 have hv:=layered_valid (lay_add (made_lay L) hin (by simp [madeP]))
 have hs:seqOf (addP (madeP L) (tSeq ⟨#[116]⟩ ts)).seqs ⟨#[116]⟩=some (tSeq ⟨#[116]⟩ ts):=by
  unfold addP
  simp only
  rw [seqOf_add]
  exact if_pos rfl
 have hc:=cDFilmIO _ (fit_add (made_fit L) hin) ⟨#[116]⟩ hv hs n h1 hn
 rw [rowF_zero _ _ hn] at hc
 have hm:=film_made hl h n hn
 have e:filmL (addP (madeP L) (tSeq ⟨#[116]⟩ ts)) ⟨#[116]⟩ 0 n=trkL (madeP L) ts n:=by
  unfold filmR at hm
  rw [hv,hs] at hm
  simp only [ne_eq,not_true_eq_false,if_false] at hm
  rw [if_neg (by omega),if_neg (by omega),Int.toNat_natCast] at hm
  exact congrArg Prod.fst hm
 rw [e] at hc
 refine cio_of Tryz.xen39 Tryz.func39 rfl Tryz.ntmps39 (by rw [Tryz.results39]) ?_
 refine awp_seq (aw_ok _ ?_)
 simp only [go_sem,simprocAttr]
 refine awp_seq (awp_region_part 2 ?_)
 simp only [go_sem,simprocAttr,List.take_succ_cons,List.take_zero,List.drop_succ_cons,List.drop_zero,List.take,List.drop]
 refine semS_io rfl rfl ?_
 simp only [go_sem,simprocAttr]
 refine icall_io hc [] rfl (by omega) (by decide) ?_ rfl rfl rfl rfl ?_
 ·simp only [go_sem,simprocAttr]
 simp only [go_sem,simprocAttr,List.getElem?_nil]
 refine semS_steps ?_
 simp only [go_sem,simprocAttr]
 refine aw_ok _ ?_
 simp only [go_sem,simprocAttr]
 refine weak_of [(0,some 1)] ?_
 simp only [go_sem,simprocAttr]
 simp
end Go.Proofs.YtinobebofhbnnaaGreat
