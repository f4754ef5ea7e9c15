/- Proved here: Contracts of small functions of the edit algebra, for use in the proofs of the given statements; conditions stand in each theorem. -/
import Derived.Test.YtinobebofhbnnaaGreatWC
import Derived.Test.YtinobebofhbnnaaGreatWB
import Derived.Test.YtinobebofhbnnaaGreatWA
set_option linter.unusedSimpArgs false
set_option linter.unusedVariables false
set_option linter.unusedSectionVars false
set_option linter.unnecessarySimpa false
namespace Go.Proofs.YtinobebofhbnnaaGreat
open Go.RowKit
set_option maxRecDepth 4000
theorem cETotal (t:List ClipR) (h:Trk t):CPure Tryz.prog 120 [.t (tclips t)] (vint (totL t)):=by
 obtain ⟨h200,hv,htot⟩:=trk_parts h
 refine cpure_of Tryz.xen120 Tryz.func120 rfl Tryz.ntmps120 (by rw [Tryz.results120]) (aw_ok _ ?_)
 simp only [go_sem,simprocAttr]
 refine awp_loop_f (fun (k:Nat) σ => setS 3 (vint (totL (t.take k))) (setS 8 (vint k) σ)) (fun k=>k≤t.length) (fun k=>t.length - k) 0 (weak_self ?_) (Nat.zero_le _) ?_
 ·simp only [go_sem,simprocAttr]<;>simp [totL]
 ·rintro k hk
  have hr:=trk_range h hk
  refine aw_ok _ ?_
  simp only [go_sem,simprocAttr]
  refine ⟨fun hlt=>?_,fun hge=>?_⟩
  ·simp only [bxx] at hlt
   have hkl:k<t.length:=by omega
   have hl:=vClip_len (hv k hkl)
   unfold awS
   simp only [go_sem,simprocAttr]
   refine ⟨⟨by omega,by omega⟩,k+1,weak_self ?_,by omega,by omega⟩
   simp only [go_sem,simprocAttr]
   rw [wrap64 (x:=totL (t.take k)+(t.getD k default).len) (by omega) (by omega),totL_take t k hkl]
   simp [wrap1 (show k<9223372036854775807 by omega)]
  ·simp only [bxx] at hge
   unfold awS
   simp only [go_sem,simprocAttr]
   rw [List.take_of_length_le (by omega)]
theorem cGap (n:Int):CPure Tryz.prog 123 [vint n] (.t (tclips (gapL n))):=by
 refine cpure_ofW Tryz.xen123 Tryz.func123 rfl Tryz.ntmps123 (by rw [Tryz.results123]) (aw_ok _ ?_)
 simp only [go_sem,simprocAttr]
 refine brW (b:=decide (n≤0)) ?_ ⟨fun h0=>?_,fun h0=>?_⟩
 ·rfl
 ·unfold awS
  simp only [go_sem,simprocAttr]
  have e:gapL n = []:=by unfold gapL;rw [if_pos (by simpa using h0)]
  rw [e]
  exact ⟨rfl,as_nil1⟩
 ·unfold awS
  simp only [go_sem,simprocAttr]
  have e:gapL n = [gapC n]:=by unfold gapL;rw [if_neg (by simpa using h0)]
  rw [e]
  refine ⟨by simp only [go_sem,simprocAttr],?_⟩
  simp only [go_sem,simprocAttr]
  exact as_rows (rows_snoc (xs:=[]) (gap_as n))
theorem cRest {m:Int} {N F:List ClipR} (h:CutOk m N F) (hl:N.length≤60) (hF:F.length≤1000) (a:Int) (ha : 0≤a) (ham:a≤m) (hm:m≤1000) (hlm:totL N≤m) :
  CPure Tryz.prog 121 [.t (tclips N),vint a] (vte (restT N a,0)):=by
 have hT:Trk N:=trk_mk (by omega) (track_all h.tr).2.1 (track_all h.tr).2.2
 refine cpure_ofW Tryz.xen121 Tryz.func121 rfl Tryz.ntmps121 (by rw [Tryz.results121]) (aw_ok _ ?_)
 simp only [go_sem,simprocAttr]
 refine ⟨_,cETotal N hT,?_⟩
 simp only [go_sem,simprocAttr]
 refine brW (b:=decide (a<totL N)) ?_ ⟨fun hlt=>?_,fun hlt=>?_⟩
 ·rfl
 ·have hlt:a<totL N:=by simpa using hlt
  unfold awS
  simp only [go_sem,simprocAttr]
  refine icall_pure (cCut2 h hl hF a (totL N) ha ham hm (by omega) (by omega) hlm) rfl ?_
  simp only [go_sem,simprocAttr]
  have e:restT N a=pk (cutT N a (totL N - a)):=by unfold restT;rw [if_pos hlt]
  rw [e]
  exact pureW_self rfl rfl
 ·have hlt : ¬ a<totL N:=by simpa using hlt
  unfold awS
  simp only [go_sem,simprocAttr]
  have e:restT N a = []:=by unfold restT;rw [if_neg hlt]
  rw [e]
  exact ⟨rfl,as_impTup ⟨as_nil1,as_refl,trivial⟩⟩
theorem cEWithin (n low:Int):CPure Tryz.prog 116 [vint n,vint low] (vbool (decide (low≤n)&&decide (n≤2147483647))):=by
 refine cpure_of Tryz.xen116 Tryz.func116 rfl Tryz.ntmps116 (by rw [Tryz.results116]) (aw_ok _ ?_)
 simp only [go_sem,simprocAttr]
theorem cValidClips (C:List ClipR) (hf:∀ c∈C,c.fit):CPure Tryz.prog 117 [.t (tclips C)] (vbool (decide ((C.length:Int) > 0)&&vTrack C)):=by
 refine cpure_of Tryz.xen117 Tryz.func117 rfl Tryz.ntmps117 (by rw [Tryz.results117]) (aw_ok _ ?_)
 simp only [go_sem,simprocAttr]
 refine ⟨_,fun _=>cPTrack C hf,?_⟩
 simp only [go_sem,simprocAttr]
theorem eqR0:EqV Tryz.prog 30 [vint 0,vint 0] [vint 0,vint 0] true:=by
 have h:=eqRat ⟨0,0⟩ ⟨0,0⟩
 have e:RatR.eqb ⟨0,0⟩ ⟨0,0⟩=true:=rfl
 rw [e] at h
 exact h
abbrev vedit (k a l:Int) (cs:T):V := .agg [vint k,vint a,vint l,vint 0,vint 0,vint 0,vint 0, .t cs]
theorem cEdValid13 (k a:Int) (C:List ClipR) (hk:k=1∨k=3) (hf:∀ c∈C,c.fit) (h0 : 0≤a) (h1:a≤2147483647) (hC : 0<C.length) (hv:vTrack C=true):CPure Tryz.prog 56 [vedit k a 0 (tclips C)] (vbool true):=by
 have e1:(decide ((0:Int)≤a)&&decide (a≤2147483647))=true:=by rw [decide_eq_true h0,decide_eq_true h1];rfl
 have e2:(decide ((C.length:Int) > 0)&&vTrack C)=true:=by rw [decide_eq_true (by omega),hv];rfl
 have c1:=cEWithin a 0
 have c2:=cValidClips C hf
 rw [e1] at c1
 rw [e2] at c2
 rcases hk with rfl | rfl
 all_goals
  refine cpure_of Tryz.xen56 Tryz.func56 rfl Tryz.ntmps56 (by rw [Tryz.results56]) (aw_ok _ ?_)
  simp only [go_sem,simprocAttr,decide_true,decide_false]
  refine ⟨true,eqR0,_,c1,?_⟩
  simp only [go_sem,simprocAttr,decide_true,decide_false]
  refine ⟨_,c2,?_⟩
  simp only [go_sem,simprocAttr,decide_true,decide_false]
theorem cEdValid24 (k a l:Int) (hk:k=2∨k=4) (h0 : 0≤a) (h1:a≤2147483647) (h2 : 1≤l) (h3:l≤2147483647):CPure Tryz.prog 56 [vedit k a l (.lit (.slice none 0 0))] (vbool true):=by
 have e1:(decide ((0:Int)≤a)&&decide (a≤2147483647))=true:=by rw [decide_eq_true h0,decide_eq_true h1];rfl
 have e2:(decide ((1:Int)≤l)&&decide (l≤2147483647))=true:=by rw [decide_eq_true h2,decide_eq_true h3];rfl
 have c1:=cEWithin a 0
 have c2:=cEWithin l 1
 rw [e1] at c1
 rw [e2] at c2
 rcases hk with rfl | rfl
 all_goals
  refine cpure_of Tryz.xen56 Tryz.func56 rfl Tryz.ntmps56 (by rw [Tryz.results56]) (aw_ok _ ?_)
  simp only [go_sem,simprocAttr,decide_true,decide_false]
  refine ⟨true,eqR0,_,c1,?_⟩
  simp only [go_sem,simprocAttr,decide_true,decide_false]
  refine ⟨_,c2,?_⟩
  simp only [go_sem,simprocAttr,decide_true,decide_false]
open Go.RowKit
set_option maxRecDepth 4000
theorem pack_two {c q:ClipR} (hv:vTrack [c,q]=true) (hf:∀ d ∈ [c,q],d.fit):packT [c,q]=if contC c q=true then [{ c with len:=c.len+q.len }] else [c,q]:=by
 unfold packT
 rw [if_pos hv,packP_pk hv hf]
 show pkA c [q]=_
 rw [pkA]
 split<;>rfl
structure NrmI (l:List ClipR) (k:Nat) (O:List ClipR):Prop where
 kl:k≤l.length
 len:O.length≤k
 ok:∀ c∈O,vClip c=true∧c.fit
 tot:totL O=totL (l.take k)
 z:k=0→O = []
 s : 0<k → ∃ i c,O=i ++ [c]∧i++pkA c (l.drop k)=pk l
theorem nrmI_zero (l:List ClipR):NrmI l 0 []:=⟨Nat.zero_le _,Nat.le_refl _,fun c hc=>(by cases hc),rfl,fun _=>rfl,fun h=>absurd h (by omega)⟩
theorem nrmI_app {l:List ClipR} (h:Trk l) (hf:∀ c∈l,c.fit) {k:Nat} {O:List ClipR} (hI:NrmI l k O) (hk:k<l.length) (hno:∀ i c,O=i ++ [c]→contC c (l.getD k default)=false):NrmI l (k+1) (O ++ [l.getD k default]):=by
 have hm:=mem_getD (d:=default) hk
 refine ⟨hk,by have:=hI.len;rw [List.length_append];simp only [List.length_cons,List.length_nil];omega,fun c hc=>?_,?_,fun h=>absurd h (by omega),fun _=>⟨O,_,rfl,?_⟩⟩
 ·rcases List.mem_append.1 hc with hc | hc
  ·exact hI.ok c hc
  ·rw [List.mem_singleton.1 hc]
   exact ⟨h.ok k hk,hf _ hm⟩
 ·rw [totL_app,totL_one,totL_take l k hk,hI.tot]
 ·rcases Nat.eq_zero_or_pos k with h0 | h0
  ·subst h0
   rw [hI.z rfl]
   cases l with
   | nil=>simp at hk
   | cons c l=>rfl
  ·obtain ⟨i,c,e1,e2⟩:=hI.s h0
   have:=hno i c e1
   rw [drop_cons hk,pkA,if_neg (by rw [this];decide)] at e2
   rw [e1,List.append_assoc]
   exact e2
theorem nrmI_join {l:List ClipR} (h:Trk l) (hf:∀ c∈l,c.fit) {k:Nat} {i:List ClipR} {c:ClipR} (hI:NrmI l k (i ++ [c])) (hk:k<l.length) (hc:contC c (l.getD k default)=true):NrmI l (k+1) (i ++ [{ c with len:=c.len+(l.getD k default).len }]):=by
 have hq:=vClip_len (h.ok k hk)
 obtain ⟨c1,c2⟩:=hI.ok c (by simp)
 have hcl:=vClip_len c1
 have hlen:=hI.len
 rw [List.length_append] at hlen
 simp only [List.length_cons,List.length_nil] at hlen
 have htot:=hI.tot
 rw [totL_app,totL_one] at htot
 have hr:=trk_range h (k:=k+1) (by omega)
 rw [totL_take l k hk] at hr
 have hi0:=totL_nonneg i fun d hd=>(vClip_len (hI.ok d (by simp [hd])).1).1
 refine ⟨hk,by rw [List.length_append];simp only [List.length_cons,List.length_nil];omega,fun d hd=>?_,?_,fun h=>absurd h (by omega),fun _=>⟨i,_,rfl,?_⟩⟩
 ·rcases List.mem_append.1 hd with hd | hd
  ·exact hI.ok d (by simp [hd])
  ·rw [List.mem_singleton.1 hd]
   exact ⟨join_ok c1 (h.ok k hk) hc (by omega),fit_len c2 (by omega) (by omega)⟩
 ·rw [totL_app,totL_one,totL_take l k hk]
  simp only
  omega
 ·obtain ⟨i',c',e1,e2⟩:=hI.s (by omega)
  obtain ⟨e3,e4⟩:=List.append_inj' e1 rfl
  injection e4 with e4 _
  subst e3 e4
  rw [drop_cons hk,pkA,if_pos hc] at e2
  exact e2
theorem nrmI_two {l:List ClipR} (h:Trk l) (hf:∀ c∈l,c.fit) {k:Nat} {i:List ClipR} {c:ClipR} (hI:NrmI l k (i ++ [c])) (hk:k<l.length):vTrack [c,l.getD k default]=true ∧ ∀ d ∈ [c,l.getD k default],d.fit:=by
 obtain ⟨c1,c2⟩:=hI.ok c (by simp)
 have hm:=mem_getD (d:=default) hk
 have htot:=hI.tot
 rw [totL_app,totL_one] at htot
 have hr:=trk_range h (k:=k+1) (by omega)
 rw [totL_take l k hk] at hr
 have hi0:=totL_nonneg i fun d hd=>(vClip_len (hI.ok d (by simp [hd])).1).1
 refine ⟨vTrack_mk (by simp) (fun d hd=>?_) (by simp only [totL];omega),fun d hd=>?_⟩
 ·simp only [List.mem_cons,List.not_mem_nil,or_false] at hd
  rcases hd with rfl | rfl
  ·exact c1
  ·exact h.ok k hk
 ·simp only [List.mem_cons,List.not_mem_nil,or_false] at hd
  rcases hd with rfl | rfl
  ·exact c2
  ·exact hf _ hm
theorem nrmI_end {l O:List ClipR} (hI:NrmI l l.length O):O=pk l:=by
 rcases Nat.eq_zero_or_pos l.length with h0 | h0
 ·have:l = []:=List.length_eq_zero_iff.1 h0
  subst this
  rw [hI.z rfl]
  rfl
 ·obtain ⟨i,c,e1,e2⟩:=hI.s h0
  rw [List.drop_length] at e2
  rw [e1, ← e2]
  rfl
set_option maxHeartbeats 1000000 in
theorem cENormal (l:List ClipR) (hv:Trk l) (hfit:∀ c∈l,c.fit):CPure Tryz.prog 60 [.t (tclips l)] (.t (tclips (nrmE l))):=by
 obtain ⟨h200,hi,htot⟩:=trk_parts hv
 refine cpure_of Tryz.xen60 Tryz.func60 rfl Tryz.ntmps60 (by rw [Tryz.results60]) (aw_ok _ ?_)
 simp only [go_sem,simprocAttr]
 refine awp_after [0] ?_
 refine awp_loop_f (fun (x:Nat×List ClipR) σ => { fr:=(σ.fr.set 3 (.own 0)).set 11 (vint x.1),h:=[(0,RowC x.2)],nx:=1 }) (fun x=>NrmI l x.1 x.2) (fun x=>l.length - x.1) (0,[]) (weak_of [(0,none)] ?_) (nrmI_zero l) ?_
 ·simp only [go_sem,simprocAttr]
 ·rintro ⟨k,O⟩ hI
  simp only at hI
  have hkl:=hI.kl
  have hOl:=hI.len
  refine aw_ok _ ?_
  simp only [go_sem,simprocAttr]
  refine ⟨fun hlt=>?_,fun hge=>?_⟩
  ·simp only [bxx] at hlt
   have hk:k<l.length:=by omega
   obtain ⟨q,hq⟩:∃ q,q=l.getD k default:=⟨_,rfl⟩
   have hch:q.chan.length≤65536:=by rw [hq];exact (mild_of (hfit _ (mem_getD hk)) (hi k hk)).chan
   have wk:IntKind.i64.wrap ((k:Int)+1)=((k+1:Nat):Int):=by rw [wrap1 (show k<9223372036854775807 by omega)];omega
   unfold awS
   simp only [go_sem,simprocAttr]
   rw [← hq]
   refine ⟨⟨by omega,by omega⟩,?_⟩
   refine brW (b:=decide (0<k)) ?_ ⟨fun hk0=>?_,fun hk0=>?_⟩
   ·rcases Nat.eq_zero_or_pos k with h0 | h0
    ·subst h0
     rw [hI.z rfl]
     rfl
    ·obtain ⟨i,c,e,_⟩:=hI.s h0
     rw [e,decide_eq_true h0,List.length_append,decide_eq_true]
     simp only [List.length_cons,List.length_nil]
     omega
   ·have hk0 : 0<k:=by simpa using hk0
    obtain ⟨i,c,e,_⟩:=hI.s hk0
    subst e
    have hil:i.length+1≤k:=by simpa using hOl
    obtain ⟨p1,p2⟩:=nrmI_two hv hfit hI hk
    rw [← hq] at p1 p2
    have hP:=cPack [c,q] p2
    rw [pack_two p1 p2] at hP
    have hL:(i ++ [c]).length=i.length+1:=by simp
    have w3:IntKind.i64.wrap (((i.length+1:Nat):Int) - 1)=(i.length:Int):=by rw [wrap64 (by omega) (by omega)];omega
    have hcc:contC c q=contC c q:=rfl
    cases hcc:contC c q with
    | true =>
     have hJ:=nrmI_join hv hfit hI hk (by rw [← hq];exact hcc)
     rw [← hq] at hJ
     rw [hcc,if_pos rfl] at hP
     obtain ⟨J,hJe⟩:∃ J,J = [{ c with len:=c.len+q.len }]:=⟨_,rfl⟩
     rw [← hJe] at hP
     have hJl:J.length=1:=by rw [hJe];rfl
     have hJ0:J.getD 0 default = { c with len:=c.len+q.len }:=by rw [hJe];rfl
     unfold awS
     simp only [go_sem,simprocAttr]
     refine drawP_of [6] 9 .done rfl (by kernel_rfl) (by kernel_rfl) (by decide) ?_
     simp only [go_sem,simprocAttr,hL,w3,getD_snoc]
     refine ⟨⟨by omega,by omega⟩,by omega,_,cpure_as (.cons (as_rows (show asRows [ClipR.c c,ClipR.c q] [ClipR.c c,ClipR.c q] from ⟨cells_refl _,cells_refl _,trivial⟩)) .nil) hP,?_⟩
     simp only [go_sem,simprocAttr,hJl,hJ0,hL,w3,getD_snoc,tset_len]
     refine ⟨by kernel_rfl,⟨by omega,by omega⟩,by omega,(k+1,_),weak_of [(0,some 0)] ?_,hJ,by simp only;omega⟩
     simp only [go_sem,simprocAttr,wk]
     simp
     rfl
    | false =>
     have hA:=nrmI_app hv hfit hI hk (fun i' c' e'=>by
      obtain ⟨_,e4⟩:=List.append_inj' e' rfl
      injection e4 with e4 _
      rw [← e4, ← hq]
      exact hcc)
     rw [← hq] at hA
     rw [hcc,if_neg (by decide)] at hP
     obtain ⟨J,hJe⟩:∃ J,J = [c,q]:=⟨_,rfl⟩
     have hP':CPure Tryz.prog 119 [.t (tclips [c,q])] (.t (tclips J)):=by rw [hJe];exact hP
     have hJl:J.length=2:=by rw [hJe];rfl
     unfold awS
     simp only [go_sem,simprocAttr]
     refine drawP_of [6] 9 .done rfl (by kernel_rfl) (by kernel_rfl) (by decide) ?_
     simp only [go_sem,simprocAttr,hL,w3,getD_snoc]
     refine ⟨⟨by omega,by omega⟩,by omega,_,cpure_as (.cons (as_rows (show asRows [ClipR.c c,ClipR.c q] [ClipR.c c,ClipR.c q] from ⟨cells_refl _,cells_refl _,trivial⟩)) .nil) hP',?_⟩
     simp only [go_sem,simprocAttr,hJl,hL,w3,getD_snoc]
     refine ⟨by kernel_rfl,?_⟩
     refine icall_pure (cClone q.chan hch) rfl ?_
     simp only [go_sem,simprocAttr,hL]
     refine ⟨⟨by unfold maxLen;omega,by omega⟩,(k+1,_),weak_of [(0,some 12)] ?_,hA,by simp only;omega⟩
     simp only [go_sem,simprocAttr,wk]
     simp
     rfl
   ·have hk0:k=0:=by simpa using hk0
    subst hk0
    have hO:=hI.z rfl
    subst hO
    have hA:=nrmI_app hv hfit hI hk (fun i c e=>absurd e (by simp))
    rw [← hq] at hA
    unfold awS
    simp only [go_sem,simprocAttr]
    refine icall_pure (cClone q.chan hch) rfl ?_
    simp only [go_sem,simprocAttr]
    refine ⟨by decide,(0+1,[] ++ [q]),weak_of [(0,some 3)] ?_,hA,by simp only;omega⟩
    simp only [go_sem,simprocAttr]
    exact ⟨⟨by simp,rfl⟩,by rw [show IntKind.i64.wrap 1=1 from by decide]⟩
  ·simp only [bxx] at hge
   have:k=l.length:=by omega
   subst this
   have hO:=nrmI_end hI
   have h64:O.length≤200:=by omega
   have e:nrmE l=cleanL O:=by unfold nrmE;rw [hO]
   rw [e]
   have w1:IntKind.i64.wrap ((O.length:Int) - 1)=(O.length:Int) - 1:=wrap64 (by omega) (by omega)
   have w2:((O.length:Int) - 1).toNat=O.length - 1:=by omega
   unfold awS
   simp only [go_sem,simprocAttr,w1,w2]
   refine ⟨fun h=>?_,?_⟩
   ·simp only [bxx] at h
    omega
   refine brW (b:=gapLast O) ?_ ⟨fun hb=>?_,fun hb=>?_⟩
   ·unfold gapLast
    have:decide ((O.length:Int) > 0)=decide (0<O.length):=by rw [Bool.eq_iff_iff];simp only [bxx];omega
    rw [this]
   ·have hb2:=hb
    unfold gapLast at hb2
    simp only [Bool.and_eq_true,decide_eq_true_eq] at hb2
    unfold awS
    simp only [go_sem,simprocAttr,w1,w2]
    refine ⟨⟨by omega,by omega⟩,?_⟩
    unfold cleanL
    rw [if_pos hb, ← List.map_take]
   ·unfold awS
    simp only [go_sem,simprocAttr]
    unfold cleanL
    rw [hb]
    rfl
open Go.RowKit
set_option maxRecDepth 4000
theorem totL_pos {C:List ClipR} (h:Trk C) (h0 : 0<C.length) : 1≤totL C:=by
 cases C with
 | nil=>simp at h0
 | cons c l =>
  have h1:∀ d∈c::l,1≤d.len:=fun d hd=>by
   have:=take_all (t:=c::l) (Nat.le_refl _) (fun i hi=>h.ok i hi) d (by rw [List.take_length];exact hd)
   exact this.1
  have h2:=h1 c (by simp)
  have h3:=totL_nonneg l fun d hd=>h1 d (by simp [hd])
  simp only [totL]
  omega
theorem cExch1 {N F:List ClipR} (h:CutOk 1000 N F) (hl:N.length≤60) (hF:F.length≤500) (a:Int) (ha : 0≤a) (ha1:a≤100) (C:List ClipR) (hC:Trk C) (hC0 : 0<C.length) (hCt:totL C≤400) :
  CPure Tryz.prog 58 [.t (tclips N),vedit 1 a 0 (tclips C)] (.tup [.t (tclips (exchL N a C (a+0))),vedit 2 a (totL C) (.lit (.slice none 0 0)),vint 0]):=by
 have hL : 1≤totL C:=by
  have h1:=totL_pos hC hC0
  omega
 have hL4:totL C≤400:=hCt
 obtain ⟨L,hLe⟩:∃ L,L=totL C:=⟨_,rfl⟩
 have hCn:decide ((C.length:Int) > 0)=true:=decide_eq_true (by omega)
 have cTC:=cETotal C hC
 rw [← hLe] at hL hL4 cTC ⊢
 have htt:=h.tot
 have hT:Trk N:=trk_mk (by omega) (track_all h.tr).2.1 (track_all h.tr).2.2
 have cTN:=cETotal N hT
 have cB:=cCut2 h (by omega) (by omega) 0 (min a (totL N)) (by omega) (by omega) (by omega) (by omega) (by omega) (by omega)
 have cR:=cCut2 h (by omega) (by omega) a (a+0) ha (by omega) (by omega) (by omega) (by omega) (by omega)
 have cA:=cRest h (by omega) (by omega) (a+0) (by omega) (by omega) (by omega) (by omega)
 have lB:(pk (cutT N 0 (min a (totL N)))).length≤61:=by
  have:=(cutOk_cut h (by omega) (a:=0) (n:=min a (totL N)) (by omega) (by omega) (by omega) (by omega)).2
  have:=pk_size (cutT N 0 (min a (totL N)))
  omega
 have lG:=gapL_len (a - totL N)
 have eX:exchL N a (C) (a+0)=pk (cutT N 0 (min a (totL N)))++gapL (a - totL N)++C++restT N (a+0):=rfl
 rw [eX]
 have er:a+0 - a=0:=by omega
 rw [Int.sub_zero] at cB
 rw [er] at cR
 have lR:(restT N (a+0)).length≤61:=by
  unfold restT
  split
  ·have:=(cutOk_cut h (by omega) (a:=a+0) (n:=totL N - (a+0)) (by omega) (by omega) (by omega) (by omega)).2
   have:=pk_size (cutT N (a+0) (totL N - (a+0)))
   omega
  ·simp
 generalize pk (cutT N 0 (min a (totL N)))=B at *
 generalize pk (cutT N a 0)=R at *
 generalize restT N (a+0)=A at *
 have cG:=cGap (a - totL N)
 generalize gapL (a - totL N)=G at *
 have w1:IntKind.i64.wrap (a+L)=a+L:=wrap64 (by omega) (by omega)
 have w2:IntKind.i64.wrap (a+0)=a+0:=wrap64 (by omega) (by omega)
 have w3:IntKind.i64.wrap (max a (totL N)+L)=max a (totL N)+L:=wrap64 (by omega) (by omega)
 have w4:IntKind.i64.wrap (a - totL N)=a - totL N:=wrap64 (by omega) (by omega)
 have d1:decide (a+L > 2147483647)=false:=decide_eq_false (by omega)
 have d2:decide (max a (totL N)+L > 2147483647)=false:=decide_eq_false (by omega)
 have lC:C.length≤200:=hC.len
 refine cpure_of Tryz.xen58 Tryz.func58 rfl Tryz.ntmps58 (by rw [Tryz.results58]) (aw_ok _ ?_)
 simp only [go_sem,simprocAttr,decide_true,decide_false,w1,w2,w3,w4,d1,d2,hCn]
 refine ⟨_,cTC,?_⟩
 simp only [go_sem,simprocAttr,decide_true,decide_false,w1,w2,w3,w4,d1,d2]
 refine drawR_of [0,1,2,3,4,5,6,7] .done rfl (by kernel_rfl) (by kernel_rfl) (by decide) ?_
 simp only [go_sem,simprocAttr,decide_true,decide_false,w1,w2,w3,w4,d1,d2]
 refine ⟨_,cTN,?_⟩
 simp only [go_sem,simprocAttr,decide_true,decide_false,w1,w2,w3,w4,d1,d2]
 refine drawR_of [0,1,2,3,4,5] (.step 6 (.step 7 (.alt (.step 8 (.alt (.step 9 (.step 10 (.step 11 .done))) (.step 10 (.step 9 (.step 11 .done))))) (.step 9 (.step 8 (.step 10 (.step 11 .done))))))) rfl (by kernel_rfl) (by kernel_rfl) (by decide) ?_
 generalize hK:thenQ _ _ Exit.normal=K
 simp only [go_sem,simprocAttr,decide_true,decide_false]
 refine ⟨_,cTN,?_⟩
 simp only [go_sem,simprocAttr,decide_true,decide_false]
 refine icall_pure cB rfl ?_
 simp only [go_sem,simprocAttr,decide_true,decide_false]
 subst hK
 simp only [go_sem,simprocAttr,decide_true,decide_false,w1,w2]
 refine icall_pure cR rfl ?_
 simp only [go_sem,simprocAttr,decide_true,decide_false,w1,w2]
 refine ⟨_,cA,?_⟩
 simp only [go_sem,simprocAttr,decide_true,decide_false]
 refine drawS_of 7 [.op 7, .op 8, .op 9] rfl (by kernel_rfl) (by kernel_rfl) (by decide) ?_
 simp only [go_sem,simprocAttr,decide_true,decide_false]
 refine ⟨_,cTN,?_⟩
 simp only [go_sem,simprocAttr,decide_true,decide_false,w4]
 refine ⟨_,cG,?_⟩
 simp only [go_sem,simprocAttr,decide_true,decide_false]
 refine ⟨by kernel_rfl,?_⟩
 refine lcall_gi Tryz.xen122 ?_
 simp only [go_sem,simprocAttr,decide_true,decide_false]
 refine icall_io (cConcatIO [.lit (.slice none 0 0)] B G (by omega) (by omega)) [] rfl (by omega) (by decide) ?_ rfl rfl rfl rfl ?_
 ·simp only [go_sem,simprocAttr,decide_true,decide_false]
 simp only [go_sem,simprocAttr,decide_true,decide_false,List.getElem?_nil]
 refine ⟨⟨.inr (by simp only [go_sem,simprocAttr,decide_true,decide_false]),by rw [List.length_append];unfold maxLen;omega,by rw [List.length_append];omega⟩,?_⟩
 refine drawC_of 7 .done rfl (by kernel_rfl) (by kernel_rfl) (by decide) ?_
 simp only [go_sem,simprocAttr,decide_true,decide_false]
 refine ⟨⟨by simp only [List.length_append,List.length_map];unfold maxLen;omega,by simp only [List.length_append,List.length_map];omega⟩,by kernel_rfl,?_⟩
 simp only [List.map_append,List.append_assoc,List.append_nil]
theorem cExch2 {N F:List ClipR} (h:CutOk 1000 N F) (hl:N.length≤60) (hF:F.length≤500) (a:Int) (ha : 0≤a) (ha1:a≤100) (L:Int) (hL : 1≤L) (hL4:L≤400) :
  CPure Tryz.prog 58 [.t (tclips N),vedit 2 a L (.lit (.slice none 0 0))] (.tup [.t (tclips (exchL N a [] (a+(L)))),vedit 1 a 0 (tclips (pk (cutT N a L))),vint 0]):=by
 have htt:=h.tot
 have hT:Trk N:=trk_mk (by omega) (track_all h.tr).2.1 (track_all h.tr).2.2
 have cTN:=cETotal N hT
 have cB:=cCut2 h (by omega) (by omega) 0 (min a (totL N)) (by omega) (by omega) (by omega) (by omega) (by omega) (by omega)
 have cR:=cCut2 h (by omega) (by omega) a (a+L) ha (by omega) (by omega) (by omega) (by omega) (by omega)
 have cA:=cRest h (by omega) (by omega) (a+L) (by omega) (by omega) (by omega) (by omega)
 have lB:(pk (cutT N 0 (min a (totL N)))).length≤61:=by
  have:=(cutOk_cut h (by omega) (a:=0) (n:=min a (totL N)) (by omega) (by omega) (by omega) (by omega)).2
  have:=pk_size (cutT N 0 (min a (totL N)))
  omega
 have lG:=gapL_len (a - totL N)
 have eX:exchL N a ([]) (a+L)=pk (cutT N 0 (min a (totL N)))++gapL (a - totL N) ++ []++restT N (a+L):=rfl
 rw [eX]
 have er:a+L - a=L:=by omega
 rw [Int.sub_zero] at cB
 rw [er] at cR
 have lR:(restT N (a+L)).length≤61:=by
  unfold restT
  split
  ·have:=(cutOk_cut h (by omega) (a:=a+L) (n:=totL N - (a+L)) (by omega) (by omega) (by omega) (by omega)).2
   have:=pk_size (cutT N (a+L) (totL N - (a+L)))
   omega
  ·simp
 generalize pk (cutT N 0 (min a (totL N)))=B at *
 generalize pk (cutT N a L)=R at *
 generalize restT N (a+L)=A at *
 have cG:=cGap (a - totL N)
 generalize gapL (a - totL N)=G at *
 have w1:IntKind.i64.wrap (a+L)=a+L:=wrap64 (by omega) (by omega)
 have w2:IntKind.i64.wrap (a+0)=a+0:=wrap64 (by omega) (by omega)
 have w3:IntKind.i64.wrap (max a (totL N)+L)=max a (totL N)+L:=wrap64 (by omega) (by omega)
 have w4:IntKind.i64.wrap (a - totL N)=a - totL N:=wrap64 (by omega) (by omega)
 have d1:decide (a+L > 2147483647)=false:=decide_eq_false (by omega)
 have d2:decide (max a (totL N)+L > 2147483647)=false:=decide_eq_false (by omega)
 refine cpure_of Tryz.xen58 Tryz.func58 rfl Tryz.ntmps58 (by rw [Tryz.results58]) (aw_ok _ ?_)
 simp only [go_sem,simprocAttr,decide_true,decide_false,w1,w2,w3,w4,d1,d2]
 refine drawR_of [0,1,2,3,4,5] (.step 6 (.step 7 (.alt (.step 8 (.alt (.step 9 (.step 10 (.step 11 .done))) (.step 10 (.step 9 (.step 11 .done))))) (.step 9 (.step 8 (.step 10 (.step 11 .done))))))) rfl (by kernel_rfl) (by kernel_rfl) (by decide) ?_
 generalize hK:thenQ _ _ Exit.normal=K
 simp only [go_sem,simprocAttr,decide_true,decide_false]
 refine ⟨_,cTN,?_⟩
 simp only [go_sem,simprocAttr,decide_true,decide_false]
 refine icall_pure cB rfl ?_
 simp only [go_sem,simprocAttr,decide_true,decide_false]
 subst hK
 simp only [go_sem,simprocAttr,decide_true,decide_false,w1,w2]
 refine icall_pure cR rfl ?_
 simp only [go_sem,simprocAttr,decide_true,decide_false,w1,w2]
 refine ⟨_,cA,?_⟩
 simp only [go_sem,simprocAttr,decide_true,decide_false]
 refine drawS_of 7 [.op 7, .op 8, .op 9] rfl (by kernel_rfl) (by kernel_rfl) (by decide) ?_
 simp only [go_sem,simprocAttr,decide_true,decide_false]
 refine ⟨_,cTN,?_⟩
 simp only [go_sem,simprocAttr,decide_true,decide_false,w4]
 refine ⟨_,cG,?_⟩
 simp only [go_sem,simprocAttr,decide_true,decide_false]
 refine ⟨by kernel_rfl,?_⟩
 refine lcall_gi Tryz.xen122 ?_
 simp only [go_sem,simprocAttr,decide_true,decide_false]
 refine icall_io (cConcatIO [.lit (.slice none 0 0)] B G (by omega) (by omega)) [] rfl (by omega) (by decide) ?_ rfl rfl rfl rfl ?_
 ·simp only [go_sem,simprocAttr,decide_true,decide_false]
 simp only [go_sem,simprocAttr,decide_true,decide_false,List.getElem?_nil]
 refine drawC_of 7 .done rfl (by kernel_rfl) (by kernel_rfl) (by decide) ?_
 simp only [go_sem,simprocAttr,decide_true,decide_false]
 refine ⟨⟨by simp only [List.length_append,List.length_map];unfold maxLen;omega,by simp only [List.length_append,List.length_map];omega⟩,by kernel_rfl,?_⟩
 simp only [List.map_append,List.append_assoc,List.append_nil]
theorem cExch3 {N F:List ClipR} (h:CutOk 1000 N F) (hl:N.length≤60) (hF:F.length≤500) (a:Int) (ha : 0≤a) (ha1:a≤100) (C:List ClipR) (hC:Trk C) (hC0 : 0<C.length) (hCt:totL C≤400) :
  CPure Tryz.prog 58 [.t (tclips N),vedit 3 a 0 (tclips C)] (.tup [.t (tclips (exchL N a C (a+(totL C)))),vedit 3 a 0 (tclips (pk (cutT N a (totL C)))),vint 0]):=by
 have hL : 1≤totL C:=by
  have h1:=totL_pos hC hC0
  omega
 have hL4:totL C≤400:=hCt
 obtain ⟨L,hLe⟩:∃ L,L=totL C:=⟨_,rfl⟩
 have hCn:decide ((C.length:Int) > 0)=true:=decide_eq_true (by omega)
 have cTC:=cETotal C hC
 rw [← hLe] at hL hL4 cTC ⊢
 have htt:=h.tot
 have hT:Trk N:=trk_mk (by omega) (track_all h.tr).2.1 (track_all h.tr).2.2
 have cTN:=cETotal N hT
 have cB:=cCut2 h (by omega) (by omega) 0 (min a (totL N)) (by omega) (by omega) (by omega) (by omega) (by omega) (by omega)
 have cR:=cCut2 h (by omega) (by omega) a (a+L) ha (by omega) (by omega) (by omega) (by omega) (by omega)
 have cA:=cRest h (by omega) (by omega) (a+L) (by omega) (by omega) (by omega) (by omega)
 have lB:(pk (cutT N 0 (min a (totL N)))).length≤61:=by
  have:=(cutOk_cut h (by omega) (a:=0) (n:=min a (totL N)) (by omega) (by omega) (by omega) (by omega)).2
  have:=pk_size (cutT N 0 (min a (totL N)))
  omega
 have lG:=gapL_len (a - totL N)
 have eX:exchL N a (C) (a+L)=pk (cutT N 0 (min a (totL N)))++gapL (a - totL N)++C++restT N (a+L):=rfl
 rw [eX]
 have er:a+L - a=L:=by omega
 rw [Int.sub_zero] at cB
 rw [er] at cR
 have lR:(restT N (a+L)).length≤61:=by
  unfold restT
  split
  ·have:=(cutOk_cut h (by omega) (a:=a+L) (n:=totL N - (a+L)) (by omega) (by omega) (by omega) (by omega)).2
   have:=pk_size (cutT N (a+L) (totL N - (a+L)))
   omega
  ·simp
 generalize pk (cutT N 0 (min a (totL N)))=B at *
 generalize pk (cutT N a L)=R at *
 generalize restT N (a+L)=A at *
 have cG:=cGap (a - totL N)
 generalize gapL (a - totL N)=G at *
 have w1:IntKind.i64.wrap (a+L)=a+L:=wrap64 (by omega) (by omega)
 have w2:IntKind.i64.wrap (a+0)=a+0:=wrap64 (by omega) (by omega)
 have w3:IntKind.i64.wrap (max a (totL N)+L)=max a (totL N)+L:=wrap64 (by omega) (by omega)
 have w4:IntKind.i64.wrap (a - totL N)=a - totL N:=wrap64 (by omega) (by omega)
 have d1:decide (a+L > 2147483647)=false:=decide_eq_false (by omega)
 have d2:decide (max a (totL N)+L > 2147483647)=false:=decide_eq_false (by omega)
 have lC:C.length≤200:=hC.len
 refine cpure_of Tryz.xen58 Tryz.func58 rfl Tryz.ntmps58 (by rw [Tryz.results58]) (aw_ok _ ?_)
 simp only [go_sem,simprocAttr,decide_true,decide_false,w1,w2,w3,w4,d1,d2,hCn]
 refine ⟨_,cTC,?_⟩
 simp only [go_sem,simprocAttr,decide_true,decide_false,w1,w2,w3,w4,d1,d2]
 refine drawR_of [0,1,2,3,4,5] (.step 6 (.step 7 (.alt (.step 8 (.alt (.step 9 (.step 10 (.step 11 .done))) (.step 10 (.step 9 (.step 11 .done))))) (.step 9 (.step 8 (.step 10 (.step 11 .done))))))) rfl (by kernel_rfl) (by kernel_rfl) (by decide) ?_
 generalize hK:thenQ _ _ Exit.normal=K
 simp only [go_sem,simprocAttr,decide_true,decide_false]
 refine ⟨_,cTN,?_⟩
 simp only [go_sem,simprocAttr,decide_true,decide_false]
 refine icall_pure cB rfl ?_
 simp only [go_sem,simprocAttr,decide_true,decide_false]
 subst hK
 simp only [go_sem,simprocAttr,decide_true,decide_false,w1,w2]
 refine icall_pure cR rfl ?_
 simp only [go_sem,simprocAttr,decide_true,decide_false,w1,w2]
 refine ⟨_,cA,?_⟩
 simp only [go_sem,simprocAttr,decide_true,decide_false]
 refine drawS_of 7 [.op 7, .op 8, .op 9] rfl (by kernel_rfl) (by kernel_rfl) (by decide) ?_
 simp only [go_sem,simprocAttr,decide_true,decide_false]
 refine ⟨_,cTN,?_⟩
 simp only [go_sem,simprocAttr,decide_true,decide_false,w4]
 refine ⟨_,cG,?_⟩
 simp only [go_sem,simprocAttr,decide_true,decide_false]
 refine ⟨by kernel_rfl,?_⟩
 refine lcall_gi Tryz.xen122 ?_
 simp only [go_sem,simprocAttr,decide_true,decide_false]
 refine icall_io (cConcatIO [.lit (.slice none 0 0)] B G (by omega) (by omega)) [] rfl (by omega) (by decide) ?_ rfl rfl rfl rfl ?_
 ·simp only [go_sem,simprocAttr,decide_true,decide_false]
 simp only [go_sem,simprocAttr,decide_true,decide_false,List.getElem?_nil]
 refine ⟨⟨.inr (by simp only [go_sem,simprocAttr,decide_true,decide_false]),by rw [List.length_append];unfold maxLen;omega,by rw [List.length_append];omega⟩,?_⟩
 refine drawC_of 7 .done rfl (by kernel_rfl) (by kernel_rfl) (by decide) ?_
 simp only [go_sem,simprocAttr,decide_true,decide_false]
 refine ⟨⟨by simp only [List.length_append,List.length_map];unfold maxLen;omega,by simp only [List.length_append,List.length_map];omega⟩,by kernel_rfl,?_⟩
 simp only [List.map_append,List.append_assoc,List.append_nil]
theorem cExch4 {N F:List ClipR} (h:CutOk 1000 N F) (hl:N.length≤60) (hF:F.length≤500) (a:Int) (ha : 0≤a) (ha1:a≤100) (L:Int) (hL : 1≤L) (hL4:L≤400) :
  CPure Tryz.prog 58 [.t (tclips N),vedit 4 a L (.lit (.slice none 0 0))] (.tup [.t (tclips (exchL N a (gapL L) (a+(L)))),vedit 3 a 0 (tclips (pk (cutT N a L))),vint 0]):=by
 have htt:=h.tot
 have hT:Trk N:=trk_mk (by omega) (track_all h.tr).2.1 (track_all h.tr).2.2
 have cTN:=cETotal N hT
 have cB:=cCut2 h (by omega) (by omega) 0 (min a (totL N)) (by omega) (by omega) (by omega) (by omega) (by omega) (by omega)
 have cR:=cCut2 h (by omega) (by omega) a (a+L) ha (by omega) (by omega) (by omega) (by omega) (by omega)
 have cA:=cRest h (by omega) (by omega) (a+L) (by omega) (by omega) (by omega) (by omega)
 have lB:(pk (cutT N 0 (min a (totL N)))).length≤61:=by
  have:=(cutOk_cut h (by omega) (a:=0) (n:=min a (totL N)) (by omega) (by omega) (by omega) (by omega)).2
  have:=pk_size (cutT N 0 (min a (totL N)))
  omega
 have lG:=gapL_len (a - totL N)
 have eX:exchL N a (gapL L) (a+L)=pk (cutT N 0 (min a (totL N)))++gapL (a - totL N)++gapL L++restT N (a+L):=rfl
 rw [eX]
 have er:a+L - a=L:=by omega
 rw [Int.sub_zero] at cB
 rw [er] at cR
 have lR:(restT N (a+L)).length≤61:=by
  unfold restT
  split
  ·have:=(cutOk_cut h (by omega) (a:=a+L) (n:=totL N - (a+L)) (by omega) (by omega) (by omega) (by omega)).2
   have:=pk_size (cutT N (a+L) (totL N - (a+L)))
   omega
  ·simp
 generalize pk (cutT N 0 (min a (totL N)))=B at *
 generalize pk (cutT N a L)=R at *
 generalize restT N (a+L)=A at *
 have cG:=cGap (a - totL N)
 generalize gapL (a - totL N)=G at *
 have w1:IntKind.i64.wrap (a+L)=a+L:=wrap64 (by omega) (by omega)
 have w2:IntKind.i64.wrap (a+0)=a+0:=wrap64 (by omega) (by omega)
 have w3:IntKind.i64.wrap (max a (totL N)+L)=max a (totL N)+L:=wrap64 (by omega) (by omega)
 have w4:IntKind.i64.wrap (a - totL N)=a - totL N:=wrap64 (by omega) (by omega)
 have d1:decide (a+L > 2147483647)=false:=decide_eq_false (by omega)
 have d2:decide (max a (totL N)+L > 2147483647)=false:=decide_eq_false (by omega)
 have lG2:=gapL_len L
 have cG2:=cGap L
 generalize gapL L=G2 at *
 refine cpure_of Tryz.xen58 Tryz.func58 rfl Tryz.ntmps58 (by rw [Tryz.results58]) (aw_ok _ ?_)
 simp only [go_sem,simprocAttr,decide_true,decide_false,w1,w2,w3,w4,d1,d2]
 refine drawR_of [0,1,2,3,4,5] (.step 6 (.step 7 (.alt (.step 8 (.alt (.step 9 (.step 10 (.step 11 .done))) (.step 10 (.step 9 (.step 11 .done))))) (.step 9 (.step 8 (.step 10 (.step 11 .done))))))) rfl (by kernel_rfl) (by kernel_rfl) (by decide) ?_
 generalize hK:thenQ _ _ Exit.normal=K
 simp only [go_sem,simprocAttr,decide_true,decide_false]
 refine ⟨_,cTN,?_⟩
 simp only [go_sem,simprocAttr,decide_true,decide_false]
 refine icall_pure cB rfl ?_
 simp only [go_sem,simprocAttr,decide_true,decide_false]
 subst hK
 simp only [go_sem,simprocAttr,decide_true,decide_false,w1,w2]
 refine icall_pure cR rfl ?_
 simp only [go_sem,simprocAttr,decide_true,decide_false,w1,w2]
 refine ⟨_,cA,?_⟩
 simp only [go_sem,simprocAttr,decide_true,decide_false]
 refine drawS_of 7 [.op 7, .op 8, .op 9] rfl (by kernel_rfl) (by kernel_rfl) (by decide) ?_
 simp only [go_sem,simprocAttr,decide_true,decide_false]
 refine ⟨_,cTN,?_⟩
 simp only [go_sem,simprocAttr,decide_true,decide_false,w4]
 refine ⟨_,cG,?_⟩
 simp only [go_sem,simprocAttr,decide_true,decide_false]
 refine ⟨by kernel_rfl,?_⟩
 refine lcall_gi Tryz.xen122 ?_
 simp only [go_sem,simprocAttr,decide_true,decide_false]
 refine icall_io (cConcatIO [.lit (.slice none 0 0)] B G (by omega) (by omega)) [] rfl (by omega) (by decide) ?_ rfl rfl rfl rfl ?_
 ·simp only [go_sem,simprocAttr,decide_true,decide_false]
 simp only [go_sem,simprocAttr,decide_true,decide_false,List.getElem?_nil]
 refine ⟨_,cG2,?_⟩
 simp only [go_sem,simprocAttr,decide_true,decide_false]
 refine ⟨⟨.inr (by simp only [go_sem,simprocAttr,decide_true,decide_false]),by rw [List.length_append];unfold maxLen;omega,by rw [List.length_append];omega⟩,?_⟩
 refine drawC_of 7 .done rfl (by kernel_rfl) (by kernel_rfl) (by decide) ?_
 simp only [go_sem,simprocAttr,decide_true,decide_false]
 refine ⟨⟨by simp only [List.length_append,List.length_map];unfold maxLen;omega,by simp only [List.length_append,List.length_map];omega⟩,by kernel_rfl,?_⟩
 simp only [List.map_append,List.append_assoc,List.append_nil]
open Go.RowKit
set_option maxRecDepth 4000
theorem nopApply:NopD Tryz.prog 54:=by
 refine ⟨Tryz.xen54,fun cap w=>callsDIn_of_wpSIn Tryz.func54 rfl trivial fun c₀ cs hu=>?_⟩
 have k1 : 3<cap.size+(6 - cap.size):=by omega
 have k2 : 4<cap.size+(6 - cap.size):=by omega
 have k3 : 3<max 6 cap.size:=by omega
 have k4 : 4<max 6 cap.size:=by omega
 apply wpSIn_seq
 apply wpSIn_region
 simp [wpOpsSIn,Fence.wide,go_sem,recoverD,hu,Tryz.ntmps54,Exit.thenS,k1,k2,k3,k4]
 refine wpSIn_cond (t:=false) (by simp [Act.eval,k2,k4]) ?_
 refine wpSIn_of_wpIn rfl (wpIn_skip ?_)
 refine ⟨rfl, .returning,by rw [← hu], .tuple #[],?_,⟨_,rfl⟩,rfl,rfl⟩
 simp [results,Tryz.results54,go_sem]
theorem cApply1 {t N F:List ClipR} (hvt:vTrack t=true) (htf:∀ c∈t,c.fit) (hN:normT t=N) (h:CutOk 1000 N F) (hl:N.length≤60) (hF:F.length≤500) (a:Int) (ha : 0≤a) (ha1:a≤100) (C:List ClipR) (hC:Trk C) (hv:vTrack C=true) (hCf:∀ c∈C,c.fit) (hC0 : 0<C.length) (hCt:totL C≤400)
  (hX:Trk (exchL N a C (a+0))) (hXf:∀ c∈exchL N a C (a+0),c.fit) (h64:(nrmE (exchL N a C (a+0))).length≤64) :
  CPure Tryz.prog 17 [.t (tclips t),vedit 1 a 0 (tclips C)] (.tup [.t (tclips (nrmE (exchL N a C (a+0)))),vedit 2 a (totL C) (.lit (.slice none 0 0)),vint 0]):=by
 have c1:=cPTrack t htf
 have c2:=cEdValid13 1 a C (by decide) hCf (by omega) (by omega) hC0 hv
 have c3:=cNormal t htf
 have c4:=cExch1 h (by omega) (by omega) a ha ha1 C hC hC0 hCt
 have c5:=cENormal _ hX hXf
 rw [hvt] at c1
 rw [hN] at c3
 generalize exchL N a C (a+0)=X at *
 generalize nrmE X=Y at *
 have d1:decide ((Y.length:Int) > 64)=false:=decide_eq_false (by omega)
 refine cpure_of Tryz.xen17 Tryz.func17 rfl Tryz.ntmps17 (by rw [Tryz.results17]) (aw_ok _ ?_)
 simp only [go_sem,simprocAttr,decide_true,decide_false]
 refine ⟨_,c1,?_⟩
 simp only [go_sem,simprocAttr,decide_true,decide_false]
 refine ⟨_,c2,?_⟩
 simp only [go_sem,simprocAttr,decide_true,decide_false]
 refine ⟨_,c3,?_⟩
 simp only [go_sem,simprocAttr,decide_true,decide_false]
 refine ⟨_,c4,?_⟩
 simp only [go_sem,simprocAttr,decide_true,decide_false]
 refine ⟨_,c5,?_⟩
 simp only [go_sem,simprocAttr,decide_true,decide_false,d1]
 refine drawC_of 5 .done rfl (by kernel_rfl) (by kernel_rfl) (by decide) ?_
 simp only [go_sem,simprocAttr,decide_true,decide_false]
 exact ⟨by kernel_rfl,nopApply⟩
theorem cApply2 {t N F:List ClipR} (hvt:vTrack t=true) (htf:∀ c∈t,c.fit) (hN:normT t=N) (h:CutOk 1000 N F) (hl:N.length≤60) (hF:F.length≤500) (a:Int) (ha : 0≤a) (ha1:a≤100) (L:Int) (hL : 1≤L) (hL4:L≤400)
  (hX:Trk (exchL N a [] (a+(L)))) (hXf:∀ c∈exchL N a [] (a+(L)),c.fit) (h64:(nrmE (exchL N a [] (a+(L)))).length≤64) :
  CPure Tryz.prog 17 [.t (tclips t),vedit 2 a L (.lit (.slice none 0 0))] (.tup [.t (tclips (nrmE (exchL N a [] (a+(L))))),vedit 1 a 0 (tclips (pk (cutT N a L))),vint 0]):=by
 have c1:=cPTrack t htf
 have c2:=cEdValid24 2 a L (by decide) (by omega) (by omega) (by omega) (by omega)
 have c3:=cNormal t htf
 have c4:=cExch2 h (by omega) (by omega) a ha ha1 L hL hL4
 have c5:=cENormal _ hX hXf
 rw [hvt] at c1
 rw [hN] at c3
 generalize exchL N a [] (a+(L))=X at *
 generalize nrmE X=Y at *
 have d1:decide ((Y.length:Int) > 64)=false:=decide_eq_false (by omega)
 refine cpure_of Tryz.xen17 Tryz.func17 rfl Tryz.ntmps17 (by rw [Tryz.results17]) (aw_ok _ ?_)
 simp only [go_sem,simprocAttr,decide_true,decide_false]
 refine ⟨_,c1,?_⟩
 simp only [go_sem,simprocAttr,decide_true,decide_false]
 refine ⟨_,c2,?_⟩
 simp only [go_sem,simprocAttr,decide_true,decide_false]
 refine ⟨_,c3,?_⟩
 simp only [go_sem,simprocAttr,decide_true,decide_false]
 refine ⟨_,c4,?_⟩
 simp only [go_sem,simprocAttr,decide_true,decide_false]
 refine ⟨_,c5,?_⟩
 simp only [go_sem,simprocAttr,decide_true,decide_false,d1]
 refine drawC_of 5 .done rfl (by kernel_rfl) (by kernel_rfl) (by decide) ?_
 simp only [go_sem,simprocAttr,decide_true,decide_false]
 exact ⟨by kernel_rfl,nopApply⟩
theorem cApply3 {t N F:List ClipR} (hvt:vTrack t=true) (htf:∀ c∈t,c.fit) (hN:normT t=N) (h:CutOk 1000 N F) (hl:N.length≤60) (hF:F.length≤500) (a:Int) (ha : 0≤a) (ha1:a≤100) (C:List ClipR) (hC:Trk C) (hv:vTrack C=true) (hCf:∀ c∈C,c.fit) (hC0 : 0<C.length) (hCt:totL C≤400)
  (hX:Trk (exchL N a C (a+(totL C)))) (hXf:∀ c∈exchL N a C (a+(totL C)),c.fit) (h64:(nrmE (exchL N a C (a+(totL C)))).length≤64) :
  CPure Tryz.prog 17 [.t (tclips t),vedit 3 a 0 (tclips C)] (.tup [.t (tclips (nrmE (exchL N a C (a+(totL C))))),vedit 3 a 0 (tclips (pk (cutT N a (totL C)))),vint 0]):=by
 have c1:=cPTrack t htf
 have c2:=cEdValid13 3 a C (by decide) hCf (by omega) (by omega) hC0 hv
 have c3:=cNormal t htf
 have c4:=cExch3 h (by omega) (by omega) a ha ha1 C hC hC0 hCt
 have c5:=cENormal _ hX hXf
 rw [hvt] at c1
 rw [hN] at c3
 generalize exchL N a C (a+(totL C))=X at *
 generalize nrmE X=Y at *
 have d1:decide ((Y.length:Int) > 64)=false:=decide_eq_false (by omega)
 refine cpure_of Tryz.xen17 Tryz.func17 rfl Tryz.ntmps17 (by rw [Tryz.results17]) (aw_ok _ ?_)
 simp only [go_sem,simprocAttr,decide_true,decide_false]
 refine ⟨_,c1,?_⟩
 simp only [go_sem,simprocAttr,decide_true,decide_false]
 refine ⟨_,c2,?_⟩
 simp only [go_sem,simprocAttr,decide_true,decide_false]
 refine ⟨_,c3,?_⟩
 simp only [go_sem,simprocAttr,decide_true,decide_false]
 refine ⟨_,c4,?_⟩
 simp only [go_sem,simprocAttr,decide_true,decide_false]
 refine ⟨_,c5,?_⟩
 simp only [go_sem,simprocAttr,decide_true,decide_false,d1]
 refine drawC_of 5 .done rfl (by kernel_rfl) (by kernel_rfl) (by decide) ?_
 simp only [go_sem,simprocAttr,decide_true,decide_false]
 exact ⟨by kernel_rfl,nopApply⟩
theorem cApply4 {t N F:List ClipR} (hvt:vTrack t=true) (htf:∀ c∈t,c.fit) (hN:normT t=N) (h:CutOk 1000 N F) (hl:N.length≤60) (hF:F.length≤500) (a:Int) (ha : 0≤a) (ha1:a≤100) (L:Int) (hL : 1≤L) (hL4:L≤400)
  (hX:Trk (exchL N a (gapL L) (a+(L)))) (hXf:∀ c∈exchL N a (gapL L) (a+(L)),c.fit) (h64:(nrmE (exchL N a (gapL L) (a+(L)))).length≤64) :
  CPure Tryz.prog 17 [.t (tclips t),vedit 4 a L (.lit (.slice none 0 0))] (.tup [.t (tclips (nrmE (exchL N a (gapL L) (a+(L))))),vedit 3 a 0 (tclips (pk (cutT N a L))),vint 0]):=by
 have c1:=cPTrack t htf
 have c2:=cEdValid24 4 a L (by decide) (by omega) (by omega) (by omega) (by omega)
 have c3:=cNormal t htf
 have c4:=cExch4 h (by omega) (by omega) a ha ha1 L hL hL4
 have c5:=cENormal _ hX hXf
 rw [hvt] at c1
 rw [hN] at c3
 generalize exchL N a (gapL L) (a+(L))=X at *
 generalize nrmE X=Y at *
 have d1:decide ((Y.length:Int) > 64)=false:=decide_eq_false (by omega)
 refine cpure_of Tryz.xen17 Tryz.func17 rfl Tryz.ntmps17 (by rw [Tryz.results17]) (aw_ok _ ?_)
 simp only [go_sem,simprocAttr,decide_true,decide_false]
 refine ⟨_,c1,?_⟩
 simp only [go_sem,simprocAttr,decide_true,decide_false]
 refine ⟨_,c2,?_⟩
 simp only [go_sem,simprocAttr,decide_true,decide_false]
 refine ⟨_,c3,?_⟩
 simp only [go_sem,simprocAttr,decide_true,decide_false]
 refine ⟨_,c4,?_⟩
 simp only [go_sem,simprocAttr,decide_true,decide_false]
 refine ⟨_,c5,?_⟩
 simp only [go_sem,simprocAttr,decide_true,decide_false,d1]
 refine drawC_of 5 .done rfl (by kernel_rfl) (by kernel_rfl) (by decide) ?_
 simp only [go_sem,simprocAttr,decide_true,decide_false]
 exact ⟨by kernel_rfl,nopApply⟩
open Go.RowKit
set_option maxRecDepth 4000
theorem madeT_norm (L:List Int):normT (madeT L)=madeT L:=by
 obtain ⟨n1,n2⟩:=trkAt_facts L (madeK L) 3 2 5 (by omega) (by omega) (by omega) (by omega)
 exact norm_idem (vTrack_nice n1 (by omega)) (fun c hc=>(n1 c hc).fit)
theorem madeAt_le (L:List Int):madeAt L≤2000:=by
 have a1:=trkAt_step L 3 3 0 4 (by omega) (by omega) (by omega) (by omega)
 have a2:=trkAt_step L (trkAt L 3 3 0 4).2 3 0 2 (by omega) (by omega) (by omega) (by omega)
 have a3:=trkAt_step L (trkAt L (trkAt L 3 3 0 4).2 3 0 2).2 3 1 4 (by omega) (by omega) (by omega) (by omega)
 have a4:=trkAt_step L (trkAt L (trkAt L (trkAt L 3 3 0 4).2 3 0 2).2 3 1 4).2 3 1 2 (by omega) (by omega) (by omega) (by omega)
 have a5:=trkAt_step L (madeK L) 3 2 5 (by omega) (by omega) (by omega) (by omega)
 have e:madeK L=(trkAt L (trkAt L (trkAt L (trkAt L 3 3 0 4).2 3 0 2).2 3 1 4).2 3 1 2).2:=rfl
 have e2:madeAt L=(trkAt L (madeK L) 3 2 5).2:=rfl
 omega
def newK (L:List Int):Nat:=(trkAt L (madeAt L) 3 2 2).2
def newC (L:List Int):List ClipR:=(trkAt L (madeAt L) 3 2 2).1 ++ [(clipAt L (newK L) 3 2).1]
theorem newK_le (L:List Int):newK L≤2200:=by
 have a1:=trkAt_step L (madeAt L) 3 2 2 (by omega) (by omega) (by omega) (by omega)
 have a2:=madeAt_le L
 unfold newK
 omega
theorem new_nice (L:List Int):∀ c∈newC L,Nice c∧c.fit∧VidOk 3 2 c:=by
 intro c hc
 unfold newC at hc
 rcases List.mem_append.1 hc with hc | hc
 ·obtain ⟨n1,_⟩:=trkAt_facts L (madeAt L) 3 2 2 (by omega) (by omega) (by omega) (by omega)
  exact ⟨n1 c hc,((trk_vid L (madeAt L) 2 2 (by omega) (by omega) (by omega)).2 c hc)⟩
 ·rw [List.mem_singleton.1 hc]
  have h:=clipAt_nice L (newK L) 3 2 (by omega) (by omega)
  exact ⟨h,h.fit,clipAt_vid L (newK L) 3 2 (by omega) (by omega)⟩
theorem new_len (L:List Int) : 1≤(newC L).length∧(newC L).length≤5:=by
 have h:=(trkGo_facts L 3 2 (by omega) (by omega) (tapeN L (madeAt L) 3).toNat (madeAt L+1)).2
 have h3:=tapeN_lt (L:=L) (k:=madeAt L) (n:=3) (by omega)
 have e:(trkAt L (madeAt L) 3 2 2).1=(trkGo L 3 2 (tapeN L (madeAt L) 3).toNat (madeAt L+1)).1:=rfl
 unfold newC
 rw [List.length_append,e]
 simp only [List.length_cons,List.length_nil]
 omega
structure NewC (p:ProjR) (C:List ClipR):Prop where
 l0 : 0<C.length
 l5:C.length≤5
 ok:vTrack C=true
 fit:∀ c∈C,c.fit
 gd:∀ c∈C,Gd 600 c∧CliP p c
 trk:TrkP p C
 tot:totL C≤45∧1≤totL C
 fl:((fr C).length:Int)=totL C
theorem newC_ok (L:List Int):NewC (madeP L) (newC L):=by
 obtain ⟨l1,l5⟩:=new_len L
 have hn:=new_nice L
 have hv:vTrack (newC L)=true:=vTrack_nice (fun c hc=>(hn c hc).1) (by omega)
 have ht:=totL_nine (newC L) fun c hc=>(hn c hc).1.l9
 have hT:TrkP (madeP L) (newC L):=trkP_of (s:=2) rfl (fun i hi=>made_name L i (by omega)) hv (fun c hc=>(hn c hc).2)
 have hlen:∀ c∈newC L,1≤c.len:=fun c hc=>(vClip_len (hn c hc).1.ok).1
 refine ⟨by omega,l5,hv,fun c hc=>(hn c hc).2.1,fun c hc=>⟨gd_le (gd_nice (hn c hc).1) (by omega),trkP_cl hT c hc⟩,hT,⟨by omega,?_⟩,fr_len hlen⟩
 exact totL_pos (trk_mk (by omega) (track_all hv).2.1 (track_all hv).2.2) (by omega)
structure EdOk (p:ProjR) (X:List ClipR):Prop where
 trk:Trk X
 fit:∀ c∈X,c.fit
 l64:(nrmE X).length≤64
theorem edOk {p:ProjR} {N F:List ClipR} (h:CutOk 1000 N F) (hN:TrkP p N) (hl:N.length≤18) (hF:F.length≤200) {C:List ClipR} (hC:∀ c∈C,Gd 600 c∧CliP p c) (hCl:C.length≤16) (hCt:(fr C).length≤200)
  {a r:Int} (ha : 0≤a) (ha2:a≤100) (hr : 0≤r) (hr2:r≤400):EdOk p (exchL N a C r):=by
 obtain ⟨h1,h2⟩:=exch_parts h hN hl hF hC hCl hCt ha ha2 hr hr2
 have ht:=h1.totL
 have hl60:=h1.len
 obtain ⟨_,k2,_⟩:=nrm_trk h1
 exact ⟨trk_mk (by omega) (fun c hc=>(h1.gd c hc).ok) (by omega),fun c hc=>(h1.gd c hc).fit,by omega⟩
theorem gap_new (p:ProjR) {n:Int} (h1 : 1≤n) (h2:n≤100):(∀ c∈gapL n,Gd 600 c∧CliP p c)∧(gapL n).length≤16∧(fr (gapL n)).length=n.toNat:=by
 refine ⟨fun c hc=>?_,by have:=gapL_len n;omega,by rw [fr_gapL];simp⟩
 obtain ⟨_,rfl⟩:=mem_gapL hc
 exact ⟨gd_gap _ _ h1 (by omega),cliP_gap p n⟩
end Go.Proofs.YtinobebofhbnnaaGreat
